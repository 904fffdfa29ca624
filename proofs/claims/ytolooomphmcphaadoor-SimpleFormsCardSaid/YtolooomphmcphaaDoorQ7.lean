/- lfcheckref07.Eta. -/
import Derived.Deep.DeepCutAuto
import Derived.Test.YtolooomphmcphaaDoorL3
namespace Go.Proofs.YtolooomphmcphaaDoor
open Go.RowKit

set_option maxRecDepth 100000 in
set_option maxHeartbeats 4000000 in
theorem qEta_calls (h : Tm) (s : Sm) (A A2 : Option Addr) (c c2 : Nat) (w : World) (S S2 : Nat → Prop) (h2 : tsize h < 40000000) (hs2 : ssize s < 40000000) (hix : ixT 1000000000000 h) (hr : Rd tmK w S A h.args) (hr2 : Rd smK w S2 A2 s.args) :
    GivP Tryd.prog 25 #[tmV h A c, smV s A2 c2] w (fun _ => False) (etaT h s) (.int .i64 (etaE h s)) := by
  have hr0 := hr.bound
  have hr20 := hr2.bound
  clear hr hr2
  have B3 := bl_alloc (bl_alloc (bl_new w (.cells (tmB h A c) 30)) (.cells (smB s A2 c2) 26)) (.cells #[.int .i64 0, .string ⟨#[]⟩, .int .i64 0, .slice none 0 0] 30)
  have q0 := bk_alloc (bk_alloc (bk_new w (.cells (tmB h A c) 30)) (.cells (smB s A2 c2) 26)) (.cells #[.int .i64 0, .string ⟨#[]⟩, .int .i64 0, .slice none 0 0] 30)
  have q1 := bk_alloc (bk_at (w := w.alloc (.cells (tmB h A c) 30)) (n := w.heap.size + 1) (by simp) (.cells (smB s A2 c2) 26)) (.cells #[.int .i64 0, .string ⟨#[]⟩, .int .i64 0, .slice none 0 0] 30)
  have q2 := bk_at (w := (w.alloc (.cells (tmB h A c) 30)).alloc (.cells (smB s A2 c2) 26)) (n := w.heap.size + 1 + 1) (by simp) (.cells #[.int .i64 0, .string ⟨#[]⟩, .int .i64 0, .slice none 0 0] 30)
  have hsz : w.heap.size + 3 ≤ (((w.alloc (.cells (tmB h A c) 30)).alloc (.cells (smB s A2 c2) 26)).alloc (.cells #[.int .i64 0, .string ⟨#[]⟩, .int .i64 0, .slice none 0 0] 30)).heap.size := by simp
  have HW := Lib.hid (refWellFormed_calls h A c _ _ (by omega) (hr0.below B3))
  have HT : Hid (etaE h s ≠ 0 → etaT h s = zeroT) := Lib.hid fun h => by rw [etaT, if_neg h]
  have hxs : tsize (expandT h s) < 1000000000 := by have := expandT_size h s; have := xsz_le s; have := tsize_eq h; omega
  by_cases h0 : wfE h = 0
  · have H0 := Lib.hid h0
    by_cases hs0 : swfE s = 0
    · have Hs0 := Lib.hid hs0
      have hss : ssize s ≤ 100000 := by
        unfold swfE at hs0
        split at hs0
        · cases hs0
        · split at hs0
          · cases hs0
          · omega
      cases hh : headB h
      · have He : Hid (etaE h s = 32) := Lib.hid (by rw [etaE, if_pos h0, if_pos hs0, if_neg (by rw [hh]; simp)])
        have Ht : Hid (etaT h s = zeroT) := Lib.hid (HT.out (by rw [He.out]; omega))
        have k4 : (h.kind != 4) = true := by simp [headB] at hh; simpa using hh.1.1
        have k5 : (h.kind != 5) = true := by simp [headB] at hh; simpa using hh.1.2
        have k6 : (h.kind != 6) = true := by simp [headB] at hh; simpa using hh.2
        clear hh h0 hs0
        go_enter Tryd.func25, Tryd.ntmps25
        go_wp2_with fail
        refine HW.out.use fun w1 hb1 => ?_
        rw [H0.out]
        replace q0 := bk_below q0 hb1; replace q1 := bk_below q1 hb1; replace q2 := bk_below q2 hb1; replace B3 := bl_self B3 hb1; replace hsz := Nat.le_trans hsz hb1.size; clear hb1
        obtain ⟨c0, c1, c2', c3⟩ := bx4 q0
        obtain ⟨d0, d1⟩ := bx2 q1
        go_wp2_with fail
        refine (qWellFormed_calls s A2 c2 _ _ (by omega) (hr20.below B3)).use fun w2 hb2 => ?_
        clear c0 c1 c2' c3 d0 d1
        replace q0 := bk_below q0 hb2; replace q1 := bk_below q1 hb2; replace q2 := bk_below q2 hb2; replace B3 := bl_self B3 hb2; replace hsz := Nat.le_trans hsz hb2.size; clear hb2
        rw [Hs0.out]
        obtain ⟨c0, c1, c2', c3⟩ := bx4 q0
        obtain ⟨d0, d1⟩ := bx2 q1
        obtain ⟨a0, a1, a2, a3⟩ := bx4 q2
        have z0 := bk_free q2 0
        have z1 := bk_free q2 1
        have z2 := bk_free q2 2
        have z3 := bk_free q2 3
        go_wp2_with fail
        exact bodyPost_ret (res_pair rfl rfl rfl (set4_self q2)) rfl ⟨none, 0, by rw [He.out, Ht.out]; rfl, by rw [Ht.out]; exact Nat.le_refl _, by rw [Ht.out]; exact Rd.nil _ _ _ _, bl_set4 B3 (by omega)⟩
      · have HR := Lib.hid (eta_ref h s h0 hs0 hh hss)
        obtain ⟨x, Hx⟩ : ∃ x, Hid (expandT (mv s.args.length 0 h) s = x) := ⟨_, Lib.hid rfl⟩
        have hxx : tsize x < 1000000000 := by rw [← Hx.out, mvx_size]; exact hxs
        have hz2 := xsz_le s
        have hz3 := lsz_le s
        have hc : (h.kind != 4) = false ∨ ((h.kind != 4) = true ∧ (h.kind != 5) = false) ∨ ((h.kind != 4) = true ∧ (h.kind != 5) = true ∧ (h.kind != 6) = false) := by
          simp only [headB, bne] at hh ⊢
          revert hh
          cases (h.kind == 4) <;> cases (h.kind == 5) <;> cases (h.kind == 6) <;> simp
        have hw1 : IntKind.i64.wrap ((tsize h : Int) - 1) = (tsize h : Int) - 1 := IntWalk.i64_in _ ⟨by omega, by omega⟩
        have hw2 : IntKind.i64.wrap ((tsize h : Int) - 1 + lsz s) = (tsize h : Int) - 1 + lsz s := IntWalk.i64_in _ ⟨by omega, by omega⟩
        have hpos := tsize_pos h
        clear h0 hs0 hh
        go_enter Tryd.func25, Tryd.ntmps25
        go_upto_region 7 with (first | (go_at_call 42; refine HW.out.use fun w1 hb1 => ?_; rw [H0.out]; replace q0 := bk_below q0 hb1; replace q1 := bk_below q1 hb1; replace q2 := bk_below q2 hb1; replace B3 := bl_self B3 hb1; replace hsz := Nat.le_trans hsz hb1.size; clear hb1; obtain ⟨c0, c1, c2', c3⟩ := bx4 q0; obtain ⟨d0, d1⟩ := bx2 q1) | (go_at_call 14; refine (qWellFormed_calls s A2 c2 _ _ (by omega) (hr20.below B3)).use fun w2 hb2 => ?_; clear c0 c1 c2' c3 d0 d1; replace q0 := bk_below q0 hb2; replace q1 := bk_below q1 hb2; replace q2 := bk_below q2 hb2; replace B3 := bl_self B3 hb2; replace hsz := Nat.le_trans hsz hb2.size; clear hb2; rw [Hs0.out]; obtain ⟨c0, c1, c2', c3⟩ := bx4 q0; obtain ⟨d0, d1⟩ := bx2 q1))
        go_cut [33] (fun s33 wc => s33 = .bool false ∧ wc = w2)
        case first =>
          rcases hc with k4 | ⟨k4, k5⟩ | ⟨k4, k5, k6⟩
          all_goals
            go_wp2_with fail
            go_meet
            exact ⟨rfl, rfl⟩
        case rest =>
        obtain ⟨rfl, rfl⟩ := hcut
        clear hc
        have HS : ∀ w' : World, w'.heap[w.heap.size]? = some (.cells (tmB h A c) 30 (0, 0)) → w'.heap[w.heap.size + 1]? = some (.cells (smB s A2 c2) 26 (0, 0)) →
            (w'.cell? ⟨w.heap.size, 0, none⟩ = some (.int .i64 h.kind) ∧ w'.cell? ⟨w.heap.size, 1, none⟩ = some (.string h.name) ∧ w'.cell? ⟨w.heap.size, 2, none⟩ = some (.int .i64 h.idx) ∧ w'.cell? ⟨w.heap.size, 3, none⟩ = some (.slice A h.args.length c)) ∧ w'.cell? ⟨w.heap.size + 1, 0, none⟩ = some (.string s.fam) ∧ w'.cell? ⟨w.heap.size + 1, 1, none⟩ = some (.slice A2 s.args.length c2) := fun w' h1 h2 => ⟨bx4 h1, bx2 h2⟩
        replace HS := Lib.hid HS
        go_wp2_with fail
        refine wp_region_mixedN (fun w' => (w'.cell? ⟨w.heap.size, 0, none⟩ = some (.int .i64 h.kind) ∧ w'.cell? ⟨w.heap.size, 1, none⟩ = some (.string h.name) ∧ w'.cell? ⟨w.heap.size, 2, none⟩ = some (.int .i64 h.idx) ∧ w'.cell? ⟨w.heap.size, 3, none⟩ = some (.slice A h.args.length c)) ∧ w'.cell? ⟨w.heap.size + 1, 0, none⟩ = some (.string s.fam) ∧ w'.cell? ⟨w.heap.size + 1, 1, none⟩ = some (.slice A2 s.args.length c2)) [(true, 0), (true, 3), (false, 1), (true, 2), (false, 4), (true, 5), (true, 6)] (by kernel_rfl) (by kernel_rfl) (HS.out _ q0 q1) ?_
        repeat (refine wpMix_soft (v := ?_) rfl rfl ?_ ?_; rotate_left; (focus (intro w' hS; go_simp; with_reducible rfl)); simp only [Act.put, List.setIfInBounds_toArray, List.set_cons_zero, List.set_cons_succ])
        refine wpMix_hard rfl rfl ?_
        go_wp2_with fail
        refine (refSize_calls _ h A c _ (fun b => S b ∧ Live w b) (Nat.lt_succ_self _) (by omega) (hr0.below B3).drew).use fun w3 hb3 => ?_
        clear c0 c1 c2' c3 d0 d1
        replace hb3 := bl_undrew hb3
        replace q0 := bk_below q0 hb3; replace q1 := bk_below q1 hb3; replace q2 := bk_below q2 hb3; replace B3 := bl_self B3 hb3; replace hsz := Nat.le_trans hsz hb3.size; clear hb3
        go_wp2_with fail
        refine mixQ_normal (HS.out _ q0 q1) ?_
        repeat (refine wpMix_soft (v := ?_) rfl rfl ?_ ?_; rotate_left; (focus (intro w' hS; go_simp; with_reducible rfl)); simp only [Act.put, List.setIfInBounds_toArray, List.set_cons_zero, List.set_cons_succ])
        refine wpMix_hard rfl rfl ?_
        go_wp2_with fail
        refine (longSize_calls _ s A2 c2 _ (fun b => S2 b ∧ Live w b) (Nat.lt_succ_self _) (by omega) (hr20.below B3)).use fun w4 hb4 => ?_
        replace q0 := bk_below q0 hb4; replace q1 := bk_below q1 hb4; replace q2 := bk_below q2 hb4; replace B3 := bl_self B3 hb4; replace hsz := Nat.le_trans hsz hb4.size; clear hb4
        go_wp2_with fail
        refine mixQ_normal (HS.out _ q0 q1) ?_
        by_cases e1 : 4096 < tsize h - 1 + lsz s
        · have hcd : decide ((4096 : Int) < (tsize h : Int) - 1 + lsz s) = true := decide_eq_true (by omega)
          repeat (refine wpMix_soft (v := ?_) rfl rfl ?_ ?_; rotate_left; (focus (intro w' hS; go_simp; with_reducible rfl)); simp only [Act.put, List.setIfInBounds_toArray, List.set_cons_zero, List.set_cons_succ])
          refine wpMix_done (NoPanic.normal ?_)
          have He : Hid (etaE h s = 2) := Lib.hid (HR.out.1 e1)
          have Ht : Hid (etaT h s = zeroT) := Lib.hid (HT.out (by rw [He.out]; omega))
          obtain ⟨a0, a1, a2, a3⟩ := bx4 q2
          have z0 := bk_free q2 0
          have z1 := bk_free q2 1
          have z2 := bk_free q2 2
          have z3 := bk_free q2 3
          go_wp2_with fail
          exact bodyPost_ret (res_pair rfl rfl rfl (set4_self q2)) rfl ⟨none, 0, by rw [He.out, Ht.out]; rfl, by rw [Ht.out]; exact Nat.le_refl _, by rw [Ht.out]; exact Rd.nil _ _ _ _, bl_set4 B3 (by omega)⟩
        · have hcd : decide ((4096 : Int) < (tsize h : Int) - 1 + lsz s) = false := decide_eq_false (by omega)
          repeat (refine wpMix_soft (v := ?_) rfl rfl ?_ ?_; rotate_left; (focus (intro w' hS; go_simp; with_reducible rfl)); simp only [Act.put, List.setIfInBounds_toArray, List.set_cons_zero, List.set_cons_succ])
          refine wpMix_done (NoPanic.normal ?_)
          have He1 := Lib.hid e1
          clear e1
          obtain ⟨c0, c1, c2', c3⟩ := bx4 q0
          obtain ⟨d0, d1⟩ := bx2 q1
          go_wp2_with fail
          refine (long_calls (ssize s + 1) h s A A2 c c2 _ _ _ (by omega) (by omega) (by omega) hix (hr0.below B3) (hr20.below B3)).use fun w5 A3 k3 hc3 hR3 hb5 => ?_
          rw [Hx.out] at hc3 hR3 ⊢
          clear c0 c1 c2' c3 d0 d1
          have hs4 := hsz
          replace q2 := bk_below q2 hb5; replace B3 := bl_self B3 hb5; replace hsz := Nat.le_trans hsz hb5.size; clear hb5
          have hR3' := (hR3.bound.below (bl_new w5 (.cells #[.int .i64 x.kind, .string x.name, .int .i64 x.idx, .slice A3 x.args.length k3] 30))).mono (S' := fun b => w.heap.size + 3 ≤ b ∧ b < w5.heap.size) (fun b hb _ => ⟨by rcases hb.1 with hb | hb; exact hb.elim; omega, hb.2.lt⟩)
          clear hR3
          have p5 := bk_new w5 (.cells #[.int .i64 x.kind, .string x.name, .int .i64 x.idx, .slice A3 x.args.length k3] 30); replace q2 := bk_alloc q2 (.cells #[.int .i64 x.kind, .string x.name, .int .i64 x.idx, .slice A3 x.args.length k3] 30); replace B3 := bl_alloc B3 (.cells #[.int .i64 x.kind, .string x.name, .int .i64 x.idx, .slice A3 x.args.length k3] 30); replace hsz := Nat.le_trans hsz (bl_new w5 (.cells #[.int .i64 x.kind, .string x.name, .int .i64 x.idx, .slice A3 x.args.length k3] 30)).size
          cases hsm : smallB x
          · have Hsm := Lib.hid hsm
            clear hsm
            obtain ⟨e0, e1, e2, e3⟩ := bx4 p5
            go_wp2_with fail
            refine (refSmall_calls x A3 k3 _ _ hxx hR3').use fun w6 hb6 => ?_
            rw [Hsm.out]
            replace q2 := bk_below q2 hb6; replace B3 := bl_self B3 hb6; replace hsz := Nat.le_trans hsz hb6.size; clear hb6
            have He : Hid (etaE h s = 2) := Lib.hid (HR.out.2.1 He1.out (by rw [Hx.out]; exact Hsm.out))
            have Ht : Hid (etaT h s = zeroT) := Lib.hid (HT.out (by rw [He.out]; omega))
            obtain ⟨a0, a1, a2, a3⟩ := bx4 q2
            have z0 := bk_free q2 0
            have z1 := bk_free q2 1
            have z2 := bk_free q2 2
            have z3 := bk_free q2 3
            go_wp2_with fail
            exact bodyPost_ret (res_pair rfl rfl rfl (set4_self q2)) rfl ⟨none, 0, by rw [He.out, Ht.out]; rfl, by rw [Ht.out]; exact Nat.le_refl _, by rw [Ht.out]; exact Rd.nil _ _ _ _, bl_set4 B3 (by omega)⟩
          · have Hsm := Lib.hid hsm
            clear hsm
            obtain ⟨e0, e1, e2, e3⟩ := bx4 p5
            go_wp2_with fail
            refine (refSmall_calls x A3 k3 _ _ hxx hR3').use fun w6 hb6 => ?_
            rw [Hsm.out]
            clear e0 e1 e2 e3
            replace q2 := bk_below q2 hb6; replace p5 := bk_below p5 hb6; replace B3 := bl_self B3 hb6; replace hsz := Nat.le_trans hsz hb6.size; replace hR3' := hR3'.below hb6; clear hb6
            obtain ⟨e0, e1, e2, e3⟩ := bx4 p5
            by_cases hg : 1048576 < grT x
            · have hgd : decide (1048576 < grT x) = true := decide_eq_true hg
              have Hg := Lib.hid hg
              clear hg
              go_wp2_with fail
              refine (greatest_calls _ x A3 k3 _ _ (Nat.lt_succ_self _) hxx hR3').use fun w7 hb7 => ?_
              replace q2 := bk_below q2 hb7; replace B3 := bl_self B3 hb7; replace hsz := Nat.le_trans hsz hb7.size; clear hb7
              have He : Hid (etaE h s = 5) := Lib.hid (HR.out.2.2.1 He1.out (by rw [Hx.out]; exact Hsm.out) (by rw [Hx.out]; exact Hg.out))
              have Ht : Hid (etaT h s = zeroT) := Lib.hid (HT.out (by rw [He.out]; omega))
              obtain ⟨a0, a1, a2, a3⟩ := bx4 q2
              have z0 := bk_free q2 0
              have z1 := bk_free q2 1
              have z2 := bk_free q2 2
              have z3 := bk_free q2 3
              go_wp2_with fail
              exact bodyPost_ret (res_pair rfl rfl rfl (set4_self q2)) rfl ⟨none, 0, by rw [He.out, Ht.out]; rfl, by rw [Ht.out]; exact Nat.le_refl _, by rw [Ht.out]; exact Rd.nil _ _ _ _, bl_set4 B3 (by omega)⟩
            · have hgd : decide (1048576 < grT x) = false := decide_eq_false hg
              have Hg := Lib.hid hg
              clear hg
              go_wp2_with fail
              refine (greatest_calls _ x A3 k3 _ _ (Nat.lt_succ_self _) hxx hR3').use fun w7 hb7 => ?_
              clear e0 e1 e2 e3
              replace q2 := bk_below q2 hb7; replace p5 := bk_below p5 hb7; replace B3 := bl_self B3 hb7; replace hsz := Nat.le_trans hsz hb7.size; replace hR3' := hR3'.below hb7; clear hb7
              obtain ⟨e0, e1, e2, e3⟩ := bx4 p5
              have Hok := Lib.hid (HR.out.2.2.2 He1.out (by rw [Hx.out]; exact Hsm.out) (by rw [Hx.out]; exact Hg.out))
              obtain ⟨a0, a1, a2, a3⟩ := bx4 q2
              have z0 := bk_free q2 0
              have z1 := bk_free q2 1
              have z2 := bk_free q2 2
              have z3 := bk_free q2 3
              go_wp2_with fail
              refine bodyPost_ret (res_pair rfl rfl rfl (set4_self q2)) rfl ⟨A3, k3, by rw [Hok.out.1, Hok.out.2, Hx.out]; rfl, by rw [Hok.out.2, Hx.out]; exact hc3, ?_, bl_set4 B3 (by omega)⟩
              rw [Hok.out.2, Hx.out]
              exact (hR3'.set4 (fun b hb => by have := hb.1; omega)).mono (fun b hb _ => .inr (by have := hb.1; omega))
    · have h0' : (swfE s != 0) = true := by simpa using hs0
      have He : Hid (etaE h s = swfE s) := Lib.hid (by rw [etaE, if_pos h0, if_neg hs0])
      have Ht : Hid (etaT h s = zeroT) := Lib.hid (HT.out (by rw [He.out]; exact hs0))
      clear h0 hs0
      go_enter Tryd.func25, Tryd.ntmps25
      go_wp2_with fail
      refine HW.out.use fun w1 hb1 => ?_
      rw [H0.out]
      replace q0 := bk_below q0 hb1; replace q1 := bk_below q1 hb1; replace q2 := bk_below q2 hb1; replace B3 := bl_self B3 hb1; replace hsz := Nat.le_trans hsz hb1.size; clear hb1
      obtain ⟨c0, c1, c2', c3⟩ := bx4 q0
      obtain ⟨d0, d1⟩ := bx2 q1
      go_wp2_with fail
      refine (qWellFormed_calls s A2 c2 _ _ (by omega) (hr20.below B3)).use fun w2 hb2 => ?_
      clear c0 c1 c2' c3 d0 d1
      replace q0 := bk_below q0 hb2; replace q1 := bk_below q1 hb2; replace q2 := bk_below q2 hb2; replace B3 := bl_self B3 hb2; replace hsz := Nat.le_trans hsz hb2.size; clear hb2
      obtain ⟨a0, a1, a2, a3⟩ := bx4 q2
      have z0 := bk_free q2 0
      have z1 := bk_free q2 1
      have z2 := bk_free q2 2
      have z3 := bk_free q2 3
      go_wp2_with fail
      exact bodyPost_ret (res_pair rfl rfl rfl (set4_self q2)) rfl ⟨none, 0, by rw [He.out, Ht.out]; rfl, by rw [Ht.out]; exact Nat.le_refl _, by rw [Ht.out]; exact Rd.nil _ _ _ _, bl_set4 B3 (by omega)⟩
  · have h0' : (wfE h != 0) = true := by simpa using h0
    have He : Hid (etaE h s = wfE h) := Lib.hid (by rw [etaE, if_neg h0])
    have Ht : Hid (etaT h s = zeroT) := Lib.hid (HT.out (by rw [He.out]; exact h0))
    clear h0
    go_enter Tryd.func25, Tryd.ntmps25
    go_wp2_with fail
    refine HW.out.use fun w1 hb1 => ?_
    replace q0 := bk_below q0 hb1; replace q1 := bk_below q1 hb1; replace q2 := bk_below q2 hb1; replace B3 := bl_self B3 hb1; replace hsz := Nat.le_trans hsz hb1.size; clear hb1
    obtain ⟨a0, a1, a2, a3⟩ := bx4 q2
    have z0 := bk_free q2 0
    have z1 := bk_free q2 1
    have z2 := bk_free q2 2
    have z3 := bk_free q2 3
    go_wp2_with fail
    exact bodyPost_ret (res_pair rfl rfl rfl (set4_self q2)) rfl ⟨none, 0, by rw [He.out, Ht.out]; rfl, by rw [Ht.out]; exact Nat.le_refl _, by rw [Ht.out]; exact Rd.nil _ _ _ _, bl_set4 B3 (by omega)⟩
end Go.Proofs.YtolooomphmcphaaDoor
