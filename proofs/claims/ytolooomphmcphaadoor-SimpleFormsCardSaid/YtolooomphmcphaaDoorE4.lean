/- simple.Eta. -/
import Derived.Test.YtolooomphmcphaaDoorE3
namespace Go.Proofs.YtolooomphmcphaaDoor
open Go.RowKit

mutual
/-- the size of the eta-long form of a variable -/
def xsz : Sm → Nat | .mk _ a => 1 + a.length + xszs a
def xszs : List Sm → Nat | [] => 0 | t :: r => xsz t + xszs r
end
theorem lamsT_size (n : Nat) (t : Tm) : tsize (lamsT n t) = n + tsize t := by
  induction n with
  | zero => simp [lamsT]
  | succ n ih => simp [lamsT, tsize, tsizes, ih]; omega
mutual
theorem expandT_size : ∀ (h : Tm) (s : Sm), tsize (expandT h s) = tsizes h.args + xsz s
  | h, .mk f a => by
    rw [expandT, lamsT_size, tsize, tsizes_append, expArgs_size, xsz]
    omega
theorem expArgs_size : ∀ (n k : Nat) (a : List Sm), tsizes (expArgs n k a) = xszs a
  | _, _, [] => rfl
  | n, k, s :: r => by
    rw [expArgs, tsizes, expandT_size, expArgs_size, xszs]
    simp [Tm.args, tsizes]
end
mutual
theorem xsz_le : ∀ s : Sm, xsz s + 1 ≤ 2 * ssize s
  | .mk _ a => by have := xszs_le a; simp only [xsz, ssize]; omega
theorem xszs_le : ∀ a : List Sm, xszs a + a.length ≤ 2 * ssizes a
  | [] => by simp [xszs, ssizes]
  | t :: r => by have := xsz_le t; have := xszs_le r; simp only [xszs, ssizes, List.length_cons]; omega
end
theorem mv_size (d fr : Int) (t : Tm) : tsize (mv d fr t) = tsize t := by
  revert fr
  refine Tm.rec (motive_1 := fun t => ∀ fr, tsize (mv d fr t) = tsize t) (motive_2 := fun a => ∀ fr k j, tsizes (mvs d fr k j a) = tsizes a) ?_ ?_ ?_ t
  · intro k s i a ih fr
    simp [mv, tsize, ih]
  · intro fr k j
    rfl
  · intro t r h1 h2 fr k j
    simp [mvs, tsizes, h1, h2]
theorem shiftT_len (d fr : Int) (t : Tm) : (shiftT d fr t).args.length ≤ t.args.length := by
  unfold shiftT
  split
  · split
    · rw [mv_eq]; simp [Tm.args, mvs_len]
    · simp [Tm.args]
  · simp [Tm.args]
def headB (h : Tm) : Bool := h.kind == 4 || h.kind == 5 || h.kind == 6
def etaE (h : Tm) (s : Sm) : Int :=
  if wfE h = 0 then if swfE s = 0 then if headB h then if tsize (expandT h s) ≤ 4096 ∧ tdep (expandT h s) ≤ 128 then shiftE s.args.length 0 h else 2 else 32 else swfE s else wfE h
def etaT (h : Tm) (s : Sm) : Tm := if etaE h s = 0 then expandT (shiftT s.args.length 0 h) s else zeroT
set_option maxRecDepth 100000 in
set_option maxHeartbeats 4000000 in
theorem eta_calls (h : Tm) (s : Sm) (A A2 : Option Addr) (c c2 : Nat) (w : World) (S S2 : Nat → Prop) (h2 : tsize h < 50000000) (hs2 : ssize s < 50000000) (hix : ixT 1000000000000 h) (hl : h.args.length ≤ c) (hr : Rd tmK w S A h.args) (hr2 : Rd smK w S2 A2 s.args) :
    GivP Tryd.prog 24 #[tmV h A c, smV s A2 c2] w S (etaT h s) (.int .i64 (etaE h s)) := by
  have hr0 := hr.bound
  have hr20 := hr2.bound
  clear hr hr2
  have B3 := bl_alloc (bl_alloc (bl_new w (.cells (tmB h A c) 30)) (.cells (smB s A2 c2) 26)) (.cells #[.int .i64 0, .string ⟨#[]⟩, .int .i64 0, .slice none 0 0] 30)
  have q0 := bk_alloc (bk_alloc (bk_new w (.cells (tmB h A c) 30)) (.cells (smB s A2 c2) 26)) (.cells #[.int .i64 0, .string ⟨#[]⟩, .int .i64 0, .slice none 0 0] 30)
  have q1 := bk_alloc (bk_at (w := w.alloc (.cells (tmB h A c) 30)) (n := w.heap.size + 1) (by simp) (.cells (smB s A2 c2) 26)) (.cells #[.int .i64 0, .string ⟨#[]⟩, .int .i64 0, .slice none 0 0] 30)
  have q2 := bk_at (w := (w.alloc (.cells (tmB h A c) 30)).alloc (.cells (smB s A2 c2) 26)) (n := w.heap.size + 1 + 1) (by simp) (.cells #[.int .i64 0, .string ⟨#[]⟩, .int .i64 0, .slice none 0 0] 30)
  have hsz : w.heap.size + 3 ≤ (((w.alloc (.cells (tmB h A c) 30)).alloc (.cells (smB s A2 c2) 26)).alloc (.cells #[.int .i64 0, .string ⟨#[]⟩, .int .i64 0, .slice none 0 0] 30)).heap.size := by simp
  have HW := Lib.hid (wellFormed_calls h A c _ _ (by omega) (hr0.below B3))
  have Het : Hid (etaT h s = if etaE h s = 0 then expandT (shiftT s.args.length 0 h) s else zeroT) := Lib.hid rfl
  have hlh : h.args.length < 50000000 := by have := tsize_eq h; have := len_le_tsizes h.args; omega
  have hls : s.args.length < 50000000 := by have := ssize_eq s; have := len_le_ssizes s.args; omega
  have hxs : tsize (expandT h s) < 1000000000 := by have := expandT_size h s; have := xsz_le s; have := tsize_eq h; omega
  by_cases h0 : wfE h = 0
  · have H0 := Lib.hid h0
    by_cases hs0 : swfE s = 0
    · have Hs0 := Lib.hid hs0
      cases hh : headB h
      · have e : etaE h s = 32 := by rw [etaE, if_pos h0, if_pos hs0, if_neg (by rw [hh]; simp)]
        rw [Het.out, e, if_neg (by omega)]
        clear e
        have k4 : (h.kind != 4) = true := by simp [headB] at hh; simpa using hh.1.1
        have k5 : (h.kind != 5) = true := by simp [headB] at hh; simpa using hh.1.2
        have k6 : (h.kind != 6) = true := by simp [headB] at hh; simpa using hh.2
        clear hh h0 hs0
        go_enter Tryd.func24, Tryd.ntmps24
        go_wp2_with fail
        refine HW.out.use fun w1 hb1 => ?_
        rw [H0.out]
        replace q0 := bk_below q0 hb1; replace q1 := bk_below q1 hb1; replace q2 := bk_below q2 hb1; replace B3 := bl_self B3 hb1; replace hsz := Nat.le_trans hsz hb1.size; clear hb1
        obtain ⟨c0, c1, c2', c3⟩ := bx4 q0
        obtain ⟨d0, d1⟩ := bx2 q1
        go_wp2_with fail
        refine (sWellFormed_calls s A2 c2 _ _ (by omega) (hr20.below B3)).use fun w2 hb2 => ?_
        clear c0 c1 c2' c3 d0 d1
        replace q0 := bk_below q0 hb2; replace q1 := bk_below q1 hb2; replace q2 := bk_below q2 hb2; replace B3 := bl_self B3 hb2; replace hsz := Nat.le_trans hsz hb2.size; clear hb2
        rw [Hs0.out]
        obtain ⟨c0, c1, c2', c3⟩ := bx4 q0
        obtain ⟨d0, d1⟩ := bx2 q1
        obtain ⟨a0, a1, a2, a3⟩ := bx4 q2
        have z0 := bk_free q2 0
        have z1 := bk_free q2 1
        have z2 := bk_free q2 2
        have z3 := bk_free q2 3
        go_wp2_with fail
        all_goals exact bodyPost_ret (res_pair rfl rfl rfl (set4_self q2)) rfl ⟨none, 0, rfl, Nat.le_refl _, Rd.nil _ _ _ _, bl_set4 B3 (by omega)⟩
      · have ee : etaE h s = if tsize (expandT h s) ≤ 4096 ∧ tdep (expandT h s) ≤ 128 then shiftE s.args.length 0 h else 2 := by rw [etaE, if_pos h0, if_pos hs0, if_pos hh]
        obtain ⟨x, Hx⟩ : ∃ x, Hid (x = expandT h s) := ⟨_, Lib.hid rfl⟩
        rw [← Hx.out] at ee hxs
        have Hee := Lib.hid ee
        have hc : (h.kind != 4) = false ∨ ((h.kind != 4) = true ∧ (h.kind != 5) = false) ∨ ((h.kind != 4) = true ∧ (h.kind != 5) = true ∧ (h.kind != 6) = false) := by
          simp only [headB, bne] at hh ⊢
          revert hh
          cases (h.kind == 4) <;> cases (h.kind == 5) <;> cases (h.kind == 6) <;> simp
        clear h0 hs0 hh ee
        rcases hc with k4 | ⟨k4, k5⟩ | ⟨k4, k5, k6⟩
        all_goals
          go_enter Tryd.func24, Tryd.ntmps24
          go_wp2_with fail
          refine HW.out.use fun w1 hb1 => ?_
          rw [H0.out]
          replace q0 := bk_below q0 hb1; replace q1 := bk_below q1 hb1; replace q2 := bk_below q2 hb1; replace B3 := bl_self B3 hb1; replace hsz := Nat.le_trans hsz hb1.size; clear hb1
          obtain ⟨c0, c1, c2', c3⟩ := bx4 q0
          obtain ⟨d0, d1⟩ := bx2 q1
          go_wp2_with fail
          refine (sWellFormed_calls s A2 c2 _ _ (by omega) (hr20.below B3)).use fun w2 hb2 => ?_
          clear c0 c1 c2' c3 d0 d1
          replace q0 := bk_below q0 hb2; replace q1 := bk_below q1 hb2; replace q2 := bk_below q2 hb2; replace B3 := bl_self B3 hb2; replace hsz := Nat.le_trans hsz hb2.size; clear hb2
          rw [Hs0.out]
          obtain ⟨c0, c1, c2', c3⟩ := bx4 q0
          obtain ⟨d0, d1⟩ := bx2 q1
          go_wp2_with fail
          refine (expand_calls (ssize s + 1) h s A A2 c c2 _ _ _ (by omega) (by omega) (by omega) hl (hr0.below B3) (hr20.below B3)).use fun w3 A3 k3 hc3 hR3 hb3 => ?_
          rw [← Hx.out] at hc3 hR3 ⊢
          clear c0 c1 c2' c3 d0 d1
          replace q0 := bk_below q0 hb3; replace q1 := bk_below q1 hb3; replace q2 := bk_below q2 hb3; replace B3 := bl_self B3 hb3; replace hsz := Nat.le_trans hsz hb3.size; clear hb3
          go_wp2_with fail
          have hR3' := hR3.below (bl_new _ (.cells #[.int .i64 x.kind, .string x.name, .int .i64 x.idx, .slice A3 x.args.length k3] 30))
          have p5 := bk_new w3 (.cells #[.int .i64 x.kind, .string x.name, .int .i64 x.idx, .slice A3 x.args.length k3] 30); replace q0 := bk_alloc q0 (.cells #[.int .i64 x.kind, .string x.name, .int .i64 x.idx, .slice A3 x.args.length k3] 30); replace q1 := bk_alloc q1 (.cells #[.int .i64 x.kind, .string x.name, .int .i64 x.idx, .slice A3 x.args.length k3] 30); replace q2 := bk_alloc q2 (.cells #[.int .i64 x.kind, .string x.name, .int .i64 x.idx, .slice A3 x.args.length k3] 30); replace B3 := bl_alloc B3 (.cells #[.int .i64 x.kind, .string x.name, .int .i64 x.idx, .slice A3 x.args.length k3] 30); replace hsz := Nat.le_trans hsz (bl_new w3 (.cells #[.int .i64 x.kind, .string x.name, .int .i64 x.idx, .slice A3 x.args.length k3] 30)).size
          refine (size_calls x A3 k3 _ _ (by omega) hR3').use fun w4 hb4 => ?_
          replace q0 := bk_below q0 hb4; replace q1 := bk_below q1 hb4; replace q2 := bk_below q2 hb4; replace p5 := bk_below p5 hb4; replace B3 := bl_self B3 hb4; replace hsz := Nat.le_trans hsz hb4.size; replace hR3' := hR3'.below hb4; clear hb4
          obtain ⟨e0, e1, e2, e3⟩ := bx4 p5
          by_cases hz : tsize x ≤ 4096
          · have hzd : decide ((4096 : Int) < (tsize x : Int)) = false := by simp; omega
            have hzn : decide (4096 < tsize x) = false := by simp; omega
            go_wp2_with fail
            refine (depth_calls (tsize x + 1) x A3 k3 _ _ (by omega) (by omega) hR3').use fun w5 hb5 => ?_
            clear e0 e1 e2 e3
            replace q0 := bk_below q0 hb5; replace q1 := bk_below q1 hb5; replace q2 := bk_below q2 hb5; replace B3 := bl_self B3 hb5; replace hsz := Nat.le_trans hsz hb5.size; clear hb5
            obtain ⟨c0, c1, c2', c3'⟩ := bx4 q0
            obtain ⟨d0, d1⟩ := bx2 q1
            by_cases hd : tdep x ≤ 128
            · have hdd : decide ((128 : Int) < (tdep x : Int)) = false := by simp; omega
              have hdn : decide (128 < tdep x) = false := by simp; omega
              have Hv : Hid (etaE h s = shiftE s.args.length 0 h) := Lib.hid (by rw [Hee.out, if_pos ⟨hz, hd⟩])
              go_wp2_with fail
              refine (shift_calls h A c s.args.length 0 _ _ (by omega) hix (by omega) (by omega) (by omega) (by omega) hl (hr0.below B3)).use fun w6 A6 c6 hc6 hR6 hb6 => ?_
              clear c0 c1 c2' c3' d0 d1
              have hs5 := hsz
              have hb6s := hb6.size
              replace q0 := bk_below q0 hb6; replace q1 := bk_below q1 hb6; replace q2 := bk_below q2 hb6; replace B3 := bl_self B3 hb6; replace hsz := Nat.le_trans hsz hb6.size; clear hb6
              obtain ⟨y, Hy⟩ : ∃ y, Hid (y = shiftT s.args.length 0 h) := ⟨_, Lib.hid rfl⟩
              rw [← Hy.out] at hc6 hR6 ⊢
              have hR6' := hR6.below (bl_new _ (.cells #[.int .i64 y.kind, .string y.name, .int .i64 y.idx, .slice A6 y.args.length c6] 30))
              have p5 := bk_new w6 (.cells #[.int .i64 y.kind, .string y.name, .int .i64 y.idx, .slice A6 y.args.length c6] 30)
              have q0' := bk_alloc q0 (.cells #[.int .i64 y.kind, .string y.name, .int .i64 y.idx, .slice A6 y.args.length c6] 30)
              have q1' := bk_alloc q1 (.cells #[.int .i64 y.kind, .string y.name, .int .i64 y.idx, .slice A6 y.args.length c6] 30)
              have q2' := bk_alloc q2 (.cells #[.int .i64 y.kind, .string y.name, .int .i64 y.idx, .slice A6 y.args.length c6] 30)
              have B7 := bl_alloc B3 (.cells #[.int .i64 y.kind, .string y.name, .int .i64 y.idx, .slice A6 y.args.length c6] 30)
              by_cases hE : shiftE s.args.length 0 h = 0
              · have HE := Lib.hid hE
                rw [HE.out]
                obtain ⟨e0, e1, e2, e3⟩ := bx4 p5
                obtain ⟨d0, d1⟩ := bx2 q1'
                have He : Hid (etaT h s = expandT y s) := Lib.hid (by rw [Het.out, Hv.out, HE.out, if_pos rfl, Hy.out])
                have hyl : y.args.length < 100000000 := by have := shiftT_len s.args.length 0 h; rw [Hy.out]; omega
                have hs6 := hb6s
                go_wp2_with fail
                refine (expand_calls (ssize s + 1) y s A6 A2 c6 c2 _ _ _ (by omega) (by omega) hyl hc6 hR6' (hr20.below B7)).use fun w8 A8 c8 hc8 hR8 hb8 => ?_
                obtain ⟨x2, Hx2⟩ : ∃ x2, Hid (x2 = expandT y s) := ⟨_, Lib.hid rfl⟩
                rw [← Hx2.out] at hc8 hR8 ⊢
                replace q2' := bk_below q2' hb8
                have B8 := bl_self B7 hb8
                have hs8 : w6.heap.size + 1 ≤ w8.heap.size := by simpa using hb8.size
                obtain ⟨a0, a1, a2, a3⟩ := bx4 q2'
                have z0 := bk_free q2' 0
                have z1 := bk_free q2' 1
                have z2 := bk_free q2' 2
                have z3 := bk_free q2' 3
                clear e0 e1 e2 e3 d0 d1
                go_wp2_with fail
                refine bodyPost_ret (res_pair rfl rfl rfl (set4_self q2')) rfl ⟨A8, c8, by rw [He.out, Hv.out, HE.out, ← Hx2.out]; rfl, by rw [He.out, ← Hx2.out]; exact hc8, ?_, bl_set4 B8 (by omega)⟩
                rw [He.out, ← Hx2.out]
                refine (hR8.set4 (fun b hb => ?_)).mono (fun b hb _ => ?_)
                · simp at hb
                  rcases hb with (hb | hb) | hb
                  · have := hb.2.lt; omega
                  · omega
                  · omega
                · simp at hb
                  rcases hb with (hb | hb) | hb
                  · exact .inl hb.1
                  · exact .inr (by omega)
                  · exact .inr (by omega)
              · have hE' : (shiftE s.args.length 0 h != 0) = true := by simpa using hE
                have He : Hid (etaT h s = zeroT) := Lib.hid (by rw [Het.out, Hv.out, if_neg hE])
                clear hE
                obtain ⟨a0, a1, a2, a3⟩ := bx4 q2'
                have z0 := bk_free q2' 0
                have z1 := bk_free q2' 1
                have z2 := bk_free q2' 2
                have z3 := bk_free q2' 3
                go_wp2_with fail
                refine bodyPost_ret (res_pair rfl rfl rfl (set4_self q2')) rfl ⟨none, 0, by rw [He.out, Hv.out]; rfl, by rw [He.out]; exact Nat.le_refl _, by rw [He.out]; exact Rd.nil _ _ _ _, bl_set4 B7 (by omega)⟩
            · have hdd : decide ((128 : Int) < (tdep x : Int)) = true := by simp; omega
              have hdn : decide (128 < tdep x) = true := by simp; omega
              have Hv : Hid (etaE h s = 2) := Lib.hid (by rw [Hee.out, if_neg (by omega)])
              have He : Hid (etaT h s = zeroT) := Lib.hid (by rw [Het.out, Hv.out, if_neg (by omega)])
              obtain ⟨a0, a1, a2, a3⟩ := bx4 q2
              have z0 := bk_free q2 0
              have z1 := bk_free q2 1
              have z2 := bk_free q2 2
              have z3 := bk_free q2 3
              go_wp2_with fail
              refine bodyPost_ret (res_pair rfl rfl rfl (set4_self q2)) rfl ⟨none, 0, by rw [He.out, Hv.out]; rfl, by rw [He.out]; exact Nat.le_refl _, by rw [He.out]; exact Rd.nil _ _ _ _, bl_set4 B3 (by omega)⟩
          · have hzd : decide ((4096 : Int) < (tsize x : Int)) = true := by simp; omega
            have hzn : decide (4096 < tsize x) = true := by simp; omega
            have Hv : Hid (etaE h s = 2) := Lib.hid (by rw [Hee.out, if_neg (by omega)])
            have He : Hid (etaT h s = zeroT) := Lib.hid (by rw [Het.out, Hv.out, if_neg (by omega)])
            obtain ⟨a0, a1, a2, a3⟩ := bx4 q2
            have z0 := bk_free q2 0
            have z1 := bk_free q2 1
            have z2 := bk_free q2 2
            have z3 := bk_free q2 3
            go_wp2_with fail
            refine bodyPost_ret (res_pair rfl rfl rfl (set4_self q2)) rfl ⟨none, 0, by rw [He.out, Hv.out]; rfl, by rw [He.out]; exact Nat.le_refl _, by rw [He.out]; exact Rd.nil _ _ _ _, bl_set4 B3 (by omega)⟩
    · have h0' : (swfE s != 0) = true := by simpa using hs0
      have e : etaE h s = swfE s := by rw [etaE, if_pos h0, if_neg hs0]
      rw [Het.out, e, if_neg hs0]
      clear e h0 hs0
      go_enter Tryd.func24, Tryd.ntmps24
      go_wp2_with fail
      refine HW.out.use fun w1 hb1 => ?_
      rw [H0.out]
      replace q0 := bk_below q0 hb1; replace q1 := bk_below q1 hb1; replace q2 := bk_below q2 hb1; replace B3 := bl_self B3 hb1; replace hsz := Nat.le_trans hsz hb1.size; clear hb1
      obtain ⟨c0, c1, c2', c3⟩ := bx4 q0
      obtain ⟨d0, d1⟩ := bx2 q1
      go_wp2_with fail
      refine (sWellFormed_calls s A2 c2 _ _ (by omega) (hr20.below B3)).use fun w2 hb2 => ?_
      clear c0 c1 c2' c3 d0 d1
      replace q0 := bk_below q0 hb2; replace q1 := bk_below q1 hb2; replace q2 := bk_below q2 hb2; replace B3 := bl_self B3 hb2; replace hsz := Nat.le_trans hsz hb2.size; clear hb2
      obtain ⟨a0, a1, a2, a3⟩ := bx4 q2
      have z0 := bk_free q2 0
      have z1 := bk_free q2 1
      have z2 := bk_free q2 2
      have z3 := bk_free q2 3
      go_wp2_with fail
      all_goals exact bodyPost_ret (res_pair rfl rfl rfl (set4_self q2)) rfl ⟨none, 0, rfl, Nat.le_refl _, Rd.nil _ _ _ _, bl_set4 B3 (by omega)⟩
  · have h0' : (wfE h != 0) = true := by simpa using h0
    have e : etaE h s = wfE h := by rw [etaE, if_neg h0]
    rw [Het.out, e, if_neg h0]
    clear e h0
    go_enter Tryd.func24, Tryd.ntmps24
    go_wp2_with fail
    refine HW.out.use fun w1 hb1 => ?_
    replace q0 := bk_below q0 hb1; replace q1 := bk_below q1 hb1; replace q2 := bk_below q2 hb1; replace B3 := bl_self B3 hb1; replace hsz := Nat.le_trans hsz hb1.size; clear hb1
    obtain ⟨a0, a1, a2, a3⟩ := bx4 q2
    have z0 := bk_free q2 0
    have z1 := bk_free q2 1
    have z2 := bk_free q2 2
    have z3 := bk_free q2 3
    go_wp2_with fail
    all_goals exact bodyPost_ret (res_pair rfl rfl rfl (set4_self q2)) rfl ⟨none, 0, rfl, Nat.le_refl _, Rd.nil _ _ _ _, bl_set4 B3 (by omega)⟩
end Go.Proofs.YtolooomphmcphaaDoor
