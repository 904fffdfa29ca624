/- lfcheckref07.Erased, Erase. -/
import Derived.Test.YtolooomphmcphaaDoorQ2
import Derived.Test.YtolooomphmcphaaDoorE3
import Derived.Test.YtolooomphmcphaaDoorK7
namespace Go.Proofs.YtolooomphmcphaaDoor
open Go.RowKit

theorem ssize_erase : ∀ t : Tm, ssize (eraseT t) ≤ tsize t
  | .mk k s i [a, b] => by
    have h1 := ssize_erase a
    have h2 := ssize_erase b
    have h3 := ssize_eq (eraseT b)
    unfold eraseT
    split
    · simp only [ssize, ssizes, tsize, tsizes]; omega
    · simp only [ssize, ssizes, tsize]; omega
  | .mk k s i [] => by simp [eraseT, ssize, ssizes, tsize]
  | .mk k s i [a] => by simp [eraseT, ssize, ssizes, tsize]
  | .mk k s i (a :: b :: c :: r) => by simp [eraseT, ssize, ssizes, tsize]
set_option maxRecDepth 100000 in
set_option maxHeartbeats 4000000 in
theorem qErased_calls (n : Nat) : ∀ (t : Tm) (A : Option Addr) (c : Nat) (w : World) (S : Nat → Prop), tsize t < n → tsize t < 100000000 → tkB t = true → Rd tmK w S A t.args →
    GivS Tryd.prog 45 #[tmV t A c] w (fun _ => False) (eraseT t) := by
  induction n with
  | zero => intro t A c w S h; omega
  | succ n ih =>
  intro t A c w S h1 h2 htk hr
  have H := Lib.hid ih
  clear ih
  have hr0 := hr.bound
  clear hr
  have q0 := bk_alloc (bk_new w (.cells (tmB t A c) 30)) (.cells #[.string ⟨#[]⟩, .slice none 0 0] 26)
  have q1 := bk_at (w := w.alloc (.cells (tmB t A c) 30)) (n := w.heap.size + 1) (by simp) (.cells #[.string ⟨#[]⟩, .slice none 0 0] 26)
  have B := bl_alloc (bl_new w (.cells (tmB t A c) 30)) (.cells #[.string ⟨#[]⟩, .slice none 0 0] 26)
  have hsz : w.heap.size + 2 ≤ ((w.alloc (.cells (tmB t A c) 30)).alloc (.cells #[.string ⟨#[]⟩, .slice none 0 0] 26)).heap.size := by simp
  have Htk := Lib.hid htk
  clear htk
  cases k1 : (t.kind == 1)
  · cases k2 : (t.kind == 2)
    · have He : Hid (eraseT t = .mk t.name []) := Lib.hid (by rw [eraseT_stop (by simpa using k2), if_neg (by simpa using k1)])
      obtain ⟨x0, x1⟩ := bx2 q1
      have z0 := bk_free q1 0
      have z1 := bk_free q1 1
      go_enter Tryd.func45, Tryd.ntmps45
      go_wp2_with fail
      refine bodyPost_ret (res_simple rfl rfl (bk_at (w := w.alloc (.cells (tmB t A c) 30)) (n := w.heap.size + 1) (by simp) _)) rfl ⟨none, 0, by rw [He.out]; rfl, by rw [He.out]; exact Nat.le_refl _, by rw [He.out]; exact Rd.nil _ _ _ _, bl_alloc (bl_new w _) _⟩
    · have hku : t.kind = 2 := by simpa using k2
      obtain ⟨hl2, hsub⟩ := tk_pi Htk.out hku
      have hl0 : 0 < t.args.length := by omega
      have hl1 : 1 < t.args.length := by omega
      have Hsub := Lib.hid (hsub hl0 hl1)
      have Hpi : Hid (eraseT t = .mk (eraseT t.args[1]).fam (eraseT t.args[0] :: (eraseT t.args[1]).args)) := Lib.hid (eraseT_pi hku hl2)
      have hI0 : (0 : Int) < (t.args.length : Int) := by omega
      have hI1 : (1 : Int) < (t.args.length : Int) := by omega
      clear hsub hku hl2
      obtain ⟨b, o, A1, c1', rfl, hSb, e0, e1, e2, e3, hl', hr1⟩ := (hr0.below B).tm0 hl0
      obtain ⟨A2, c2', -, f0, f1, f2, f3, hl2', hr2⟩ := (hr0.below B).tmb1 hl1
      have hs0 := tsizes_mem t.args 0 hl0
      have hs1 := tsizes_mem t.args 1 hl1
      have hus := tsize_eq t
      have hbl := hSb.2.lt
      go_enter Tryd.func45, Tryd.ntmps45
      go_wp2_with fail
      refine (H.out t.args[1] A2 c2' _ (fun b => S b ∧ Live w b) (by omega) (by omega) Hsub.out.2 hr2).use fun w1 A3 c3 hc3 hR3 hb1 => ?_
      obtain ⟨y, Hy⟩ : ∃ y, Hid (y = eraseT t.args[1]) := ⟨_, Lib.hid rfl⟩
      rw [← Hy.out] at hc3 hR3 ⊢
      have r0 := cl_below e0 hb1
      have r1 := cl_below e1 hb1
      have r2 := cl_below e2 hb1
      have r3 := cl_below e3 hb1
      clear e0 e1 e2 e3 f0 f1 f2 f3
      replace hr1 := hr1.below hb1
      replace q0 := bk_below q0 hb1; replace q1 := bk_below q1 hb1; replace B := bl_self B hb1; replace hsz := Nat.le_trans hsz hb1.size; clear hb1
      have hz1 := hsz
      have hR3' := hR3.below (bl_new w1 (.cells #[.string y.fam, .slice A3 y.args.length c3] 26))
      replace hr1 := hr1.below (bl_new w1 (.cells #[.string y.fam, .slice A3 y.args.length c3] 26))
      replace r0 := cl_below r0 (bl_new w1 (.cells #[.string y.fam, .slice A3 y.args.length c3] 26))
      replace r1 := cl_below r1 (bl_new w1 (.cells #[.string y.fam, .slice A3 y.args.length c3] 26))
      replace r2 := cl_below r2 (bl_new w1 (.cells #[.string y.fam, .slice A3 y.args.length c3] 26))
      replace r3 := cl_below r3 (bl_new w1 (.cells #[.string y.fam, .slice A3 y.args.length c3] 26))
      have q3 := bk_new w1 (.cells #[.string y.fam, .slice A3 y.args.length c3] 26); replace q0 := bk_alloc q0 (.cells #[.string y.fam, .slice A3 y.args.length c3] 26); replace q1 := bk_alloc q1 (.cells #[.string y.fam, .slice A3 y.args.length c3] 26); replace B := bl_alloc B (.cells #[.string y.fam, .slice A3 y.args.length c3] 26); replace hsz := Nat.le_trans hsz (bl_new w1 (.cells #[.string y.fam, .slice A3 y.args.length c3] 26)).size
      go_wp2_with fail
      have HS : ∀ w' : World, w'.heap[w1.heap.size]? = some (.cells #[.string y.fam, .slice A3 y.args.length c3] 26 (0, 0)) → w'.heap[w.heap.size]? = some (.cells (tmB t (some ⟨b, o, none⟩) c) 30 (0, 0)) → w'.cell? ⟨b, o, none⟩ = some (.int .i64 t.args[0].kind) → w'.cell? ⟨b, o + 1, none⟩ = some (.string t.args[0].name) → w'.cell? ⟨b, o + 2, none⟩ = some (.int .i64 t.args[0].idx) → w'.cell? ⟨b, o + 3, none⟩ = some (.slice A1 t.args[0].args.length c1') →
          (w'.cell? ⟨w1.heap.size, 0, none⟩ = some (.string y.fam) ∧ w'.cell? ⟨w1.heap.size, 1, none⟩ = some (.slice A3 y.args.length c3)) ∧ w'.cell? ⟨w.heap.size, 3, none⟩ = some (.slice (some ⟨b, o, none⟩) t.args.length c) ∧ w'.cell? ⟨b, o, none⟩ = some (.int .i64 t.args[0].kind) ∧ w'.cell? ⟨b, o + 1, none⟩ = some (.string t.args[0].name) ∧ w'.cell? ⟨b, o + 2, none⟩ = some (.int .i64 t.args[0].idx) ∧ w'.cell? ⟨b, o + 3, none⟩ = some (.slice A1 t.args[0].args.length c1') := fun w' h1 h2 a0 a1 a2 a3 => ⟨bx2 h1, (bx4 h2).2.2.2, a0, a1, a2, a3⟩
      replace HS := Lib.hid HS
      refine wp_region_mixN 12 (fun w' : World => (w'.cell? ⟨w1.heap.size, 0, none⟩ = some (.string y.fam) ∧ w'.cell? ⟨w1.heap.size, 1, none⟩ = some (.slice A3 y.args.length c3)) ∧ w'.cell? ⟨w.heap.size, 3, none⟩ = some (.slice (some ⟨b, o, none⟩) t.args.length c) ∧ w'.cell? ⟨b, o, none⟩ = some (.int .i64 t.args[0].kind) ∧ w'.cell? ⟨b, o + 1, none⟩ = some (.string t.args[0].name) ∧ w'.cell? ⟨b, o + 2, none⟩ = some (.int .i64 t.args[0].idx) ∧ w'.cell? ⟨b, o + 3, none⟩ = some (.slice A1 t.args[0].args.length c1'))
        [(true, 0), (true, 1), (true, 2), (true, 3), (true, 4), (true, 5), (true, 8), (true, 9), (false, 6), (false, 7), (false, 10), (true, 11)] (by kernel_rfl) rfl (by kernel_rfl) (HS.out _ q3 q0 r0 r1 r2 r3) ?_
      repeat (refine wpMix_soft (v := ?_) rfl rfl ?_ ?_; rotate_left; (focus (intro w' hS; go_simp; with_reducible rfl)); simp only [Act.put, List.setIfInBounds_toArray, List.set_cons_zero, List.set_cons_succ])
      refine wpMix_hard rfl rfl ?_
      go_wp2_with fail
      refine (H.out t.args[0] A1 c1' _ (fun b => S b ∧ Live w b) (by omega) (by omega) Hsub.out.1 (Rd.drew hr1)).use fun w2 A4 c4 hc4 hR4 hb2 => ?_
      obtain ⟨x, Hx⟩ : ∃ x, Hid (x = eraseT t.args[0]) := ⟨_, Lib.hid rfl⟩
      rw [← Hx.out] at hc4 hR4 ⊢
      replace hb2 := bl_undrew hb2
      replace r0 := cl_below r0 hb2
      replace r1 := cl_below r1 hb2
      replace r2 := cl_below r2 hb2
      replace r3 := cl_below r3 hb2
      have hs1' : w1.heap.size + 1 ≤ w2.heap.size := by simpa using hb2.size
      replace q0 := bk_below q0 hb2; replace q1 := bk_below q1 hb2; replace q3 := bk_below q3 hb2; replace B := bl_self B hb2; replace hsz := Nat.le_trans hsz hb2.size; replace hR3' := hR3'.below hb2; clear hb2
      go_wp2_with fail
      refine mixQ_normal (HS.out _ q3 q0 r0 r1 r2 r3) ?_
      refine wpMix_hard rfl rfl ?_
      go_wp2_with fail
      have hO : Own smK 26 w2.heap.size (w2.alloc (.cells #[.string x.fam, .slice A4 x.args.length c4] 26)) (fun b => w.heap.size + 2 ≤ b) (.slice (some ⟨w2.heap.size, 0, none⟩) 1 1) [x] := Own.one (smK_of x hc4 hR4) (Nat.le_refl _) (fun b hb => by simp at hb; omega)
      replace r0 := cl_below r0 (bl_new w2 (.cells #[.string x.fam, .slice A4 x.args.length c4] 26))
      replace r1 := cl_below r1 (bl_new w2 (.cells #[.string x.fam, .slice A4 x.args.length c4] 26))
      replace r2 := cl_below r2 (bl_new w2 (.cells #[.string x.fam, .slice A4 x.args.length c4] 26))
      replace r3 := cl_below r3 (bl_new w2 (.cells #[.string x.fam, .slice A4 x.args.length c4] 26))
      have hz2 := hsz
      have hRy : Rd smK (w2.alloc (.cells #[.string x.fam, .slice A4 x.args.length c4] 26)) (fun b => w.heap.size + 2 ≤ b ∧ b < w2.heap.size) A3 y.args := (hR3'.bound.mono (fun b hb _ => ⟨by have := hb.1; simp at this; omega, hb.2.lt⟩)).below (bl_new w2 (.cells #[.string x.fam, .slice A4 x.args.length c4] 26))
      have q4 := bk_new w2 (.cells #[.string x.fam, .slice A4 x.args.length c4] 26); replace q0 := bk_alloc q0 (.cells #[.string x.fam, .slice A4 x.args.length c4] 26); replace q1 := bk_alloc q1 (.cells #[.string x.fam, .slice A4 x.args.length c4] 26); replace q3 := bk_alloc q3 (.cells #[.string x.fam, .slice A4 x.args.length c4] 26); replace B := bl_alloc B (.cells #[.string x.fam, .slice A4 x.args.length c4] 26); replace hsz := Nat.le_trans hsz (bl_new w2 (.cells #[.string x.fam, .slice A4 x.args.length c4] 26)).size
      refine mixQ_normal (HS.out _ q3 q0 r0 r1 r2 r3) ?_
      refine wpMix_hard rfl rfl ?_
      refine wp_ext (d := smK) (v := .slice (some ⟨w2.heap.size, 0, none⟩) 1 1) rfl (.tmp 23) (.tmp 25) _ rfl (e := 26) (bytes := 40) (z := .agg #[.string ⟨#[]⟩, .slice none 0 0]) (by kernel_rfl) (by kernel_rfl) (by rfl) (by decide) rfl hO (by simp) (by have := ssize_erase t.args[1]; rw [← Hy.out] at this; have := ssize_eq y; have := len_le_ssizes y.args; omega) (by simp) rfl hRy (fun b hb he => by have := hb.2; simp [Value.ownBlock] at he; omega) ?_
      intro v' w5 hO5 hgrow hat
      obtain ⟨A5, c5, rfl, hc5, hR5⟩ := hO5.read (S' := fun b => w.heap.size + 2 ≤ b) (fun b hb => by omega) (fun b hb => by rcases hb with hb | hb; exact hb; exact hb.1)
      clear hat
      have n0 : ∀ k, k < w2.heap.size → some k ≠ Value.ownBlock (.slice (some ⟨w2.heap.size, 0, none⟩) 1 1) := fun k hk => by simp [Value.ownBlock]; omega
      replace q0 := bk_grown q0 hgrow (n0 _ (by omega))
      replace q1 := bk_grown q1 hgrow (n0 _ (by omega))
      replace q3 := bk_grown q3 hgrow (n0 _ (by omega))
      replace r0 := cl_grown r0 hgrow (n0 b (by omega))
      replace r1 := cl_grown r1 hgrow (n0 b (by omega))
      replace r2 := cl_grown r2 hgrow (n0 b (by omega))
      replace r3 := cl_grown r3 hgrow (n0 b (by omega))
      have B5 := bl_grown B hgrow (fun k hk => by simp [Value.ownBlock] at hk; omega)
      refine mixQ_normal (HS.out _ q3 q0 r0 r1 r2 r3) ?_
      simp only [Act.put, List.setIfInBounds_toArray, List.set_cons_zero, List.set_cons_succ]
      repeat (refine wpMix_soft (v := ?_) rfl rfl ?_ ?_; rotate_left; (focus (intro w' hS; go_simp; with_reducible rfl)); simp only [Act.put, List.setIfInBounds_toArray, List.set_cons_zero, List.set_cons_succ])
      refine wpMix_done (cutQ_normal ?_)
      obtain ⟨x0, x1⟩ := bx2 q1
      have z0 := bk_free q1 0
      have z1 := bk_free q1 1
      have He : Hid (eraseT t = .mk y.fam ([x] ++ y.args)) := Lib.hid (by rw [Hpi.out, Hx.out, Hy.out]; rfl)
      go_wp2_with fail
      refine NoPanic.normal ?_
      go_wp2_with fail
      refine bodyPost_ret (res_simple rfl rfl (set2_self q1)) rfl ⟨A5, c5, by rw [He.out]; rfl, by rw [He.out]; exact hc5, ?_, bl_set2 B5 (by omega)⟩
      rw [He.out]
      exact (hR5.set2 (g := w.heap.size + 1) (fun b hb => by omega)).mono (fun b hb _ => .inr (by omega))
  · have He : Hid (eraseT t = .mk ⟨#[116, 121, 112, 101]⟩ []) := Lib.hid (by rw [eraseT_stop (by simp at k1; omega), if_pos (by simpa using k1)])
    obtain ⟨x0, x1⟩ := bx2 q1
    have z0 := bk_free q1 0
    have z1 := bk_free q1 1
    go_enter Tryd.func45, Tryd.ntmps45
    go_wp2_with fail
    refine bodyPost_ret (res_simple rfl rfl (bk_at (w := w.alloc (.cells (tmB t A c) 30)) (n := w.heap.size + 1) (by simp) _)) rfl ⟨none, 0, by rw [He.out]; rfl, by rw [He.out]; exact Nat.le_refl _, by rw [He.out]; exact Rd.nil _ _ _ _, bl_alloc (bl_new w _) _⟩
end Go.Proofs.YtolooomphmcphaaDoor
