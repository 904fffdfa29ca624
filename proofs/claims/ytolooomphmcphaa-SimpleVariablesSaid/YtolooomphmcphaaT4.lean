/- SimpleVariables, walked. -/
import Derived.Test.YtolooomphmcphaaL1
import Derived.Test.YtolooomphmcphaaT3
import Derived.Test.YtolooomphmcphaaK6
namespace Go.Proofs.Ytolooomphmcphaa
open Go.RowKit

theorem tape_new {w : World} {S : Nat → Prop} {A : Option Addr} {l : List Int} (c : Nat) (hl : l.length ≤ 9223372036854775807) (hr : Rd intK w S A l) :
    Tape (w.alloc (.cells #[.slice A l.length c, .int .i64 0] 29)) w.heap.size (fun b => S b ∧ b < w.heap.size) l :=
  ⟨fun h => absurd h.2 (by omega), A, c, l, 0, bk_new w _, Nat.zero_le _, hl, rfl, (hr.bound.below (bl_new w _)).mono fun b hb _ => ⟨hb.1, hb.2.lt⟩⟩
theorem gr_newrow {w w1 w2 : World} {g : Nat} (h : Below w.heap.size w w1) (k : w1.grownBy w2 (some g)) (hg : w.heap.size ≤ g) : Below w.heap.size w w2 := bl_grown h k (fun b hb => by cases hb; exact hg)
set_option maxRecDepth 100000 in
set_option maxHeartbeats 4000000 in
theorem simpleVariables_calls (l : List Int) (A : Option Addr) (c : Nat) (i b : Int) (w : World) (S : Nat → Prop) (hl : l.length ≤ 9223372036854775807) (hr : Rd intK w S A l) :
    Giv Try.prog 3 #[.slice A l.length c, .int .i64 i, .int .i64 b] w (.bool true) := by
  have hT := tape_new c hl hr
  have B := bl_new w (.cells #[.slice A l.length c, .int .i64 0] 29)
  have hv0 := cutN_nonneg i (n := 50) (by omega)
  have hv := cutN_lt i (n := 50) (by omega)
  have hn0 := cutN_nonneg b (n := 50) (by omega)
  have hn := cutN_lt b (n := 50) (by omega)
  have hL := law_var l (cutN i 50) (cutN b 50) hv0 hv hn0 hn
  obtain ⟨s, Hs⟩ : ∃ s, Hid ((mkS 3 l).1 = s) := ⟨_, Lib.hid rfl⟩
  rw [Hs.out] at hL
  obtain ⟨v, Hv⟩ : ∃ v, Hid (cutN i 50 = v) := ⟨_, Lib.hid rfl⟩
  obtain ⟨n, Hn⟩ : ∃ n, Hid (cutN b 50 = n) := ⟨_, Lib.hid rfl⟩
  rw [Hv.out] at hL hv0 hv
  rw [Hn.out] at hL hn0 hn
  obtain ⟨hs, e1, e2, e3, e4, e5, z1, z2⟩ := hL
  obtain ⟨x, Hx⟩ : ∃ x, Hid (etaT (vr v) s = x) := ⟨_, Lib.hid rfl⟩
  obtain ⟨y, Hy⟩ : ∃ y, Hid (etaT (vr (v + n)) s = y) := ⟨_, Lib.hid rfl⟩
  rw [Hx.out] at e3 e4 e5 z1
  rw [Hy.out] at e5 z2
  have hxi : ixT 1000000000000 x := obj_ix x (by simp at e4; exact e4.1.1)
  have E1 := Lib.hid e1
  have E2 := Lib.hid e2
  have E3 := Lib.hid e3
  have E4 := Lib.hid e4
  have E5 := Lib.hid e5
  clear e1 e2 e3 e4 e5
  have HM := Lib.hid (mkS_calls 3 _ l _ _ (by omega) hT)
  clear hT
  have hvn : IntKind.i64.wrap (v + n) = v + n := IntWalk.i64_in _ ⟨by omega, by omega⟩
  go_enter Try.func3, Try.ntmps3
  go_wp2_with fail
  refine HM.out.use fun w1 A1 c1 hc1 hR1 hT1 hG1 => ?_
  rw [Hs.out] at hc1 hR1 ⊢
  replace B := gr_newrow B hG1 (Nat.le_refl _)
  clear hT1 hG1 HM
  have hR1' := hR1.below (bl_new w1 (.cells #[.string s.fam, .slice A1 s.args.length c1] 25))
  have q1 := bk_new w1 (.cells #[.string s.fam, .slice A1 s.args.length c1] 25); replace B := bl_alloc B (.cells #[.string s.fam, .slice A1 s.args.length c1] 25)
  go_wp2_with fail
  refine (cut_same i 50 _ (by omega) (by omega)).mono ?_
  rintro e w2 ⟨rfl, rfl⟩
  rw [Hv.out]
  go_wp2_with fail
  refine (cut_same b 50 _ (by omega) (by omega)).mono ?_
  rintro e w2 ⟨rfl, rfl⟩
  rw [Hn.out]
  obtain ⟨d0, d1⟩ := bx2 q1
  go_wp2_with fail
  refine (eta_calls (vr v) s none A1 0 c1 _ (fun _ => False) _ (by simp [tsize, tsizes]) (by omega) ((ixT_eq _ _).2 ⟨by show _ ≤ v; omega, by show v ≤ _; omega, trivial⟩) (Nat.le_refl _) (Rd.nil _ _ _ _) hR1').use fun w3 A3 c3 hc3 hX hb3 => ?_
  rw [Hx.out] at hc3 hX ⊢
  rw [E1.out]
  clear d0 d1
  replace q1 := bk_below q1 hb3; replace B := bl_self B hb3; replace hR1' := hR1'.below hb3; clear hb3
  have hX' := hX.below (bl_new w3 (.cells #[.int .i64 x.kind, .string x.name, .int .i64 x.idx, .slice A3 x.args.length c3] 33))
  have q3 := bk_new w3 (.cells #[.int .i64 x.kind, .string x.name, .int .i64 x.idx, .slice A3 x.args.length c3] 33); replace q1 := bk_alloc q1 (.cells #[.int .i64 x.kind, .string x.name, .int .i64 x.idx, .slice A3 x.args.length c3] 33); replace B := bl_alloc B (.cells #[.int .i64 x.kind, .string x.name, .int .i64 x.idx, .slice A3 x.args.length c3] 33); replace hR1' := hR1'.below (bl_new w3 (.cells #[.int .i64 x.kind, .string x.name, .int .i64 x.idx, .slice A3 x.args.length c3] 33))
  obtain ⟨d0, d1⟩ := bx2 q1
  go_wp2_with fail
  refine (eta_calls (vr (v + n)) s none A1 0 c1 _ (fun _ => False) _ (by simp [tsize, tsizes]) (by omega) ((ixT_eq _ _).2 ⟨by show _ ≤ v + n; omega, by show v + n ≤ _; omega, trivial⟩) (Nat.le_refl _) (Rd.nil _ _ _ _) hR1').use fun w4 A4 c4 hc4 hY hb4 => ?_
  rw [Hy.out] at hc4 hY ⊢
  rw [E2.out]
  clear d0 d1
  replace q1 := bk_below q1 hb4; replace q3 := bk_below q3 hb4; replace B := bl_self B hb4; replace hR1' := hR1'.below hb4; replace hX' := hX'.below hb4; clear hb4
  have hY' := hY.below (bl_new w4 (.cells #[.int .i64 y.kind, .string y.name, .int .i64 y.idx, .slice A4 y.args.length c4] 33))
  have q4 := bk_new w4 (.cells #[.int .i64 y.kind, .string y.name, .int .i64 y.idx, .slice A4 y.args.length c4] 33); replace q1 := bk_alloc q1 (.cells #[.int .i64 y.kind, .string y.name, .int .i64 y.idx, .slice A4 y.args.length c4] 33); replace q3 := bk_alloc q3 (.cells #[.int .i64 y.kind, .string y.name, .int .i64 y.idx, .slice A4 y.args.length c4] 33); replace B := bl_alloc B (.cells #[.int .i64 y.kind, .string y.name, .int .i64 y.idx, .slice A4 y.args.length c4] 33); replace hR1' := hR1'.below (bl_new w4 (.cells #[.int .i64 y.kind, .string y.name, .int .i64 y.idx, .slice A4 y.args.length c4] 33)); replace hX' := hX'.below (bl_new w4 (.cells #[.int .i64 y.kind, .string y.name, .int .i64 y.idx, .slice A4 y.args.length c4] 33))
  obtain ⟨x0, x1, x2, x3⟩ := bx4 q3
  go_wp2_with fail
  refine (variable2_calls x A3 c3 _ _ (by omega) hX').use fun w5 hb5 => ?_
  rw [E3.out, show varI (some v) = v from rfl]
  clear x0 x1 x2 x3
  replace q1 := bk_below q1 hb5; replace q3 := bk_below q3 hb5; replace q4 := bk_below q4 hb5; replace B := bl_self B hb5; replace hR1' := hR1'.below hb5; replace hX' := hX'.below hb5; replace hY' := hY'.below hb5; clear hb5
  go_wp2_with fail
  have hvv : (v == v) = true := by simp
  have HS : ∀ w' : World, w'.heap[w1.heap.size]? = some (.cells #[.string s.fam, .slice A1 s.args.length c1] 25 (0, 0)) → w'.heap[w3.heap.size]? = some (.cells #[.int .i64 x.kind, .string x.name, .int .i64 x.idx, .slice A3 x.args.length c3] 33 (0, 0)) →
      w'.heap[w4.heap.size]? = some (.cells #[.int .i64 y.kind, .string y.name, .int .i64 y.idx, .slice A4 y.args.length c4] 33 (0, 0)) →
      (w'.cell? ⟨w1.heap.size, 0, none⟩ = some (.string s.fam) ∧ w'.cell? ⟨w1.heap.size, 1, none⟩ = some (.slice A1 s.args.length c1)) ∧
      (w'.cell? ⟨w3.heap.size, 0, none⟩ = some (.int .i64 x.kind) ∧ w'.cell? ⟨w3.heap.size, 1, none⟩ = some (.string x.name) ∧ w'.cell? ⟨w3.heap.size, 2, none⟩ = some (.int .i64 x.idx) ∧ w'.cell? ⟨w3.heap.size, 3, none⟩ = some (.slice A3 x.args.length c3)) ∧
      (w'.cell? ⟨w4.heap.size, 0, none⟩ = some (.int .i64 y.kind) ∧ w'.cell? ⟨w4.heap.size, 1, none⟩ = some (.string y.name) ∧ w'.cell? ⟨w4.heap.size, 2, none⟩ = some (.int .i64 y.idx) ∧ w'.cell? ⟨w4.heap.size, 3, none⟩ = some (.slice A4 y.args.length c4)) :=
    fun w' h1 h3 h4 => ⟨bx2 h1, bx4 h3, bx4 h4⟩
  replace HS := Lib.hid HS
  refine wp_region_mg (fun w' : World => (w'.cell? ⟨w1.heap.size, 0, none⟩ = some (.string s.fam) ∧ w'.cell? ⟨w1.heap.size, 1, none⟩ = some (.slice A1 s.args.length c1)) ∧
      (w'.cell? ⟨w3.heap.size, 0, none⟩ = some (.int .i64 x.kind) ∧ w'.cell? ⟨w3.heap.size, 1, none⟩ = some (.string x.name) ∧ w'.cell? ⟨w3.heap.size, 2, none⟩ = some (.int .i64 x.idx) ∧ w'.cell? ⟨w3.heap.size, 3, none⟩ = some (.slice A3 x.args.length c3)) ∧
      (w'.cell? ⟨w4.heap.size, 0, none⟩ = some (.int .i64 y.kind) ∧ w'.cell? ⟨w4.heap.size, 1, none⟩ = some (.string y.name) ∧ w'.cell? ⟨w4.heap.size, 2, none⟩ = some (.int .i64 y.idx) ∧ w'.cell? ⟨w4.heap.size, 3, none⟩ = some (.slice A4 y.args.length c4)))
    [(true, 0), (true, 1), (true, 2), (true, 3), (true, 4), (true, 5), (true, 6), (true, 7), (true, 8), (true, 9), (true, 10), (true, 11), (true, 12), (true, 13), (true, 14), (true, 15), (true, 16), (false, 17), (true, 18), (true, 19), (true, 20), (true, 21), (true, 23), (false, 22), (false, 24), (true, 25), (true, 26), (false, 27), (true, 28), (true, 29)]
    (by kernel_rfl) (by kernel_rfl) (HS.out _ q1 q3 q4) ?_
  repeat (first | (refine wpMg_soft (v := ?_) rfl rfl ?_ ?_; rotate_left; (focus (intro w' hS; go_simp; with_reducible rfl)); simp only [Act.put, List.setIfInBounds_toArray, List.set_cons_zero, List.set_cons_succ]) | (refine wpMg_off rfl rfl ?_; simp only [Act.put, List.setIfInBounds_toArray, List.set_cons_zero, List.set_cons_succ]))
  refine wpMg_hard rfl rfl ?_
  simp only [bare]
  go_wp2_with fail
  refine (fits_calls x s A3 A1 c3 c1 _ _ (fun _ => True) (by omega) (by omega) (Rd.drew hX')).use fun w6 hb6 => ?_
  rw [E4.out]
  replace hb6 := bl_undrew hb6
  replace q1 := bk_below q1 hb6; replace q3 := bk_below q3 hb6; replace q4 := bk_below q4 hb6; replace B := bl_self B hb6; replace hR1' := hR1'.below hb6; replace hX' := hX'.below hb6; replace hY' := hY'.below hb6; clear hb6
  go_wp2_with fail
  refine mgQ_normal (HS.out _ q1 q3 q4) ?_
  repeat (first | (refine wpMg_soft (v := ?_) rfl rfl ?_ ?_; rotate_left; (focus (intro w' hS; go_simp; with_reducible rfl)); simp only [Act.put, List.setIfInBounds_toArray, List.set_cons_zero, List.set_cons_succ]) | (refine wpMg_off rfl rfl ?_; simp only [Act.put, List.setIfInBounds_toArray, List.set_cons_zero, List.set_cons_succ]))
  -- Move
  refine wpMg_hard rfl rfl ?_
  simp only [bare]
  go_wp2_with fail
  refine (refMove_calls (tsize x + 1) x A3 c3 n 0 _ _ (by omega) (by omega) hxi hn0 (by omega) (by omega) (by omega) hX').use fun w7 A7 c7 hc7 hZ hb7 => ?_
  obtain ⟨z, Hz⟩ : ∃ z, Hid (mv n 0 x = z) := ⟨_, Lib.hid rfl⟩
  rw [Hz.out] at hc7 hZ ⊢
  have hzs : tsize z < 1000000000 := by rw [← Hz.out, mv_size]; omega
  replace q1 := bk_below q1 hb7; replace q3 := bk_below q3 hb7; replace q4 := bk_below q4 hb7; replace B := bl_self B hb7; replace hR1' := hR1'.below hb7; replace hX' := hX'.below hb7; replace hY' := hY'.below hb7; clear hb7
  go_wp2_with fail
  refine mgQ_normal (HS.out _ q1 q3 q4) ?_
  repeat (first | (refine wpMg_soft (v := ?_) rfl rfl ?_ ?_; rotate_left; (focus (intro w' hS; go_simp; with_reducible rfl)); simp only [Act.put, List.setIfInBounds_toArray, List.set_cons_zero, List.set_cons_succ]) | (refine wpMg_off rfl rfl ?_; simp only [Act.put, List.setIfInBounds_toArray, List.set_cons_zero, List.set_cons_succ]))
  -- Same
  refine wpMg_hard rfl rfl ?_
  simp only [bare]
  go_wp2_with fail
  refine (refSame_calls (tsize z + 1) z y A7 A4 c7 c4 _ (fun _ => True) (by omega) (by omega) (by omega) (hZ.mono fun _ _ _ => trivial) (hY'.mono fun _ _ _ => trivial)).use fun w8 hb8 => ?_
  rw [show sameT z y = true by rw [← Hz.out, E5.out]]
  clear hZ
  replace q1 := bk_below q1 hb8; replace q3 := bk_below q3 hb8; replace q4 := bk_below q4 hb8; replace B := bl_self B hb8; replace hR1' := hR1'.below hb8; replace hX' := hX'.below hb8; replace hY' := hY'.below hb8; clear hb8
  go_wp2_with fail
  refine mgQ_normal (HS.out _ q1 q3 q4) ?_
  repeat (first | (refine wpMg_soft (v := ?_) rfl rfl ?_ ?_; rotate_left; (focus (intro w' hS; go_simp; with_reducible rfl)); simp only [Act.put, List.setIfInBounds_toArray, List.set_cons_zero, List.set_cons_succ]) | (refine wpMg_off rfl rfl ?_; simp only [Act.put, List.setIfInBounds_toArray, List.set_cons_zero, List.set_cons_succ]))
  refine wpMg_hard rfl rfl ?_
  simp only [bare]
  go_wp2_with fail
  refine (awake_calls _).use fun w9 hb9 => ?_
  replace q1 := bk_below q1 hb9; replace q3 := bk_below q3 hb9; replace q4 := bk_below q4 hb9; replace B := bl_self B hb9; clear hb9
  go_wp2_with fail
  refine mgQ_normal (HS.out _ q1 q3 q4) ?_
  repeat (first | (refine wpMg_soft (v := ?_) rfl rfl ?_ ?_; rotate_left; (focus (intro w' hS; go_simp; with_reducible rfl)); simp only [Act.put, List.setIfInBounds_toArray, List.set_cons_zero, List.set_cons_succ]) | (refine wpMg_off rfl rfl ?_; simp only [Act.put, List.setIfInBounds_toArray, List.set_cons_zero, List.set_cons_succ]))
  refine wpMg_done (NoPanic.normal ?_)
  go_wp2_with fail
  go_ret
  exact ⟨rfl, B⟩
end Go.Proofs.Ytolooomphmcphaa
