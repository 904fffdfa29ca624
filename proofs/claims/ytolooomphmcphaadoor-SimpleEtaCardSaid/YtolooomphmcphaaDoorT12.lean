/- SimpleEta, walked. -/
import Derived.Test.YtolooomphmcphaaDoorT11
namespace Go.Proofs.YtolooomphmcphaaDoor
open Go.RowKit

theorem etaT_size (h : Tm) (s : Sm) : tsize (etaT h s) ≤ tsize h + 2 * ssize s + 1 := by
  rw [etaT]
  split
  · rw [expandT_size]
    have := xsz_le s
    have h1 := tsize_eq (shiftT s.args.length 0 h)
    have h2 : tsize (shiftT s.args.length 0 h) ≤ tsize h + 1 := by
      rw [shiftT]
      split
      · split
        · rw [mv_size]; omega
        · simp [tsize, tsizes]
      · simp [tsize, tsizes]
    omega
  · simp [tsize, tsizes]
set_option maxRecDepth 100000 in
set_option maxHeartbeats 2000000 in
theorem simpleEta_calls (l m : List Int) (A A' : Option Addr) (c c' : Nat) (n0 n1 k0 k1 : Int) (w : World) (S S' : Nat → Prop) (hl : l.length ≤ 9223372036854775807) (hr : Rd intK w S A l) (hl' : m.length ≤ 9223372036854775807) (hr' : Rd intK w S' A' m) (gb go cN : Nat) (hN : Nms w gb go cN) :
    Giv Tryd.prog 4 #[.slice A l.length c, .agg #[.int .i64 n0, .int .i64 n1], .slice A' m.length c', .agg #[.int .i64 k0, .int .i64 k1]] w (.bool true) := by
  have q5 := bk_alloc (bk_new w (.cells #[.int .i64 n0, .int .i64 n1] 23)) (.cells #[.int .i64 k0, .int .i64 k1] 23)
  have q6 := bk_at (w := w.alloc (.cells #[.int .i64 n0, .int .i64 n1] 23)) (n := w.heap.size + 1) (by simp) (.cells #[.int .i64 k0, .int .i64 k1] 23)
  have B := bl_alloc (bl_new w (.cells #[.int .i64 n0, .int .i64 n1] 23)) (.cells #[.int .i64 k0, .int .i64 k1] 23)
  have hsz : w.heap.size + 2 ≤ ((w.alloc (.cells #[.int .i64 n0, .int .i64 n1] 23)).alloc (.cells #[.int .i64 k0, .int .i64 k1] 23)).heap.size := by simp
  have hNl := hN.lt
  obtain ⟨a0, a1⟩ := bx2 q5
  go_enter Tryd.func4, Tryd.ntmps4
  go_wp2_with fail
  refine SpS.use (spoilt_calls l A c n0 n1 _ S hl (hr.below B)) fun w1 s A1 c1 hc1 hR1 hss hb1 => ?_
  clear a0 a1
  replace hR1 := hR1.mono (S' := fun b => b < w1.heap.size) (fun b _ hl => hl.lt)
  have hsz1 := Nat.le_trans hsz hb1.size
  replace q5 := bk_below q5 hb1; replace q6 := bk_below q6 hb1; replace B := bl_self B hb1; replace hsz := Nat.le_trans hsz hb1.size; clear hb1
  clear q5
  have q9 := bk_new w1 (.cells #[.string s.fam, .slice A1 s.args.length c1] 26); replace q6 := bk_alloc q6 (.cells #[.string s.fam, .slice A1 s.args.length c1] 26); replace B := bl_alloc B (.cells #[.string s.fam, .slice A1 s.args.length c1] 26); replace hsz := Nat.le_trans hsz (bl_new w1 (.cells #[.string s.fam, .slice A1 s.args.length c1] 26)).size; replace hR1 := hR1.below (bl_new w1 (.cells #[.string s.fam, .slice A1 s.args.length c1] 26))
  have hTT := tape_fresh (w := w1.alloc (.cells #[.string s.fam, .slice A1 s.args.length c1] 26)) c' hl' (hr'.below B)
  rw [show (w1.alloc (.cells #[.string s.fam, .slice A1 s.args.length c1] 26)).heap.size = w1.heap.size + 1 by simp] at hTT
  have hw1 := bk_lt q9
  have hw1' := B.size
  have hsG : w.heap.size + 2 ≤ w1.heap.size := hsz1
  go_wp2_with fail
  refine (mkA_calls 2 3 1 _ m _ _ gb go cN (by omega) (by omega) (by omega) (by omega) (by omega) (by omega) (by omega) (by have := hNl.2; omega) ((hN.below B).below (bl_new _ _)) hTT).use fun w2 t A2 c2 T1 hc2 hR2 hts hti hT1 hG1 => ?_
  replace q6 := bk_grown (bk_alloc q6 (.cells #[.slice A' m.length c', .int .i64 0] 34)) hG1 (by simp; omega)
  replace q9 := bk_grown (bk_alloc q9 (.cells #[.slice A' m.length c', .int .i64 0] 34)) hG1 (by simp)
  replace hR1 := (hR1.below (bl_new _ (.cells #[.slice A' m.length c', .int .i64 0] 34))).grown hG1 (fun b hb => by omega)
  replace B := bl_newrow (bl_alloc B (.cells #[.slice A' m.length c', .int .i64 0] 34)) hG1 (by omega)
  have hs2 : w1.heap.size + 1 ≤ w2.heap.size := by have := hG1.size; simp at this; omega
  replace hR2 := hR2.mono (S' := fun b => b ≠ w2.heap.size) (fun b _ hl => by have := hl.lt; omega)
  clear hTT hT1 hG1 hw1 hw1' hsz1
  have q10 := bk_new w2 (.cells #[.int .i64 t.kind, .string t.name, .int .i64 t.idx, .slice A2 t.args.length c2] 30); replace q6 := bk_alloc q6 (.cells #[.int .i64 t.kind, .string t.name, .int .i64 t.idx, .slice A2 t.args.length c2] 30); replace q9 := bk_alloc q9 (.cells #[.int .i64 t.kind, .string t.name, .int .i64 t.idx, .slice A2 t.args.length c2] 30); replace B := bl_alloc B (.cells #[.int .i64 t.kind, .string t.name, .int .i64 t.idx, .slice A2 t.args.length c2] 30); replace hR1 := hR1.below (bl_new w2 (.cells #[.int .i64 t.kind, .string t.name, .int .i64 t.idx, .slice A2 t.args.length c2] 30)); replace hR2 := hR2.below (bl_new w2 (.cells #[.int .i64 t.kind, .string t.name, .int .i64 t.idx, .slice A2 t.args.length c2] 30))
  obtain ⟨a0, a1⟩ := bx2 q6
  go_wp2_with fail
  refine (cut_same _ _ _ (by omega) (by omega)).mono ?_
  rintro e w' ⟨rfl, hw⟩
  replace hw := hw.symm
  subst hw
  generalize cutN k0 5 = kk
  generalize w2.alloc (.cells #[.int .i64 t.kind, .string t.name, .int .i64 t.idx, .slice A2 t.args.length c2] 30) = w3 at *
  replace hs2 := Lib.hid hs2
  go_upto_if 25 with (fail)
  go_cut [] (fun wc => ∃ (x : Tm) (Ax : Option Addr) (cx : Nat), wc.heap[w2.heap.size]? = some (.cells #[.int .i64 x.kind, .string x.name, .int .i64 x.idx, .slice Ax x.args.length cx] 30 (0, 0)) ∧ x.args.length ≤ cx ∧ Rd tmK wc (fun b => b ≠ w2.heap.size) Ax x.args ∧ tsize x ≤ 1000 ∧ ixT 2000003 x ∧ wc.heap[w1.heap.size]? = some (.cells #[.string s.fam, .slice A1 s.args.length c1] 26 (0, 0)) ∧ Rd smK wc (fun b => b < w1.heap.size) A1 s.args ∧ Below w.heap.size w wc)
  case first =>
    cases hkk : (kk == 1)
    · go_wp2_with fail
      go_meet
      exact ⟨t, A2, c2, q10, hc2, hR2, by omega, ixT_mono (by omega) t hti, q9, hR1, B⟩
    · obtain ⟨d0, d1, d2, d3⟩ := bx4 q10
      have hlt := bk_lt q10
      go_wp2_with fail
      refine SpP.use (spoil_calls (tsize t + 1) t _ _ A2 c2 _ _ (by omega) (by omega) hti hc2 hR2) fun w7 y A7 c7 hc7 hY hys hyi hb7 => ?_
      have p10 := bk_below q10 hb7
      have p9 := bk_below q9 hb7
      have pB := bl_self B hb7
      have pR := hR1.below hb7
      clear d0 d1 d2 d3
      replace hY : Rd tmK w7 (fun b => b ≠ w2.heap.size) A7 y.args := hY.mono fun b hb _ => by rcases hb with hb | hb; exact hb; exact fun he => absurd (Nat.lt_of_lt_of_le hlt hb) (by rw [he]; exact Nat.lt_irrefl _)
      obtain ⟨d0, d1, d2, d3⟩ := bx4 p10
      have z0 := bk_free p10 0
      have z1 := bk_free p10 1
      have z2 := bk_free p10 2
      have z3 := bk_free p10 3
      have hwl := hs2.out
      replace hwl : Hid (w1.heap.size ≠ w2.heap.size) := Lib.hid (by omega)
      have hwk : Hid (∀ b, b < w1.heap.size → b ≠ w2.heap.size) := Lib.hid (fun b hb => by have := hs2.out; omega)
      have hwm : Hid (w.heap.size ≤ w2.heap.size) := Lib.hid (by have := hs2.out; omega)
      go_wp2_with fail
      go_meet
      exact ⟨y, A7, c7, set4_self p10, hc7, hY.set4 (fun b hb => hb), by omega, hyi, (set4_far hwl.out).trans p9, pR.set4 hwk.out, bl_set4 pB hwm.out⟩
  case rest =>
  clear q6 q9 q10 hR1 hR2 B a0 a1 hti hts
  obtain ⟨x, Ax, cx, q10, hcx, hR2, hxs, hxi, q9, hR1, B⟩ := hcut
  obtain ⟨e, HE⟩ : ∃ e, Hid (etaE x s = e) := ⟨_, Lib.hid rfl⟩
  have hys := etaT_size x s
  obtain ⟨y, HY⟩ : ∃ y, Hid (etaT x s = y) := ⟨_, Lib.hid rfl⟩
  rw [HY.out] at hys
  have hee : (e == e) = true := by simp
  obtain ⟨d0, d1, d2, d3⟩ := bx4 q10
  obtain ⟨b0, b1⟩ := bx2 q9
  go_wp2_with fail
  refine (eta_calls x s Ax A1 cx c1 _ _ _ (by omega) (by omega) (ixT_mono (by omega) x hxi) hcx hR2 hR1).use fun w4 A4 c4 hc4 hX hb4 => ?_
  rw [HY.out] at hc4 hX ⊢
  rw [HE.out]
  clear d0 d1 d2 d3 b0 b1
  replace hX := hX.mono (S' := fun _ => True) (fun _ _ _ => trivial)
  replace q10 := bk_below q10 hb4; replace q9 := bk_below q9 hb4; replace B := bl_self B hb4; replace hR1 := hR1.below hb4; replace hR2 := hR2.below hb4; clear hb4
  have q11 := bk_new w4 (.cells #[.int .i64 y.kind, .string y.name, .int .i64 y.idx, .slice A4 y.args.length c4] 30); replace q10 := bk_alloc q10 (.cells #[.int .i64 y.kind, .string y.name, .int .i64 y.idx, .slice A4 y.args.length c4] 30); replace q9 := bk_alloc q9 (.cells #[.int .i64 y.kind, .string y.name, .int .i64 y.idx, .slice A4 y.args.length c4] 30); replace B := bl_alloc B (.cells #[.int .i64 y.kind, .string y.name, .int .i64 y.idx, .slice A4 y.args.length c4] 30); replace hR1 := hR1.below (bl_new w4 (.cells #[.int .i64 y.kind, .string y.name, .int .i64 y.idx, .slice A4 y.args.length c4] 30)); replace hR2 := hR2.below (bl_new w4 (.cells #[.int .i64 y.kind, .string y.name, .int .i64 y.idx, .slice A4 y.args.length c4] 30)); replace hX := hX.below (bl_new w4 (.cells #[.int .i64 y.kind, .string y.name, .int .i64 y.idx, .slice A4 y.args.length c4] 30))
  obtain ⟨d0, d1, d2, d3⟩ := bx4 q10
  obtain ⟨b0, b1⟩ := bx2 q9
  go_wp2_with fail
  refine (qEta_calls x s Ax A1 cx c1 _ _ _ (by omega) (by omega) (ixT_mono (by omega) x hxi) hR2 hR1).use fun w5 A5 c5 hc5 hX2 hb5 => ?_
  rw [HY.out] at hc5 hX2 ⊢
  rw [HE.out]
  clear d0 d1 d2 d3 b0 b1
  replace hX2 := hX2.mono (S' := fun _ => True) (fun _ _ _ => trivial)
  replace q11 := bk_below q11 hb5; replace B := bl_self B hb5; replace hX := hX.below hb5; clear hb5
  have q13 := bk_new w5 (.cells #[.int .i64 y.kind, .string y.name, .int .i64 y.idx, .slice A5 y.args.length c5] 30); replace q11 := bk_alloc q11 (.cells #[.int .i64 y.kind, .string y.name, .int .i64 y.idx, .slice A5 y.args.length c5] 30); replace B := bl_alloc B (.cells #[.int .i64 y.kind, .string y.name, .int .i64 y.idx, .slice A5 y.args.length c5] 30); replace hX := hX.below (bl_new w5 (.cells #[.int .i64 y.kind, .string y.name, .int .i64 y.idx, .slice A5 y.args.length c5] 30)); replace hX2 := hX2.below (bl_new w5 (.cells #[.int .i64 y.kind, .string y.name, .int .i64 y.idx, .slice A5 y.args.length c5] 30))
  obtain ⟨d0, d1, d2, d3⟩ := bx4 q11
  obtain ⟨b0, b1, b2, b3⟩ := bx4 q13
  go_wp2_with fail
  refine (refSame_calls (tsize y + 1) y y A4 A5 c4 c5 _ (fun _ => True) (by omega) (by omega) (by omega) hX hX2).use fun w8 hb8 => ?_
  rw [sameT_refl y]
  clear d0 d1 d2 d3 b0 b1 b2 b3
  replace B := bl_self B hb8; clear hb8
  go_wp2_with fail
  refine (awake_calls _).use fun w9 hb9 => ?_
  replace B := bl_self B hb9; clear hb9
  go_wp2_with fail
  go_ret
  exact ⟨rfl, B⟩
end Go.Proofs.YtolooomphmcphaaDoor
