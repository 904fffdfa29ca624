/- SimpleTerms, walked. -/
import Derived.Test.YtolooomphmcphaaDoorT10
import Derived.Test.YtolooomphmcphaaDoorT3
import Derived.Test.YtolooomphmcphaaDoorT8
import Derived.Test.YtolooomphmcphaaDoorQ7
namespace Go.Proofs.YtolooomphmcphaaDoor
open Go.RowKit

mutual
theorem obj_ix2 : ∀ t : Tm, objB t = true → ixT 2000000 t
  | .mk k s i a, h => by
    rw [objB] at h
    simp only [Bool.or_eq_true, Bool.and_eq_true, boundB, Tm.idx, beq_iff_eq, decide_eq_true_eq] at h
    rw [ixT]
    rcases h with ((h | h) | h) | h
    · exact ⟨by omega, by omega, objs_ix2 a h.2⟩
    · exact ⟨by omega, by omega, objs_ix2 a h.2⟩
    · exact ⟨by omega, by omega, objs_ix2 a h.2⟩
    · exact ⟨by omega, by omega, objs_ix2 a h.2⟩
theorem objs_ix2 : ∀ a : List Tm, objBs a = true → ixTs 2000000 a
  | [], _ => trivial
  | t :: r, h => by
    rw [objBs, Bool.and_eq_true] at h
    exact ⟨obj_ix2 t h.1, objs_ix2 r h.2⟩
end
theorem SpP.use {P : Program} {f : FuncId} {args : Array Value} {w : World} {S : Nat → Prop} {N : Nat} {R : Ending → World → Prop} (h : Calls P f args w (SpP w S N))
    (k : ∀ w' x A c, x.args.length ≤ c → Rd tmK w' (fun b => S b ∨ w.heap.size ≤ b) A x.args → tsize x ≤ N + 1 → ixT 2000003 x → Below w.heap.size w w' → R (.returned (tmV x A c)) w') : Calls P f args w R :=
  h.mono (by rintro e w' ⟨x, A, c, rfl, hc, hr, hn, hi, hb⟩; exact k w' x A c hc hr hn hi hb)
set_option maxRecDepth 100000 in
set_option maxHeartbeats 2000000 in
theorem simpleTerms_calls (l m : List Int) (A A' : Option Addr) (c c' : Nat) (n0 n1 : Int) (w : World) (S S' : Nat → Prop) (hl : l.length ≤ 9223372036854775807) (hr : Rd intK w S A l) (hl' : m.length ≤ 9223372036854775807) (hr' : Rd intK w S' A' m) (gb go cN : Nat) (hN : Nms w gb go cN) :
    Giv Tryd.prog 5 #[.slice A l.length c, .slice A' m.length c', .agg #[.int .i64 n0, .int .i64 n1]] w (.bool true) := by
  have q5 := bk_alloc (bk_new w (.cells #[.int .i64 n0, .int .i64 n1] 23)) (.cells #[.slice A l.length c, .int .i64 0] 34)
  have B := bl_alloc (bl_new w (.cells #[.int .i64 n0, .int .i64 n1] 23)) (.cells #[.slice A l.length c, .int .i64 0] 34)
  have hT := tape_fresh (w := w.alloc (.cells #[.int .i64 n0, .int .i64 n1] 23)) c hl (hr.below (bl_new w (.cells #[.int .i64 n0, .int .i64 n1] 23)))
  rw [show (w.alloc (.cells #[.int .i64 n0, .int .i64 n1] 23)).heap.size = w.heap.size + 1 by simp] at hT
  have hNl := hN.lt
  have hN1 := hN.below B
  go_enter Tryd.func5, Tryd.ntmps5
  go_wp2_with fail
  refine (mkT_calls 4 4 3 1 _ l _ _ gb go cN (by omega) (by omega) (by omega) (by omega) (by omega) (by omega) (by omega) (by omega) (by omega) hN1 hT).use fun w1 t A1 c1 T1 hc1 hR1 hts hti hT1 hG1 => ?_
  replace q5 := bk_grown q5 hG1 (by simp)
  replace B := bl_newrow B hG1 (by omega)
  have hGw : w.heap.size + 2 ≤ w1.heap.size := by have := hG1.size; simp at this; omega
  have hR1' : Rd tmK w1 (fun b => b ≠ w1.heap.size) A1 t.args := hR1.mono fun b hb hl => by have := hl.lt; omega
  clear hT hT1 hG1 hN1 hN hR1
  have q7 := bk_new w1 (.cells #[.int .i64 t.kind, .string t.name, .int .i64 t.idx, .slice A1 t.args.length c1] 30); replace q5 := bk_alloc q5 (.cells #[.int .i64 t.kind, .string t.name, .int .i64 t.idx, .slice A1 t.args.length c1] 30); replace B := bl_alloc B (.cells #[.int .i64 t.kind, .string t.name, .int .i64 t.idx, .slice A1 t.args.length c1] 30); replace hR1' := hR1'.below (bl_new w1 (.cells #[.int .i64 t.kind, .string t.name, .int .i64 t.idx, .slice A1 t.args.length c1] 30))
  obtain ⟨a0, a1⟩ := bx2 q5
  go_wp2_with fail
  refine (cut_same _ _ _ (by omega) (by omega)).mono ?_
  rintro e w' ⟨rfl, hw⟩
  replace hw := hw.symm
  subst hw
  generalize cutN n0 2 = k0
  have hs2 : w1.heap.size + 1 ≤ (w1.alloc (.cells #[.int .i64 t.kind, .string t.name, .int .i64 t.idx, .slice A1 t.args.length c1] 30)).heap.size := by simp
  generalize w1.alloc (.cells #[.int .i64 t.kind, .string t.name, .int .i64 t.idx, .slice A1 t.args.length c1] 30) = w2 at *
  go_upto_if 21 with (fail)
  go_cut [] (fun wc => ∃ (x : Tm) (A2 : Option Addr) (c2 : Nat), wc.heap[w1.heap.size]? = some (.cells #[.int .i64 x.kind, .string x.name, .int .i64 x.idx, .slice A2 x.args.length c2] 30 (0, 0)) ∧ x.args.length ≤ c2 ∧ Rd tmK wc (fun b => b ≠ w1.heap.size) A2 x.args ∧ tsize x ≤ 1000 ∧ ixT 2000003 x ∧ Below w.heap.size w wc)
  case first =>
    cases hk0 : (k0 == 0)
    · go_wp2_with fail
      go_meet
      exact ⟨t, A1, c1, q7, hc1, hR1', by omega, ixT_mono (by omega) t hti, B⟩
    · go_wp2_with fail
      refine (cut_same _ _ _ (by omega) (by omega)).mono ?_
      rintro e w' ⟨rfl, hw⟩
      replace hw := hw.symm
      subst hw
      obtain ⟨k3, hk3, hk30, hk33⟩ : ∃ k, cutN n1 3 = k ∧ 0 ≤ k ∧ k < 3 := ⟨_, rfl, cutN_nonneg _ (by omega), cutN_lt _ (by omega)⟩
      rw [hk3]
      clear hk3
      have hlaw := law_var m k3 0 hk30 (by omega) (by omega) (by omega)
      have HM := Lib.hid (mkS_calls 3 _ m _ _ (by omega) (tape_fresh (w := w2) c' hl' (hr'.below B)))
      generalize (mkS 3 m) = p at hlaw HM
      obtain ⟨s, T'⟩ := p
      obtain ⟨hss, e1, -, -, e4, -, hxs, -⟩ := hlaw
      simp only at hss e1 e4 hxs HM
      obtain ⟨x, Hx⟩ : ∃ x, Hid (etaT (vr k3) s = x) := ⟨_, Lib.hid rfl⟩
      rw [Hx.out] at e4 hxs
      have hxi : ixT 2000000 x := obj_ix2 x (by simp at e4; exact e4.1.1)
      have E1 := Lib.hid e1
      clear e1 e4
      go_wp2_with fail
      refine HM.out.use fun w4 A4 c4 hc4 hR4 hT4 hG4 => ?_
      replace q5 := bk_grown (bk_alloc q5 (.cells #[.slice A' m.length c', .int .i64 0] 34)) hG4 (by simp; omega)
      replace q7 := bk_grown (bk_alloc q7 (.cells #[.slice A' m.length c', .int .i64 0] 34)) hG4 (by simp; omega)
      replace hR1' := (hR1'.below (bl_new w2 (.cells #[.slice A' m.length c', .int .i64 0] 34))).bound
      replace B := bl_newrow (bl_alloc B (.cells #[.slice A' m.length c', .int .i64 0] 34)) hG4 B.size
      have hs4 : w2.heap.size + 1 ≤ w4.heap.size := by simpa using hG4.size
      clear hT4 hG4 HM hR1'
      go_wp2_with fail
      refine (qEta_calls (vr k3) s none A4 0 c4 w4 (fun _ => False) _ (by simp [tsize, tsizes]) (by omega) ((ixT_eq _ _).2 ⟨by show _ ≤ k3; omega, by show k3 ≤ _; omega, trivial⟩) (Rd.nil _ _ _ _) hR4).use fun w5 A5 c5 hc5 hX hb5 => ?_
      rw [Hx.out] at hc5 hX ⊢
      rw [E1.out]
      have hs5 := hb5.size
      replace q5 := bk_below q5 hb5; replace q7 := bk_below q7 hb5; replace B := bl_self B hb5; clear hb5
      have hX' := hX.below (bl_new w5 (.cells #[.int .i64 x.kind, .string x.name, .int .i64 x.idx, .slice A5 x.args.length c5] 30))
      have q8 := bk_new w5 (.cells #[.int .i64 x.kind, .string x.name, .int .i64 x.idx, .slice A5 x.args.length c5] 30); replace q5 := bk_alloc q5 (.cells #[.int .i64 x.kind, .string x.name, .int .i64 x.idx, .slice A5 x.args.length c5] 30); replace q7 := bk_alloc q7 (.cells #[.int .i64 x.kind, .string x.name, .int .i64 x.idx, .slice A5 x.args.length c5] 30); replace B := bl_alloc B (.cells #[.int .i64 x.kind, .string x.name, .int .i64 x.idx, .slice A5 x.args.length c5] 30)
      clear hX hR4
      replace hX' : Rd tmK (w5.alloc (.cells #[.int .i64 x.kind, .string x.name, .int .i64 x.idx, .slice A5 x.args.length c5] 30)) (fun b => b ≠ w1.heap.size) A5 x.args := hX'.mono fun b hb _ => by rcases hb with hb | hb; exact hb.elim; omega
      have hsA : w1.heap.size + 1 ≤ w5.heap.size := by omega
      replace hsA := Lib.hid hsA
      clear hs2 hs4 hs5
      obtain ⟨d0, d1, d2, d3⟩ := bx4 q8
      obtain ⟨x0, x1, x2, x3⟩ := bx4 q7
      have z0 := bk_free q7 0
      have z1 := bk_free q7 1
      have z2 := bk_free q7 2
      have z3 := bk_free q7 3
      go_upto_region 6 with (fail)
      clear d0 d1 d2 d3 x0 x1 x2 x3 z0 z1 z2 z3
      have r5 := (set4_far (g := w1.heap.size) (v0 := .int .i64 x.kind) (v1 := .string x.name) (v2 := .int .i64 x.idx) (v3 := .slice A5 x.args.length c5) (by omega)).trans q5
      have r7 := set4_self (v0 := .int .i64 x.kind) (v1 := .string x.name) (v2 := .int .i64 x.idx) (v3 := .slice A5 x.args.length c5) q7
      have rX := hX'.set4 (g := w1.heap.size) (v0 := .int .i64 x.kind) (v1 := .string x.name) (v2 := .int .i64 x.idx) (v3 := .slice A5 x.args.length c5) (fun b hb => hb)
      have rB := bl_set4 (g := w1.heap.size) (v0 := .int .i64 x.kind) (v1 := .string x.name) (v2 := .int .i64 x.idx) (v3 := .slice A5 x.args.length c5) B (by omega)
      obtain ⟨a0, a1⟩ := bx2 r5
      go_wp2_with fail
      refine (cut_same _ _ _ (by omega) (by omega)).mono ?_
      rintro e w' ⟨rfl, hw⟩
      replace hw := hw.symm
      subst hw
      generalize cutN n0 4 = k4
      cases hk4 : (k4 == 0)
      · go_wp2_with fail
        go_meet
        exact ⟨x, A5, c5, r7, hc5, rX, by omega, ixT_mono (by omega) x hxi, rB⟩
      · obtain ⟨d0, d1, d2, d3⟩ := bx4 r7
        have hlt := bk_lt r7
        go_wp2_with fail
        refine SpP.use (spoil_calls (tsize x + 1) x _ _ A5 c5 _ _ (by omega) (by omega) hxi hc5 rX) fun w7 y A7 c7 hc7 hY hys hyi hb7 => ?_
        have p7 := bk_below r7 hb7
        have pB := bl_self rB hb7
        clear d0 d1 d2 d3
        replace hY : Rd tmK w7 (fun b => b ≠ w1.heap.size) A7 y.args := hY.mono fun b hb _ => by rcases hb with hb | hb; exact hb; exact fun he => absurd (Nat.lt_of_lt_of_le hlt hb) (by rw [he]; exact Nat.lt_irrefl _)
        obtain ⟨d0, d1, d2, d3⟩ := bx4 p7
        have z0 := bk_free p7 0
        have z1 := bk_free p7 1
        have z2 := bk_free p7 2
        have z3 := bk_free p7 3
        go_wp2_with fail
        go_meet
        exact ⟨y, A7, c7, set4_self p7, hc7, hY.set4 (fun b hb => hb), by omega, hyi, bl_set4 pB (by omega)⟩
  case rest =>
  clear q5 q7 hR1' B a0 a1 hs2 hti hts
  obtain ⟨x, A2, c2, q7, hc2, hR, hxs, hxi, B⟩ := hcut
  obtain ⟨v, HV⟩ : ∃ v, Hid (varI (variT x) = v) := ⟨_, Lib.hid rfl⟩
  obtain ⟨b, HB⟩ : ∃ b, Hid ((variT x).isSome = b) := ⟨_, Lib.hid rfl⟩
  have hvv : (v == v) = true := by simp
  have hbb : (b == b) = true := by simp
  obtain ⟨d0, d1, d2, d3⟩ := bx4 q7
  go_wp2_with fail
  refine (variable2_calls x A2 c2 _ _ (by omega) hR).use fun w3 hb3 => ?_
  rw [HV.out, HB.out]
  clear d0 d1 d2 d3
  replace q7 := bk_below q7 hb3; replace B := bl_self B hb3; replace hR := hR.below hb3; clear hb3
  obtain ⟨d0, d1, d2, d3⟩ := bx4 q7
  go_wp2_with fail
  refine (qVariable_calls x A2 c2 _ _ (by omega) hR).use fun w4 hb4 => ?_
  rw [HV.out, HB.out]
  clear d0 d1 d2 d3
  replace B := bl_self B hb4; clear hb4
  go_wp2_with fail
  refine (awake_calls _).use fun w5 hb5 => ?_
  replace B := bl_self B hb5; clear hb5
  go_wp2_with fail
  go_ret
  exact ⟨rfl, B⟩
end Go.Proofs.YtolooomphmcphaaDoor
