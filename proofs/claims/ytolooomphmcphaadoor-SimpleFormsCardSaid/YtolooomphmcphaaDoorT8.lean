/- lfcheckmade.Any: some term, type or kind of a bounded size. -/
import Derived.Test.YtolooomphmcphaaDoorT7
namespace Go.Proofs.YtolooomphmcphaaDoor
open Go.RowKit

theorem Nms.set4 {w : World} {gb go cN k : Nat} {v0 v1 v2 v3 : Value} (h : Nms w gb go cN) (h0 : 0 ≠ k) (h1 : gb ≠ k) : Nms (set4 w k v0 v1 v2 v3) gb go cN :=
  (((h.setc (p := ⟨k, 0, none⟩) h0 h1 _).setc (p := ⟨k, 1, none⟩) h0 h1 _).setc (p := ⟨k, 2, none⟩) h0 h1 _).setc (p := ⟨k, 3, none⟩) h0 h1 _
theorem tape_set4 {w : World} {g k : Nat} {S : Nat → Prop} {T : List Int} {v0 v1 v2 v3 : Value} (h : Tape w g S T) (hg : k ≠ g) (hk : ¬ S k) : Tape (set4 w k v0 v1 v2 v3) g S T :=
  (((h.setc (p := ⟨k, 0, none⟩) hg hk _).setc (p := ⟨k, 1, none⟩) hg hk _).setc (p := ⟨k, 2, none⟩) hg hk _).setc (p := ⟨k, 3, none⟩) hg hk _
set_option maxRecDepth 100000 in
set_option maxHeartbeats 1000000 in
theorem mkA_calls (d : Nat) (vars metas : Int) (g : Nat) (T : List Int) (w : World) (S : Nat → Prop) (gb go cN : Nat) (hd : 0 < d) (hv0 : 0 ≤ vars) (hv1 : vars + d ≤ 1000000) (hm0 : 0 ≤ metas) (hm1 : metas ≤ 1000000) (hd20 : d ≤ 20) (h0g : 0 ≠ g) (hbg : gb ≠ g) (hN : Nms w gb go cN) (hT0 : Tape w g S T) :
    MkT Tryd.prog 8 #[.pointer (some ⟨g, 0, none⟩), .int .i64 d, .int .i64 vars, .int .i64 metas] w g S (2 ^ (d + 1) + 1) := by
  have hT := hT0.bound
  have hng := hT0.ng
  clear hT0
  have q8 := bk_new w (.cells #[.int .i64 0, .string ⟨#[]⟩, .int .i64 0, .slice none 0 0] 30)
  have B := bl_new w (.cells #[.int .i64 0, .string ⟨#[]⟩, .int .i64 0, .slice none 0 0] 30)
  have hT2 := hT.below B
  have hN2 := hN.below B
  have hgl := hT.lt
  have hNl := hN.lt
  have hG := gr_below B (some g)
  have hp2 : 0 < 2 ^ d := Nat.two_pow_pos _
  clear B
  go_enter Tryd.func8, Tryd.ntmps8
  go_wp2_with fail
  refine (next_calls g _ 4 _ (by omega) (by omega) _ hT2).mono ?_
  rintro e w1 ⟨rfl, hT1, hG1⟩
  generalize nxV T 4 = k at *
  generalize T.tail = T1 at *
  replace q8 := bk_grown q8 hG1 (by simp; omega)
  replace hN2 := hN2.grown hG1 h0g hbg
  replace hG := gr_trans hG hG1
  have hs1 : w.heap.size + 1 ≤ w1.heap.size := by simpa using hG1.size
  clear hG1 hT2
  cases hk0 : (k == 0)
  · cases hk1 : (k == 1)
    · go_wp2_with fail
      refine (mkT_calls d d vars metas g _ _ _ gb go cN (by omega) (by omega) hv0 hv1 hm0 hm1 hd20 h0g hbg hN2 hT1).use fun w3 t A c T3 hc hR hn hi hT3 hG3 => ?_
      replace q8 := bk_grown q8 hG3 (by simp; omega)
      replace hG := gr_trans hG hG3
      obtain ⟨x0, x1, x2, x3⟩ := bx4 q8
      have z0 := bk_free q8 0
      have z1 := bk_free q8 1
      have z2 := bk_free q8 2
      have z3 := bk_free q8 3
      go_wp2_with fail
      have hps : 2 ^ (d + 1) = 2 ^ d * 2 := Nat.pow_succ _ _
      refine bodyPost_ret (res_term rfl rfl (set4_self q8)) rfl ⟨t, A, c, T3, rfl, hc, (hR.set4 (fun b hb => by omega)).mono (fun b hb _ => by omega), by omega, hi, hT3.set4 (by omega) (Nat.le_refl _) hng, gr_set4 hG (Nat.le_refl _)⟩
    · have hT3 := hT1.below (bl_new w1 (.cells #[.int .i64 1, .string ⟨#[]⟩, .int .i64 0, .slice none 0 0] 30))
      have hN3 := hN2.below (bl_new w1 (.cells #[.int .i64 1, .string ⟨#[]⟩, .int .i64 0, .slice none 0 0] 30))
      have hG3 := gr_alloc hG (.cells #[.int .i64 1, .string ⟨#[]⟩, .int .i64 0, .slice none 0 0] 30)
      have q8b := bk_alloc q8 (.cells #[.int .i64 1, .string ⟨#[]⟩, .int .i64 0, .slice none 0 0] 30)
      have q10 := bk_new w1 (.cells #[.int .i64 1, .string ⟨#[]⟩, .int .i64 0, .slice none 0 0] 30)
      clear q8 hT1 hN2 hG
      go_wp2_with fail
      refine (next_calls g _ 3 _ (by omega) (by omega) _ hT3).mono ?_
      rintro e w3 ⟨rfl, hT4, hG4⟩
      obtain ⟨N, hN', hN3'⟩ : ∃ N : Nat, nxV T1 3 = N ∧ N < 3 := ⟨(nxV T1 3).toNat, by have := nxV_nonneg T1 (n := 3) (by omega); omega, by have := nxV_lt T1 (n := 3) (by omega); omega⟩
      rw [hN']
      clear hN'
      replace q8 := bk_grown q8b hG4 (by simp; omega)
      replace q11 := bk_grown q10 hG4 (by simp; omega)
      replace hN1 := hN3.grown hG4 h0g hbg
      replace hG1 := gr_trans hG3 hG4
      have hs4 : w1.heap.size + 1 ≤ w3.heap.size := by simpa using hG4.size
      clear q8b q10 hN3 hG3 hT3 hG4
      have hdw : IntKind.i64.wrap ((d : Int) - 1) = (d : Int) - 1 := IntWalk.i64_in _ ⟨by omega, by omega⟩
      go_wp2_with fail
      go_loopw [10] (fun i w' => ∃ (m k : Nat) (x : Tm) (A : Option Addr) (c : Nat) (T2 : List Int), m ≤ N ∧ i = .int .i64 m ∧ k + m = N ∧ tsize x ≤ 1 + k * 2 ^ d ∧ Hid (ixT 2000000 x) ∧ x.args.length ≤ c ∧ Rd tmK w' (fun b => w1.heap.size + 1 ≤ b) A x.args ∧
          w'.heap[w.heap.size]? = some (.cells #[.int .i64 0, .string ⟨#[]⟩, .int .i64 0, .slice none 0 0] 30 (0, 0)) ∧
          w'.heap[w1.heap.size]? = some (.cells #[.int .i64 x.kind, .string x.name, .int .i64 x.idx, .slice A x.args.length c] 30 (0, 0)) ∧ Tape w' g (fun b => S b ∧ b < w.heap.size) T2 ∧ Nms w' gb go cN ∧
          w1.heap.size + 1 ≤ w'.heap.size ∧ w.grownBy w' (some g)) (fun i _ => (intOf i).toNat)
      case atStart => exact ⟨N, 0, .mk 1 ⟨#[]⟩ 0 [], none, 0, _, Nat.le_refl _, rfl, Nat.zero_add _, by simp [tsize, tsizes], Lib.hid ⟨by omega, by omega, trivial⟩, Nat.le_refl _, Rd.nil _ _ _ _, q8, q11, hT4, hN1, hs4, hG1⟩
      case round =>
        clear q8 q11 hT4 hN1 hG1 hs4
        obtain ⟨m, k, x, A, c, T2, hm, rfl, hkm, hxs, Hix, hc, hR, q8, q11, hT2, hN1, hs1, hG1⟩ := hrel
        by_cases hlt : 0 < m
        · obtain ⟨m, rfl⟩ : ∃ j, m = j + 1 := ⟨m - 1, by omega⟩
          have HS : Hid (∀ w' : World, w'.heap[w1.heap.size]? = some (.cells #[.int .i64 x.kind, .string x.name, .int .i64 x.idx, .slice A x.args.length c] 30 (0, 0)) → w'.cell? ⟨w1.heap.size, 0, none⟩ = some (.int .i64 x.kind) ∧ w'.cell? ⟨w1.heap.size, 1, none⟩ = some (.string x.name) ∧ w'.cell? ⟨w1.heap.size, 2, none⟩ = some (.int .i64 x.idx) ∧ w'.cell? ⟨w1.heap.size, 3, none⟩ = some (.slice A x.args.length c)) := Lib.hid fun w' h' => bx4 h'
          go_wp2_with fail
          refine wp_region_mixN 7 (fun w' => w'.cell? ⟨w1.heap.size, 0, none⟩ = some (.int .i64 x.kind) ∧ w'.cell? ⟨w1.heap.size, 1, none⟩ = some (.string x.name) ∧ w'.cell? ⟨w1.heap.size, 2, none⟩ = some (.int .i64 x.idx) ∧ w'.cell? ⟨w1.heap.size, 3, none⟩ = some (.slice A x.args.length c)) [(true, 0), (true, 1), (true, 2), (true, 4), (false, 3), (false, 5), (true, 6)] (by kernel_rfl) rfl (by kernel_rfl) (HS.out _ q11) ?_
          repeat (refine wpMix_soft (v := ?_) rfl rfl ?_ ?_; rotate_left; (focus (intro w' hS; go_simp; with_reducible rfl)); simp only [Act.put, List.setIfInBounds_toArray, List.set_cons_zero, List.set_cons_succ])
          refine wpMix_hard rfl rfl ?_
          go_wp2_with fail
          refine (mkTy_calls (d - 1) ((d : Int) - 1) 0 0 g _ _ _ gb go cN (by omega) (by omega) (by omega) (by omega) (by omega) (by omega) (by omega) h0g hbg (hN1.below (bl_drew _ _)) (hT2.below (bl_drew _ _))).use fun w3 t A' c' T3 hc' hR' hn hi hT3 hG3 => ?_
          replace hG3 : wr.grownBy w3 (some g) := gr_undrew hG3
          have hR3 : Rd tmK w3 (fun b => wr.heap.size ≤ b) A' t.args := hR'
          rw [Nat.sub_add_cancel hd] at hn
          have hs3 := hG3.size
          replace q8 := bk_grown q8 hG3 (by simp; omega)
          replace q11 := bk_grown q11 hG3 (by simp; omega)
          replace hN1 := hN1.grown hG3 h0g hbg
          replace hG1 := gr_trans hG1 hG3
          replace hR := hR.grown hG3 (fun b hb => by omega)
          go_wp2_with fail
          refine mixQ_normal (HS.out _ q11) ?_
          refine wpMix_hard rfl rfl ?_
          go_wp2_with fail
          have e1 := EK.mono (S' := fun b => w1.heap.size + 1 ≤ b) (tmK_of t hc' hR3) (fun b hb _ => by omega)
          have e2 := tmK_of x hc hR
          have hR8 : Rd tmK (w3.alloc (.cells #[.int .i64 t.kind, .string t.name, .int .i64 t.idx, .slice A' t.args.length c', .int .i64 x.kind, .string x.name, .int .i64 x.idx, .slice A x.args.length c] 30)) _ _ _ := Rd.two (e := 30) (S' := fun b => w1.heap.size + 1 ≤ b) e1 e2 (fun _ h => h) (by show w1.heap.size + 1 ≤ w3.heap.size; omega)
          clear e1 e2
          replace q8 := bk_alloc q8 (.cells #[.int .i64 t.kind, .string t.name, .int .i64 t.idx, .slice A' t.args.length c', .int .i64 x.kind, .string x.name, .int .i64 x.idx, .slice A x.args.length c] 30)
          replace q11 := bk_alloc q11 (.cells #[.int .i64 t.kind, .string t.name, .int .i64 t.idx, .slice A' t.args.length c', .int .i64 x.kind, .string x.name, .int .i64 x.idx, .slice A x.args.length c] 30)
          replace hT3 := hT3.below (bl_new _ (.cells #[.int .i64 t.kind, .string t.name, .int .i64 t.idx, .slice A' t.args.length c', .int .i64 x.kind, .string x.name, .int .i64 x.idx, .slice A x.args.length c] 30))
          replace hN1 := hN1.below (bl_new _ (.cells #[.int .i64 t.kind, .string t.name, .int .i64 t.idx, .slice A' t.args.length c', .int .i64 x.kind, .string x.name, .int .i64 x.idx, .slice A x.args.length c] 30))
          replace hG1 := gr_alloc hG1 (.cells #[.int .i64 t.kind, .string t.name, .int .i64 t.idx, .slice A' t.args.length c', .int .i64 x.kind, .string x.name, .int .i64 x.idx, .slice A x.args.length c] 30)
          refine mixQ_normal (HS.out _ q11) ?_
          repeat (refine wpMix_soft (v := ?_) rfl rfl ?_ ?_; rotate_left; (focus (intro w' hS; go_simp; with_reducible rfl)); simp only [Act.put, List.setIfInBounds_toArray, List.set_cons_zero, List.set_cons_succ])
          refine wpMix_done (cutQ_normal ?_)
          obtain ⟨d0, d1, d2, d3⟩ := bx4 q11
          have z0 := bk_free q11 0
          have z1 := bk_free q11 1
          have z2 := bk_free q11 2
          have z3 := bk_free q11 3
          go_wp2_with fail
          refine NoPanic.normal ?_
          go_wp2_with fail
          go_roundw
          case rel =>
            refine ⟨m, k + 1, .mk 2 ⟨#[]⟩ 0 [t, x], some ⟨w3.heap.size, 0, none⟩, 2, T3, by omega, by go_num, by omega, ?_, Lib.hid ⟨by omega, by omega, hi, Hix.out, trivial⟩, Nat.le_refl _, hR8.set4 (fun b hb => by omega), (set4_far (by omega)).trans q8, set4_self q11, tape_set4 hT3 (by omega) (fun h => by have := h.2; omega), hN1.set4 (by omega) (by omega), by rw [set4_size, World.size_alloc]; omega, gr_set4 hG1 (by omega)⟩
            simp only [tsize, tsizes, Nat.add_mul]
            omega
          case measure => simp [intOf]
        · obtain rfl : m = 0 := by omega
          obtain ⟨c0, c1, c2, c3⟩ := bx4 q11
          obtain ⟨x0, x1, x2, x3⟩ := bx4 q8
          have z0 := bk_free q8 0
          have z1 := bk_free q8 1
          have z2 := bk_free q8 2
          have z3 := bk_free q8 3
          go_wp2_with fail
          have hps : 2 ^ (d + 1) = 2 ^ d * 2 := Nat.pow_succ _ _
          have hdl2 : k * 2 ^ d ≤ 2 * 2 ^ d := Nat.mul_le_mul_right _ (by omega)
          refine bodyPost_ret (res_term rfl rfl (set4_self q8)) rfl ⟨x, A, c, T2, rfl, hc, (hR.set4 (fun b hb => by omega)).mono (fun b hb _ => by omega), by omega, Hix.out, hT2.set4 (by omega) (Nat.le_refl _) hng, gr_set4 hG1 (Nat.le_refl _)⟩
  · go_wp2_with fail
    refine (mkTy_calls d d vars metas g _ _ _ gb go cN (by omega) (by omega) hv0 hv1 hm0 hm1 hd20 h0g hbg hN2 hT1).use fun w3 t A c T3 hc hR hn hi hT3 hG3 => ?_
    replace q8 := bk_grown q8 hG3 (by simp; omega)
    replace hG := gr_trans hG hG3
    obtain ⟨x0, x1, x2, x3⟩ := bx4 q8
    have z0 := bk_free q8 0
    have z1 := bk_free q8 1
    have z2 := bk_free q8 2
    have z3 := bk_free q8 3
    go_wp2_with fail
    have hps : 2 ^ (d + 1) = 2 ^ d * 2 := Nat.pow_succ _ _
    refine bodyPost_ret (res_term rfl rfl (set4_self q8)) rfl ⟨t, A, c, T3, rfl, hc, (hR.set4 (fun b hb => by omega)).mono (fun b hb _ => by omega), by omega, hi, hT3.set4 (by omega) (Nat.le_refl _) hng, gr_set4 hG (Nat.le_refl _)⟩
end Go.Proofs.YtolooomphmcphaaDoor
