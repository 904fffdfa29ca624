/- lfcheckmade.Type: some type of a bounded size. -/
import Derived.Test.YtolooomphmcphaaDoorT6
namespace Go.Proofs.YtolooomphmcphaaDoor
open Go.RowKit

def fam7 (k : Nat) : ByteArray := match k with | 0 => ⟨#[110, 97, 116]⟩ | 1 => ⟨#[118, 101, 99]⟩ | _ => ⟨#[116, 109]⟩
theorem ixTs_snoc {t : Tm} {l : List Tm} {n : Nat} (h : ixTs n l) (h1 : ixT n t) : ixTs n (l ++ [t]) := by
  rw [ixTs_iff] at h ⊢
  intro y hy
  rcases List.mem_append.1 hy with hy | hy
  · exact h y hy
  · rw [List.mem_singleton.1 hy]; exact h1
set_option maxRecDepth 100000 in
set_option maxHeartbeats 1000000 in
theorem mkTy_calls (d : Nat) : ∀ (dp vars metas : Int) (g : Nat) (T : List Int) (w : World) (S : Nat → Prop) (gb go cN : Nat), dp ≤ d → -1000 ≤ dp → 0 ≤ vars → vars + d ≤ 1000000 → 0 ≤ metas → metas ≤ 1000000 → d ≤ 20 → 0 ≠ g → gb ≠ g → Nms w gb go cN → Tape w g S T →
    MkT Tryd.prog 37 #[.pointer (some ⟨g, 0, none⟩), .int .i64 dp, .int .i64 vars, .int .i64 metas] w g S (2 ^ (d + 1) - 1) := by
  induction d using Nat.strongRecOn with
  | _ d ih =>
  intro dp vars metas g T w S gb go cN hd hd0 hv0 hv1 hm0 hm1 hd20 h0g hbg hN hT0
  have hT := hT0.bound
  have hng := hT0.ng
  have H := Lib.hid ih
  clear hT0 ih
  have q8 := bk_new w (.cells #[.int .i64 0, .string ⟨#[]⟩, .int .i64 0, .slice none 0 0] 30)
  have B := bl_new w (.cells #[.int .i64 0, .string ⟨#[]⟩, .int .i64 0, .slice none 0 0] 30)
  have hT2 := hT.below B
  have hN2 := hN.below B
  have hgl := hT.lt
  have hNl := hN.lt
  have hG := gr_below B (some g)
  have hp2 : 0 < 2 ^ d := Nat.two_pow_pos _
  clear B
  go_enter Tryd.func37, Tryd.ntmps37
  go_upto_region 1 with (fail)
  go_cut [18] (fun s18 wc => ∃ (U : Bool) (T' : List Int), s18 = .bool U ∧ (U = true → 0 < dp) ∧ wc.heap[w.heap.size]? = some (.cells #[.int .i64 0, .string ⟨#[]⟩, .int .i64 0, .slice none 0 0] 30 (0, 0)) ∧ Tape wc g (fun b => S b ∧ b < w.heap.size) T' ∧ Nms wc gb go cN ∧ w.grownBy wc (some g) ∧ w.heap.size + 1 ≤ wc.heap.size)
  case first =>
    by_cases hdp : 0 < dp
    · go_wp2_with fail
      refine (next_calls g _ 2 _ (by omega) (by omega) _ hT2).mono ?_
      rintro e w1 ⟨rfl, hT1, hG1⟩
      obtain ⟨V, hV⟩ : ∃ V, Hid ((nxV T 2 == 0) = V) := ⟨_, Lib.hid rfl⟩
      generalize nxV T 2 = k at *
      have hs1 : w.heap.size + 1 ≤ w1.heap.size := by simpa using hG1.size
      cases hk : (k == 0)
      all_goals
        go_wp2_with fail
        go_meet
        exact ⟨_, _, rfl, by simp [hdp], bk_grown q8 hG1 (by simp; omega), hT1, hN2.grown hG1 h0g hbg, gr_trans hG hG1, hs1⟩
    · have hdn : decide (0 < dp) = false := decide_eq_false hdp
      go_wp2_with fail
      go_meet
      exact ⟨_, _, rfl, by simp, q8, hT2, hN2, hG, by simp⟩
  case rest =>
  clear hT2 hN2 hG q8
  obtain ⟨U, T1, rfl, hU, q8, hT1, hN2, hG, hs1⟩ := hcut
  go_upto_if 18 with (fail)
  go_cut [] (fun wc => ∃ (T' : List Int), wc.heap[w.heap.size]? = some (.cells #[.int .i64 0, .string ⟨#[]⟩, .int .i64 0, .slice none 0 0] 30 (0, 0)) ∧ Tape wc g (fun b => S b ∧ b < w.heap.size) T' ∧ Nms wc gb go cN ∧ w.grownBy wc (some g) ∧ w.heap.size + 1 ≤ wc.heap.size)
  case first =>
    cases U with
    | true =>
        have hdp := hU rfl
        obtain ⟨d, rfl⟩ : ∃ j, d = j + 1 := ⟨d - 1, by omega⟩
        have hw1 : IntKind.i64.wrap (dp - 1) = dp - 1 := IntWalk.i64_in _ ⟨by omega, by omega⟩
        have hw2 : IntKind.i64.wrap (vars + 1) = vars + 1 := IntWalk.i64_in _ ⟨by omega, by omega⟩
        go_wp2_with fail
        refine (H.out d (by omega) (dp - 1) vars metas g _ _ _ gb go cN (by omega) (by omega) (by omega) (by omega) hm0 hm1 (by omega) h0g hbg hN2 hT1).use fun w3 t A c T3 hc hR hn hi hT3 hG3 => ?_
        have hs3 := hG3.size
        replace q8 := bk_grown q8 hG3 (by simp; omega)
        replace hN2 := hN2.grown hG3 h0g hbg
        replace hG := gr_trans hG hG3
        clear hG3 hT1
        have hT4 := hT3.below (bl_new w3 (.cells #[.int .i64 t.kind, .string t.name, .int .i64 t.idx, .slice A t.args.length c] 30))
        have hN4 := hN2.below (bl_new w3 (.cells #[.int .i64 t.kind, .string t.name, .int .i64 t.idx, .slice A t.args.length c] 30))
        have hG4 := gr_alloc hG (.cells #[.int .i64 t.kind, .string t.name, .int .i64 t.idx, .slice A t.args.length c] 30)
        have q4 := bk_alloc q8 (.cells #[.int .i64 t.kind, .string t.name, .int .i64 t.idx, .slice A t.args.length c] 30)
        have q9 := bk_new w3 (.cells #[.int .i64 t.kind, .string t.name, .int .i64 t.idx, .slice A t.args.length c] 30)
        have hR4 := hR.below (bl_new w3 (.cells #[.int .i64 t.kind, .string t.name, .int .i64 t.idx, .slice A t.args.length c] 30))
        obtain ⟨k6, hk6, hk66⟩ : ∃ k6 : Nat, nxV T3 6 = k6 ∧ k6 < 6 := ⟨(nxV T3 6).toNat, by have := nxV_nonneg T3 (n := 6) (by omega); omega, by have := nxV_lt T3 (n := 6) (by omega); omega⟩
        have HS : Hid (∀ w' : World, Nms w' gb go cN → w'.heap[w3.heap.size]? = some (.cells #[.int .i64 t.kind, .string t.name, .int .i64 t.idx, .slice A t.args.length c] 30 (0, 0)) → w'.cell? ⟨0, 0, none⟩ = some (.slice (some ⟨gb, go, none⟩) 6 cN) ∧ w'.cell? ⟨gb, go + k6, none⟩ = some (.string (nm6 k6)) ∧ w'.cell? ⟨w3.heap.size, 0, none⟩ = some (.int .i64 t.kind) ∧ w'.cell? ⟨w3.heap.size, 1, none⟩ = some (.string t.name) ∧ w'.cell? ⟨w3.heap.size, 2, none⟩ = some (.int .i64 t.idx) ∧ w'.cell? ⟨w3.heap.size, 3, none⟩ = some (.slice A t.args.length c)) := Lib.hid fun w' h h' => ⟨h.1, h.2 k6 hk66, bx4 h'⟩
        have HK6 := Lib.hid hk6
        clear hk6
        have hk6I : (k6 : Int) < 6 := by omega
        go_wp2_with fail
        refine wp_region_mixN 17 (fun w' => w'.cell? ⟨0, 0, none⟩ = some (.slice (some ⟨gb, go, none⟩) 6 cN) ∧ w'.cell? ⟨gb, go + k6, none⟩ = some (.string (nm6 k6)) ∧ w'.cell? ⟨w3.heap.size, 0, none⟩ = some (.int .i64 t.kind) ∧ w'.cell? ⟨w3.heap.size, 1, none⟩ = some (.string t.name) ∧ w'.cell? ⟨w3.heap.size, 2, none⟩ = some (.int .i64 t.idx) ∧ w'.cell? ⟨w3.heap.size, 3, none⟩ = some (.slice A t.args.length c)) [(true, 0), (true, 1), (true, 2), (true, 3), (true, 7), (true, 8), (true, 9), (true, 10), (true, 11), (true, 12), (true, 13), (false, 4), (true, 5), (true, 6), (false, 14), (false, 15), (true, 16)] (by kernel_rfl) rfl (by kernel_rfl) (HS.out _ hN4 q9) ?_
        repeat (refine wpMix_soft (v := ?_) rfl rfl ?_ ?_; rotate_left; (focus (intro w' hS; go_simp; with_reducible rfl)); simp only [Act.put, List.setIfInBounds_toArray, List.set_cons_zero, List.set_cons_succ])
        refine wpMix_hard rfl rfl ?_
        go_wp2_with fail
        refine (next_calls g _ 6 _ (by omega) (by omega) _ (hT4.below (bl_drew _ _))).mono ?_
        rintro e w5 ⟨rfl, hT5, hG5⟩
        rw [HK6.out]
        replace hG5 := gr_undrew hG5
        have q5 := bk_grown q4 hG5 (by simp; omega)
        have q95 := bk_grown q9 hG5 (by simp; omega)
        have hN5 := hN4.grown hG5 h0g hbg
        have hG5' := gr_trans hG4 hG5
        have hR5 := hR4.bound.grown hG5 (fun b hb => by have := hb.1; omega)
        have hs5 : w3.heap.size + 1 ≤ w5.heap.size := by simpa using hG5.size
        go_wp2_with fail
        refine mixQ_normal (HS.out _ hN5 q95) ?_
        repeat (refine wpMix_soft (v := ?_) rfl rfl ?_ ?_; rotate_left; (focus (intro w' hS; go_simp; with_reducible rfl)); simp only [Act.put, List.setIfInBounds_toArray, List.set_cons_zero, List.set_cons_succ])
        refine wpMix_hard rfl rfl ?_
        go_wp2_with fail
        refine (H.out d (by omega) (dp - 1) (vars + 1) metas g _ _ _ gb go cN (by omega) (by omega) (by omega) (by omega) hm0 hm1 (by omega) h0g hbg hN5 hT5).use fun w6 t' A' c' T6 hc' hR' hn' hi' hT6 hG6 => ?_
        have q6 := bk_grown q5 hG6 (by simp; omega)
        have q96 := bk_grown q95 hG6 (by simp; omega)
        have hN6 := hN5.grown hG6 h0g hbg
        have hG6' := gr_trans hG5' hG6
        have hR6 := hR5.bound.grown hG6 (fun b hb => by have := hb.1.1; omega)
        have hs6 := hG6.size
        go_wp2_with fail
        refine mixQ_normal (HS.out _ hN6 q96) ?_
        refine wpMix_hard rfl rfl ?_
        go_wp2_with fail
        have q7 := bk_alloc q6 (.cells #[.int .i64 t.kind, .string t.name, .int .i64 t.idx, .slice A t.args.length c, .int .i64 t'.kind, .string t'.name, .int .i64 t'.idx, .slice A' t'.args.length c'] 30)
        have q97 := bk_alloc q96 (.cells #[.int .i64 t.kind, .string t.name, .int .i64 t.idx, .slice A t.args.length c, .int .i64 t'.kind, .string t'.name, .int .i64 t'.idx, .slice A' t'.args.length c'] 30)
        have hN7 := hN6.below (bl_new w6 (.cells #[.int .i64 t.kind, .string t.name, .int .i64 t.idx, .slice A t.args.length c, .int .i64 t'.kind, .string t'.name, .int .i64 t'.idx, .slice A' t'.args.length c'] 30))
        have hT7 := hT6.below (bl_new w6 (.cells #[.int .i64 t.kind, .string t.name, .int .i64 t.idx, .slice A t.args.length c, .int .i64 t'.kind, .string t'.name, .int .i64 t'.idx, .slice A' t'.args.length c'] 30))
        have hG7 := gr_alloc hG6' (.cells #[.int .i64 t.kind, .string t.name, .int .i64 t.idx, .slice A t.args.length c, .int .i64 t'.kind, .string t'.name, .int .i64 t'.idx, .slice A' t'.args.length c'] 30)
        have e1 := EK.mono (S' := fun b => w.heap.size + 1 ≤ b) (tmK_of t hc hR6) (fun b hb _ => by have := hb.1.1; omega)
        have e2 := EK.mono (S' := fun b => w.heap.size + 1 ≤ b) (tmK_of t' hc' hR') (fun b hb _ => by omega)
        have hR8 : Rd tmK (w6.alloc (.cells #[.int .i64 t.kind, .string t.name, .int .i64 t.idx, .slice A t.args.length c, .int .i64 t'.kind, .string t'.name, .int .i64 t'.idx, .slice A' t'.args.length c'] 30)) _ _ _ := Rd.two (e := 30) (S' := fun b => w.heap.size + 1 ≤ b) e1 e2 (fun _ h => h) (by show w.heap.size + 1 ≤ w6.heap.size; omega)
        clear e1 e2
        refine mixQ_normal (HS.out _ hN7 q97) ?_
        repeat (refine wpMix_soft (v := ?_) rfl rfl ?_ ?_; rotate_left; (focus (intro w' hS; go_simp; with_reducible rfl)); simp only [Act.put, List.setIfInBounds_toArray, List.set_cons_zero, List.set_cons_succ])
        refine wpMix_done (cutQ_normal ?_)
        obtain ⟨x0, x1, x2, x3⟩ := bx4 q7
        have z0 := bk_free q7 0
        have z1 := bk_free q7 1
        have z2 := bk_free q7 2
        have z3 := bk_free q7 3
        go_wp2_with fail
        refine NoPanic.normal ?_
        go_wp2_with fail
        refine bodyPost_ret (res_term rfl rfl (set4_self q7)) rfl ⟨.mk 2 (nm6 k6) 0 [t, t'], some ⟨w6.heap.size, 0, none⟩, 2, T6, rfl, Nat.le_refl _, (hR8.set4 (fun b hb => by omega)).mono (fun b hb _ => by omega), by simp only [tsize, tsizes]; rw [Nat.pow_succ]; omega, ⟨by omega, by omega, hi, hi', trivial⟩, hT7.set4 (by omega) (Nat.le_refl _) hng, gr_set4 hG7 (Nat.le_refl _)⟩
    | false =>
        go_wp2_with fail
        go_meet
        exact ⟨_, q8, hT1, hN2, hG, hs1⟩
  case rest =>
  clear q8 hT1 hN2 hG hs1 hU
  obtain ⟨T2, q8, hT1, hN1, hG1, hs1⟩ := hcut
  have q8a := bk_alloc q8 (.cells #[.string ⟨#[110, 97, 116]⟩, .string ⟨#[118, 101, 99]⟩, .string ⟨#[116, 109]⟩] 9)
  have p12 := bk_new wc (.cells #[.string ⟨#[110, 97, 116]⟩, .string ⟨#[118, 101, 99]⟩, .string ⟨#[116, 109]⟩] 9)
  have hT12 := hT1.below (bl_new _ (.cells #[.string ⟨#[110, 97, 116]⟩, .string ⟨#[118, 101, 99]⟩, .string ⟨#[116, 109]⟩] 9))
  have hN12 := hN1.below (bl_new _ (.cells #[.string ⟨#[110, 97, 116]⟩, .string ⟨#[118, 101, 99]⟩, .string ⟨#[116, 109]⟩] 9))
  have hG12 := gr_alloc hG1 (.cells #[.string ⟨#[110, 97, 116]⟩, .string ⟨#[118, 101, 99]⟩, .string ⟨#[116, 109]⟩] 9)
  go_wp2_with fail
  refine (next_calls g _ 3 _ (by omega) (by omega) _ hT12).mono ?_
  rintro e w2 ⟨rfl, hT2, hG2⟩
  obtain ⟨j, hj, hj3⟩ : ∃ j : Nat, nxV T2 3 = j ∧ j < 3 := ⟨(nxV T2 3).toNat, by have := nxV_nonneg T2 (n := 3) (by omega); omega, by have := nxV_lt T2 (n := 3) (by omega); omega⟩
  rw [hj]
  clear hj
  have cj : w2.cell? ⟨wc.heap.size, j, none⟩ = some (.string (fam7 j)) := bk_cell (bk_grown p12 hG2 (by simp; omega)) j (by rcases j with _ | _ | _ | j <;> first | rfl | omega)
  generalize fam7 j = nm at cj
  have q8b := bk_alloc (bk_grown q8a hG2 (by simp; omega)) (.cells #[.int .i64 4, .string nm, .int .i64 0, .slice none 0 0] 30)
  have hT3 := hT2.below (bl_new _ (.cells #[.int .i64 4, .string nm, .int .i64 0, .slice none 0 0] 30))
  have hN3 := (hN12.grown hG2 h0g hbg).below (bl_new _ (.cells #[.int .i64 4, .string nm, .int .i64 0, .slice none 0 0] 30))
  have hG3 := gr_alloc (gr_trans hG12 hG2) (.cells #[.int .i64 4, .string nm, .int .i64 0, .slice none 0 0] 30)
  have q10 := bk_new w2 (.cells #[.int .i64 4, .string nm, .int .i64 0, .slice none 0 0] 30)
  have hs2 : w.heap.size + 1 ≤ w2.heap.size := by have := hG2.size; simp at this; omega
  clear q8 hT1 hN1 hG1 q8a p12 hT12 hN12 hG12 hT2 hG2
  go_wp2_with fail
  refine (next_calls g _ 3 _ (by omega) (by omega) _ hT3).mono ?_
  rintro e w3 ⟨rfl, hT4, hG4⟩
  generalize T2.tail = T4 at *
  obtain ⟨N, hN, hN3'⟩ : ∃ N : Nat, nxV T4 3 = N ∧ N < 3 := ⟨(nxV T4 3).toNat, by have := nxV_nonneg T4 (n := 3) (by omega); omega, by have := nxV_lt T4 (n := 3) (by omega); omega⟩
  rw [hN]
  clear hN cj
  replace q8 := bk_grown q8b hG4 (by simp; omega)
  replace q11 := bk_grown q10 hG4 (by simp; omega)
  replace hN1 := hN3.grown hG4 h0g hbg
  replace hG1 := gr_trans hG3 hG4
  have hs4 : w2.heap.size + 1 ≤ w3.heap.size := by simpa using hG4.size
  clear q8b q10 hN3 hG3 hT3 hG4
  go_wp2_with fail
  go_loopw [11] (fun i w' => ∃ (m : Nat) (v : Value) (T2 : List Int) (done : List Tm), m ≤ N ∧ i = .int .i64 m ∧ done.length + m = N ∧ tsizes done ≤ done.length * (2 ^ d - 1) ∧ Hid (ixTs 2000000 done) ∧
      w'.heap[w.heap.size]? = some (.cells #[.int .i64 0, .string ⟨#[]⟩, .int .i64 0, .slice none 0 0] 30 (0, 0)) ∧
      w'.heap[w2.heap.size]? = some (.cells #[.int .i64 4, .string nm, .int .i64 0, v] 30 (0, 0)) ∧ Tape w' g (fun b => S b ∧ b < w.heap.size) T2 ∧ Nms w' gb go cN ∧
      Own tmK 30 (w2.heap.size + 1) w' (fun b => w2.heap.size + 1 ≤ b) v done ∧ w2.heap.size + 1 ≤ w'.heap.size ∧ w.grownBy w' (some g)) (fun i _ => (intOf i).toNat)
  case atStart => exact ⟨N, _, _, [], Nat.le_refl _, rfl, Nat.zero_add _, by simp [tsizes], Lib.hid trivial, q8, q11, hT4, hN1, Own.nil _ _ _ _ _, hs4, hG1⟩
  case round =>
    clear q8 q11 hT4 hN1 hG1 hs4
    obtain ⟨m, v, T2, done, hm, rfl, hdl, hds, Hdx, q8, q11, hT2, hN1, hO, hs1, hG1⟩ := hrel
    obtain ⟨c0, c1, c2, c3⟩ := bx4 q11
    rcases (by omega : (0 < m ∧ 0 < dp) ∨ (0 < m ∧ ¬ 0 < dp) ∨ m = 0) with ⟨hlt, hdp⟩ | ⟨hlt, hdp⟩ | rfl
    · obtain ⟨m, rfl⟩ : ∃ j, m = j + 1 := ⟨m - 1, by omega⟩
      obtain ⟨d, rfl⟩ : ∃ j, d = j + 1 := ⟨d - 1, by omega⟩
      have hdw : IntKind.i64.wrap (dp - 1) = dp - 1 := IntWalk.i64_in _ ⟨by omega, by omega⟩
      have hobl := hO.block
      go_wp2_with fail
      refine wp_region_mixN 11 (fun w' => w'.cell? ⟨w2.heap.size, 3, none⟩ = some v) [(true, 0), (true, 1), (true, 2), (true, 3), (true, 4), (true, 5), (true, 6), (false, 7), (false, 8), (false, 9), (true, 10)] (by kernel_rfl) rfl (by kernel_rfl) c3 ?_
      repeat (refine wpMix_soft (v := ?_) rfl rfl ?_ ?_; rotate_left; (focus (intro w' hS; go_simp; with_reducible rfl)); simp only [Act.put, List.setIfInBounds_toArray, List.set_cons_zero, List.set_cons_succ])
      refine wpMix_hard rfl rfl ?_
      go_wp2_with fail
      refine (mkT_calls d (dp - 1) vars metas g _ _ _ gb go cN (by omega) (by omega) (by omega) (by omega) hm0 hm1 (by omega) h0g hbg (hN1.below (bl_drew _ _)) (hT2.below (bl_drew _ _))).use fun w3 x A' c' T3 hc' hR' hxn hxi hT3 hG3 => ?_
      replace hG3 : wr.grownBy w3 (some g) := gr_undrew hG3
      have hR3 : Rd tmK w3 (fun b => wr.heap.size ≤ b) A' x.args := hR'
      have hs3 := hG3.size
      replace q8 := bk_grown q8 hG3 (by simp; omega)
      replace q11 := bk_grown q11 hG3 (by simp; omega)
      replace hN1 := hN1.grown hG3 h0g hbg
      replace hO := hO.grown hG3 (fun b hb => by omega) (by omega)
      replace hG1 := gr_trans hG1 hG3
      go_wp2_with fail
      refine mixQ_normal (bx4 q11).2.2.2 ?_
      refine wpMix_hard rfl rfl ?_
      go_wp2_with fail
      replace q8 := bk_alloc q8 (.cells #[.int .i64 x.kind, .string x.name, .int .i64 x.idx, .slice A' x.args.length c'] 30)
      replace q11 := bk_alloc q11 (.cells #[.int .i64 x.kind, .string x.name, .int .i64 x.idx, .slice A' x.args.length c'] 30)
      replace hO := hO.alloc (.cells #[.int .i64 x.kind, .string x.name, .int .i64 x.idx, .slice A' x.args.length c'] 30)
      replace hT3 := hT3.below (bl_new _ (.cells #[.int .i64 x.kind, .string x.name, .int .i64 x.idx, .slice A' x.args.length c'] 30))
      replace hN1 := hN1.below (bl_new _ (.cells #[.int .i64 x.kind, .string x.name, .int .i64 x.idx, .slice A' x.args.length c'] 30))
      replace hG1 := gr_alloc hG1 (.cells #[.int .i64 x.kind, .string x.name, .int .i64 x.idx, .slice A' x.args.length c'] 30)
      refine mixQ_normal (bx4 q11).2.2.2 ?_
      refine wpMix_hard rfl rfl ?_
      refine wp_snoc (d := tmK) (v := v) rfl (.tmp 59) (.tmp 66) _ rfl (e := 30) (bytes := 56) (z := .agg #[.int .i64 0, .string ⟨#[]⟩, .int .i64 0, .slice none 0 0]) (by kernel_rfl) (by kernel_rfl) (by rfl) (by decide) rfl hO (by omega) (by simp; omega) rfl (bk_new _ _) (EK.mono (EK.below (tmK_of x hc' hR3) (bl_new _ _)) ?_) ?_
      · intro b hb hl
        refine ⟨by omega, hl, fun he => ?_⟩
        have := (hobl b he).2
        omega
      intro g3 cap w5 hO5 hgrow hcap hlt5 hBg
      have n0 : ∀ k, k < w2.heap.size + 1 → some k ≠ Value.ownBlock v := fun k hk he => by have := (hobl k he.symm).1; omega
      replace q8 := bk_grown q8 hgrow (n0 _ (by omega))
      replace q11 := bk_grown q11 hgrow (n0 _ (by omega))
      have hT5 := hT3.grown hgrow (fun k hk => by have := (hobl k hk).1; exact ⟨by omega, fun h => by have := h.2; omega⟩)
      have hN5 := hN1.row hgrow (n0 _ (by omega)) (n0 _ (by omega))
      have hs5 : w3.heap.size + 1 ≤ w5.heap.size := by simpa using hgrow.size
      have G5 : w.grownBy w5 (some g) := gr_own hG1 hgrow (fun k hk => by have := (hobl k hk).1; omega)
      refine mixQ_normal (bx4 q11).2.2.2 ?_
      simp only [Act.put, List.setIfInBounds_toArray, List.set_cons_zero, List.set_cons_succ]
      repeat (refine wpMix_soft (v := ?_) rfl rfl ?_ ?_; rotate_left; (focus (intro w' hS; go_simp; with_reducible rfl)); simp only [Act.put, List.setIfInBounds_toArray, List.set_cons_zero, List.set_cons_succ])
      refine wpMix_done (cutQ_normal ?_)
      obtain ⟨d0, d1, d2, d3⟩ := bx4 q11
      have z3 := bk_free q11 3
      go_wp2_with fail
      refine NoPanic.normal ?_
      go_wp2_with fail
      go_roundw
      case rel =>
        refine ⟨m, _, _, done ++ [x], by omega, by go_num, by simp; omega, ?_, Lib.hid (ixTs_snoc Hdx.out hxi), bk_far q8 (by show w.heap.size ≠ w2.heap.size; omega) _, bk_set q11 3 _, hT5.setc (by show w2.heap.size ≠ g; omega) (by show ¬ (S w2.heap.size ∧ w2.heap.size < w.heap.size); omega) _, hN5.setc (by show 0 ≠ w2.heap.size; omega) (by show gb ≠ w2.heap.size; omega) _, ?_, by rw [World.size_setCell]; omega, gr_set G5 (by show w.heap.size ≤ w2.heap.size; omega) _⟩
        · rw [tsizes_append, List.length_append, Nat.add_mul]
          simp only [tsizes, List.length_cons, List.length_nil]
          omega
        · simpa using hO5.store (p := ⟨w2.heap.size, 3, none⟩) (by show ¬ w2.heap.size + 1 ≤ w2.heap.size; omega) (by show w2.heap.size < w2.heap.size + 1; omega) _
      case measure => simp [intOf]
    · obtain ⟨m, rfl⟩ : ∃ j, m = j + 1 := ⟨m - 1, by omega⟩
      have hdn : decide (0 < dp) = false := decide_eq_false hdp
      obtain ⟨A3, c3', rfl, hc3, hR⟩ := hO.read (S' := fun b => w2.heap.size + 1 ≤ b) (fun _ h => h) (fun _ h => h)
      obtain ⟨x0, x1, x2, x3⟩ := bx4 q8
      have z0 := bk_free q8 0
      have z1 := bk_free q8 1
      have z2 := bk_free q8 2
      have z3 := bk_free q8 3
      go_wp2_with fail
      have hdl2 : done.length * (2 ^ d - 1) ≤ 2 * (2 ^ d - 1) := Nat.mul_le_mul_right _ (by omega)
      refine bodyPost_ret (res_term rfl rfl (set4_self q8)) rfl ⟨.mk 4 nm 0 done, A3, c3', T2, rfl, hc3, (hR.set4 (fun b hb => by omega)).mono (fun b hb _ => by omega), by simp only [tsize]; rw [Nat.pow_succ]; omega, ⟨by omega, by omega, Hdx.out⟩, hT2.set4 (by omega) (Nat.le_refl _) hng, gr_set4 hG1 (Nat.le_refl _)⟩
    · obtain ⟨A3, c3', rfl, hc3, hR⟩ := hO.read (S' := fun b => w2.heap.size + 1 ≤ b) (fun _ h => h) (fun _ h => h)
      obtain ⟨x0, x1, x2, x3⟩ := bx4 q8
      have z0 := bk_free q8 0
      have z1 := bk_free q8 1
      have z2 := bk_free q8 2
      have z3 := bk_free q8 3
      go_wp2_with fail
      have hdl2 : done.length * (2 ^ d - 1) ≤ 2 * (2 ^ d - 1) := Nat.mul_le_mul_right _ (by omega)
      refine bodyPost_ret (res_term rfl rfl (set4_self q8)) rfl ⟨.mk 4 nm 0 done, A3, c3', T2, rfl, hc3, (hR.set4 (fun b hb => by omega)).mono (fun b hb _ => by omega), by simp only [tsize]; rw [Nat.pow_succ]; omega, ⟨by omega, by omega, Hdx.out⟩, hT2.set4 (by omega) (Nat.le_refl _) hng, gr_set4 hG1 (Nat.le_refl _)⟩
end Go.Proofs.YtolooomphmcphaaDoor
