/- lfcheckmade.Simple, whose arguments the caller may change. -/
import Derived.Test.YtolooomphmcphaaDoorT2
namespace Go.Proofs.YtolooomphmcphaaDoor
open Go.RowKit

/-- the call makes a simple type out of the tape in block g, and its arguments are the caller's own -/
abbrev MkO (P : Program) (f : FuncId) (args : Array Value) (w : World) (g : Nat) (S : Nat → Prop) (s : Sm) (T : List Int) : Prop :=
  Calls P f args w fun e w' => ∃ A c, e = .returned (smV s A c) ∧ Own smK 26 w.heap.size w' (fun b => w.heap.size ≤ b) (.slice A s.args.length c) s.args ∧ Tape w' g S T ∧ w.grownBy w' (some g)
set_option maxRecDepth 100000 in
set_option maxHeartbeats 4000000 in
theorem mkSo_calls (d : Nat) (g : Nat) (T : List Int) (w : World) (S : Nat → Prop) (hd : d + 1 ≤ 1000) (hT0 : Tape w g S T) : MkO Tryd.prog 28 #[.pointer (some ⟨g, 0, none⟩), .int .i64 ((d : Int) + 1)] w g S (mkS (d + 1) T).1 (mkS (d + 1) T).2 := by
  have hT := hT0.bound
  have hng := hT0.ng
  clear hT0
  have B2 := bl_alloc (bl_new w (.cells #[.string ⟨#[]⟩, .slice none 0 0] 26)) (.cells #[.string ⟨#[110, 97, 116]⟩, .string ⟨#[116, 109]⟩, .string ⟨#[116, 121, 112, 101]⟩] 9)
  have q0 := bk_alloc (bk_new w (.cells #[.string ⟨#[]⟩, .slice none 0 0] 26)) (.cells #[.string ⟨#[110, 97, 116]⟩, .string ⟨#[116, 109]⟩, .string ⟨#[116, 121, 112, 101]⟩] 9)
  have q1 := bk_at (w := w.alloc (.cells #[.string ⟨#[]⟩, .slice none 0 0] 26)) (n := w.heap.size + 1) (by simp) (.cells #[.string ⟨#[110, 97, 116]⟩, .string ⟨#[116, 109]⟩, .string ⟨#[116, 121, 112, 101]⟩] 9)
  have hT2 := hT.below B2
  have hgl := hT.lt
  go_enter Tryd.func28, Tryd.ntmps28
  go_wp2_with fail
  refine (next_calls g T 3 _ (by omega) (by omega) _ hT2).mono ?_
  rintro e w1 ⟨rfl, hT1, hG1⟩
  obtain ⟨k, hk, hk3⟩ : ∃ k : Nat, nxV T 3 = k ∧ k < 3 := ⟨(nxV T 3).toNat, by have := nxV_nonneg T (n := 3) (by omega); omega, by have := nxV_lt T (n := 3) (by omega); omega⟩
  have hkT : (nxV T 3).toNat = k := by omega
  rw [hk]
  have Hk := Lib.hid hkT
  clear hk hkT
  have n0 : ∀ x, x < w.heap.size + 2 → x ≠ g → some x ≠ some g := fun x _ h => by simpa using h
  replace q0 := bk_grown q0 hG1 (by simp; omega)
  replace q1 := bk_grown q1 hG1 (by simp; omega)
  have G1 := gr_trans (gr_below B2 (some g)) hG1
  have hs1 := hG1.size
  have hs1' : w.heap.size + 2 ≤ w1.heap.size := by simpa using hs1
  have ck : w1.cell? ⟨w.heap.size + 1, k, none⟩ = some (.string (fam3 k)) := bk_cell q1 k (by rcases k with _ | _ | _ | k <;> first | rfl | omega)
  go_wp2_with fail
  clear ck q1
  have q5 := bk_new w1 (.cells #[.string (fam3 k), .slice none 0 0] 26)
  replace q0 := bk_alloc q0 (.cells #[.string (fam3 k), .slice none 0 0] 26)
  replace G1 := gr_alloc G1 (.cells #[.string (fam3 k), .slice none 0 0] 26)
  replace hT1 := hT1.below (bl_new _ (.cells #[.string (fam3 k), .slice none 0 0] 26))
  refine (next_calls g _ 3 _ (by omega) (by omega) _ hT1).mono ?_
  rintro e w2 ⟨rfl, hT2', hG2⟩
  obtain ⟨N, hN, hN3⟩ : ∃ N : Nat, nxV T.tail 3 = N ∧ N < 3 := ⟨(nxV T.tail 3).toNat, by have := nxV_nonneg T.tail (n := 3) (by omega); omega, by have := nxV_lt T.tail (n := 3) (by omega); omega⟩
  have hNT : (nxV T.tail 3).toNat = N := by omega
  rw [hN]
  have HN := Lib.hid hNT
  clear hNT hN
  replace q0 := bk_grown q0 hG2 (by simp; omega)
  replace q5 := bk_grown q5 hG2 (by simp; omega)
  replace G1 := gr_trans G1 hG2
  have hs2 : w1.heap.size + 1 ≤ w2.heap.size := by simpa using hG2.size
  clear hG1 hG2 hT1
  have hgd : decide ((0 : Int) < ((d : Int) + 1)) = true := decide_eq_true (by omega)
  have hdw : IntKind.i64.wrap ((d : Int) + 1 - 1) = (d : Int) := by rw [IntWalk.i64_in _ ⟨by omega, by omega⟩]; omega
  have Hr : Hid (∀ x y, repS (mkS d) N T.tail.tail = (x, y) → (mkS (d + 1) T) = (.mk (fam3 k) x, y)) := Lib.hid fun x y h => by rw [mkS, Hk.out, HN.out, h]
  go_wp2_with fail
  go_loopw [6] (fun i w' => ∃ (m : Nat) (v : Value) (T' : List Int) (done : List Sm), m ≤ N ∧ i = .int .i64 m ∧ Hid (repS (mkS d) N T.tail.tail = (done ++ (repS (mkS d) m T').1, (repS (mkS d) m T').2)) ∧ done.length + m = N ∧
    w'.heap[w.heap.size]? = some (.cells #[.string ⟨#[]⟩, .slice none 0 0] 26 (0, 0)) ∧
    w'.heap[w1.heap.size]? = some (.cells #[.string (fam3 k), v] 26 (0, 0)) ∧ Tape w' g (fun b => S b ∧ b < w.heap.size) T' ∧
    Own smK 26 (w1.heap.size + 1) w' (fun b => w1.heap.size + 1 ≤ b) v done ∧ w1.heap.size + 1 ≤ w'.heap.size ∧ w.grownBy w' (some g)) (fun i _ => (intOf i).toNat)
  case atStart => exact ⟨N, _, _, [], Nat.le_refl _, rfl, Lib.hid (by simp), Nat.zero_add _, q0, q5, hT2', Own.nil _ _ _ _ _, hs2, G1⟩
  case round =>
    clear q0 q5 hT2' G1 hs2
    obtain ⟨m, v, T', done, hm, rfl, Hrep, hdl, q0, q5, hT3, hO, hsz, G1⟩ := hrel
    obtain ⟨c0, c1⟩ := bx2 q5
    by_cases hlt : 0 < m
    · obtain ⟨m, rfl⟩ : ∃ j, m = j + 1 := ⟨m - 1, by omega⟩
      have hobl := hO.block
      have hgl5 : g ≠ w1.heap.size := by have := hs1'; omega
      go_wp2_with fail
      refine wp_region_mixN 9 (fun w' => w'.cell? ⟨w1.heap.size, 1, none⟩ = some v) [(true, 0), (true, 1), (true, 2), (true, 3), (true, 4), (false, 5), (false, 6), (false, 7), (true, 8)] (by kernel_rfl) rfl (by kernel_rfl) c1 ?_
      repeat (refine wpMix_soft (v := ?_) rfl rfl ?_ ?_; rotate_left; (focus (intro w' hS; go_simp; with_reducible rfl)); simp only [Act.put, List.setIfInBounds_toArray, List.set_cons_zero, List.set_cons_succ])
      -- Simple
      refine wpMix_hard rfl rfl ?_
      go_wp2_with fail
      refine (mkS_calls d g T' _ _ (by omega) (hT3.below (bl_drew _ _))).use fun w4 A' c' hc' hR4 hT4 hG4 => ?_
      obtain ⟨x, Hx⟩ : ∃ x, Hid (x = (mkS d T').1) := ⟨_, Lib.hid rfl⟩
      rw [← Hx.out] at hc' hR4 ⊢
      replace hG4 : wr.grownBy w4 (some g) := gr_undrew hG4
      have hR4' : Rd smK w4 (fun b => wr.heap.size ≤ b) A' x.args := hR4
      have hs4 := hG4.size
      replace q0 := bk_grown q0 hG4 (by simp; omega)
      replace q5 := bk_grown q5 hG4 (by simp; omega)
      replace hO := hO.grown hG4 (fun b hb => by omega) (by omega)
      replace G1 := gr_trans G1 hG4
      go_wp2_with fail
      refine mixQ_normal (bx2 q5).2 ?_
      refine wpMix_hard rfl rfl ?_
      go_wp2_with fail
      replace q0 := bk_alloc q0 (.cells #[.string x.fam, .slice A' x.args.length c'] 26)
      replace q5 := bk_alloc q5 (.cells #[.string x.fam, .slice A' x.args.length c'] 26)
      replace hO := hO.alloc (.cells #[.string x.fam, .slice A' x.args.length c'] 26)
      replace hT4 := hT4.below (bl_new _ (.cells #[.string x.fam, .slice A' x.args.length c'] 26))
      replace G1 := gr_alloc G1 (.cells #[.string x.fam, .slice A' x.args.length c'] 26)
      refine mixQ_normal (bx2 q5).2 ?_
      -- append
      refine wpMix_hard rfl rfl ?_
      refine wp_snoc (d := smK) rfl (.tmp 24) (.tmp 29) _ rfl (e := 26) (bytes := 40) (z := .agg #[.string ⟨#[]⟩, .slice none 0 0]) (by kernel_rfl) (by kernel_rfl) (by rfl) (by decide) rfl hO (by omega) (by simp; omega) rfl (bk_new _ _) (EK.mono (EK.below (smK_of x hc' hR4') (bl_new _ _)) ?_) ?_
      · intro b hb hl
        refine ⟨by omega, hl, fun he => ?_⟩
        have := (hobl b he).2
        omega
      intro g3 cap w5 hO5 hgrow hcap hlt5 hBg
      have n0 : ∀ k, k < w1.heap.size + 1 → some k ≠ Value.ownBlock v := fun k hk he => by have := (hobl k he.symm).1; omega
      replace q0 := bk_grown q0 hgrow (n0 _ (by omega))
      replace q5 := bk_grown q5 hgrow (n0 _ (by omega))
      have hT5 := hT4.grown hgrow (fun k hk => by have := (hobl k hk).1; exact ⟨by omega, fun h => by have := h.2; omega⟩)
      have hs5 : w4.heap.size + 1 ≤ w5.heap.size := by simpa using hgrow.size
      have G5 : w.grownBy w5 (some g) := gr_own G1 hgrow (fun k hk => by have := (hobl k hk).1; omega)
      refine mixQ_normal (bx2 q5).2 ?_
      simp only [Act.put, List.setIfInBounds_toArray, List.set_cons_zero, List.set_cons_succ]
      repeat (refine wpMix_soft (v := ?_) rfl rfl ?_ ?_; rotate_left; (focus (intro w' hS; go_simp; with_reducible rfl)); simp only [Act.put, List.setIfInBounds_toArray, List.set_cons_zero, List.set_cons_succ])
      refine wpMix_done (cutQ_normal ?_)
      obtain ⟨d0, d1⟩ := bx2 q5
      have z1 := bk_free q5 1
      go_wp2_with fail
      refine NoPanic.normal ?_
      go_wp2_with fail
      go_roundw
      case rel =>
        refine ⟨m, _, _, done ++ [x], by omega, by go_num, Lib.hid ?_, by simp; omega, bk_far q0 (by show w.heap.size ≠ w1.heap.size; omega) _, bk_set q5 1 _, hT5.setc (by show w1.heap.size ≠ g; omega) (by show ¬ (S w1.heap.size ∧ w1.heap.size < w.heap.size); omega) _, ?_, by rw [World.size_setCell]; omega, gr_set G5 (by show w.heap.size ≤ w1.heap.size; omega) _⟩
        · rw [Hrep.out, repS, Hx.out]
          simp
        · simpa using hO5.store (p := ⟨w1.heap.size, 1, none⟩) (by show ¬ w1.heap.size + 1 ≤ w1.heap.size; omega) (by show w1.heap.size < w1.heap.size + 1; omega) _
      case measure => simp [intOf]
    · obtain rfl : m = 0 := by omega
      obtain ⟨A3, c3, rfl, hc3, -⟩ := hO.read (S' := fun b => w1.heap.size + 1 ≤ b) (fun _ h => h) (fun _ h => h)
      obtain ⟨x0, x1⟩ := bx2 q0
      have z0 := bk_free q0 0
      have z1 := bk_free q0 1
      have e : mkS (d + 1) T = (.mk (fam3 k) done, T') := Hr.out _ _ (by rw [Hrep.out]; simp [repS])
      have He := Lib.hid e
      clear e
      go_wp2_with fail
      refine bodyPost_ret (res_simple rfl rfl (set2_self q0)) rfl ⟨A3, c3, by rw [He.out]; rfl, ?_, ?_, gr_set2 G1 (Nat.le_refl _)⟩
      · rw [He.out]
        exact ((hO.set2 (g := w.heap.size) (fun b hb => by omega) (by omega)).mono (S' := fun b => w.heap.size ≤ b) (fun b hb _ => by omega)).base (by omega)
      · rw [He.out]
        exact ((hT3.setc (by show w.heap.size ≠ g; omega) (by show ¬ (S w.heap.size ∧ w.heap.size < w.heap.size); omega) _).setc (by show w.heap.size ≠ g; omega) (by show ¬ (S w.heap.size ∧ w.heap.size < w.heap.size); omega) _).mono (fun b hb => hb.1) hng
end Go.Proofs.YtolooomphmcphaaDoor
