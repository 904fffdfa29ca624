/- subst.substitution.of: hereditary substitution in a term. -/
import Derived.Test.YtolooomphmcphaaH5
namespace Go.Proofs.Ytolooomphmcphaa
open Go.RowKit

/-- the state of the loop over the arguments -/
def LoopL (F : Nat → Tm → Nat → Res) (k : Int) (deep W : Nat) (a : List Tm) (j W' : Nat) (xs : List Tm) : Prop :=
  xs.length = j ∧ W ≤ W' ∧ W' ≤ 262144 ∧ subL F k deep W 0 a = ((subL F k deep W' j (a.drop j)).1, (subL F k deep W' j (a.drop j)).2.1, if (subL F k deep W' j (a.drop j)).1 = 0 then xs ++ (subL F k deep W' j (a.drop j)).2.2 else [])
theorem subL_err {F : Nat → Tm → Nat → Res} {k : Int} {deep : Nat} : ∀ (a : List Tm) (W i : Nat), (subL F k deep W i a).1 ≠ 0 → (subL F k deep W i a).2.2 = []
  | [], W, i, h => by simp [subL] at h
  | a :: r, W, i, h => by
    unfold subL at h ⊢
    split
    · rfl
    · rename_i he
      rw [if_neg he] at h
      split
      · rfl
      · rename_i he2
        rw [if_neg he2] at h
        exact absurd rfl h
theorem LoopL.start (F : Nat → Tm → Nat → Res) (k : Int) (deep W : Nat) (a : List Tm) (h : W ≤ 262144) : LoopL F k deep W a 0 W [] := by
  refine ⟨rfl, Nat.le_refl _, h, ?_⟩
  rw [List.drop_zero]
  by_cases he : (subL F k deep W 0 a).1 = 0
  · rw [if_pos he]; rfl
  · rw [if_neg he, ← subL_err _ _ _ he]
theorem LoopL.err {F : Nat → Tm → Nat → Res} {k : Int} {deep W j W' : Nat} {a xs : List Tm} (h : LoopL F k deep W a j W' xs) (hj : j < a.length) (he : (F W' a[j] (deep + undI k j)).1 ≠ 0) :
    (subL F k deep W 0 a).1 = (F W' a[j] (deep + undI k j)).1 ∧ (subL F k deep W 0 a).2.1 = (F W' a[j] (deep + undI k j)).2.1 := by
  have e := h.2.2.2
  rw [List.drop_eq_getElem_cons hj, subL, if_pos he] at e
  rw [e]
  exact ⟨rfl, rfl⟩
theorem LoopL.next {F : Nat → Tm → Nat → Res} {k : Int} {deep W j W' : Nat} {a xs : List Tm} (h : LoopL F k deep W a j W' xs) (hj : j < a.length) (he : (F W' a[j] (deep + undI k j)).1 = 0)
    (h1 : W' ≤ (F W' a[j] (deep + undI k j)).2.1) (h2 : (F W' a[j] (deep + undI k j)).2.1 ≤ 262144) : LoopL F k deep W a (j + 1) (F W' a[j] (deep + undI k j)).2.1 (xs ++ [(F W' a[j] (deep + undI k j)).2.2]) := by
  obtain ⟨e1, e2, e3, e⟩ := h
  refine ⟨by simp [e1], by omega, h2, ?_⟩
  rw [List.drop_eq_getElem_cons hj, subL, if_neg (fun h => h he)] at e
  rw [e]
  by_cases he2 : (subL F k deep (F W' a[j] (deep + undI k j)).2.1 (j + 1) (a.drop (j + 1))).1 = 0
  · rw [if_neg (fun h => h he2), he2, if_pos rfl, if_pos rfl]
    simp
  · rw [if_pos he2, if_neg he2, if_neg he2]
theorem LoopL.done {F : Nat → Tm → Nat → Res} {k : Int} {deep W W' : Nat} {a xs : List Tm} (h : LoopL F k deep W a a.length W' xs) : subL F k deep W 0 a = (0, W', xs) := by
  have e := h.2.2.2
  rw [List.drop_length] at e
  simpa [subL] using e
abbrev Ff (f : Nat) (ms : List Tm) (ss : List Sm) : Nat → Tm → Nat → Res := fun W a d => subT f W a ms ss d
theorem subT_eq (f W : Nat) (t : Tm) (ms : List Tm) (ss : List Sm) (deep : Nat) : subT (f + 1) W t ms ss deep =
    if 262144 < W + 1 then errT 2 (W + 1) else
    if (subL (Ff f ms ss) t.kind deep (W + 1) 0 t.args).1 ≠ 0 then errT (subL (Ff f ms ss) t.kind deep (W + 1) 0 t.args).1 (subL (Ff f ms ss) t.kind deep (W + 1) 0 t.args).2.1 else
    nodeT (Gf f) (subL (Ff f ms ss) t.kind deep (W + 1) 0 t.args).2.1 t (subL (Ff f ms ss) t.kind deep (W + 1) 0 t.args).2.2 ms ss deep := by
  rw [subT]
set_option maxRecDepth 100000 in
set_option maxHeartbeats 4000000 in
theorem of_calls : ∀ f, OfOK f := by
  intro f
  induction f with
  | zero => intro W t ms ss deep g A Am As c cm cs w S S1 S2 hf hW; omega
  | succ f ih =>
  intro W t ms ss deep g A Am As c cm cs w S S1 S2 hf hW hso hts hde hmss hml hms hl hr hr1 hr2 hS hS1 hS2 hg
  have HAp := Lib.hid (apply_calls ih)
  replace ih := Lib.hid ih
  have Hms := Lib.hid hms
  have Hmss := Lib.hid hmss
  have Hso := Lib.hid hso
  have hla := len_le_tsizes t.args
  have hte := tsize_eq t
  clear hms hso
  have hgl := bk_lt hg
  obtain ⟨T, HT⟩ : ∃ T, Hid (subT (f + 1) W t ms ss deep = T) := ⟨_, Lib.hid rfl⟩
  rw [HT.out]
  have hr0 := hr.bound
  have hr10 := hr1.bound
  have hr20 := hr2.bound
  clear hr hr1 hr2
  have hww : IntKind.i64.wrap ((W : Int) + 1) = (W : Int) + 1 := IntWalk.i64_in _ ⟨by omega, by omega⟩
  obtain ⟨K, HK⟩ : ∃ K, Hid (ms.length = K) := ⟨_, Lib.hid rfl⟩
  have HK2 : Hid (ss.length = K) := Lib.hid (by rw [← hmss, HK.out])
  rw [HK.out, HK2.out]
  clear hmss
  go_enter Try.func77, Try.ntmps77
  go_upto_region 1 with (fail)
  go_cut [] (fun wc => wc.heap[w.heap.size]? = some (.cells #[wkP g, .slice Am K cm, .slice As K cs] 100 (0, 0)) ∧ wc.heap[w.heap.size + 1]? = some (.cells (tmB t A c) 33 (0, 0)) ∧
      wc.heap[w.heap.size + 1 + 1]? = some (.cells #[.int .i64 0, .string ⟨#[]⟩, .int .i64 0, .slice none 0 0, .int .i64 0, .int .i64 0] 74 (0, 0)) ∧ wc.heap[g]? = some (.cells #[.int .i64 ((W + 1 : Nat) : Int)] 3 (0, 0)) ∧
      w.heap.size + 3 ≤ wc.heap.size ∧ w.grownBy wc (some g))
  case first =>
    have pg := bk_alloc (bk_alloc (bk_alloc hg (.cells #[wkP g, .slice Am K cm, .slice As K cs] 100)) (.cells (tmB t A c) 33)) (.cells #[.int .i64 0, .string ⟨#[]⟩, .int .i64 0, .slice none 0 0, .int .i64 0, .int .i64 0] 74)
    have p0 := bk_alloc (bk_alloc (bk_new w (.cells #[wkP g, .slice Am K cm, .slice As K cs] 100)) (.cells (tmB t A c) 33)) (.cells #[.int .i64 0, .string ⟨#[]⟩, .int .i64 0, .slice none 0 0, .int .i64 0, .int .i64 0] 74)
    have x := bx1 pg
    have z := bk_free pg 0
    have y0 := bk_cell p0 0 rfl
    go_wp2_with fail
    go_meet
    have p1 := bk_alloc (bk_at (w := w.alloc (.cells #[wkP g, .slice Am K cm, .slice As K cs] 100)) (n := w.heap.size + 1) (by simp) (.cells (tmB t A c) 33)) (.cells #[.int .i64 0, .string ⟨#[]⟩, .int .i64 0, .slice none 0 0, .int .i64 0, .int .i64 0] 74)
    have p2 := bk_at (w := (w.alloc (.cells #[wkP g, .slice Am K cm, .slice As K cs] 100)).alloc (.cells (tmB t A c) 33)) (n := w.heap.size + 1 + 1) (by simp) (.cells #[.int .i64 0, .string ⟨#[]⟩, .int .i64 0, .slice none 0 0, .int .i64 0, .int .i64 0] 74)
    have G := gr_alloc (gr_alloc (gr_alloc (gr_below (Below.refl w.heap.size w) (some g)) (.cells #[wkP g, .slice Am K cm, .slice As K cs] 100)) (.cells (tmB t A c) 33)) (.cells #[.int .i64 0, .string ⟨#[]⟩, .int .i64 0, .slice none 0 0, .int .i64 0, .int .i64 0] 74)
    refine ⟨bk_far p0 (by show w.heap.size ≠ g; omega) _, bk_far p1 (by show w.heap.size + 1 ≠ g; omega) _, bk_far p2 (by show w.heap.size + 1 + 1 ≠ g; omega) _, ?_, by rw [World.size_setCell]; simp, gr_row G rfl _⟩
    have := bk_set pg 0 (.int .i64 ((W : Int) + 1))
    simpa using this
  case rest =>
  clear hg
  obtain ⟨p0, p1, p2, pg, hsz, G⟩ := hcut
  have x := bx1 pg
  have y0 := bk_cell p0 0 rfl
  have HF : Hid (∀ m ∈ ms, objB m = true) := Lib.hid fun m h => (Hms.out m h).1
  have hO0 : Own mdK 74 (w.heap.size + 3) wc (fun b => (S1 b ∧ b < w.heap.size) ∨ w.heap.size + 3 ≤ b) (.slice none 0 0) ([] : List Tm) := Own.nil _ _ _ _ _
  obtain ⟨V, HV⟩ : ∃ V : Nat, Hid (V = W + 1) := ⟨_, Lib.hid rfl⟩
  rw [← HV.out] at pg x
  replace hf := Lib.hid hf
  replace hW := Lib.hid hW
  by_cases hW1 : 262144 < V
  · have hd : decide ((262144 : Int) < (V : Int)) = true := by simp; omega
    have HT2 : Hid (T = errT 2 V) := Lib.hid (by rw [← HT.out, subT_eq, ← HV.out, if_pos hW1])
    clear HT hW1
    go_wp2_with fail
    exact ⟨rfl, G, .inr ⟨by rw [HT2.out]; exact (by decide : (2 : Int) ≠ 0), by rw [HT2.out]; rfl⟩⟩
  have hd : decide ((262144 : Int) < (V : Int)) = false := by simp; omega
  obtain ⟨L, HL⟩ : ∃ L, Hid (subL (Ff f ms ss) t.kind deep V 0 t.args = L) := ⟨_, Lib.hid rfl⟩
  have HT2 : Hid (T = if L.1 ≠ 0 then errT L.1 L.2.1 else nodeT (Gf f) L.2.1 t L.2.2 ms ss deep) := Lib.hid (by rw [← HT.out, subT_eq, ← HV.out, if_neg hW1, HL.out])
  clear HT
  obtain ⟨c0, c1, c2, c3⟩ := bx4 p1
  have HV2 : Hid (V ≤ 262144) := Lib.hid (by omega)
  clear hW1
  go_wp2_with fail
  go_loopg [7, 29] (t.args.length) (fun kk v i w' => ∃ (j W' : Nat) (xs : List Tm), kk + j = t.args.length ∧ j ≤ t.args.length ∧ i = .int .i64 j ∧ Hid (LoopL (Ff f ms ss) t.kind deep V t.args j W' xs) ∧
      w'.heap[w.heap.size]? = some (.cells #[wkP g, .slice Am K cm, .slice As K cs] 100 (0, 0)) ∧ w'.heap[w.heap.size + 1]? = some (.cells (tmB t A c) 33 (0, 0)) ∧
      w'.heap[w.heap.size + 1 + 1]? = some (.cells #[.int .i64 0, .string ⟨#[]⟩, .int .i64 0, .slice none 0 0, .int .i64 0, .int .i64 0] 74 (0, 0)) ∧ w'.heap[g]? = some (.cells #[.int .i64 W'] 3 (0, 0)) ∧
      Own mdK 74 (w.heap.size + 3) w' (fun b => (S1 b ∧ b < w.heap.size) ∨ w.heap.size + 3 ≤ b) v xs ∧ w.heap.size + 3 ≤ w'.heap.size ∧ w.grownBy w' (some g))
  case atStart =>
    exact ⟨0, V, [], by omega, by omega, rfl, Lib.hid (LoopL.start _ _ _ _ _ HV2.out), p0, p1, p2, pg, hO0, hsz, G⟩
  case round =>
    clear p0 p1 p2 pg G hsz hO0 c0 c1 c2 c3 x y0
    obtain ⟨j, W', xs, hkk, hj, rfl, HX, p0, p1, p2, pg, hO, hsz, G⟩ := hrel
    by_cases hlt : j < t.args.length
    · skip
      obtain ⟨b, o, A', c', rfl, ⟨hSb, hbl⟩, e0, e1, e2, e3, hl', hr'⟩ := (hr0.grown G (fun b hb => ne_of hS b hb.1)).tm j hlt
      have hm1 := tsizes_mem t.args j hlt
      have R1 := hr10.grown G (fun b hb => ne_of hS1 b hb.1)
      have R2 := hr20.grown G (fun b hb => ne_of hS2 b hb.1)
      have hobl := hO.block
      have G1 := gr_alloc G (.cells (tmB t.args[j] A' c') 33)
      have pg1 := bk_alloc pg (.cells (tmB t.args[j] A' c') 33)
      have q0 := bk_alloc p0 (.cells (tmB t.args[j] A' c') 33)
      have q1 := bk_alloc p1 (.cells (tmB t.args[j] A' c') 33)
      have q2 := bk_alloc p2 (.cells (tmB t.args[j] A' c') 33)
      have q7 := bk_new wr (.cells (tmB t.args[j] A' c') 33)
      have hO1 := hO.alloc (.cells (tmB t.args[j] A' c') 33)
      have R0' := hr'.below (bl_new wr (.cells (tmB t.args[j] A' c') 33))
      have R1' := R1.below (bl_new wr (.cells (tmB t.args[j] A' c') 33))
      have R2' := R2.below (bl_new wr (.cells (tmB t.args[j] A' c') 33))
      obtain ⟨r, Hr⟩ : ∃ r, Hid (subT f W' t.args[j] ms ss (deep + undI t.kind j) = r) := ⟨_, Lib.hid rfl⟩
      have hu1 : undI t.kind j ≤ 1 := by unfold undI; split <;> omega
      have HI : ∀ (d : Int) (Wd : World) (S' : Nat → Prop), d = ((deep + undI t.kind j : Nat) : Int) → Rd tmK Wd S' A' t.args[j].args → ¬ S' g → Rd mdK Wd (fun b => S1 b ∧ Live w b) Am ms → Rd smK Wd (fun b => S2 b ∧ Live w b) As ss → Wd.heap[g]? = some (.cells #[.int .i64 W'] 3 (0, 0)) →
          Calls Try.prog 77 #[.agg #[wkP g, .slice Am K cm, .slice As K cs], .agg #[.int .i64 t.args[j].kind, .string t.args[j].name, .int .i64 t.args[j].idx, .slice A' t.args[j].args.length c'], .int .i64 d] Wd (SubP g Wd (fun b => S1 b ∧ Live w b) r) := by
        intro d Wd S' hd' h1 h2 h3 h4 h5
        subst hd'
        have := ih.out W' t.args[j] ms ss (deep + undI t.kind j) g A' Am As c' cm cs Wd S' (fun b => S1 b ∧ Live w b) (fun b => S2 b ∧ Live w b) (by have := HX.out.2.1; have := HX.out.2.2.1; have := hf.out; have := HV.out; omega) HX.out.2.2.1 ((sort_args Hso.out).2 j hlt) (by omega) (by omega)
          (by rw [HK.out, HK2.out]) (by rw [HK.out]; have := HK.out; omega) Hms.out hl' h1 h3 h4 h2 (fun h => hS1 h.1) (fun h => hS2 h.1) h5
        rw [HK.out, HK2.out, Hr.out] at this
        exact this
      replace HI := Lib.hid HI
      obtain ⟨u, Hu⟩ : ∃ u : Nat, Hid (undI t.kind j = u) := ⟨_, Lib.hid rfl⟩
      have hu2 : u ≤ 1 := by rw [← Hu.out]; exact hu1
      obtain ⟨U, HU⟩ : ∃ U, Hid ((t.kind == 3 || (t.kind == 2 && (j : Int) == 1)) = U) := ⟨_, Lib.hid rfl⟩
      have Hu1 : Hid (U = true → u = 1) := Lib.hid (fun h => by rw [← Hu.out]; have h2 := HU.out; rw [h] at h2; simp at h2; unfold undI; rw [if_pos (by omega)])
      have Hu0 : Hid (U = false → u = 0) := Lib.hid (fun h => by rw [← Hu.out]; have h2 := HU.out; rw [h] at h2; simp at h2; unfold undI; rw [if_neg (by omega)])
      have hdw : IntKind.i64.wrap ((deep : Int) + 1) = (deep : Int) + 1 := IntWalk.i64_in _ ⟨by omega, by omega⟩
      clear hu1
      obtain ⟨c0, c1, c2, c3⟩ := bx4 q1
      go_upto_region 9 with (fail)
      go_cut [46] (fun s46 wc => s46 = .bool U ∧ wc = wr.alloc (.cells #[.int .i64 t.args[j].kind, .string t.args[j].name, .int .i64 t.args[j].idx, .slice A' t.args[j].args.length c'] 33))
      case first =>
        cases a3 : (t.kind == 3) <;> cases a2 : (t.kind == 2) <;> cases a1 : ((j : Int) == 1)
        all_goals
          go_wp2_with fail
          go_meet
          exact ⟨by rw [← HU.out]; simp [a3, a2, a1], rfl⟩
      case rest =>
      obtain ⟨rfl, rfl⟩ := hcut
      go_upto_if 46 with (fail)
      go_cut [10] (fun s10 wc => s10 = .int .i64 ((deep : Int) + u) ∧ wc = wr.alloc (.cells #[.int .i64 t.args[j].kind, .string t.args[j].name, .int .i64 t.args[j].idx, .slice A' t.args[j].args.length c'] 33))
      case first =>
        cases hU : U
        · go_wp2_with fail
          go_meet
          exact ⟨by rw [Hu0.out hU]; simp, rfl⟩
        · go_wp2_with fail
          go_meet
          exact ⟨by rw [Hu1.out hU]; rfl, rfl⟩
      case rest =>
      obtain ⟨rfl, rfl⟩ := hcut
      obtain ⟨d0, d1, d2, d3⟩ := bx4 q7
      have y0 := bk_cell q0 0 rfl
      have y1 := bk_cell q0 1 rfl
      have y2 := bk_cell q0 2 rfl
      go_wp2_with fail
      refine (HI.out _ _ (fun b => S b ∧ Live w b) (by rw [Hu.out]; rfl) R0' (fun h => hS h.1) R1' R2' pg1).mono ?_
      have HMO : Hid (W' ≤ r.2.1) := Lib.hid (by have := subT_mono f W' t.args[j] ms ss (deep + undI t.kind j); rw [Hr.out] at this; omega)
      have HLE : Hid (r.1 = 0 → r.2.1 ≤ 262144) := Lib.hid (fun h => by have := (subT_le f W' t.args[j] ms ss (deep + undI t.kind j) HX.out.2.2.1).2; rw [Hr.out] at this; exact this h)
      have Hr2 : Hid (Ff f ms ss W' t.args[j] (deep + undI t.kind j) = r) := Lib.hid Hr.out
      have HN1 : Hid (r.1 ≠ 0 → L.1 = r.1 ∧ L.2.1 = r.2.1) := Lib.hid (fun h => by
        have := HX.out.err hlt (by rw [Hr2.out]; exact h)
        rw [HL.out, Hr2.out] at this
        exact this)
      have HN2 : Hid (r.1 = 0 → LoopL (Ff f ms ss) t.kind deep V t.args (j + 1) r.2.1 (xs ++ [r.2.2])) := Lib.hid (fun h => by
        have := HX.out.next hlt (by rw [Hr2.out]; exact h) (by rw [Hr2.out]; exact HMO.out) (by rw [Hr2.out]; exact HLE.out h)
        rw [Hr2.out] at this
        exact this)
      rintro e w2 ⟨hG2, h⟩
      have G3 := G1.trans hG2
      rcases h with ⟨h0, ⟨A7, c7, rfl, hl7, R7⟩, pg2⟩ | ⟨h0, rfl⟩
      · have hs2 : wr.heap.size + 1 ≤ w2.heap.size := by have := hG2.size; simpa using this
        have hO2 := hO1.grown hG2 (fun y hy => by rcases hy with hy | hy; exact ne_of hS1 y hy.1; omega) (by omega)
        have H0 := Lib.hid h0
        clear h0 c0 c1 c2 c3 d0 d1 d2 d3 y0 y1 y2
        have v0 := bk_alloc (bk_grown q0 hG2 (by simp; omega)) (.cells (md6 r.2.2 A7 c7 (tsize r.2.2) (tdep r.2.2)) 74)
        have v1 := bk_alloc (bk_grown q1 hG2 (by simp; omega)) (.cells (md6 r.2.2 A7 c7 (tsize r.2.2) (tdep r.2.2)) 74)
        have v2 := bk_alloc (bk_grown q2 hG2 (by simp; omega)) (.cells (md6 r.2.2 A7 c7 (tsize r.2.2) (tdep r.2.2)) 74)
        have vg := bk_alloc pg2 (.cells (md6 r.2.2 A7 c7 (tsize r.2.2) (tdep r.2.2)) 74)
        have G4 := gr_alloc G3 (.cells (md6 r.2.2 A7 c7 (tsize r.2.2) (tdep r.2.2)) 74)
        have hO3 := hO2.alloc (.cells (md6 r.2.2 A7 c7 (tsize r.2.2) (tdep r.2.2)) 74)
        have hb1 := bk_new w2 (.cells (md6 r.2.2 A7 c7 (tsize r.2.2) (tdep r.2.2)) 74)
        have hk1 : mdK.K (w2.alloc (.cells (md6 r.2.2 A7 c7 (tsize r.2.2) (tdep r.2.2)) 74)) (fun b => ((S1 b ∧ b < w.heap.size) ∨ w.heap.size + 3 ≤ b) ∧ Live (w2.alloc (.cells (md6 r.2.2 A7 c7 (tsize r.2.2) (tdep r.2.2)) 74)) b ∧ u7.ownBlock ≠ some b) r.2.2
            [.int .i64 r.2.2.kind, .string r.2.2.name, .int .i64 r.2.2.idx, .slice A7 r.2.2.args.length c7, .int .i64 (tsize r.2.2), .int .i64 (tdep r.2.2)] := by
          refine EK.mono (EK.below (mdK_of r.2.2 hl7 R7) (bl_new _ _)) (fun b hb hl => ?_)
          have hb' : ((S1 b ∧ Live w b) ∧ b < wr.heap.size + 1) ∨ wr.heap.size + 1 ≤ b := by simpa using hb
          refine ⟨?_, hl, fun he => ?_⟩
          · rcases hb' with hb' | hb'
            · exact .inl ⟨hb'.1.1, hb'.1.2.lt⟩
            · exact .inr (by omega)
          · have := hobl b he
            rcases hb' with hb' | hb'
            · have := hb'.1.2.lt; omega
            · omega
        have hlen : xs.length < 1000000000 := by have := HX.out.1; omega
        have Hxl : Hid (xs.length = j) := Lib.hid HX.out.1
        have hB1 : w.heap.size + 3 ≤ (w2.alloc (.cells (md6 r.2.2 A7 c7 (tsize r.2.2) (tdep r.2.2)) 74)).heap.size := by simp; omega
        have hne : ∀ k, k ≤ w.heap.size + 1 + 1 → some k ≠ u7.ownBlock := fun k hk he => by have := (hobl k he.symm).1; omega
        go_wp2_with (at_builtin; go_loud (refine wp_snoc (d := mdK) (v := u7) rfl (.tmp 49) (.tmp 54) _ rfl (e := 74) (bytes := 72) (z := .agg #[.int .i64 0, .string ⟨#[]⟩, .int .i64 0, .slice none 0 0, .int .i64 0, .int .i64 0]) (by kernel_rfl) (by kernel_rfl) (by rfl) (by decide) rfl hO3 hlen hB1 rfl hb1 hk1 ?_; intro ga cap w5 hO5 hgrow hcap hlt5 hBg))
        go_roundg (t.args.length - (j + 1))
        case rel =>
          refine ⟨j + 1, r.2.1, xs ++ [r.2.2], by omega, by omega, by go_num, Lib.hid (HN2.out H0.out), bk_grown v0 hgrow (hne _ (by omega)), bk_grown v1 hgrow (hne _ (by omega)), bk_grown v2 hgrow (hne _ (by omega)), bk_grown vg hgrow (hne _ (by omega)), hO5, Nat.le_trans hB1 hgrow.size, gr_into G4 hgrow (fun k hk => by have := (hobl k hk).1; omega)⟩
        case measure => omega
      · have e := HN1.out h0
        have e2 : T = errT r.1 r.2.1 := by rw [HT2.out, e.1, if_pos h0, e.2]
        refine ⟨rfl, G3, .inr ⟨?_, ?_⟩⟩
        · rw [e2]; exact h0
        · rw [e2]; rfl
    · obtain rfl : j = t.args.length := by omega
      have HLv : Hid (L = (0, W', xs)) := Lib.hid (by rw [← HL.out]; exact HX.out.done)
      have HT3 : Hid (T = nodeT (Gf f) W' t xs ms ss deep) := Lib.hid (by rw [HT2.out, HLv.out]; rfl)
      have HXX := Lib.hid (subL_ok (F := Ff f ms ss) (fun W a d h => subT_ok f W a ms ss d HF.out h) t.kind deep t.args V 0 (by rw [HL.out, HLv.out]))
      rw [HL.out, HLv.out] at HXX
      have HVW : Hid (V ≤ W' ∧ W' ≤ 262144) := Lib.hid ⟨HX.out.2.1, HX.out.2.2.1⟩
      clear HT2
      obtain ⟨Ax, cx, rfl, hcx, RX⟩ := hO.read (S' := fun b => (S1 b ∧ b < w.heap.size) ∨ w.heap.size + 3 ≤ b) (fun b hb => .inr hb) (fun b hb => hb)
      obtain ⟨c0, c1, c2, c3⟩ := bx4 p1
      obtain ⟨I, HI⟩ : ∃ I, Hid (t.idx - (deep : Int) = I) := ⟨_, Lib.hid rfl⟩
      have hws : IntKind.i64.wrap (t.idx - (deep : Int)) = t.idx - (deep : Int) := IntWalk.i64_in _ ⟨by have := (sort_args Hso.out).1; omega, by have := (sort_args Hso.out).1; omega⟩
      obtain ⟨D, HD⟩ : ∃ D, Hid ((t.kind != 5 || decide (I < 0)) = D) := ⟨_, Lib.hid rfl⟩
      go_upto_region 13 with (fail)
      go_cut [11] (fun s11 wc => s11 = .int .i64 I ∧ wc = wr)
      case first =>
        go_wp2_with fail
        go_meet
        exact ⟨by rw [HI.out], rfl⟩
      case rest =>
      obtain ⟨rfl, rfl⟩ := hcut
      go_upto_region 14 with (fail)
      go_cut [67] (fun s67 wd => s67 = .bool D ∧ wd = wc)
      case first =>
        cases k5 : (t.kind != 5) <;> cases hI : decide (I < 0)
        all_goals
          go_wp2_with fail
          go_meet
          exact ⟨by rw [← HD.out]; simp [k5, hI], rfl⟩
      case rest =>
      obtain ⟨rfl, rfl⟩ := hcut
      have hx1 : tsizes xs < 1000000000 := by
        have h1 := HXX.out.1.len
        have h2 : ∀ (l : List Tm), (∀ x ∈ l, smallB x = true) → tsizes l ≤ 4096 * l.length := by
          intro l
          induction l with
          | nil => intro _; simp [tsizes]
          | cons y l ih =>
            intro h
            have a := small_size (h y (List.mem_cons_self ..))
            have b := ih (fun x hx => h x (List.mem_cons_of_mem _ hx))
            simp only [tsizes, List.length_cons]
            omega
        have h3 := h2 xs HXX.out.2
        simp only at h1
        omega
      cases hD : D
      · have h1 := HD.out
        rw [hD] at h1
        simp at h1
        obtain ⟨hk5, hI0⟩ := h1
        obtain ⟨n, rfl⟩ := Int.eq_ofNat_of_zero_le hI0
        have HTn : Hid (T = if n < K then (if shOk deep 0 0 (ms.getD n nilT) then applyT f W' (mv deep 0 (ms.getD n nilT)) (ss.getD n (.mk ⟨#[]⟩ [])) xs else errT 5 W') else chkT W' (.mk t.kind t.name (t.idx - K) xs)) := Lib.hid (by
          rw [HT3.out, nodeT, if_neg (by have := HI.out; omega), HI.out, HK.out]
          rfl)
        have Hk5 := Lib.hid hk5
        clear hD hk5 hI0 HT3 HD
        have y1 := bk_cell p0 1 rfl
        have y2 := bk_cell p0 2 rfl
        have y0 := bk_cell p0 0 rfl
        by_cases hn : n < K
        · have hnb : decide ((K : Int) ≤ (n : Int)) = false := by simp; omega
          have hn1 : n < ms.length := by rw [HK.out]; exact hn
          have hn2 : n < ss.length := by rw [HK2.out]; exact hn
          have hHT : T = if shOk deep 0 0 ms[n] then applyT f W' (mv deep 0 ms[n]) ss[n] xs else errT 5 W' := by
            rw [HTn.out, if_pos hn, List.getD_eq_getElem?_getD, List.getElem?_eq_getElem hn1, List.getD_eq_getElem?_getD, List.getElem?_eq_getElem hn2]
            rfl
          have HTm := Lib.hid hHT
          clear hHT HTn
          obtain ⟨mo, msm⟩ := Hms.out _ (List.getElem_mem hn1)
          have Hmo := Lib.hid mo
          have Hmsm := Lib.hid msm
          clear mo msm
          have hmw : wfE ms[n] = 0 := sort_wf (.inl Hmo.out) Hmsm.out
          have hmz := small_size Hmsm.out
          have HmS : Hid (shiftT deep 0 ms[n] = if shOk deep 0 0 ms[n] then mv deep 0 ms[n] else zeroT) := Lib.hid (by rw [shiftT, if_pos hmw])
          have HmE : Hid (shiftE deep 0 ms[n] = if shOk deep 0 0 ms[n] then 0 else 5) := Lib.hid (by rw [shiftE, if_pos hmw])
          clear hmw
          have R1 := hr10.grown G (fun b hb => ne_of hS1 b hb.1)
          have R2 := hr20.grown G (fun b hb => ne_of hS2 b hb.1)
          obtain ⟨b, o, A', c', rfl, ⟨hSb, hbl⟩, e0, e1, e2, e3, e4, e5, hl', hr'⟩ := R1.md n hn1
          obtain ⟨b2, o2, A2', c2', rfl, ⟨hSb2, hbl2⟩, f0, f1, hl2', hr2'⟩ := R2.sm n hn2
          have hbl := hbl.lt
          have hbl2 := hbl2.lt
          have hgb : b ≠ g := fun h => hS1 (h ▸ hSb)
          have hgb2 : b2 ≠ g := fun h => hS2 (h ▸ hSb2)
          have hn0 : (0 : Int) ≤ (n : Int) := by omega
          go_wp2_with fail
          refine (shift_calls ms[n] A' c' (deep : Int) 0 _ _ (by omega) (obj_ix _ Hmo.out) (by omega) (by omega) (Int.le_refl _) (by omega) hl' hr').use fun w5 A9 c9 hc9 hR9 hb5 => ?_
          rw [HmE.out]
          obtain ⟨x, Hx⟩ : ∃ x, Hid (shiftT deep 0 ms[n] = x) := ⟨_, Lib.hid rfl⟩
          rw [Hx.out] at hc9 hR9 ⊢
          have hs5 := hb5.size
          clear c0 c1 c2 c3 y0 y1 y2 e0 e1 e2 e3 hl' hr' hO p1
          replace e4 := cl_below e4 hb5
          replace e5 := cl_below e5 hb5
          replace f0 := cl_below f0 hb5
          replace f1 := cl_below f1 hb5
          replace hr2' := hr2'.below hb5
          replace RX := RX.below hb5
          replace p0 := bk_below p0 hb5
          replace p2 := bk_below p2 hb5
          replace pg := bk_below pg hb5
          replace G := gr_next G hb5
          by_cases hs : shOk deep 0 0 ms[n] = true
          · have Hs := Lib.hid hs
            have HT5 : Hid (T = applyT f W' (mv deep 0 ms[n]) ss[n] xs) := Lib.hid (by rw [HTm.out, if_pos hs])
            rw [if_pos hs]
            have Hxm : Hid (x = mv deep 0 ms[n]) := Lib.hid (by rw [← Hx.out, HmS.out, if_pos hs])
            clear hs
            have hz1 : tsize ms[n] = tsize x := by rw [Hxm.out, mv_size]
            have hz2 : tdep ms[n] = tdep x := by rw [Hxm.out, mv_dep]
            rw [hz1] at e4
            rw [hz2] at e5
            rw [hz1] at hmz
            have Hsx : Hid (smallB x = true) := Lib.hid (by
              have := Hmsm.out
              simp only [smallB] at this ⊢
              rw [← hz1, ← hz2]
              exact this)
            clear hz1 hz2
            replace e4 := cl_below e4 (bl_new w5 (.cells (tmB x A9 c9) 33))
            replace e5 := cl_below e5 (bl_new w5 (.cells (tmB x A9 c9) 33))
            replace f0 := cl_below f0 (bl_new w5 (.cells (tmB x A9 c9) 33))
            replace f1 := cl_below f1 (bl_new w5 (.cells (tmB x A9 c9) 33))
            replace hr2' := hr2'.below (bl_new w5 (.cells (tmB x A9 c9) 33))
            replace RX := RX.below (bl_new w5 (.cells (tmB x A9 c9) 33))
            replace hR9 := hR9.below (bl_new w5 (.cells (tmB x A9 c9) 33))
            replace p0 := bk_alloc p0 (.cells (tmB x A9 c9) 33)
            replace p2 := bk_alloc p2 (.cells (tmB x A9 c9) 33)
            replace pg := bk_alloc pg (.cells (tmB x A9 c9) 33)
            have p12 := bk_new w5 (.cells (tmB x A9 c9) 33)
            replace G := gr_alloc G (.cells (tmB x A9 c9) 33)
            go_upto_region 22 with (fail)
            obtain ⟨d0, d1, d2, d3⟩ := bx4 p12
            have y0 := bk_cell p0 0 rfl
            have y1 := bk_cell p0 1 rfl
            have y2 := bk_cell p0 2 rfl
            have HS : ∀ w' : World, (w5.alloc (.cells (tmB x A9 c9) 33)).grownBy w' (some g) →
                w'.cell? ⟨w.heap.size, 0, none⟩ = some (wkP g) ∧ w'.cell? ⟨w.heap.size, 1, none⟩ = some (.slice (some ⟨b, o, none⟩) K cm) ∧ w'.cell? ⟨w.heap.size, 2, none⟩ = some (.slice (some ⟨b2, o2, none⟩) K cs) ∧
                w'.cell? ⟨w5.heap.size, 0, none⟩ = some (.int .i64 x.kind) ∧ w'.cell? ⟨w5.heap.size, 1, none⟩ = some (.string x.name) ∧ w'.cell? ⟨w5.heap.size, 2, none⟩ = some (.int .i64 x.idx) ∧ w'.cell? ⟨w5.heap.size, 3, none⟩ = some (.slice A9 x.args.length c9) ∧
                w'.cell? ⟨b, o + n * 6 + 4, none⟩ = some (.int .i64 (tsize x)) ∧ w'.cell? ⟨b, o + n * 6 + 5, none⟩ = some (.int .i64 (tdep x)) ∧ w'.cell? ⟨b2, o2 + n * 2, none⟩ = some (.string ss[n].fam) ∧ w'.cell? ⟨b2, o2 + n * 2 + 1, none⟩ = some (.slice A2' ss[n].args.length c2') := fun w' h =>
              ⟨cl_gr y0 h (by omega), cl_gr y1 h (by omega), cl_gr y2 h (by omega), cl_gr d0 h (by omega), cl_gr d1 h (by omega), cl_gr d2 h (by omega), cl_gr d3 h (by omega), cl_gr e4 h hgb, cl_gr e5 h hgb, cl_gr f0 h hgb2, cl_gr f1 h hgb2⟩
            replace HS := Lib.hid HS
            refine wp_region_mixP 24 (fun w' => w'.cell? ⟨w.heap.size, 0, none⟩ = some (wkP g) ∧ w'.cell? ⟨w.heap.size, 1, none⟩ = some (.slice (some ⟨b, o, none⟩) K cm) ∧ w'.cell? ⟨w.heap.size, 2, none⟩ = some (.slice (some ⟨b2, o2, none⟩) K cs) ∧
                w'.cell? ⟨w5.heap.size, 0, none⟩ = some (.int .i64 x.kind) ∧ w'.cell? ⟨w5.heap.size, 1, none⟩ = some (.string x.name) ∧ w'.cell? ⟨w5.heap.size, 2, none⟩ = some (.int .i64 x.idx) ∧ w'.cell? ⟨w5.heap.size, 3, none⟩ = some (.slice A9 x.args.length c9) ∧
                w'.cell? ⟨b, o + n * 6 + 4, none⟩ = some (.int .i64 (tsize x)) ∧ w'.cell? ⟨b, o + n * 6 + 5, none⟩ = some (.int .i64 (tdep x)) ∧ w'.cell? ⟨b2, o2 + n * 2, none⟩ = some (.string ss[n].fam) ∧ w'.cell? ⟨b2, o2 + n * 2 + 1, none⟩ = some (.slice A2' ss[n].args.length c2'))
              (fun c w' => SubP g w S1 T (.panicked c) w')
              [(true, 0), (true, 1), (true, 2), (true, 3), (true, 4), (true, 5), (true, 6), (true, 7), (true, 8), (true, 9), (true, 10), (true, 11), (true, 12), (true, 13), (true, 14), (true, 15), (true, 16), (true, 17), (true, 18), (true, 19), (true, 20), (true, 21), (false, 22), (false, 23)]
              (by kernel_rfl) rfl (by kernel_rfl) (fun c a w' h1 h2 => ⟨h1, h2⟩) (HS.out _ (gr_drew (World.grownBy.refl _ _))) ?_
            clear d0 d1 d2 d3 y0 y1 y2 e4 e5 f0 f1
            repeat (refine wpMix_soft (v := ?_) rfl rfl ?_ ?_; rotate_left; (focus (intro w' hS; go_simp; with_reducible rfl)); simp only [Act.put, List.setIfInBounds_toArray, List.set_cons_zero, List.set_cons_succ])
            -- apply
            refine wpMix_hard rfl rfl ?_
            go_wp2_with fail
            obtain ⟨r, Hr⟩ : ∃ r, Hid (applyT f W' x ss[n] xs = r) := ⟨_, Lib.hid rfl⟩
            have HTr : Hid (T = r) := Lib.hid (by rw [HT5.out, ← Hxm.out, Hr.out])
            have Hxo : Hid (objB x = true) := Lib.hid (by rw [Hxm.out]; exact mv_obj _ (by omega) _ 0 (Int.le_refl _) Hmo.out Hs.out)
            have Hxa : Hid (∀ a ∈ xs, objB a = true ∧ smallB a = true) := Lib.hid (fun a ha => ⟨by
              have h1 := HXX.out.1.obj (by
                rcases Hso.out with h | h | h
                · exact (var_obj h Hk5.out).1
                · rw [typB_eq, atomB, Hk5.out] at h; simp at h
                · rw [kndB_eq, Hk5.out] at h; simp at h)
              rw [objBs_iff] at h1
              exact List.all_eq_true.1 h1 a ha, HXX.out.2 a ha⟩)
            have Hrs : Hid (r.1 = 0 → smallB r.2.2 = true) := Lib.hid (fun h => by
              rw [← Hr.out] at h ⊢
              unfold applyT at h ⊢
              split at h
              · rename_i hq
                rw [if_pos hq]
                exact appL_small _ _ _ _ h
              · exact (errT_no (by decide) h).elim)
            refine (HAp.out W' x ss[n] xs g A9 A2' Ax c9 c2' cx _ (fun b => (S1 b ∧ b < w.heap.size) ∨ wc.heap.size ≤ b) (fun b => S2 b ∧ Live w b) (fun b => (S1 b ∧ b < w.heap.size) ∨ w.heap.size + 3 ≤ b) (by have := hf.out; have := HV.out; have := HVW.out; omega) HVW.out.2 Hxo.out Hsx.out Hxa.out ?_ hc9 ?_ hl2' hr2'.drew RX.drew ?_ ?_ ?_ pg).mono ?_
            · have := HXX.out.1.len; omega
            · refine hR9.drew.mono (fun b hb hl => ?_)
              rcases hb with hb | hb
              · exact .inl ⟨hb.1, hb.2.lt⟩
              · exact .inr hb
            · rintro (h | h)
              · exact hS1 h.1
              · omega
            · exact fun h => hS2 h.1
            · rintro (h | h)
              · exact hS1 h.1
              · omega
            rw [Hr.out]
            rintro e w6 ⟨hG6, h⟩
            replace hG6 := gr_undrew hG6
            replace G := G.trans hG6
            rcases h with ⟨h0, ⟨A7, c7, rfl, hl7, R7⟩, pg2⟩ | ⟨h0, rfl⟩
            · have H0 := Lib.hid h0
              have hsz6 := hG6.size
              simp only [World.size_alloc] at hsz6
              replace p2 := bk_grown p2 hG6 (by simp; omega)
              have hsm := Hrs.out h0
              have hC := checked_calls r.2.2 A7 c7 (tsize r.2.2) (tdep r.2.2) w6
              rw [if_pos ⟨by have := small_size hsm; omega, by have := small_dep hsm; omega⟩] at hC
              have HC := Lib.hid hC
              clear hC h0 hsm
              go_wp2_with fail
              refine mixQ_normal (HS.out _ hG6) ?_
              -- checked
              refine wpMix_hard rfl rfl ?_
              go_wp2_with fail
              refine HC.out.mono ?_
              rintro e w7 ⟨rfl, hb7⟩
              replace p2 := bk_below p2 hb7
              replace pg2 := bk_below pg2 hb7
              replace R7 := R7.below hb7
              replace G := gr_next G hb7
              have hs7 := hb7.size
              go_wp2_with fail
              refine mixQ_normal (HS.out _ (gr_next hG6 hb7)) ?_
              refine wpMix_done (cutQ_normal ?_)
              obtain ⟨x0, x1, x2, x3, x4, x5⟩ := bx6 p2
              obtain ⟨z0, z1, z2, z3, z4, z5⟩ : _ ∧ _ ∧ _ ∧ _ ∧ _ ∧ _ := ⟨bk_free p2 0, bk_free p2 1, bk_free p2 2, bk_free p2 3, bk_free p2 4, bk_free p2 5⟩
              go_wp2_with fail
              refine PanTo.normal ?_
              go_wp2_with fail
              refine bodyPost_ret (res_made rfl rfl (set6_self p2)) rfl ⟨gr_set6 G (by omega), .inl ?_⟩
              rw [HTr.out]
              refine ⟨H0.out, ⟨A7, c7, rfl, hl7, ?_⟩, (set6_far (by omega)).trans pg2⟩
              have key : ∀ b, ((((S1 b ∧ b < w.heap.size) ∨ wc.heap.size ≤ b) ∨ ((S1 b ∧ b < w.heap.size) ∨ w.heap.size + 3 ≤ b)) ∧ b < w5.heap.size + 1 ∨ w5.heap.size + 1 ≤ b) → ((S1 b ∧ b < w.heap.size) ∨ w.heap.size + 3 ≤ b) := fun b hb => by
                rcases hb with ⟨(hb | hb) | (hb | hb), _⟩ | hb
                · exact .inl hb
                · exact .inr (by omega)
                · exact .inl hb
                · exact .inr hb
                · exact .inr (by omega)
              have R8 := R7.mono (S' := fun b => (S1 b ∧ b < w.heap.size) ∨ w.heap.size + 3 ≤ b) (fun b hb _ => key b (by simpa using hb))
              exact (rd_set6 R8 (fun b hb => by omega)).mono (fun b hb _ => by rcases hb with hb | hb; exact .inl hb; exact .inr (by omega))
            · refine ⟨rfl, G, .inr ?_⟩
              rw [HTr.out]
              exact ⟨h0, rfl⟩
          · have HT5 : Hid (T = errT 5 W') := Lib.hid (by rw [HTm.out, if_neg hs])
            rw [if_neg hs]
            clear hs
            go_wp2_with fail
            exact ⟨rfl, gr_alloc G _, .inr ⟨by rw [HT5.out]; exact (by decide : (5 : Int) ≠ 0), by rw [HT5.out]; rfl⟩⟩
        · skip
          have hnb : decide ((K : Int) ≤ (n : Int)) = true := by simp; omega
          have HTm : Hid (T = chkT W' (.mk t.kind t.name (t.idx - K) xs)) := Lib.hid (by rw [HTn.out, if_neg hn])
          have hwi : IntKind.i64.wrap (t.idx - (K : Int)) = t.idx - (K : Int) := IntWalk.i64_in _ ⟨by have := (sort_args Hso.out).1; have := HK.out; omega, by have := (sort_args Hso.out).1; omega⟩
          have z2 := bk_free p1 2
          clear HTn
          go_upto_region 18 with (fail)
          replace p1 := bk_set p1 2 (.int .i64 (t.idx - (K : Int)))
          replace p2 := bk_far p2 (p := ⟨w.heap.size + 1, 2, none⟩) (by show w.heap.size + 1 + 1 ≠ w.heap.size + 1; omega) (.int .i64 (t.idx - (K : Int)))
          replace pg := bk_far pg (p := ⟨w.heap.size + 1, 2, none⟩) (by show g ≠ w.heap.size + 1; omega) (.int .i64 (t.idx - (K : Int)))
          replace RX := RX.setc (p := ⟨w.heap.size + 1, 2, none⟩) (fun b hb => by show b ≠ w.heap.size + 1; omega) (.int .i64 (t.idx - (K : Int)))
          replace G := gr_set G (p := ⟨w.heap.size + 1, 2, none⟩) (by show w.heap.size ≤ w.heap.size + 1; omega) (.int .i64 (t.idx - (K : Int)))
          replace hsz : w.heap.size + 3 ≤ (wc.setCell ⟨w.heap.size + 1, 2, none⟩ (.int .i64 (t.idx - (K : Int)))).heap.size := by rw [World.size_setCell]; exact hsz
          clear c0 c1 c2 c3 z2 hO y0 y1 y2 p0
          generalize wc.setCell ⟨w.heap.size + 1, 2, none⟩ (.int .i64 (t.idx - (K : Int))) = w4 at *
          obtain ⟨c0, c1, c2, c3⟩ := bx4 p1
          go_wp2_with fail
          refine (node_calls (.mk t.kind t.name (t.idx - K) t.args) A Ax c cx W' xs _ _ hx1 RX).mono ?_
          rw [show chkT W' (.mk (Tm.mk t.kind t.name (t.idx - K) t.args).kind (Tm.mk t.kind t.name (t.idx - K) t.args).name (Tm.mk t.kind t.name (t.idx - K) t.args).idx xs) = T from HTm.out.symm]
          rintro e w5 ⟨h, hb⟩
          replace p2 := bk_below p2 hb
          replace pg := bk_below pg hb
          replace G := gr_next G hb
          have hs5 := hb.size
          rcases h with ⟨h0, A7, c7, rfl, hl7, R7⟩ | ⟨h0, rfl⟩
          · obtain ⟨x0, x1, x2, x3, x4, x5⟩ := bx6 p2
            obtain ⟨z0, z1, z2, z3, z4, z5⟩ : _ ∧ _ ∧ _ ∧ _ ∧ _ ∧ _ := ⟨bk_free p2 0, bk_free p2 1, bk_free p2 2, bk_free p2 3, bk_free p2 4, bk_free p2 5⟩
            have H0 := Lib.hid h0
            clear h0
            have hTW : Hid (T.2.1 = W') := Lib.hid (by rw [HTm.out, chkT_W])
            go_wp2_with fail
            refine bodyPost_ret (res_made rfl rfl (set6_self p2)) rfl ⟨gr_set6 G (by omega), .inl ⟨H0.out, ⟨A7, c7, rfl, hl7, ?_⟩, ?_⟩⟩
            · exact (rd_set6 R7 (fun b hb => by omega)).mono (fun b hb _ => by rcases hb with (hb | hb) | hb; exact .inl hb; exact .inr (by omega); exact .inr (by omega))
            · rw [hTW.out]; exact (set6_far (by omega)).trans pg
          · go_wp2_with fail
            exact ⟨rfl, G, .inr ⟨h0, rfl⟩⟩
      · skip
        have HTn : Hid (T = chkT W' (.mk t.kind t.name t.idx xs)) := Lib.hid (by
          rw [HT3.out, nodeT, if_pos]
          have h1 := HD.out
          rw [hD] at h1
          simp at h1
          have := HI.out
          omega)
        clear hD
        go_wp2_with fail
        refine (node_calls t A Ax c cx W' xs _ _ hx1 RX).mono ?_
        rw [← HTn.out]
        rintro e w5 ⟨h, hb⟩
        replace p2 := bk_below p2 hb
        replace pg := bk_below pg hb
        replace G := gr_next G hb
        have hs5 := hb.size
        rcases h with ⟨h0, A7, c7, rfl, hl7, R7⟩ | ⟨h0, rfl⟩
        · obtain ⟨x0, x1, x2, x3, x4, x5⟩ := bx6 p2
          obtain ⟨z0, z1, z2, z3, z4, z5⟩ : _ ∧ _ ∧ _ ∧ _ ∧ _ ∧ _ := ⟨bk_free p2 0, bk_free p2 1, bk_free p2 2, bk_free p2 3, bk_free p2 4, bk_free p2 5⟩
          have H0 := Lib.hid h0
          clear h0
          have hTW : Hid (T.2.1 = W') := Lib.hid (by rw [HTn.out, chkT_W])
          go_wp2_with fail
          refine bodyPost_ret (res_made rfl rfl (set6_self p2)) rfl ⟨gr_set6 G (by omega), .inl ⟨H0.out, ⟨A7, c7, rfl, hl7, ?_⟩, ?_⟩⟩
          · exact (rd_set6 R7 (fun b hb => by omega)).mono (fun b hb _ => by rcases hb with (hb | hb) | hb; exact .inl hb; exact .inr (by omega); exact .inr (by omega))
          · rw [hTW.out]; exact (set6_far (by omega)).trans pg
        · go_wp2_with fail
          exact ⟨rfl, G, .inr ⟨h0, rfl⟩⟩
end Go.Proofs.Ytolooomphmcphaa
