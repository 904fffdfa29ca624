/- Hereditary substitution keeps objects, types and kinds, and counts upwards. No program in sight. -/
import Derived.Test.YtolooomphmcphaaH1
import Derived.Test.YtolooomphmcphaaGt
import Derived.Test.YtolooomphmcphaaV1
import Derived.Test.YtolooomphmcphaaR9
namespace Go.Proofs.Ytolooomphmcphaa
open Go.RowKit

theorem subL_mono {F : Nat → Tm → Nat → Res} (hF : ∀ W a d, W ≤ (F W a d).2.1) (k : Int) (deep : Nat) : ∀ (a : List Tm) (W i : Nat), W ≤ (subL F k deep W i a).2.1
  | [], W, i => Nat.le_refl _
  | a :: r, W, i => by
    have h1 := hF W a (deep + undI k i)
    have h2 := subL_mono hF k deep r (F W a (deep + undI k i)).2.1 (i + 1)
    unfold subL
    split
    · exact h1
    · split <;> exact Nat.le_trans h1 h2
theorem appL_mono {G : Nat → Tm → Tm → Sm → Res} (hG : ∀ W t a s, W ≤ (G W t a s).2.1) : ∀ (q : List Sm) (r : List Tm) (W : Nat) (m : Tm), W ≤ (appL G W m q r).2.1
  | [], r, W, m => by
    unfold appL chkT errT
    split
    · exact Nat.le_refl _
    · split <;> exact Nat.le_refl _
  | _ :: _, [], W, m => by unfold appL errT; exact Nat.le_refl _
  | s :: q, a :: r, W, m => by
    have h1 := hG W (m.args.getD 0 nilT) a s
    unfold appL
    split
    · exact Nat.le_refl _
    · split
      · exact h1
      · exact Nat.le_trans h1 (appL_mono hG q r _ _)
theorem chkT_W (W : Nat) (t : Tm) : (chkT W t).2.1 = W := by unfold chkT errT; split <;> rfl
theorem nodeT_mono {G : Nat → Tm → Tm → Sm → Res} (hG : ∀ W t a s, W ≤ (G W t a s).2.1) (W : Nat) (t : Tm) (xs ms : List Tm) (ss : List Sm) (deep : Nat) : W ≤ (nodeT G W t xs ms ss deep).2.1 := by
  unfold nodeT
  split
  · rw [chkT_W]; exact Nat.le_refl _
  · split
    · split
      · split
        · exact appL_mono hG _ _ _ _
        · exact Nat.le_refl _
      · exact Nat.le_refl _
    · rw [chkT_W]; exact Nat.le_refl _
theorem subT_mono : ∀ (f W : Nat) (t : Tm) (ms : List Tm) (ss : List Sm) (deep : Nat), W < (subT f W t ms ss deep).2.1
  | 0, W, _, _, _, _ => Nat.lt_succ_self _
  | f + 1, W, t, ms, ss, deep => by
    have h1 := subL_mono (F := fun W a d => subT f W a ms ss d) (fun W a d => Nat.le_of_lt (subT_mono f W a ms ss d)) t.kind deep t.args (W + 1) 0
    unfold subT
    split
    · exact Nat.lt_succ_self _
    · split
      · exact h1
      · exact Nat.lt_of_lt_of_le h1 (nodeT_mono (fun W t a s => Nat.le_of_lt (subT_mono f W t [a] [s] 0)) _ _ _ _ _ _)

/-! ### what is kept -/
def Kept (t r : Tm) : Prop := (objB t = true → objB r = true) ∧ (typB t = true → typB r = true) ∧ (kndB t = true → kndB r = true)
def KeptL : List Tm → List Tm → Prop
  | [], [] => True
  | t :: r, x :: s => Kept t x ∧ KeptL r s
  | _, _ => False
theorem KeptL.len : ∀ {a xs : List Tm}, KeptL a xs → xs.length = a.length
  | [], [], _ => rfl
  | _ :: _, _ :: _, h => by simp [KeptL.len h.2]
  | [], _ :: _, h => h.elim
  | _ :: _, [], h => h.elim
theorem KeptL.obj : ∀ {a xs : List Tm}, KeptL a xs → objBs a = true → objBs xs = true
  | [], [], _, _ => rfl
  | _ :: _, _ :: _, h, ho => by
    rw [objBs, Bool.and_eq_true] at ho ⊢
    exact ⟨h.1.1 ho.1, KeptL.obj h.2 ho.2⟩
  | [], _ :: _, h, _ => h.elim
  | _ :: _, [], h, _ => h.elim
theorem KeptL.typ : ∀ {a xs : List Tm}, KeptL a xs → typBs a = true → typBs xs = true
  | [], [], _, _ => rfl
  | _ :: _, _ :: _, h, ho => by
    rw [typBs, Bool.and_eq_true] at ho ⊢
    exact ⟨h.1.2.1 ho.1, KeptL.typ h.2 ho.2⟩
  | [], _ :: _, h, _ => h.elim
  | _ :: _, [], h, _ => h.elim
theorem KeptL.knd {a xs : List Tm} (h : KeptL a xs) (ho : kndBl a = true) : kndBl xs = true := by
  match a, xs, h with
  | [x, y], [x', y'], h =>
    rw [kndBl, Bool.and_eq_true] at ho ⊢
    exact ⟨h.1.2.1 ho.1, h.2.1.2.2 ho.2⟩
  | [], [], _ => exact ho
  | [_], [_], _ => simp [kndBl] at ho
  | _ :: _ :: _ :: _, _, _ => simp [kndBl] at ho
theorem objB_iff (t : Tm) : objB t = true ↔ (t.kind = 3 ∧ boundB t 1 = true ∧ objBs t.args = true) ∨ atomB t = true ∨ (t.kind = 5 ∧ t.name.toList.isEmpty = true ∧ 0 ≤ t.idx ∧ t.idx ≤ 1048576 ∧ objBs t.args = true) ∨
    (t.kind = 6 ∧ t.name.toList.isEmpty = true ∧ 0 ≤ t.idx ∧ t.idx < 2048 ∧ objBs t.args = true) := by
  rw [objB_eq]
  simp only [Bool.or_eq_true, Bool.and_eq_true, beq_iff_eq, decide_eq_true_eq, and_assoc, or_assoc]
theorem bound_args {k : Int} {s : ByteArray} {i : Int} {a xs : List Tm} {n : Int} (hl : xs.length = a.length) (h : boundB (.mk k s i a) n = true) : boundB (.mk k s i xs) n = true := by
  simpa [boundB, Tm.idx, Tm.args, Tm.name, hl] using h
/-- a node with kept arguments -/
theorem kept_node (k : Int) (s : ByteArray) (i i' : Int) {a xs : List Tm} (h : KeptL a xs) (hi : i' = i ∨ (k = 5 ∧ (0 ≤ i → i ≤ 1048576 → 0 ≤ i' ∧ i' ≤ 1048576))) : Kept (.mk k s i a) (.mk k s i' xs) := by
  have hl := h.len
  have ha : atomB (.mk k s i a) = true → atomB (.mk k s i' xs) = true := by
    intro h1
    simp only [atomB, Tm.kind, Tm.name, Tm.idx, Tm.args, Bool.and_eq_true, beq_iff_eq] at h1 ⊢
    obtain ⟨⟨⟨h1, h2⟩, h3⟩, h4⟩ := h1
    refine ⟨⟨⟨h1, h2⟩, ?_⟩, h.obj h4⟩
    rcases hi with rfl | hi
    · exact h3
    · omega
  refine ⟨fun ho => ?_, fun ho => ?_, fun ho => ?_⟩
  · rw [objB_iff] at ho ⊢
    simp only [Tm.kind, Tm.name, Tm.idx, Tm.args] at ho ⊢
    rcases ho with ⟨h1, h2, h3⟩ | h1 | ⟨h1, h2, h3, h4, h5⟩ | ⟨h1, h2, h3, h4, h5⟩
    · rcases hi with rfl | hi
      · exact .inl ⟨h1, bound_args hl h2, h.obj h3⟩
      · omega
    · exact .inr (.inl (ha h1))
    · refine .inr (.inr (.inl ⟨h1, h2, ?_, ?_, h.obj h5⟩))
      · rcases hi with rfl | hi
        · exact h3
        · exact (hi.2 h3 h4).1
      · rcases hi with rfl | hi
        · exact h4
        · exact (hi.2 h3 h4).2
    · rcases hi with rfl | hi
      · exact .inr (.inr (.inr ⟨h1, h2, h3, h4, h.obj h5⟩))
      · omega
  · rw [typB_eq] at ho ⊢
    simp only [Bool.or_eq_true, Bool.and_eq_true, beq_iff_eq, Tm.kind, Tm.args] at ho ⊢
    rcases ho with h1 | ⟨⟨h1, h2⟩, h3⟩
    · exact .inl (ha h1)
    · rcases hi with rfl | hi
      · exact .inr ⟨⟨h1, bound_args hl h2⟩, h.typ h3⟩
      · omega
  · rw [kndB_eq] at ho ⊢
    simp only [Bool.or_eq_true, Bool.and_eq_true, beq_iff_eq, Tm.kind, Tm.args, Tm.name, Tm.idx] at ho ⊢
    rcases ho with ⟨⟨⟨h1, h2⟩, h3⟩, h4⟩ | ⟨⟨h1, h2⟩, h3⟩
    · rcases hi with rfl | hi
      · refine .inl ⟨⟨⟨h1, h2⟩, h3⟩, ?_⟩
        have : a = [] := by simpa using h4
        subst this
        have : xs = [] := List.eq_nil_of_length_eq_zero hl
        subst this
        rfl
      · omega
    · rcases hi with rfl | hi
      · exact .inr ⟨⟨h1, bound_args hl h2⟩, h.knd h3⟩
      · omega
mutual
theorem mv_obj (d : Int) (hd : 0 ≤ d) : ∀ (t : Tm) (bs : Int), 0 ≤ bs → objB t = true → shOk d 0 bs t = true → objB (mv d bs t) = true
  | .mk k s i a, bs, h0, ho, hs => by
    have hs' : ((!(k == 5 && decide (bs ≤ i)) || (if i - bs < 0 then decide (i ≤ 1048576) else decide (d ≤ 1048576) && decide (i + d ≤ 1048576))) && shOks d 0 bs k 0 a) = true := by rw [shOk_eq] at hs; exact hs
    rw [Bool.and_eq_true] at hs'
    obtain ⟨e1, e2⟩ := hs'
    rw [objB_iff] at ho
    simp only [Tm.kind, Tm.name, Tm.idx, Tm.args] at ho
    have hoa : objBs a = true := by
      rcases ho with ⟨_, _, h3⟩ | h1 | ⟨_, _, _, _, h5⟩ | ⟨_, _, _, _, h5⟩
      · exact h3
      · simp only [atomB, Bool.and_eq_true, Tm.args] at h1; exact h1.2
      · exact h5
      · exact h5
    have hm := mvs_obj d hd k a bs 0 h0 hoa e2
    rw [mv, objB_iff]
    simp only [Tm.kind, Tm.name, Tm.idx, Tm.args]
    rcases ho with ⟨h1, h2, h3⟩ | h1 | ⟨h1, h2, h3, h4, h5⟩ | ⟨h1, h2, h3, h4, h5⟩
    · rw [if_neg (by omega)]
      exact .inl ⟨h1, bound_args (mvs_len _ _ _ _ _) h2, hm⟩
    · simp only [atomB, Bool.and_eq_true, Tm.kind, Tm.name, Tm.idx, Tm.args, beq_iff_eq] at h1
      obtain ⟨⟨⟨h1, h2⟩, h3⟩, h4⟩ := h1
      rw [if_neg (by omega)]
      refine .inr (.inl ?_)
      simp only [atomB, Bool.and_eq_true, Tm.kind, Tm.name, Tm.idx, Tm.args, beq_iff_eq]
      exact ⟨⟨⟨h1, h2⟩, h3⟩, hm⟩
    · refine .inr (.inr (.inl ⟨h1, h2, ?_, ?_, hm⟩))
      · split <;> omega
      · split
        · rename_i hb
          have : (k == 5 && decide (bs ≤ i)) = true := by simp [hb.1, hb.2]
          rw [this, if_neg (by omega)] at e1
          simp at e1
          omega
        · exact h4
    · rw [if_neg (by omega)]
      exact .inr (.inr (.inr ⟨h1, h2, h3, h4, hm⟩))
theorem mvs_obj (d : Int) (hd : 0 ≤ d) (k : Int) : ∀ (a : List Tm) (bs : Int) (j : Nat), 0 ≤ bs → objBs a = true → shOks d 0 bs k j a = true → objBs (mvs d bs k j a) = true
  | [], bs, j, _, _, _ => rfl
  | t :: r, bs, j, h0, ho, hs => by
    rw [objBs, Bool.and_eq_true] at ho
    rw [shOks, Bool.and_eq_true] at hs
    have := underN_le k j
    rw [mvs, objBs, Bool.and_eq_true]
    exact ⟨mv_obj d hd t _ (by omega) ho.1 hs.1, mvs_obj d hd k r bs (j + 1) h0 ho.2 hs.2⟩
end
theorem chkT_ok {W : Nat} {t : Tm} (h : (chkT W t).1 = 0) : (chkT W t).2.2 = t ∧ smallB t = true := by
  unfold chkT errT at h ⊢
  split at h
  · rename_i hs
    rw [if_pos hs]
    exact ⟨rfl, by simp [smallB, hs.1, hs.2]⟩
  · cases h
theorem errT_no {e : Int} {W : Nat} (he : e ≠ 0) : (errT e W).1 ≠ 0 := he
/-- of a substitution of one object in a body -/
def GOk (G : Nat → Tm → Tm → Sm → Res) : Prop := ∀ W t a s, objB a = true → (G W t a s).1 = 0 → Kept t (G W t a s).2.2 ∧ smallB (G W t a s).2.2 = true
theorem lam_body {m : Tm} (h : objB m = true) (hk : m.kind = 3) : objB (m.args.getD 0 nilT) = true := by
  obtain ⟨h1, h2⟩ := lam_obj h hk
  match hm : m.args, h1 with
  | [x], _ =>
    rw [hm] at h2
    simpa [objBs] using h2
theorem appL_ok {G : Nat → Tm → Tm → Sm → Res} (hG : GOk G) : ∀ (q : List Sm) (r : List Tm) (W : Nat) (m : Tm), objB m = true → objBs r = true → (appL G W m q r).1 = 0 → objB (appL G W m q r).2.2 = true ∧ smallB (appL G W m q r).2.2 = true
  | [], r, W, m, hm, _, h => by
    unfold appL at h ⊢
    split at h
    · exact (errT_no (by decide) h).elim
    · rename_i hk
      rw [if_neg hk]
      obtain ⟨e, hs⟩ := chkT_ok h
      rw [e]
      exact ⟨hm, hs⟩
  | _ :: _, [], W, m, _, _, h => by
    unfold appL at h
    exact (errT_no (by decide) h).elim
  | s :: q, a :: r, W, m, hm, hr, h => by
    rw [objBs, Bool.and_eq_true] at hr
    unfold appL at h ⊢
    split at h
    · exact (errT_no (by decide) h).elim
    · rename_i hk
      rw [if_neg hk]
      split at h
      · rename_i he
        exact (errT_no he h).elim
      · rename_i he
        rw [if_neg he]
        have he' : (G W (m.args.getD 0 nilT) a s).1 = 0 := by simpa using he
        have h1 := hG W (m.args.getD 0 nilT) a s hr.1 he'
        exact appL_ok hG q r _ _ (h1.1.1 (lam_body hm (by simpa using hk))) hr.2 h
theorem subL_ok {F : Nat → Tm → Nat → Res} (hF : ∀ W a d, (F W a d).1 = 0 → Kept a (F W a d).2.2 ∧ smallB (F W a d).2.2 = true) (k : Int) (deep : Nat) : ∀ (a : List Tm) (W i : Nat), (subL F k deep W i a).1 = 0 →
    KeptL a (subL F k deep W i a).2.2 ∧ ∀ x ∈ (subL F k deep W i a).2.2, smallB x = true
  | [], W, i, _ => ⟨trivial, by simp [subL]⟩
  | a :: r, W, i, h => by
    unfold subL at h ⊢
    split at h
    · rename_i he; exact (he h).elim
    · rename_i he
      rw [if_neg he]
      split at h
      · rename_i he2; exact (he2 h).elim
      · rename_i he2
        rw [if_neg he2]
        have h1 := hF W a (deep + undI k i) (by simpa using he)
        have h2 := subL_ok hF k deep r (F W a (deep + undI k i)).2.1 (i + 1) (by simpa using he2)
        refine ⟨⟨h1.1, h2.1⟩, fun x hx => ?_⟩
        rcases List.mem_cons.1 hx with rfl | hx
        · exact h1.2
        · exact h2.2 x hx
theorem getD_mem {α : Type} {l : List α} {i : Nat} (h : i < l.length) (d : α) : l.getD i d ∈ l := by
  rw [List.getD_eq_getElem?_getD, List.getElem?_eq_getElem h]
  exact List.getElem_mem h
theorem appL_small {G : Nat → Tm → Tm → Sm → Res} (q : List Sm) (r : List Tm) (W : Nat) (m : Tm) (h : (appL G W m q r).1 = 0) : smallB (appL G W m q r).2.2 = true := by
  induction q generalizing r W m with
  | nil =>
    unfold appL at h ⊢
    split at h
    · exact (errT_no (by decide) h).elim
    · rename_i hk
      rw [if_neg hk]
      obtain ⟨e, hs⟩ := chkT_ok h
      rw [e]
      exact hs
  | cons s q ih =>
    cases r with
    | nil =>
      unfold appL at h
      exact (errT_no (by decide) h).elim
    | cons a r =>
      unfold appL at h ⊢
      split at h
      · exact (errT_no (by decide) h).elim
      · rename_i hk
        rw [if_neg hk]
        split at h
        · rename_i he
          exact (errT_no he h).elim
        · rename_i he
          rw [if_neg he]
          exact ih _ _ _ h
theorem nodeT_mk (G : Nat → Tm → Tm → Sm → Res) (W : Nat) (k : Int) (s : ByteArray) (i : Int) (a xs ms : List Tm) (ss : List Sm) (deep : Nat) : nodeT G W (.mk k s i a) xs ms ss deep =
  if k ≠ 5 ∨ i < deep then chkT W (.mk k s i xs) else
  if (i - deep).toNat < ms.length then
    if shOk deep 0 0 (ms.getD (i - deep).toNat nilT) then
      if xs.length = (ss.getD (i - deep).toNat (.mk ⟨#[]⟩ [])).args.length then appL G W (mv deep 0 (ms.getD (i - deep).toNat nilT)) (ss.getD (i - deep).toNat (.mk ⟨#[]⟩ [])).args xs else errT 6 W
    else errT 5 W
  else chkT W (.mk k s (i - ms.length) xs) := rfl
theorem nodeT_ok {G : Nat → Tm → Tm → Sm → Res} (hG : GOk G) (W : Nat) (t : Tm) (xs ms : List Tm) (ss : List Sm) (deep : Nat) (hm : ∀ m ∈ ms, objB m = true) (hx : KeptL t.args xs) (h : (nodeT G W t xs ms ss deep).1 = 0) :
    Kept t (nodeT G W t xs ms ss deep).2.2 ∧ smallB (nodeT G W t xs ms ss deep).2.2 = true := by
  cases t with
  | mk k s i a =>
  simp only [Tm.args] at hx
  rw [nodeT_mk] at h ⊢
  by_cases hc : k ≠ 5 ∨ i < deep
  · rw [if_pos hc] at h ⊢
    obtain ⟨e, hs⟩ := chkT_ok h
    rw [e]
    exact ⟨kept_node k s i i hx (.inl rfl), hs⟩
  · rw [if_neg hc] at h ⊢
    have hk : k = 5 := by by_cases h5 : k = 5; exact h5; exact absurd (.inl h5) hc
    have hi : (deep : Int) ≤ i := by by_cases h5 : i < deep; exact absurd (.inr h5) hc; omega
    by_cases hl : (i - deep).toNat < ms.length
    · rw [if_pos hl] at h ⊢
      by_cases hs : shOk deep 0 0 (ms.getD (i - deep).toNat nilT) = true
      · rw [if_pos hs] at h ⊢
        by_cases hn : xs.length = (ss.getD (i - deep).toNat (.mk ⟨#[]⟩ [])).args.length
        · rw [if_pos hn] at h ⊢
          have hmo := mv_obj deep (by omega) _ 0 (Int.le_refl _) (hm _ (getD_mem hl nilT)) hs
          have notK : typB (.mk k s i a) = false ∧ kndB (.mk k s i a) = false := by
            subst hk
            exact ⟨by simp [typB_eq, atomB, Tm.kind], by simp [kndB_eq, Tm.kind]⟩
          have key : objB (.mk k s i a) = true → objBs xs = true := fun ho => hx.obj (by
            have := (var_obj ho hk).1
            exact this)
          by_cases ho : objB (.mk k s i a) = true
          · have := appL_ok hG _ xs W _ hmo (key ho) h
            exact ⟨⟨fun _ => this.1, ⟨fun h => (by rw [notK.1] at h; cases h), fun h => (by rw [notK.2] at h; cases h)⟩⟩, this.2⟩
          · refine ⟨⟨fun h => absurd h ho, ⟨fun h => (by rw [notK.1] at h; cases h), fun h => (by rw [notK.2] at h; cases h)⟩⟩, ?_⟩
            exact appL_small _ xs W _ h
        · rw [if_neg hn] at h
          exact (errT_no (by decide) h).elim
      · rw [if_neg hs] at h
        exact (errT_no (by decide) h).elim
    · rw [if_neg hl] at h ⊢
      obtain ⟨e, hs⟩ := chkT_ok h
      rw [e]
      exact ⟨kept_node k s i _ hx (.inr ⟨hk, fun h1 h2 => by omega⟩), hs⟩
theorem subT_ok : ∀ (f W : Nat) (t : Tm) (ms : List Tm) (ss : List Sm) (deep : Nat), (∀ m ∈ ms, objB m = true) → (subT f W t ms ss deep).1 = 0 → Kept t (subT f W t ms ss deep).2.2 ∧ smallB (subT f W t ms ss deep).2.2 = true
  | 0, W, _, _, _, _, _, h => by
    unfold subT at h
    exact (errT_no (by decide) h).elim
  | f + 1, W, t, ms, ss, deep, hm, h => by
    unfold subT at h ⊢
    split at h
    · exact (errT_no (by decide) h).elim
    · rename_i hw
      rw [if_neg hw]
      split at h
      · rename_i he; exact (errT_no he h).elim
      · rename_i he
        rw [if_neg he]
        have h1 := subL_ok (F := fun W a d => subT f W a ms ss d) (fun W a d h => subT_ok f W a ms ss d hm h) t.kind deep t.args (W + 1) 0 (by simpa using he)
        exact nodeT_ok (fun W t a s ha h => subT_ok f W t [a] [s] 0 (by simpa using ha) h) _ _ _ _ _ _ hm h1.1 h
/-! ### what is well formed, and how far the work may go -/
def sortB (t : Tm) : Prop := objB t = true ∨ typB t = true ∨ kndB t = true
theorem wf_sort {t : Tm} (h : wfE t = 0) : sortB t ∧ smallB t = true := by
  unfold wfE at h
  split at h
  · cases h
  · rename_i h1
    split at h
    · cases h
    · rename_i h2
      refine ⟨?_, by simpa using h2⟩
      unfold sortB
      cases ho : objB t
      · cases ht : typB t
        · cases hk : kndB t
          · simp [ho, ht, hk] at h1
          · exact .inr (.inr rfl)
        · exact .inr (.inl rfl)
      · exact .inl rfl
theorem sort_wf {t : Tm} (h : sortB t) (h2 : smallB t = true) : wfE t = 0 := by
  unfold wfE
  rw [if_neg, if_neg]
  · simp [h2]
  · rcases h with h | h | h <;> simp [h]
theorem small_size {t : Tm} (h : smallB t = true) : tsize t ≤ 4096 := by
  simp only [smallB, Bool.and_eq_true, decide_eq_true_eq] at h
  exact h.1
theorem small_dep {t : Tm} (h : smallB t = true) : tdep t ≤ 128 := by
  simp only [smallB, Bool.and_eq_true, decide_eq_true_eq] at h
  exact h.2
theorem atom_args {t : Tm} (h : atomB t = true) : objBs t.args = true ∧ t.idx = 0 := by
  simp only [atomB, Bool.and_eq_true, beq_iff_eq] at h
  exact ⟨h.2, h.1.2⟩
theorem bound_idx {t : Tm} {n : Int} (h : boundB t n = true) : t.idx = 0 := by
  simp only [boundB, Bool.and_eq_true, beq_iff_eq] at h
  exact h.1.1
theorem typBs_get {a : List Tm} (h : typBs a = true) (m : Nat) (hm : m < a.length) : typB a[m] = true := by
  rw [typBs_iff] at h
  exact List.all_eq_true.1 h _ (List.getElem_mem hm)
theorem sort_args {t : Tm} (h : sortB t) : (-1000000000000 ≤ t.idx ∧ t.idx ≤ 1000000000000) ∧ ∀ (m : Nat) (hm : m < t.args.length), sortB t.args[m] := by
  rcases h with h | h | h
  · rw [objB_iff] at h
    rcases h with ⟨_, h2, h3⟩ | h1 | ⟨_, _, h3, h4, h5⟩ | ⟨_, _, h3, h4, h5⟩
    · exact ⟨by have := bound_idx h2; omega, fun m hm => .inl (objBs_get h3 m hm)⟩
    · exact ⟨by have := (atom_args h1).2; omega, fun m hm => .inl (objBs_get (atom_args h1).1 m hm)⟩
    · exact ⟨by omega, fun m hm => .inl (objBs_get h5 m hm)⟩
    · exact ⟨by omega, fun m hm => .inl (objBs_get h5 m hm)⟩
  · rw [typB_eq] at h
    simp only [Bool.or_eq_true, Bool.and_eq_true, beq_iff_eq] at h
    rcases h with h1 | ⟨⟨_, h2⟩, h3⟩
    · exact ⟨by have := (atom_args h1).2; omega, fun m hm => .inl (objBs_get (atom_args h1).1 m hm)⟩
    · exact ⟨by have := bound_idx h2; omega, fun m hm => .inr (.inl (typBs_get h3 m hm))⟩
  · rw [kndB_eq] at h
    simp only [Bool.or_eq_true, Bool.and_eq_true, beq_iff_eq] at h
    rcases h with ⟨⟨_, h2⟩, h3⟩ | ⟨⟨_, h2⟩, h3⟩
    · refine ⟨by omega, fun m hm => ?_⟩
      have : t.args = [] := by simpa using h3
      rw [this] at hm
      simp at hm
    · refine ⟨by have := bound_idx h2; omega, fun m hm => ?_⟩
      have hl := bound_len (n := 2) h2
      rw [kndBl_two hl (by omega) (by omega), Bool.and_eq_true] at h3
      have : m = 0 ∨ m = 1 := by omega
      rcases this with rfl | rfl
      · exact .inr (.inl h3.1)
      · exact .inr (.inr h3.2)
theorem sort_ix (n : Nat) : ∀ (t : Tm), tsize t < n → sortB t → ixT 1000000000000 t := by
  induction n with
  | zero => intro t h; omega
  | succ n ih =>
    intro t h hs
    obtain ⟨h1, h2⟩ := sort_args hs
    refine (ixT_eq _ _).2 ⟨h1.1, h1.2, (ixTs_iff _ _).2 fun x hx => ?_⟩
    obtain ⟨m, hm, rfl⟩ := List.mem_iff_getElem.1 hx
    have := tsize_eq t
    have := tsizes_mem t.args m hm
    exact ih _ (by omega) (h2 m hm)
theorem subT_le : ∀ (f W : Nat) (t : Tm) (ms : List Tm) (ss : List Sm) (deep : Nat), W ≤ 262144 → (subT f W t ms ss deep).2.1 ≤ 262145 ∧ ((subT f W t ms ss deep).1 = 0 → (subT f W t ms ss deep).2.1 ≤ 262144)
  | 0, W, _, _, _, _, h => ⟨Nat.succ_le_succ h, fun h => (errT_no (W := W + 1) (by decide) h).elim⟩
  | f + 1, W, t, ms, ss, deep, h => by
    have hL : ∀ (a : List Tm) (W i : Nat), W ≤ 262144 → (subL (fun W a d => subT f W a ms ss d) t.kind deep W i a).2.1 ≤ 262145 ∧ ((subL (fun W a d => subT f W a ms ss d) t.kind deep W i a).1 = 0 → (subL (fun W a d => subT f W a ms ss d) t.kind deep W i a).2.1 ≤ 262144) := by
      intro a
      induction a with
      | nil => intro W i h; exact ⟨Nat.le_succ_of_le h, fun _ => h⟩
      | cons a r ih =>
        intro W i h
        have h1 := subT_le f W a ms ss (deep + undI t.kind i) h
        unfold subL
        split
        · rename_i he
          exact ⟨h1.1, fun h => absurd h he⟩
        · rename_i he
          have h2 := ih (subT f W a ms ss (deep + undI t.kind i)).2.1 (i + 1) (h1.2 (by simpa using he))
          split
          · rename_i he2
            exact ⟨h2.1, fun h => absurd h he2⟩
          · rename_i he2
            exact ⟨h2.1, fun _ => h2.2 (by simpa using he2)⟩
    have hA : ∀ (q : List Sm) (r : List Tm) (W : Nat) (m : Tm), W ≤ 262144 → (appL (fun W t a s => subT f W t [a] [s] 0) W m q r).2.1 ≤ 262145 ∧ ((appL (fun W t a s => subT f W t [a] [s] 0) W m q r).1 = 0 → (appL (fun W t a s => subT f W t [a] [s] 0) W m q r).2.1 ≤ 262144) := by
      intro q
      induction q with
      | nil =>
        intro r W m h
        unfold appL
        split
        · exact ⟨Nat.le_succ_of_le h, fun _ => h⟩
        · rw [chkT_W]; exact ⟨Nat.le_succ_of_le h, fun _ => h⟩
      | cons s q ih =>
        intro r W m h
        cases r with
        | nil => unfold appL; exact ⟨Nat.le_succ_of_le h, fun _ => h⟩
        | cons a r =>
          have h1 := subT_le f W (m.args.getD 0 nilT) [a] [s] 0 h
          unfold appL
          split
          · exact ⟨Nat.le_succ_of_le h, fun _ => h⟩
          · split
            · rename_i he
              exact ⟨h1.1, fun h => absurd h (errT_no he)⟩
            · rename_i he
              exact ih _ _ _ (h1.2 (by simpa using he))
    unfold subT
    split
    · exact ⟨Nat.succ_le_succ h, fun h => (errT_no (W := W + 1) (by decide) h).elim⟩
    · rename_i hw
      have h1 := hL t.args (W + 1) 0 (by omega)
      split
      · rename_i he
        exact ⟨h1.1, fun h => absurd h (errT_no he)⟩
      · rename_i he
        have h2 := h1.2 (by simpa using he)
        unfold nodeT
        split
        · rw [chkT_W]; exact ⟨Nat.le_succ_of_le h2, fun _ => h2⟩
        · split
          · split
            · split
              · exact hA _ _ _ _ h2
              · exact ⟨Nat.le_succ_of_le h2, fun _ => h2⟩
            · exact ⟨Nat.le_succ_of_le h2, fun _ => h2⟩
          · rw [chkT_W]; exact ⟨Nat.le_succ_of_le h2, fun _ => h2⟩
end Go.Proofs.Ytolooomphmcphaa
