/- The reference's package lfcheckref05: sorts, Size, Depth, Small, WellFormed .. answer as the program's package term does. -/
import Derived.Test.YtolooomphmcphaaSp
namespace Go.Proofs.Ytolooomphmcphaa
open Go.RowKit

def sortN (t : Tm) : Int := (if objB t then 1 else 0) + (if typB t then 2 else 0) + (if kndB t then 4 else 0)
theorem kindCases (k : Int) : ((k == 1) = true ∧ (k == 2) = false ∧ (k == 3) = false ∧ (k == 4) = false ∧ (k == 5) = false ∧ (k == 6) = false) ∨ ((k == 1) = false ∧ (k == 2) = true ∧ (k == 3) = false ∧ (k == 4) = false ∧ (k == 5) = false ∧ (k == 6) = false) ∨
    ((k == 1) = false ∧ (k == 2) = false ∧ (k == 3) = true ∧ (k == 4) = false ∧ (k == 5) = false ∧ (k == 6) = false) ∨ ((k == 1) = false ∧ (k == 2) = false ∧ (k == 3) = false ∧ (k == 4) = true ∧ (k == 5) = false ∧ (k == 6) = false) ∨
    ((k == 1) = false ∧ (k == 2) = false ∧ (k == 3) = false ∧ (k == 4) = false ∧ (k == 5) = true ∧ (k == 6) = false) ∨ ((k == 1) = false ∧ (k == 2) = false ∧ (k == 3) = false ∧ (k == 4) = false ∧ (k == 5) = false ∧ (k == 6) = true) ∨
    ((k == 1) = false ∧ (k == 2) = false ∧ (k == 3) = false ∧ (k == 4) = false ∧ (k == 5) = false ∧ (k == 6) = false) := by
  by_cases h1 : k = 1
  · subst h1; simp
  by_cases h2 : k = 2
  · subst h2; simp
  by_cases h3 : k = 3
  · subst h3; simp
  by_cases h4 : k = 4
  · subst h4; simp
  by_cases h5 : k = 5
  · subst h5; simp
  by_cases h6 : k = 6
  · subst h6; simp
  simp [h1, h2, h3, h4, h5, h6]

theorem typB_kind {t : Tm} (h : typB t = true) : t.kind = 4 ∨ (t.kind = 2 ∧ boundB t 2 = true ∧ typBs t.args = true) := by
  rw [typB_eq, Bool.or_eq_true] at h
  rcases h with h | h
  · exact .inl (by simp [atomB] at h; exact h.1.1.1)
  · simp at h; exact .inr ⟨h.1.1, h.1.2, h.2⟩
theorem kndB_kind {t : Tm} (h : kndB t = true) : t.kind = 1 ∨ (t.kind = 2 ∧ kndBl t.args = true) := by
  rw [kndB_eq, Bool.or_eq_true] at h
  rcases h with h | h
  · exact .inl (by simp at h; exact h.1.1.1)
  · simp at h; exact .inr ⟨h.1.1, h.2⟩
theorem objB_kind {t : Tm} (h : objB t = true) : t.kind = 3 ∨ t.kind = 4 ∨ t.kind = 5 ∨ t.kind = 6 := by
  rw [objB_eq] at h
  simp [atomB] at h
  omega
theorem typ_not_knd : ∀ n (t : Tm), tsize t < n → typB t = true → kndB t = false := by
  intro n
  induction n with
  | zero => intro t h; omega
  | succ n ih =>
    intro t hn h
    cases hk : kndB t
    · rfl
    · exfalso
      rcases typB_kind h with h4 | ⟨h2, _, hts⟩
      · rcases kndB_kind hk with h1 | ⟨h2, _⟩ <;> omega
      · rcases kndB_kind hk with h1 | ⟨_, hkl⟩
        · omega
        · match ha : t.args, hts, hkl with
          | [x, y], hts, hkl =>
            simp [typBs] at hts
            simp [kndBl] at hkl
            have h0 := tsize_eq t
            rw [ha] at h0
            simp [tsizes] at h0
            have := ih y (by omega) hts.2
            rw [this] at hkl
            cases hkl.2
          | [], _, hkl => simp [kndBl] at hkl
          | [_], _, hkl => simp [kndBl] at hkl
          | _ :: _ :: _ :: _, _, hkl => simp [kndBl] at hkl
theorem sortN_vals (t : Tm) : (objB t = false ∧ typB t = false ∧ kndB t = false ∧ sortN t = 0) ∨ (objB t = true ∧ typB t = false ∧ kndB t = false ∧ sortN t = 1) ∨ (objB t = false ∧ typB t = true ∧ kndB t = false ∧ sortN t = 2) ∨
    (objB t = true ∧ typB t = true ∧ kndB t = false ∧ sortN t = 3) ∨ (objB t = false ∧ typB t = false ∧ kndB t = true ∧ sortN t = 4) := by
  unfold sortN
  cases ho : objB t <;> cases ht : typB t <;> cases hk : kndB t <;> simp
  · have := typ_not_knd _ t (Nat.lt_succ_self _) ht; rw [hk] at this; cases this
  · rcases objB_kind ho with h | h | h | h <;> rcases kndB_kind hk with h1 | ⟨h1, _⟩ <;> omega
  · have := typ_not_knd _ t (Nat.lt_succ_self _) ht; rw [hk] at this; cases this
def andT (t : Tm) : Int := if typB t then 2 else 0
def andO (t : Tm) : Int := if objB t then 1 else 0
def andTK (t : Tm) : Int := (if typB t then 2 else 0) + (if kndB t then 4 else 0)
theorem run_andT (t : Tm) : bits .and .i64 (sortN t) 2 = andT t := by
  unfold andT
  rcases sortN_vals t with ⟨_, h, _, e⟩ | ⟨_, h, _, e⟩ | ⟨_, h, _, e⟩ | ⟨_, h, _, e⟩ | ⟨_, h, _, e⟩ <;> rw [h, e] <;> decide
theorem run_andO (t : Tm) : bits .and .i64 (sortN t) 1 = andO t := by
  unfold andO
  rcases sortN_vals t with ⟨h, _, _, e⟩ | ⟨h, _, _, e⟩ | ⟨h, _, _, e⟩ | ⟨h, _, _, e⟩ | ⟨h, _, _, e⟩ <;> rw [h, e] <;> decide
theorem run_andTK (t : Tm) : bits .and .i64 (sortN t) 6 = andTK t := by
  unfold andTK
  rcases sortN_vals t with ⟨_, h, k, e⟩ | ⟨_, h, k, e⟩ | ⟨_, h, k, e⟩ | ⟨_, h, k, e⟩ | ⟨_, h, k, e⟩ <;> rw [h, k, e] <;> decide

/-! the value by the kind -/
theorem sortN_1 {t : Tm} (h : (t.kind == 1) = true) : sortN t = if t.name.toList.isEmpty && t.idx == 0 && (t.args.length : Int) == 0 then 4 else 0 := by
  have hk : t.kind = 1 := by simpa using h
  have ho : objB t = false := by rw [objB_eq]; simp [atomB, hk]
  have ht : typB t = false := by rw [typB_eq]; simp [atomB, hk]
  have hkd : kndB t = (t.name.toList.isEmpty && t.idx == 0 && (t.args.length : Int) == 0) := by
    rw [kndB_eq, hk]; cases t.args <;> simp
    intros; omega
  rw [sortN, ho, ht, hkd]; simp
theorem sortN_2 {t : Tm} (h : (t.kind == 2) = true) (hb : boundB t 2 = false) : sortN t = 0 := by
  have hk : t.kind = 2 := by simpa using h
  have ho : objB t = false := by rw [objB_eq]; simp [atomB, hk]
  have ht : typB t = false := by rw [typB_eq]; simp [atomB, hk, hb]
  have hkd : kndB t = false := by rw [kndB_eq]; simp [hk, hb]
  rw [sortN, ho, ht, hkd]; simp
theorem sortN_2y {t : Tm} (h : (t.kind == 2) = true) (hb : boundB t 2 = true) (h0 : 0 < t.args.length) (h1 : 1 < t.args.length) : sortN t = if typB t.args[0] then andTK t.args[1] else 0 := by
  have hk : t.kind = 2 := by simpa using h
  have hl : t.args.length = 2 := by simp [boundB] at hb; omega
  have ho : objB t = false := by rw [objB_eq]; simp [atomB, hk]
  have ht : typB t = (typB t.args[0] && typB t.args[1]) := by
    rw [typB_eq]; simp [atomB, hk, hb, typBs_two hl h0 h1]
  have hkd : kndB t = (typB t.args[0] && kndB t.args[1]) := by
    rw [kndB_eq]; simp [hk, hb, kndBl_two hl h0 h1]
  rw [sortN, ho, ht, hkd, andTK]; cases typB t.args[0] <;> simp
theorem sortN_3 {t : Tm} (h : (t.kind == 3) = true) (hb : boundB t 1 = false) : sortN t = 0 := by
  have hk : t.kind = 3 := by simpa using h
  have ho : objB t = false := by rw [objB_eq]; simp [atomB, hk, hb]
  have ht : typB t = false := by rw [typB_eq]; simp [atomB, hk]
  have hkd : kndB t = false := by rw [kndB_eq]; simp [hk]
  rw [sortN, ho, ht, hkd]; simp
theorem sortN_3y {t : Tm} (h : (t.kind == 3) = true) (hb : boundB t 1 = true) (h0 : 0 < t.args.length) : sortN t = andO t.args[0] := by
  have hk : t.kind = 3 := by simpa using h
  have hl : t.args.length = 1 := by simp [boundB] at hb; omega
  have ho : objB t = objB t.args[0] := by
    rw [objB_eq]; simp [atomB, hk, hb, objBs_one hl h0]
  have ht : typB t = false := by rw [typB_eq]; simp [atomB, hk]
  have hkd : kndB t = false := by rw [kndB_eq]; simp [hk]
  rw [sortN, ho, ht, hkd, andO]; simp
theorem sortN_4 {t : Tm} (h : (t.kind == 4) = true) : sortN t = if isName t.name && t.idx == 0 && objBs t.args then 3 else 0 := by
  have hk : t.kind = 4 := by simpa using h
  have ho : objB t = (isName t.name && t.idx == 0 && objBs t.args) := by rw [objB_eq]; simp [atomB, hk]
  have ht : typB t = (isName t.name && t.idx == 0 && objBs t.args) := by rw [typB_eq]; simp [atomB, hk]
  have hkd : kndB t = false := by rw [kndB_eq]; simp [hk]
  rw [sortN, ho, ht, hkd]; cases (isName t.name && t.idx == 0 && objBs t.args) <;> simp
theorem sortN_5 {t : Tm} (h : (t.kind == 5) = true) : sortN t = if t.name.toList.isEmpty && decide (0 ≤ t.idx) && decide (t.idx ≤ 1048576) && objBs t.args then 1 else 0 := by
  have hk : t.kind = 5 := by simpa using h
  have ho : objB t = (t.name.toList.isEmpty && decide (0 ≤ t.idx) && decide (t.idx ≤ 1048576) && objBs t.args) := by rw [objB_eq]; simp [atomB, hk]
  have ht : typB t = false := by rw [typB_eq]; simp [atomB, hk]
  have hkd : kndB t = false := by rw [kndB_eq]; simp [hk]
  rw [sortN, ho, ht, hkd]; simp
theorem sortN_6 {t : Tm} (h : (t.kind == 6) = true) : sortN t = if t.name.toList.isEmpty && decide (0 ≤ t.idx) && decide (t.idx < 2048) && objBs t.args then 1 else 0 := by
  have hk : t.kind = 6 := by simpa using h
  have ho : objB t = (t.name.toList.isEmpty && decide (0 ≤ t.idx) && decide (t.idx < 2048) && objBs t.args) := by rw [objB_eq]; simp [atomB, hk]
  have ht : typB t = false := by rw [typB_eq]; simp [atomB, hk]
  have hkd : kndB t = false := by rw [kndB_eq]; simp [hk]
  rw [sortN, ho, ht, hkd]; simp
theorem sortN_0 {t : Tm} (h1 : (t.kind == 1) = false) (h2 : (t.kind == 2) = false) (h3 : (t.kind == 3) = false) (h4 : (t.kind == 4) = false) (h5 : (t.kind == 5) = false) (h6 : (t.kind == 6) = false) : sortN t = 0 := by
  have ho : objB t = false := by rw [objB_eq]; simp [atomB, h3, h4, h5, h6]
  have ht : typB t = false := by rw [typB_eq]; simp [atomB, h2, h4]
  have hkd : kndB t = false := by rw [kndB_eq]; simp [h1, h2]
  rw [sortN, ho, ht, hkd]; simp

theorem objBs_no {a : List Tm} (m : Nat) (h : m < a.length) (ho : objB a[m] = false) : objBs a = false := by
  rw [objBs_iff, List.all_eq_false]
  exact ⟨a[m], List.getElem_mem h, by rw [ho]; simp⟩
theorem objBs_snoc {a : List Tm} (m : Nat) (h : m < a.length) (ha : objBs (a.take m) = true) (ho : objB a[m] = true) : objBs (a.take (m + 1)) = true := by
  rw [objBs_iff] at ha ⊢
  rw [List.take_succ_eq_append_getElem h, List.all_append, ha]
  simp [ho]
end Go.Proofs.Ytolooomphmcphaa
