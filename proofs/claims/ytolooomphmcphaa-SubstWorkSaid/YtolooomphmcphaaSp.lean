/- The plain functions on terms and simple types that the program and the reference compute: sizes, depths, sorts, equality. No Go in sight. -/
import Derived.Test.YtolooomphmcphaaNm
namespace Go.Proofs.Ytolooomphmcphaa
open Go.RowKit

abbrev tmV (t : Tm) (A : Option Addr) (c : Nat) : Value := .agg #[.int .i64 t.kind, .string t.name, .int .i64 t.idx, .slice A t.args.length c]
abbrev tmB (t : Tm) (A : Option Addr) (c : Nat) : Array Value := #[.int .i64 t.kind, .string t.name, .int .i64 t.idx, .slice A t.args.length c]
theorem bx4 {w : World} {g : Nat} {ty : TypeId} {v0 v1 v2 v3 : Value} (h : w.heap[g]? = some (.cells #[v0, v1, v2, v3] ty (0, 0))) :
    w.cell? ⟨g, 0, none⟩ = some v0 ∧ w.cell? ⟨g, 1, none⟩ = some v1 ∧ w.cell? ⟨g, 2, none⟩ = some v2 ∧ w.cell? ⟨g, 3, none⟩ = some v3 :=
  ⟨bk_cell h 0 rfl, bk_cell h 1 rfl, bk_cell h 2 rfl, bk_cell h 3 rfl⟩
theorem bx2 {w : World} {g : Nat} {ty : TypeId} {v0 v1 : Value} (h : w.heap[g]? = some (.cells #[v0, v1] ty (0, 0))) : w.cell? ⟨g, 0, none⟩ = some v0 ∧ w.cell? ⟨g, 1, none⟩ = some v1 := ⟨bk_cell h 0 rfl, bk_cell h 1 rfl⟩
theorem bx1 {w : World} {g : Nat} {ty : TypeId} {v0 : Value} (h : w.heap[g]? = some (.cells #[v0] ty (0, 0))) : w.cell? ⟨g, 0, none⟩ = some v0 := bk_cell h 0 rfl

theorem Rd.tm0 {w : World} {S : Nat → Prop} {A : Option Addr} {ts : List Tm} (h : Rd tmK w S A ts) (hj : 0 < ts.length) :
    ∃ b o A' c', A = some ⟨b, o, none⟩ ∧ S b ∧ w.cell? ⟨b, o, none⟩ = some (.int .i64 ts[0].kind) ∧ w.cell? ⟨b, o + 1, none⟩ = some (.string ts[0].name) ∧
      w.cell? ⟨b, o + 2, none⟩ = some (.int .i64 ts[0].idx) ∧ w.cell? ⟨b, o + 3, none⟩ = some (.slice A' ts[0].args.length c') ∧ ts[0].args.length ≤ c' ∧ Rd tmK w S A' ts[0].args := by
  have := h.tm 0 hj
  simpa only [Nat.zero_mul, Nat.add_zero] using this
theorem Rd.tmb {w : World} {S : Nat → Prop} {b o : Nat} {ts : List Tm} (h : Rd tmK w S (some ⟨b, o, none⟩) ts) (j : Nat) (hj : j < ts.length) :
    ∃ A' c', S b ∧ w.cell? ⟨b, o + j * 4, none⟩ = some (.int .i64 ts[j].kind) ∧ w.cell? ⟨b, o + j * 4 + 1, none⟩ = some (.string ts[j].name) ∧
      w.cell? ⟨b, o + j * 4 + 2, none⟩ = some (.int .i64 ts[j].idx) ∧ w.cell? ⟨b, o + j * 4 + 3, none⟩ = some (.slice A' ts[j].args.length c') ∧ ts[j].args.length ≤ c' ∧ Rd tmK w S A' ts[j].args := by
  obtain ⟨b2, o2, A', c', he, hs, h⟩ := h.tm j hj
  simp only [Option.some.injEq, Addr.mk.injEq, and_true] at he
  obtain ⟨rfl, rfl⟩ := he
  exact ⟨A', c', hs, h⟩
theorem Rd.tmb1 {w : World} {S : Nat → Prop} {b o : Nat} {ts : List Tm} (h : Rd tmK w S (some ⟨b, o, none⟩) ts) (hj : 1 < ts.length) :
    ∃ A' c', S b ∧ w.cell? ⟨b, o + 4, none⟩ = some (.int .i64 ts[1].kind) ∧ w.cell? ⟨b, o + 4 + 1, none⟩ = some (.string ts[1].name) ∧
      w.cell? ⟨b, o + 4 + 2, none⟩ = some (.int .i64 ts[1].idx) ∧ w.cell? ⟨b, o + 4 + 3, none⟩ = some (.slice A' ts[1].args.length c') ∧ ts[1].args.length ≤ c' ∧ Rd tmK w S A' ts[1].args := by
  have := h.tmb 1 hj
  simpa only [Nat.one_mul] using this
theorem bl_undrew {w w1 : World} (h : Below w.drew.heap.size w.drew w1) : Below w.heap.size w w1 := ⟨h.os, h.tape, h.output, h.size, h.block⟩
theorem Rd.drew {α : Type} {d : EK α} {w : World} {S : Nat → Prop} {A : Option Addr} {xs : List α} (h : Rd d w S A xs) : Rd d w.drew S A xs := Rd.move (w := w) (w' := w.drew) (fun _ _ _ => rfl) (fun _ hs _ => hs) h
mutual
def tsize : Tm → Nat | .mk _ _ _ a => 1 + tsizes a
def tsizes : List Tm → Nat | [] => 0 | t :: r => tsize t + tsizes r
end
mutual
def tdep : Tm → Nat | .mk _ _ _ a => 1 + tdeps a
def tdeps : List Tm → Nat | [] => 0 | t :: r => max (tdep t) (tdeps r)
end
theorem tsize_eq (t : Tm) : tsize t = 1 + tsizes t.args := by cases t; rfl
theorem tdep_eq (t : Tm) : tdep t = 1 + tdeps t.args := by cases t; rfl
theorem tsizes_append (a b : List Tm) : tsizes (a ++ b) = tsizes a + tsizes b := by
  induction a with
  | nil => simp [tsizes]
  | cons t r ih => simp [tsizes, ih]; omega
theorem tsizes_take (a : List Tm) (m : Nat) (h : m < a.length) : tsizes (a.take (m + 1)) = tsizes (a.take m) + tsize a[m] := by
  rw [List.take_succ_eq_append_getElem h, tsizes_append]; simp [tsizes]
theorem tsizes_take_le (a : List Tm) (m : Nat) : tsizes (a.take m) ≤ tsizes a := by
  have := tsizes_append (a.take m) (a.drop m)
  rw [List.take_append_drop] at this
  omega
theorem tsizes_mem (a : List Tm) (m : Nat) (h : m < a.length) : tsize a[m] ≤ tsizes a := by
  have := tsizes_take a m h
  have := tsizes_take_le a (m + 1)
  omega
theorem tsize_arg (a : List Tm) (m : Nat) (h : m < a.length) : tsizes a[m].args < tsizes a := by
  have := tsizes_mem a m h
  have := tsize_eq a[m]
  omega
theorem tsize_pos (t : Tm) : 0 < tsize t := by have := tsize_eq t; omega
theorem len_le_tsizes (a : List Tm) : a.length ≤ tsizes a := by
  induction a with
  | nil => simp [tsizes]
  | cons t r ih => have := tsize_pos t; simp only [tsizes, List.length_cons]; omega
theorem tdeps_append (a b : List Tm) : tdeps (a ++ b) = max (tdeps a) (tdeps b) := by
  induction a with
  | nil => simp [tdeps]
  | cons t r ih => simp only [tdeps, List.cons_append, ih]; omega
theorem tdeps_take (a : List Tm) (m : Nat) (h : m < a.length) : tdeps (a.take (m + 1)) = max (tdeps (a.take m)) (tdep a[m]) := by
  rw [List.take_succ_eq_append_getElem h, tdeps_append]; simp [tdeps]
mutual
theorem tdep_le : ∀ t : Tm, tdep t ≤ tsize t
  | .mk _ _ _ a => by have := tdeps_le a; simp [tdep, tsize]; omega
theorem tdeps_le : ∀ a : List Tm, tdeps a ≤ tsizes a
  | [] => by simp [tdeps, tsizes]
  | t :: r => by have := tdep_le t; have := tdeps_le r; simp [tdeps, tsizes]; omega
end

/-! ### the sorts of terms -/
def okName (s : ByteArray) : Bool := s.toList.isEmpty || s.toList == [95] || isName s
def boundB (t : Tm) (n : Int) : Bool := t.idx == 0 && (t.args.length : Int) == n && okName t.name
mutual
def objB : Tm → Bool
  | .mk k s i a => (k == 3 && boundB (.mk k s i a) 1 && objBs a) || (k == 4 && isName s && i == 0 && objBs a) ||
      (k == 5 && s.toList.isEmpty && decide (0 ≤ i) && decide (i ≤ 1048576) && objBs a) || (k == 6 && s.toList.isEmpty && decide (0 ≤ i) && decide (i < 2048) && objBs a)
def objBs : List Tm → Bool
  | [] => true
  | t :: r => objB t && objBs r
end
def atomB (t : Tm) : Bool := t.kind == 4 && isName t.name && t.idx == 0 && objBs t.args
mutual
def typB : Tm → Bool
  | .mk k s i a => atomB (.mk k s i a) || (k == 2 && boundB (.mk k s i a) 2 && typBs a)
def typBs : List Tm → Bool
  | [] => true
  | t :: r => typB t && typBs r
end
mutual
def kndB : Tm → Bool
  | .mk k s i a => (k == 1 && s.toList.isEmpty && i == 0 && a.isEmpty) || (k == 2 && boundB (.mk k s i a) 2 && kndBl a)
def kndBl : List Tm → Bool
  | [x, y] => typB x && kndB y
  | _ => false
end
theorem objB_eq (t : Tm) : objB t = ((t.kind == 3 && boundB t 1 && objBs t.args) || atomB t ||
      (t.kind == 5 && t.name.toList.isEmpty && decide (0 ≤ t.idx) && decide (t.idx ≤ 1048576) && objBs t.args) || (t.kind == 6 && t.name.toList.isEmpty && decide (0 ≤ t.idx) && decide (t.idx < 2048) && objBs t.args)) := by
  cases t
  simp only [objB, atomB, Tm.kind, Tm.name, Tm.idx, Tm.args]
  rfl
theorem typB_eq (t : Tm) : typB t = (atomB t || (t.kind == 2 && boundB t 2 && typBs t.args)) := by cases t; simp only [typB, Tm.kind, Tm.args]
theorem kndB_eq (t : Tm) : kndB t = ((t.kind == 1 && t.name.toList.isEmpty && t.idx == 0 && t.args.isEmpty) || (t.kind == 2 && boundB t 2 && kndBl t.args)) := by cases t; simp only [kndB, Tm.kind, Tm.name, Tm.idx, Tm.args]
theorem objBs_iff (a : List Tm) : objBs a = a.all objB := by
  induction a with
  | nil => simp [objBs]
  | cons t r ih => simp [objBs, ih]
theorem typBs_iff (a : List Tm) : typBs a = a.all typB := by
  induction a with
  | nil => simp [typBs]
  | cons t r ih => simp [typBs, ih]
theorem typBs_two {a : List Tm} (h : a.length = 2) (h0 : 0 < a.length) (h1 : 1 < a.length) : typBs a = (typB a[0] && typB a[1]) := by
  match a, h with
  | [x, y], _ => simp [typBs]
theorem kndBl_two {a : List Tm} (h : a.length = 2) (h0 : 0 < a.length) (h1 : 1 < a.length) : kndBl a = (typB a[0] && kndB a[1]) := by
  match a, h with
  | [x, y], _ => simp [kndBl]
theorem objBs_one {a : List Tm} (h : a.length = 1) (h0 : 0 < a.length) : objBs a = objB a[0] := by
  match a, h with
  | [x], _ => simp [objBs]
theorem bound_len {t : Tm} {n : Nat} (hb : boundB t n = true) : t.args.length = n := by simp [boundB] at hb; omega
def smallB (t : Tm) : Bool := decide (tsize t ≤ 4096) && decide (tdep t ≤ 128)
/-- WellFormed: 0 (OK), 1 (ErrForm), 2 (ErrSize) -/
def wfE (t : Tm) : Int := if !objB t && !typB t && !kndB t then 1 else if !smallB t then 2 else 0
mutual
def sameT : Tm → Tm → Bool
  | .mk k s i a, u => k == u.kind && i == u.idx && (k == 2 || k == 3 || s.toList == u.name.toList) && sameTs a u.args
def sameTs : List Tm → List Tm → Bool
  | [], [] => true
  | t :: r, u :: v => sameT t u && sameTs r v
  | _, _ => false
end
end Go.Proofs.Ytolooomphmcphaa
