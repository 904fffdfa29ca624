/- The words of these proofs: what a slice of terms (and of other things) reads as, what a call owns, and how both are carried from world to world. No program in sight. -/
import Derived.WalkKit
import Derived.Deep.LoopGhost
import Derived.Deep.QuietTactic
import Derived.BigQuiet
import Derived.Lib.Hide
import Derived.Maps.AppendAt
namespace Go.Proofs.Ytolooomphmcphaa
open Go.RowKit

/-! ### blocks and cells -/
theorem bk_new (w : World) (o : Obj) : (w.alloc o).heap[w.heap.size]? = some o := by
  show (w.heap.push o)[w.heap.size]? = _
  simp
theorem bk_cell {w : World} {g : Nat} {t : TypeId} {cs : Array Value} (h : w.heap[g]? = some (.cells cs t (0, 0))) (i : Nat) {v : Value} (hv : cs[i]? = some v) : w.cell? ⟨g, i, none⟩ = some v := (cell_of_row w g i cs t (0, 0) h).trans hv
theorem bk_free {w : World} {g : Nat} {t : TypeId} {cs : Array Value} (h : w.heap[g]? = some (.cells cs t (0, 0))) (i : Nat) : w.frozen? ⟨g, i, none⟩ = false := by simp [World.frozen?, h]
theorem bk_lt {w : World} {g : Nat} {o : Obj} (h : w.heap[g]? = some o) : g < w.heap.size := (Array.getElem?_eq_some_iff.1 h).1
theorem bk_below {w w1 : World} {g : Nat} {o : Obj} (h : w.heap[g]? = some o) (hb : Below w.heap.size w w1) : w1.heap[g]? = some o := (hb.block g (bk_lt h)).trans h
theorem bk_alloc {w : World} {g : Nat} {o : Obj} (h : w.heap[g]? = some o) (o' : Obj) : (w.alloc o').heap[g]? = some o := (Below.heap_alloc w o' g (bk_lt h)).trans h
theorem bk_set {w : World} {g : Nat} {t : TypeId} {cs : Array Value} (h : w.heap[g]? = some (.cells cs t (0, 0))) (i : Nat) (u : Value) : (w.setCell ⟨g, i, none⟩ u).heap[g]? = some (.cells (cs.setIfInBounds i u) t (0, 0)) := by
  simp [World.setCell, Array.getElem?_modify, h]
theorem bk_far {w : World} {g : Nat} {o : Obj} (h : w.heap[g]? = some o) {p : Addr} (hp : g ≠ p.block) (u : Value) : (w.setCell p u).heap[g]? = some o := (Below.heap_setCell w p u g hp).trans h
theorem bk_grown {w w1 : World} {g : Nat} {o : Obj} {row : Option Nat} (h : w.heap[g]? = some o) (hg : w.grownBy w1 row) (hne : some g ≠ row) : w1.heap[g]? = some o := (hg.block g (bk_lt h) hne).trans h
theorem cl_lt {w : World} {p : Addr} {v : Value} (h : w.cell? p = some v) : p.block < w.heap.size := World.block_lt_of_cell? w _ h
/-- a block of cells -/
def Live (w : World) (b : Nat) : Prop := ∃ cs t f, w.heap[b]? = some (.cells cs t f)
theorem Live.lt {w : World} {b : Nat} (h : Live w b) : b < w.heap.size := by obtain ⟨cs, t, f, h⟩ := h; exact bk_lt h
theorem cl_live {w : World} {p : Addr} {v : Value} (h : w.cell? p = some v) : Live w p.block := by
  unfold World.cell? at h
  split at h
  · rename_i cs t f hb
    exact ⟨cs, t, f, hb⟩
  · cases h
theorem cl_below {w w1 : World} {p : Addr} {v : Value} (h : w.cell? p = some v) (hb : Below w.heap.size w w1) : w1.cell? p = some v := (hb.cell (cl_lt h)).trans h
theorem cl_block {w w1 : World} {p : Addr} {v : Value} (h : w.cell? p = some v) (hb : w1.heap[p.block]? = w.heap[p.block]?) : w1.cell? p = some v := (World.cell?_of_block hb).trans h
theorem bl_then {B : Nat} {w w1 w2 : World} (h : Below B w w1) (k : Below w1.heap.size w1 w2) (hB : B ≤ w1.heap.size) : Below B w w2 := h.trans (k.mono hB)
theorem bl_self {w w1 w2 : World} (h : Below w.heap.size w w1) (k : Below w1.heap.size w1 w2) : Below w.heap.size w w2 := h.trans (k.mono h.size)
theorem bl_alloc {w w1 : World} (h : Below w.heap.size w w1) (o : Obj) : Below w.heap.size w (w1.alloc o) := h.alloc h.size o
theorem bl_new (w : World) (o : Obj) : Below w.heap.size w (w.alloc o) := (Below.refl _ _).alloc (Nat.le_refl _) o
theorem bl_set {w w1 : World} (h : Below w.heap.size w w1) {p : Addr} (hp : w.heap.size ≤ p.block) (u : Value) : Below w.heap.size w (w1.setCell p u) := h.setCell hp u
theorem bl_grown {w w1 w2 : World} {row : Option Nat} (h : Below w.heap.size w w1) (hg : w1.grownBy w2 row) (hr : ∀ k, row = some k → w.heap.size ≤ k) : Below w.heap.size w w2 := h.grown hg h.size hr

/-! ### kinds of elements: what the cells of one element say, with a footprint S: the blocks that it leads to -/
structure EK (α : Type) where
  sz : Nat
  K : World → (Nat → Prop) → α → List Value → Prop
  pos : 0 < sz
  len : ∀ {w S x cs}, K w S x cs → cs.length = sz
  one : ∀ {w S x cs}, K w S x cs → ∀ u ∈ cs, u.oneCell' = true
  move : ∀ {w w' S S' x cs}, (∀ b, S b → Live w b → w'.heap[b]? = w.heap[b]?) → (∀ b, S b → Live w b → S' b) → K w S x cs → K w' S' x cs

/-- the cells of several elements, one behind the other -/
def Cs {α : Type} (R : α → List Value → Prop) : List α → List Value → Prop
  | [], cs => cs = []
  | x :: r, cs => ∃ c c', cs = c ++ c' ∧ R x c ∧ Cs R r c'
theorem Cs.imp {α : Type} {R R' : α → List Value → Prop} (h : ∀ x c, R x c → R' x c) : ∀ {xs : List α} {cs : List Value}, Cs R xs cs → Cs R' xs cs
  | [], _, hc => hc
  | _ :: _, _, ⟨c, c', e, h1, h2⟩ => ⟨c, c', e, h _ _ h1, Cs.imp h h2⟩
theorem Cs.snoc {α : Type} {R : α → List Value → Prop} {x : α} {c : List Value} (hx : R x c) : ∀ {xs : List α} {cs : List Value}, Cs R xs cs → Cs R (xs ++ [x]) (cs ++ c)
  | [], _, hc => by
    have : _ = [] := hc
    subst this
    exact ⟨c, [], by simp, hx, rfl⟩
  | _ :: _, _, ⟨c1, c', e, h1, h2⟩ => ⟨c1, c' ++ c, by rw [e, List.append_assoc], h1, Cs.snoc hx h2⟩
theorem Cs.append {α : Type} {R : α → List Value → Prop} {ys : List α} {ds : List Value} (hy : Cs R ys ds) : ∀ {xs : List α} {cs : List Value}, Cs R xs cs → Cs R (xs ++ ys) (cs ++ ds)
  | [], _, hc => by
    have : _ = [] := hc
    subst this
    simpa using hy
  | _ :: _, _, ⟨c1, c', e, h1, h2⟩ => ⟨c1, c' ++ ds, by rw [e, List.append_assoc], h1, Cs.append hy h2⟩
theorem Cs.length {α : Type} {R : α → List Value → Prop} {sz : Nat} (hR : ∀ x c, R x c → c.length = sz) : ∀ {xs : List α} {cs : List Value}, Cs R xs cs → cs.length = xs.length * sz
  | [], _, hc => by
    have : _ = [] := hc
    subst this
    simp
  | _ :: r, _, ⟨c, c', e, h1, h2⟩ => by rw [e, List.length_append, hR _ _ h1, Cs.length hR h2, List.length_cons, Nat.add_mul, Nat.one_mul, Nat.add_comm]
theorem Cs.mem {α : Type} {R : α → List Value → Prop} {p : Value → Prop} (hR : ∀ x c, R x c → ∀ u ∈ c, p u) : ∀ {xs : List α} {cs : List Value}, Cs R xs cs → ∀ u ∈ cs, p u
  | [], _, hc, u, hu => by
    have : _ = [] := hc
    subst this
    simp at hu
  | _ :: _, _, ⟨c, c', e, h1, h2⟩, u, hu => by
    rw [e, List.mem_append] at hu
    rcases hu with hu | hu
    · exact hR _ _ h1 u hu
    · exact Cs.mem hR h2 u hu
theorem Cs.get {α : Type} {R : α → List Value → Prop} {sz : Nat} (hR : ∀ x c, R x c → c.length = sz) : ∀ {xs : List α} {cs : List Value}, Cs R xs cs → ∀ (j : Nat) (x : α), xs[j]? = some x →
    ∃ c, R x c ∧ ∀ i u, c[i]? = some u → cs[j * sz + i]? = some u
  | [], _, _, j, x, h => by simp at h
  | y :: r, _, ⟨c, c', e, h1, h2⟩, 0, x, h => by
    have : y = x := by simpa using h
    subst this
    refine ⟨c, h1, fun i u hu => ?_⟩
    rw [e, Nat.zero_mul, Nat.zero_add, List.getElem?_append_left (List.getElem?_eq_some_iff.1 hu).1]
    exact hu
  | y :: r, _, ⟨c, c', e, h1, h2⟩, j + 1, x, h => by
    obtain ⟨d, hd, hg⟩ := Cs.get hR h2 j x (by simpa using h)
    refine ⟨d, hd, fun i u hu => ?_⟩
    rw [e, List.getElem?_append_right (by rw [hR _ _ h1, Nat.add_mul]; omega), hR _ _ h1, show (j + 1) * sz + i - sz = j * sz + i from by rw [Nat.add_mul]; omega]
    exact hg i u hu
/-- one element turned -/
theorem Cs.set {α : Type} {R : α → List Value → Prop} {sz : Nat} (hR : ∀ x c, R x c → c.length = sz) : ∀ {xs : List α} {cs : List Value}, Cs R xs cs → ∀ (j : Nat) (x : α) (d : List Value), j < xs.length → R x d →
    Cs R (xs.set j x) (cs.take (j * sz) ++ d ++ cs.drop (j * sz + sz))
  | [], _, _, j, x, d, h, _ => by simp at h
  | y :: r, _, ⟨c, c', e, h1, h2⟩, 0, x, d, _, hd => by
    subst e
    have hl := hR _ _ h1
    refine ⟨d, c', ?_, hd, h2⟩
    simp [← hl]
  | y :: r, _, ⟨c, c', e, h1, h2⟩, j + 1, x, d, h, hd => by
    subst e
    have hl := hR _ _ h1
    refine ⟨c, _, ?_, h1, Cs.set hR h2 j x d (by simpa using h) hd⟩
    rw [List.take_append, List.drop_append, hl, show (j + 1) * sz - sz = j * sz from by rw [Nat.add_mul]; omega, show (j + 1) * sz + sz - sz = j * sz + sz from by rw [Nat.add_mul]; omega,
      List.take_of_length_le (by rw [hl, Nat.add_mul]; omega), List.drop_of_length_le (by rw [hl, Nat.add_mul]; omega)]
    simp

/-! ### a slice that is read -/
def Rd {α : Type} (d : EK α) (w : World) (S : Nat → Prop) (A : Option Addr) (xs : List α) : Prop :=
  xs = [] ∨ ∃ b o cs, A = some ⟨b, o, none⟩ ∧ S b ∧ Cs (d.K w S) xs cs ∧ ∀ i u, cs[i]? = some u → w.cell? ⟨b, o + i, none⟩ = some u
section
variable {α : Type} {d : EK α} {w w' : World} {S S' : Nat → Prop} {A : Option Addr} {xs : List α}
theorem Rd.nil (d : EK α) (w : World) (S : Nat → Prop) (A : Option Addr) : Rd d w S A [] := .inl rfl
theorem Rd.move (hw : ∀ b, S b → Live w b → w'.heap[b]? = w.heap[b]?) (hS : ∀ b, S b → Live w b → S' b) (h : Rd d w S A xs) : Rd d w' S' A xs := by
  rcases h with h | ⟨b, o, cs, e, hb, hc, hm⟩
  · exact .inl h
  · by_cases hx : xs = []
    · exact .inl hx
    · have hlt : Live w b := by
        cases xs with
        | nil => exact absurd rfl hx
        | cons x r =>
          obtain ⟨c, c', e1, h1, h2⟩ := hc
          have hl := d.len h1
          have hp := d.pos
          have : cs[0]? = some c[0] := by rw [e1, List.getElem?_append_left (by omega), List.getElem?_eq_getElem (by omega)]
          exact cl_live (hm 0 _ this)
      exact .inr ⟨b, o, cs, e, hS b hb hlt, hc.imp fun _ _ hk => d.move hw hS hk, fun i u hu => cl_block (hm i u hu) (hw b hb hlt)⟩
theorem Rd.below (h : Rd d w S A xs) (hb : Below w.heap.size w w') : Rd d w' S A xs := h.move (fun b _ hlt => hb.block b hlt.lt) (fun _ hs _ => hs)
theorem Rd.mono (h : Rd d w S A xs) (hS : ∀ b, S b → Live w b → S' b) : Rd d w S' A xs := h.move (fun _ _ _ => rfl) hS
theorem Rd.bound (h : Rd d w S A xs) : Rd d w (fun b => S b ∧ Live w b) A xs := h.mono fun _ hs hlt => ⟨hs, hlt⟩
theorem Rd.at (h : Rd d w S A xs) (j : Nat) (hj : j < xs.length) :
    ∃ b o c, A = some ⟨b, o, none⟩ ∧ S b ∧ d.K w S xs[j] c ∧ ∀ i u, c[i]? = some u → w.cell? ⟨b, o + j * d.sz + i, none⟩ = some u := by
  rcases h with h | ⟨b, o, cs, e, hb, hc, hm⟩
  · subst h; simp at hj
  · obtain ⟨c, hk, hg⟩ := hc.get (fun _ _ hk => d.len hk) j xs[j] (List.getElem?_eq_getElem hj)
    refine ⟨b, o, c, e, hb, hk, fun i u hu => ?_⟩
    rw [Nat.add_assoc]
    exact hm _ _ (hg i u hu)
end
theorem EK.below {α : Type} {d : EK α} {w w' : World} {S : Nat → Prop} {x : α} {cs : List Value} (h : d.K w S x cs) (hb : Below w.heap.size w w') : d.K w' S x cs := d.move (fun b _ hlt => hb.block b hlt.lt) (fun _ hs _ => hs) h
theorem EK.mono {α : Type} {d : EK α} {w : World} {S S' : Nat → Prop} {x : α} {cs : List Value} (h : d.K w S x cs) (hS : ∀ b, S b → Live w b → S' b) : d.K w S' x cs := d.move (fun _ _ _ => rfl) hS h

/-! ### the kinds -/
def EK.flat {α : Type} (enc : α → Value) (h1 : ∀ x, (enc x).oneCell' = true) : EK α where
  sz := 1
  K := fun _ _ x cs => cs = [enc x]
  pos := by omega
  len := fun h => by rw [h]; rfl
  one := fun h u hu => by
    rw [h] at hu
    rw [List.mem_singleton.1 hu]
    exact h1 _
  move := fun _ _ h => h
def intK : EK Int := EK.flat (Value.int .i64) (fun _ => rfl)
def boolK : EK Bool := EK.flat Value.bool (fun _ => rfl)
def strK : EK ByteArray := EK.flat Value.string (fun _ => rfl)
def EK.pair {α β : Type} (a : EK α) (b : EK β) : EK (α × β) where
  sz := a.sz + b.sz
  K := fun w S x cs => ∃ c c', cs = c ++ c' ∧ a.K w S x.1 c ∧ b.K w S x.2 c'
  pos := by have := a.pos; omega
  len := by
    rintro w S x cs ⟨c, c', rfl, h1, h2⟩
    rw [List.length_append, a.len h1, b.len h2]
  one := by
    rintro w S x cs ⟨c, c', rfl, h1, h2⟩ u hu
    rcases List.mem_append.1 hu with hu | hu
    · exact a.one h1 u hu
    · exact b.one h2 u hu
  move := by
    rintro w w' S S' x cs hw hS ⟨c, c', e, h1, h2⟩
    exact ⟨c, c', e, a.move hw hS h1, b.move hw hS h2⟩
def EK.iso {α β : Type} (d : EK α) (f : β → α) : EK β where
  sz := d.sz
  K := fun w S x cs => d.K w S (f x) cs
  pos := d.pos
  len := fun h => d.len h
  one := fun h => d.one h
  move := fun hw hS h => d.move hw hS h
def EK.slice {α : Type} (d : EK α) : EK (List α) where
  sz := 1
  K := fun w S xs cs => ∃ A c, cs = [.slice A xs.length c] ∧ xs.length ≤ c ∧ Rd d w S A xs
  pos := by omega
  len := by
    rintro w S x cs ⟨A, c, rfl, _⟩
    rfl
  one := by
    rintro w S x cs ⟨A, c, rfl, _⟩ u hu
    rw [List.mem_singleton.1 hu]
    rfl
  move := by
    rintro w w' S S' x cs hw hS ⟨A, c, e, hl, h⟩
    exact ⟨A, c, e, hl, h.move hw hS⟩

/-! ### terms and simple types -/
inductive Tm where | mk (k : Int) (s : ByteArray) (i : Int) (a : List Tm)
namespace Tm
def kind : Tm → Int | mk k _ _ _ => k
def name : Tm → ByteArray | mk _ s _ _ => s
def idx : Tm → Int | mk _ _ i _ => i
def args : Tm → List Tm | mk _ _ _ a => a
theorem eta (t : Tm) : Tm.mk t.kind t.name t.idx t.args = t := by cases t; rfl
end Tm
inductive Sm where | mk (s : ByteArray) (a : List Sm)
namespace Sm
def fam : Sm → ByteArray | mk s _ => s
def args : Sm → List Sm | mk _ a => a
theorem eta (t : Sm) : Sm.mk t.fam t.args = t := by cases t; rfl
end Sm
mutual
def RT (w : World) (S : Nat → Prop) : Tm → List Value → Prop
  | .mk k s i a, cs => ∃ A c, cs = [.int .i64 k, .string s, .int .i64 i, .slice A a.length c] ∧ a.length ≤ c ∧
      (a = [] ∨ ∃ b o ds, A = some ⟨b, o, none⟩ ∧ S b ∧ RTl w S a ds ∧ ∀ i u, ds[i]? = some u → w.cell? ⟨b, o + i, none⟩ = some u)
def RTl (w : World) (S : Nat → Prop) : List Tm → List Value → Prop
  | [], cs => cs = []
  | t :: r, cs => ∃ c c', cs = c ++ c' ∧ RT w S t c ∧ RTl w S r c'
end
theorem RTl_eq (w : World) (S : Nat → Prop) : ∀ (ts : List Tm) (cs : List Value), RTl w S ts cs = Cs (RT w S) ts cs
  | [], _ => by rw [RTl, Cs]
  | t :: r, cs => by
    rw [RTl, Cs]
    have h := RTl_eq w S r
    simp only [h]
theorem RT_len {w : World} {S : Nat → Prop} : ∀ {t : Tm} {cs : List Value}, RT w S t cs → cs.length = 4
  | .mk .., _, h => by
    rw [RT] at h
    obtain ⟨A, c, rfl, _⟩ := h
    rfl
theorem RT_pos {w : World} {S : Nat → Prop} {a : List Tm} {ds : List Value} {b o : Nat} (h : RTl w S a ds) (ha : a ≠ []) (hm : ∀ i u, ds[i]? = some u → w.cell? ⟨b, o + i, none⟩ = some u) : Live w b := by
  cases a with
  | nil => exact absurd rfl ha
  | cons t r =>
    rw [RTl] at h
    obtain ⟨c, c', e, h1, _⟩ := h
    have hl := RT_len h1
    have : ds[0]? = some c[0] := by rw [e, List.getElem?_append_left (by omega), List.getElem?_eq_getElem (by omega)]
    exact cl_live (hm 0 _ this)
mutual
theorem RT_move {w w' : World} {S S' : Nat → Prop} (hw : ∀ b, S b → Live w b → w'.heap[b]? = w.heap[b]?) (hS : ∀ b, S b → Live w b → S' b) : ∀ (t : Tm) (cs : List Value), RT w S t cs → RT w' S' t cs
  | .mk k s i a, cs, h => by
    rw [RT] at h ⊢
    obtain ⟨A, c, e, hl, h⟩ := h
    refine ⟨A, c, e, hl, ?_⟩
    rcases h with h | ⟨b, o, ds, e, hb, h, hm⟩
    · exact .inl h
    · by_cases ha : a = []
      · exact .inl ha
      · have hlt := RT_pos h ha hm
        exact .inr ⟨b, o, ds, e, hS b hb hlt, RTl_move hw hS a ds h, fun i u hu => cl_block (hm i u hu) (hw b hb hlt)⟩
theorem RTl_move {w w' : World} {S S' : Nat → Prop} (hw : ∀ b, S b → Live w b → w'.heap[b]? = w.heap[b]?) (hS : ∀ b, S b → Live w b → S' b) : ∀ (ts : List Tm) (cs : List Value), RTl w S ts cs → RTl w' S' ts cs
  | [], _, h => by rw [RTl] at h ⊢; exact h
  | t :: r, _, h => by
    rw [RTl] at h ⊢
    obtain ⟨c, c', e, h1, h2⟩ := h
    exact ⟨c, c', e, RT_move hw hS t c h1, RTl_move hw hS r c' h2⟩
end
def tmK : EK Tm where
  sz := 4
  K := RT
  pos := by omega
  len := RT_len
  one := by
    intro w S x cs h u hu
    cases x
    rw [RT] at h
    obtain ⟨A, c, rfl, _⟩ := h
    simp at hu
    rcases hu with rfl | rfl | rfl | rfl <;> rfl
  move := fun hw hS h => RT_move hw hS _ _ h
theorem tmK_open {w : World} {S : Nat → Prop} {t : Tm} {cs : List Value} (h : tmK.K w S t cs) : ∃ A c, cs = [.int .i64 t.kind, .string t.name, .int .i64 t.idx, .slice A t.args.length c] ∧ t.args.length ≤ c ∧ Rd tmK w S A t.args := by
  cases t with
  | mk k s i a =>
    have h : RT w S (.mk k s i a) cs := h
    rw [RT] at h
    obtain ⟨A, c, e, hl, h⟩ := h
    refine ⟨A, c, e, hl, ?_⟩
    rcases h with h | ⟨b, o, ds, e, hb, h, hm⟩
    · exact .inl h
    · exact .inr ⟨b, o, ds, e, hb, by rw [RTl_eq] at h; exact h, hm⟩
theorem tmK_mk {w : World} {S : Nat → Prop} {k : Int} {s : ByteArray} {i : Int} {a : List Tm} {A : Option Addr} {c : Nat} (hl : a.length ≤ c) (h : Rd tmK w S A a) : tmK.K w S (.mk k s i a) [.int .i64 k, .string s, .int .i64 i, .slice A a.length c] := by
  show RT w S (.mk k s i a) _
  rw [RT]
  refine ⟨A, c, rfl, hl, ?_⟩
  rcases h with h | ⟨b, o, ds, e, hb, h, hm⟩
  · exact .inl h
  · exact .inr ⟨b, o, ds, e, hb, by rw [RTl_eq]; exact h, hm⟩
/-- element j of a slice of terms, laid open -/
theorem Rd.tm {w : World} {S : Nat → Prop} {A : Option Addr} {ts : List Tm} (h : Rd tmK w S A ts) (j : Nat) (hj : j < ts.length) :
    ∃ b o A' c', A = some ⟨b, o, none⟩ ∧ S b ∧ w.cell? ⟨b, o + j * 4, none⟩ = some (.int .i64 ts[j].kind) ∧ w.cell? ⟨b, o + j * 4 + 1, none⟩ = some (.string ts[j].name) ∧
      w.cell? ⟨b, o + j * 4 + 2, none⟩ = some (.int .i64 ts[j].idx) ∧ w.cell? ⟨b, o + j * 4 + 3, none⟩ = some (.slice A' ts[j].args.length c') ∧ ts[j].args.length ≤ c' ∧ Rd tmK w S A' ts[j].args := by
  obtain ⟨b, o, c, e, hb, hk, hc⟩ := h.at j hj
  obtain ⟨A', c', rfl, hl, hr⟩ := tmK_open hk
  exact ⟨b, o, A', c', e, hb, hc 0 _ rfl, hc 1 _ rfl, hc 2 _ rfl, hc 3 _ rfl, hl, hr⟩
mutual
def RS (w : World) (S : Nat → Prop) : Sm → List Value → Prop
  | .mk s a, cs => ∃ A c, cs = [.string s, .slice A a.length c] ∧ a.length ≤ c ∧
      (a = [] ∨ ∃ b o ds, A = some ⟨b, o, none⟩ ∧ S b ∧ RSl w S a ds ∧ ∀ i u, ds[i]? = some u → w.cell? ⟨b, o + i, none⟩ = some u)
def RSl (w : World) (S : Nat → Prop) : List Sm → List Value → Prop
  | [], cs => cs = []
  | t :: r, cs => ∃ c c', cs = c ++ c' ∧ RS w S t c ∧ RSl w S r c'
end
theorem RSl_eq (w : World) (S : Nat → Prop) : ∀ (ts : List Sm) (cs : List Value), RSl w S ts cs = Cs (RS w S) ts cs
  | [], _ => by rw [RSl, Cs]
  | t :: r, cs => by
    rw [RSl, Cs]
    have h := RSl_eq w S r
    simp only [h]
theorem RS_len {w : World} {S : Nat → Prop} : ∀ {t : Sm} {cs : List Value}, RS w S t cs → cs.length = 2
  | .mk .., _, h => by
    rw [RS] at h
    obtain ⟨A, c, rfl, _⟩ := h
    rfl
theorem RS_pos {w : World} {S : Nat → Prop} {a : List Sm} {ds : List Value} {b o : Nat} (h : RSl w S a ds) (ha : a ≠ []) (hm : ∀ i u, ds[i]? = some u → w.cell? ⟨b, o + i, none⟩ = some u) : Live w b := by
  cases a with
  | nil => exact absurd rfl ha
  | cons t r =>
    rw [RSl] at h
    obtain ⟨c, c', e, h1, _⟩ := h
    have hl := RS_len h1
    have : ds[0]? = some c[0] := by rw [e, List.getElem?_append_left (by omega), List.getElem?_eq_getElem (by omega)]
    exact cl_live (hm 0 _ this)
mutual
theorem RS_move {w w' : World} {S S' : Nat → Prop} (hw : ∀ b, S b → Live w b → w'.heap[b]? = w.heap[b]?) (hS : ∀ b, S b → Live w b → S' b) : ∀ (t : Sm) (cs : List Value), RS w S t cs → RS w' S' t cs
  | .mk s a, cs, h => by
    rw [RS] at h ⊢
    obtain ⟨A, c, e, hl, h⟩ := h
    refine ⟨A, c, e, hl, ?_⟩
    rcases h with h | ⟨b, o, ds, e, hb, h, hm⟩
    · exact .inl h
    · by_cases ha : a = []
      · exact .inl ha
      · have hlt := RS_pos h ha hm
        exact .inr ⟨b, o, ds, e, hS b hb hlt, RSl_move hw hS a ds h, fun i u hu => cl_block (hm i u hu) (hw b hb hlt)⟩
theorem RSl_move {w w' : World} {S S' : Nat → Prop} (hw : ∀ b, S b → Live w b → w'.heap[b]? = w.heap[b]?) (hS : ∀ b, S b → Live w b → S' b) : ∀ (ts : List Sm) (cs : List Value), RSl w S ts cs → RSl w' S' ts cs
  | [], _, h => by rw [RSl] at h ⊢; exact h
  | t :: r, _, h => by
    rw [RSl] at h ⊢
    obtain ⟨c, c', e, h1, h2⟩ := h
    exact ⟨c, c', e, RS_move hw hS t c h1, RSl_move hw hS r c' h2⟩
end
def smK : EK Sm where
  sz := 2
  K := RS
  pos := by omega
  len := RS_len
  one := by
    intro w S x cs h u hu
    cases x
    rw [RS] at h
    obtain ⟨A, c, rfl, _⟩ := h
    simp at hu
    rcases hu with rfl | rfl <;> rfl
  move := fun hw hS h => RS_move hw hS _ _ h
theorem smK_open {w : World} {S : Nat → Prop} {t : Sm} {cs : List Value} (h : smK.K w S t cs) : ∃ A c, cs = [.string t.fam, .slice A t.args.length c] ∧ t.args.length ≤ c ∧ Rd smK w S A t.args := by
  cases t with
  | mk s a =>
    have h : RS w S (.mk s a) cs := h
    rw [RS] at h
    obtain ⟨A, c, e, hl, h⟩ := h
    refine ⟨A, c, e, hl, ?_⟩
    rcases h with h | ⟨b, o, ds, e, hb, h, hm⟩
    · exact .inl h
    · exact .inr ⟨b, o, ds, e, hb, by rw [RSl_eq] at h; exact h, hm⟩
theorem smK_mk {w : World} {S : Nat → Prop} {s : ByteArray} {a : List Sm} {A : Option Addr} {c : Nat} (hl : a.length ≤ c) (h : Rd smK w S A a) : smK.K w S (.mk s a) [.string s, .slice A a.length c] := by
  show RS w S (.mk s a) _
  rw [RS]
  refine ⟨A, c, rfl, hl, ?_⟩
  rcases h with h | ⟨b, o, ds, e, hb, h, hm⟩
  · exact .inl h
  · exact .inr ⟨b, o, ds, e, hb, by rw [RSl_eq]; exact h, hm⟩
theorem Rd.sm {w : World} {S : Nat → Prop} {A : Option Addr} {ts : List Sm} (h : Rd smK w S A ts) (j : Nat) (hj : j < ts.length) :
    ∃ b o A' c', A = some ⟨b, o, none⟩ ∧ S b ∧ w.cell? ⟨b, o + j * 2, none⟩ = some (.string ts[j].fam) ∧ w.cell? ⟨b, o + j * 2 + 1, none⟩ = some (.slice A' ts[j].args.length c') ∧ ts[j].args.length ≤ c' ∧ Rd smK w S A' ts[j].args := by
  obtain ⟨b, o, c, e, hb, hk, hc⟩ := h.at j hj
  obtain ⟨A', c', rfl, hl, hr⟩ := smK_open hk
  exact ⟨b, o, A', c', e, hb, hc 0 _ rfl, hc 1 _ rfl, hl, hr⟩
/-- element j of a slice of whole numbers -/
theorem Rd.int {w : World} {S : Nat → Prop} {A : Option Addr} {xs : List Int} (h : Rd intK w S A xs) (j : Nat) (hj : j < xs.length) :
    ∃ b o, A = some ⟨b, o, none⟩ ∧ S b ∧ w.cell? ⟨b, o + j, none⟩ = some (.int .i64 xs[j]) := by
  obtain ⟨b, o, c, e, hb, hk, hc⟩ := h.at j hj
  have hk : c = [.int .i64 xs[j]] := hk
  subst hk
  have := hc 0 _ rfl
  exact ⟨b, o, e, hb, by simpa [intK, EK.flat] using this⟩
end Go.Proofs.Ytolooomphmcphaa
