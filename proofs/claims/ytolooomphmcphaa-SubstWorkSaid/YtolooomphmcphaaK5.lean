/- More words: a call that turns one old block (a captured variable) and makes new ones. No program in sight. -/
import Derived.Test.YtolooomphmcphaaK4
namespace Go.Proofs.Ytolooomphmcphaa
open Go.RowKit

theorem pack4 {W : World} {g : Nat} {k s sl : Value} {i i' : Int} {T : TypeId} (h : W.heap[g]? = some (.cells #[k, s, .int .i64 i, sl] T (0, 0))) (e : i = i') : W.heap[g]? = some (.cells #[k, s, .int .i64 i', sl] T (0, 0)) := by rw [← e]; exact h
theorem pack1 {W : World} {g : Nat} {b b' : Bool} {T : TypeId} (h : W.heap[g]? = some (.cells #[.bool b] T (0, 0))) (e : b = b') : W.heap[g]? = some (.cells #[.bool b'] T (0, 0)) := by rw [← e]; exact h
section
variable {w w1 w2 : World} {row : Option Nat}
theorem gr_below (h : Below w.heap.size w w1) (row : Option Nat) : w.grownBy w1 row := ⟨h.os, h.tape, h.output, h.size, fun k hk _ => h.block k hk⟩
theorem gr_next (h : w.grownBy w1 row) (k : Below w1.heap.size w1 w2) : w.grownBy w2 row := h.trans (gr_below k row)
theorem gr_undrew (h : w.drew.grownBy w1 row) : w.grownBy w1 row := ⟨h.os, h.tape, h.output, h.size, h.block⟩
theorem gr_alloc (h : w.grownBy w1 row) (o : Obj) : w.grownBy (w1.alloc o) row := gr_next h (bl_new w1 o)
theorem gr_drew (h : w.grownBy w1 row) : w.grownBy w1.drew row := gr_next h (bl_drew _ _)
theorem gr_set (h : w.grownBy w1 row) {p : Addr} (hp : w.heap.size ≤ p.block) (u : Value) : w.grownBy (w1.setCell p u) row :=
  ⟨h.os, h.tape, h.output, by rw [World.size_setCell]; exact h.size, fun k hk hne => (Below.heap_setCell w1 p u k (by omega)).trans (h.block k hk hne)⟩
theorem gr_row {g : Nat} (h : w.grownBy w1 (some g)) {p : Addr} (hp : p.block = g) (u : Value) : w.grownBy (w1.setCell p u) (some g) :=
  ⟨h.os, h.tape, h.output, by rw [World.size_setCell]; exact h.size, fun k hk hne => (Below.heap_setCell w1 p u k (by rw [hp]; intro e; exact hne (by rw [e]))).trans (h.block k hk hne)⟩
theorem gr_set4 {g : Nat} {v0 v1 v2 v3 : Value} (h : w.grownBy w1 row) (hg : w.heap.size ≤ g) : w.grownBy (set4 w1 g v0 v1 v2 v3) row := gr_set (gr_set (gr_set (gr_set h hg _) hg _) hg _) hg _
theorem gr_put4 {g p : Nat} {v0 v1 v2 v3 : Value} (h : w.grownBy w1 row) (hg : w.heap.size ≤ g) : w.grownBy (put4 w1 g p v0 v1 v2 v3) row := gr_set (gr_set (gr_set (gr_set h hg _) hg _) hg _) hg _
theorem cl_grown {p : Addr} {v : Value} (h : w.cell? p = some v) (hg : w.grownBy w1 row) (hne : some p.block ≠ row) : w1.cell? p = some v := cl_block h (hg.block _ (cl_lt h) hne)
theorem cl_set {p q : Addr} {v u : Value} (h : w.cell? p = some v) (hne : p.block ≠ q.block) : (w.setCell q u).cell? p = some v := cl_block h (Below.heap_setCell w q u _ hne)
variable {α : Type} {d : EK α} {S : Nat → Prop} {A : Option Addr} {xs : List α} {e : TypeId} {B : Nat} {v : Value}
theorem Rd.grown {g : Nat} (h : Rd d w S A xs) (hg : w.grownBy w1 (some g)) (hS : ∀ b, S b → b ≠ g) : Rd d w1 S A xs := h.move (fun b hb hl => hg.block b hl.lt (fun he => hS b hb (by simpa using he))) (fun _ h _ => h)
theorem Own.grown {g : Nat} (h : Own d e B w S v xs) (hg : w.grownBy w1 (some g)) (hS : ∀ b, S b → b ≠ g) (hB : g < B) : Own d e B w1 S v xs := by
  refine h.move (fun b hb hl => hg.block b hl.lt ?_) (fun _ h _ => h)
  intro he
  have he : b = g := by simpa using he
  subst he
  rcases hb with hb | hb
  · exact hS b hb rfl
  · have := (h.block _ hb).1
    omega
theorem Own.base {B' : Nat} (h : Own d e B w S v xs) (hB : B' ≤ B) : Own d e B' w S v xs := by
  obtain ⟨cs, ⟨h0, h1⟩, h2⟩ := h
  refine ⟨cs, ⟨h0, ?_⟩, h2⟩
  rcases h1 with h1 | ⟨g, cap, cur, e1, hb, h3⟩
  · exact .inl h1
  · exact .inr ⟨g, cap, cur, e1, by omega, h3⟩
/-- element m of a slice of terms that the call owns, laid open -/
theorem Own.tm {n c m : Nat} {xs : List Tm} (h : Own tmK e B w S (.slice A n c) xs) (hm : m < xs.length) :
    ∃ g A' c', A = some ⟨g, 0, none⟩ ∧ n = xs.length ∧ n ≤ c ∧ B ≤ g ∧ g < w.heap.size ∧ (∀ i, w.frozen? ⟨g, i, none⟩ = false) ∧ w.cell? ⟨g, m * 4, none⟩ = some (.int .i64 xs[m].kind) ∧ w.cell? ⟨g, m * 4 + 1, none⟩ = some (.string xs[m].name) ∧
      w.cell? ⟨g, m * 4 + 2, none⟩ = some (.int .i64 xs[m].idx) ∧ w.cell? ⟨g, m * 4 + 3, none⟩ = some (.slice A' xs[m].args.length c') ∧ xs[m].args.length ≤ c' ∧ Rd tmK w (fun b => S b ∧ Live w b ∧ g ≠ b) A' xs[m].args := by
  obtain ⟨cs, h1, h2⟩ := h
  rcases h1.2 with ⟨e1, h3⟩ | ⟨g, cap, cur, e1, hb, hg, hc, hm', hs, ht⟩
  · omega
  · simp only [Value.slice.injEq] at e1
    obtain ⟨rfl, rfl, rfl⟩ := e1
    obtain ⟨d, hk, hget⟩ := h2.get (fun _ _ hk => tmK.len hk) m xs[m] (List.getElem?_eq_getElem hm)
    obtain ⟨A', c', rfl, hl, hr⟩ := tmK_open hk
    have hcell : ∀ i u, cs[i]? = some u → w.cell? ⟨g, i, none⟩ = some u := fun i u hu => by
      have := h1.cells (g := g) rfl i u hu
      rwa [add0] at this
    refine ⟨g, A', c', rfl, rfl, hc, hb, bk_lt hg, fun i => bk_free hg i, hcell _ _ (hget 0 _ rfl), hcell _ _ (hget 1 _ rfl), hcell _ _ (hget 2 _ rfl), hcell _ _ (hget 3 _ rfl), hl, hr.mono fun b hb _ => ⟨hb.1, hb.2.1, fun he => hb.2.2 (by rw [he]; rfl)⟩⟩
end
end Go.Proofs.Ytolooomphmcphaa
