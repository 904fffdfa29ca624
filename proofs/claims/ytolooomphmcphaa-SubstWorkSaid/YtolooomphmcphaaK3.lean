/- More words: a struct stored into a variable; a slice literal of one element; a slice cloned. No program in sight. -/
import Derived.Test.YtolooomphmcphaaK2
import Derived.Test.YtolooomphmcphaaSp
namespace Go.Proofs.Ytolooomphmcphaa
open Go.RowKit

abbrev set4 (w : World) (g : Nat) (v0 v1 v2 v3 : Value) : World := (((w.setCell ⟨g, 0, none⟩ v0).setCell ⟨g, 1, none⟩ v1).setCell ⟨g, 2, none⟩ v2).setCell ⟨g, 3, none⟩ v3
abbrev set2 (w : World) (g : Nat) (v0 v1 : Value) : World := (w.setCell ⟨g, 0, none⟩ v0).setCell ⟨g, 1, none⟩ v1
section
variable {w w1 : World} {g : Nat} {v0 v1 v2 v3 u0 u1 u2 u3 : Value} {T : TypeId}
theorem set4_self (h : w.heap[g]? = some (.cells #[u0, u1, u2, u3] T (0, 0))) : (set4 w g v0 v1 v2 v3).heap[g]? = some (.cells #[v0, v1, v2, v3] T (0, 0)) := bk_set (bk_set (bk_set (bk_set h 0 v0) 1 v1) 2 v2) 3 v3
theorem set2_self (h : w.heap[g]? = some (.cells #[u0, u1] T (0, 0))) : (set2 w g v0 v1).heap[g]? = some (.cells #[v0, v1] T (0, 0)) := bk_set (bk_set h 0 v0) 1 v1
theorem set4_far {b : Nat} (h : b ≠ g) : (set4 w g v0 v1 v2 v3).heap[b]? = w.heap[b]? := by
  rw [Below.heap_setCell _ _ _ b h, Below.heap_setCell _ _ _ b h, Below.heap_setCell _ _ _ b h, Below.heap_setCell _ _ _ b h]
theorem set2_far {b : Nat} (h : b ≠ g) : (set2 w g v0 v1).heap[b]? = w.heap[b]? := by
  rw [Below.heap_setCell _ _ _ b h, Below.heap_setCell _ _ _ b h]
theorem set4_size : (set4 w g v0 v1 v2 v3).heap.size = w.heap.size := by simp
theorem set2_size : (set2 w g v0 v1).heap.size = w.heap.size := by simp
theorem bl_set4 (h : Below w.heap.size w w1) (hg : w.heap.size ≤ g) : Below w.heap.size w (set4 w1 g v0 v1 v2 v3) := bl_set (bl_set (bl_set (bl_set h hg _) hg _) hg _) hg _
theorem bl_set2 (h : Below w.heap.size w w1) (hg : w.heap.size ≤ g) : Below w.heap.size w (set2 w1 g v0 v1) := bl_set (bl_set h hg _) hg _
variable {α : Type} {d : EK α} {S : Nat → Prop} {A : Option Addr} {xs : List α} {e : TypeId} {B : Nat} {v : Value}
theorem Rd.set4 (h : Rd d w S A xs) (hS : ∀ b, S b → b ≠ g) : Rd d (set4 w g v0 v1 v2 v3) S A xs := h.move (fun b hb _ => set4_far (hS b hb)) (fun _ h _ => h)
theorem Rd.set2 (h : Rd d w S A xs) (hS : ∀ b, S b → b ≠ g) : Rd d (set2 w g v0 v1) S A xs := h.move (fun b hb _ => set2_far (hS b hb)) (fun _ h _ => h)
theorem Rd.setc (h : Rd d w S A xs) {p : Addr} (hS : ∀ b, S b → b ≠ p.block) (u : Value) : Rd d (w.setCell p u) S A xs := h.move (fun b hb _ => Below.heap_setCell _ _ _ b (hS b hb)) (fun _ h _ => h)
theorem Own.set4 (h : Own d e B w S v xs) (hS : ∀ b, S b → b ≠ g) (hB : g < B) : Own d e B (set4 w g v0 v1 v2 v3) S v xs := by
  refine h.move (fun b hb _ => set4_far ?_) (fun _ h _ => h)
  rcases hb with hb | hb
  · exact hS b hb
  · have := (h.block b hb).1; omega
theorem Own.set2 (h : Own d e B w S v xs) (hS : ∀ b, S b → b ≠ g) (hB : g < B) : Own d e B (set2 w g v0 v1) S v xs := by
  refine h.move (fun b hb _ => set2_far ?_) (fun _ h _ => h)
  rcases hb with hb | hb
  · exact hS b hb
  · have := (h.block b hb).1; omega
/-- a slice literal of one element, read -/
theorem Rd.one {x : α} {c : List Value} {S' : Nat → Prop} (hk : d.K w S x c) (hS : ∀ b, S b → S' b) (hn : S' w.heap.size) : Rd d (w.alloc (.cells c.toArray e)) S' (some ⟨w.heap.size, 0, none⟩) [x] := by
  refine .inr ⟨w.heap.size, 0, c, rfl, hn, ⟨c, [], by simp, d.move (fun b _ hl => (bl_new w _).block b hl.lt) (fun b hb _ => hS b hb) hk, rfl⟩, fun i u hu => ?_⟩
  rw [Nat.zero_add]
  exact bk_cell (bk_new w _) i (by simpa using hu)
theorem Rd.two {x y : α} {c c' : List Value} {S' : Nat → Prop} (hk : d.K w S x c) (hk' : d.K w S y c') (hS : ∀ b, S b → S' b) (hn : S' w.heap.size) : Rd d (w.alloc (.cells (c ++ c').toArray e)) S' (some ⟨w.heap.size, 0, none⟩) [x, y] := by
  refine .inr ⟨w.heap.size, 0, c ++ c', rfl, hn, ⟨c, c', rfl, d.move (fun b _ hl => (bl_new w _).block b hl.lt) (fun b hb _ => hS b hb) hk, c', [], by simp, d.move (fun b _ hl => (bl_new w _).block b hl.lt) (fun b hb _ => hS b hb) hk', rfl⟩, fun i u hu => ?_⟩
  rw [Nat.zero_add]
  exact bk_cell (bk_new w _) i (by simpa using hu)
/-- what is owned, with its value laid open -/
theorem Own.open (h : Own d e B w S v xs) {S' : Nat → Prop} (hB : ∀ b, B ≤ b → S' b) (hS : ∀ b, S b → S' b) : ∃ A c, v = .slice A xs.length c ∧ xs.length ≤ c ∧ Rd d w S' A xs := h.read hB hS
end
/-- a slice appended to an empty one that the call owns: a clone, at a region's list -/
theorem wp_clone {α : Type} {d : EK α} {P : Program} {ops : Array Oper} {Q : Exit → Act → World → Prop} {rest : List Oper} {o : Oper} {a : Act} {w : World} (hgd : o.guard = none) (s y : Operand) (t : TypeId)
    (ho : o.op = .call { callee := .builtin .append, args := #[s, y], argTypes := #[t, t] })
    {B : Nat} {e : TypeId} {bytes : Nat} {z : Value} {S : Nat → Prop} {v : Value} {xs : List α}
    (ht : P.underlying t = some (.slice e)) (hi : (P.info? e).map (fun i => (i.zero, i.size, i.bytes)) = some (some z, d.sz, bytes)) (hz : z.cells.size = d.sz) (hby : bytes ≤ 1000)
    (hs : a.eval s = v) (hown : w.ownsRow B e d.sz v 0 []) (hlen : xs.length < 1000000000) (hB : B ≤ w.heap.size)
    {A : Addr} {cap : Nat} (hx : a.eval y = .slice (some A) xs.length cap) (hr : Rd d w S (some A) xs) (hS : ∀ b, S b → v.ownBlock ≠ some b)
    (h : ∀ v' w', Own d e B w' S v' xs → w.grownBy w' v.ownBlock → wpList P ops Q rest (a.put o.dst v') w') :
    wpList P ops Q (o :: rest) a w := by
  cases hI : P.info? e with
  | none => rw [hI] at hi; cases hi
  | some i =>
    rw [hI] at hi
    simp only [Option.map_some, Option.some.injEq, Prod.mk.injEq] at hi
    obtain ⟨hz0, hz1, hz2⟩ := hi
    have hbig : xs.length * bytes ≤ 1000000000 * 1000 := Nat.mul_le_mul (by omega) hby
    have key : ∃ cs, Cs (d.K w S) xs cs ∧ ∀ j u, cs[j]? = some u → w.cell? (A.add j) = some u := by
      rcases hr with hr | ⟨b, o, cs, e1, hb, hc, hm⟩
      · subst hr
        exact ⟨[], rfl, by simp⟩
      · refine ⟨cs, hc, fun j u hj => ?_⟩
        have e1 : A = ⟨b, o, none⟩ := by simpa using e1
        subst e1
        have := hm j u hj
        by_cases h0 : j = 0
        · subst h0; simpa [Addr.add] using this
        · simpa [Addr.add, h0] using this
    obtain ⟨cs, hc, hm⟩ := key
    have hl := hc.length (fun _ _ hk => d.len hk)
    refine wpList_append_own_at w hgd s y t ho B e i z d.sz bytes ht hI hz0 hz1 hz2 hz d.pos v 0 [] hs hown A xs.length cap cs hx hl hm (hc.mem fun _ _ hk => d.one hk) (by simp [maxLen]; omega) (by rw [Nat.zero_add]; omega) hB ?_
    intro v' w' hown' hgrow _ hat
    refine h v' w' ⟨cs, by simpa using hown', hc.imp fun x c hk => d.move (fun b hb hl => hgrow.block b hl.lt (fun h => hS b hb h.symm)) (fun b hb hl => ⟨hb, ?_, ?_⟩) hk⟩ hgrow
    · obtain ⟨cc, t, f, hh⟩ := hl
      exact ⟨cc, t, f, (hgrow.block b (bk_lt hh) (fun h => hS b hb h.symm)).trans hh⟩
    · intro he
      rcases hat with hat | hat
      · exact hS b hb (hat ▸ he)
      · rw [hat] at he
        have := hl.lt
        simp at he
        omega
end Go.Proofs.Ytolooomphmcphaa
