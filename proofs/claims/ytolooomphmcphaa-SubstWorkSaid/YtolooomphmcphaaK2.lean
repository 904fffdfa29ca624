/- Slices that a call owns: built by append, read at the end. No program in sight. -/
import Derived.Test.YtolooomphmcphaaK
import Derived.Test.YtolooomphmcphaaK1
namespace Go.Proofs.Ytolooomphmcphaa
open Go.RowKit

theorem cl_belowB {w w' : World} {p : Addr} {u : Value} {B : Nat} (h : w.cell? p = some u) (hp : p.block < B) (hb : Below B w w') : w'.cell? p = some u := cl_block h (hb.block _ hp)
theorem bk_belowB {w w' : World} {g : Nat} {o : Obj} {B : Nat} (h : w.heap[g]? = some o) (hp : g < B) (hb : Below B w w') : w'.heap[g]? = some o := (hb.block _ hp).trans h
theorem bl_next {B : Nat} {w w1 w2 : World} (h : Below B w w1) (k : Below w1.heap.size w1 w2) (hB : B ≤ w.heap.size) : Below B w w2 := h.trans (k.mono (Nat.le_trans hB h.size))
theorem bl_drew (B : Nat) (w : World) : Below B w w.drew := ⟨rfl, rfl, rfl, Nat.le_refl _, fun _ _ => rfl⟩
theorem bl_allocB {B : Nat} {w w1 : World} (h : Below B w w1) (o : Obj) (hB : B ≤ w.heap.size) : Below B w (w1.alloc o) := h.alloc (Nat.le_trans hB h.size) o
theorem bl_grownB {B : Nat} {w w1 w2 : World} {row : Option Nat} (h : Below B w w1) (hg : w1.grownBy w2 row) (hB : B ≤ w.heap.size) (hr : ∀ k, row = some k → B ≤ k) : Below B w w2 := h.grown hg (Nat.le_trans hB h.size) hr
theorem tmK_of {w : World} {S : Nat → Prop} (t : Tm) {A : Option Addr} {c : Nat} (hl : t.args.length ≤ c) (h : Rd tmK w S A t.args) : tmK.K w S t [.int .i64 t.kind, .string t.name, .int .i64 t.idx, .slice A t.args.length c] := by
  cases t
  exact tmK_mk hl h
theorem smK_of {w : World} {S : Nat → Prop} (t : Sm) {A : Option Addr} {c : Nat} (hl : t.args.length ≤ c) (h : Rd smK w S A t.args) : smK.K w S t [.string t.fam, .slice A t.args.length c] := by
  cases t
  exact smK_mk hl h
theorem bk_at {w : World} {n : Nat} (h : w.heap.size = n) (o : Obj) : (w.alloc o).heap[n]? = some o := by subst h; exact bk_new w o
theorem add0 (g i : Nat) : (⟨g, 0, none⟩ : Addr).add i = ⟨g, i, none⟩ := by
  by_cases h : i = 0
  · subst h; simp [Addr.add]
  · simp [Addr.add, h]
section
variable {α : Type} {d : EK α} {e : TypeId} {B : Nat} {w w' : World} {S S' : Nat → Prop} {v : Value} {xs : List α}
/-- v is a slice of the call's own (blocks from B on) that reads as xs; what its elements lead to lies in S, and not in its own block -/
def Own (d : EK α) (e : TypeId) (B : Nat) (w : World) (S : Nat → Prop) (v : Value) (xs : List α) : Prop :=
  ∃ cs, w.ownsRow B e d.sz v xs.length cs ∧ Cs (d.K w (fun b => S b ∧ Live w b ∧ v.ownBlock ≠ some b)) xs cs
theorem Own.nil (d : EK α) (e : TypeId) (B : Nat) (w : World) (S : Nat → Prop) : Own d e B w S (.slice none 0 0) ([] : List α) := ⟨[], World.ownsRow_nil w B e d.sz, rfl⟩
theorem own_move {base : Nat} {size n : Nat} {cs : List Value} (h : w.ownsRow base e size v n cs) (hw : ∀ b, v.ownBlock = some b → Live w b → w'.heap[b]? = w.heap[b]?) : w'.ownsRow base e size v n cs := by
  refine ⟨h.1, ?_⟩
  rcases h.2 with h2 | ⟨g, cap, cur, e1, h1, h2, h3⟩
  · exact .inl h2
  · exact .inr ⟨g, cap, cur, e1, h1, (hw g (by rw [e1]; rfl) ⟨_, _, _, h2⟩).trans h2, h3⟩
theorem Own.move (h : Own d e B w S v xs) (hw : ∀ b, (S b ∨ v.ownBlock = some b) → Live w b → w'.heap[b]? = w.heap[b]?) (hS : ∀ b, S b → Live w b → S' b) : Own d e B w' S' v xs := by
  obtain ⟨cs, h1, h2⟩ := h
  refine ⟨cs, own_move h1 (fun b hb => hw b (.inr hb)), h2.imp fun x c hk => d.move (fun b hb _ => hw b (.inl hb.1) hb.2.1) (fun b hb _ => ⟨hS b hb.1 hb.2.1, ?_, hb.2.2⟩) hk⟩
  obtain ⟨cs, t, f, hl⟩ := hb.2.1
  exact ⟨cs, t, f, (hw b (.inl hb.1) hb.2.1).trans hl⟩
theorem Own.below (h : Own d e B w S v xs) (hb : Below w.heap.size w w') : Own d e B w' S v xs := h.move (fun b _ hl => hb.block b hl.lt) (fun _ h _ => h)
theorem Own.alloc (h : Own d e B w S v xs) (o : Obj) : Own d e B (w.alloc o) S v xs := h.below (bl_new w o)
theorem Own.drew (h : Own d e B w S v xs) : Own d e B w.drew S v xs := Own.move (w' := w.drew) h (fun _ _ _ => rfl) (fun _ h _ => h)
theorem Own.mono (h : Own d e B w S v xs) (hS : ∀ b, S b → Live w b → S' b) : Own d e B w S' v xs := h.move (fun _ _ _ => rfl) hS
theorem Own.len (h : Own d e B w S v xs) : ∃ A c, v = .slice A xs.length c ∧ xs.length ≤ c ∧ (∀ a, A = some a → ∃ g, a = ⟨g, 0, none⟩ ∧ B ≤ g ∧ g < w.heap.size) := by
  obtain ⟨cs, h1, _⟩ := h
  rcases h1.2 with ⟨h2, h3⟩ | ⟨g, cap, cur, e1, hb, h2, h3, _⟩
  · exact ⟨none, 0, by rw [h2, h3], by omega, by simp⟩
  · exact ⟨_, cap, e1, h3, fun a ha => ⟨g, by simpa using ha.symm, hb, bk_lt h2⟩⟩
/-- what lies before B is not the row -/
theorem Own.block (h : Own d e B w S v xs) : ∀ k, v.ownBlock = some k → B ≤ k ∧ k < w.heap.size := by
  obtain ⟨cs, h1, _⟩ := h
  exact h1.lt
/-- a store into a block that is neither the row nor in S -/
theorem Own.store (h : Own d e B w S v xs) {p : Addr} (hS : ¬ S p.block) (hp : p.block < B) (u : Value) : Own d e B (w.setCell p u) S v xs := by
  refine h.move (fun b hb hl => Below.heap_setCell w p u b ?_) (fun _ h _ => h)
  rintro rfl
  rcases hb with hb | hb
  · exact hS hb
  · have := (h.block _ hb).1
    omega
/-- read -/
theorem Own.read (h : Own d e B w S v xs) (hB : ∀ b, B ≤ b → S' b) (hS : ∀ b, S b → S' b) : ∃ A c, v = .slice A xs.length c ∧ xs.length ≤ c ∧ Rd d w S' A xs := by
  obtain ⟨cs, h1, h2⟩ := h
  rcases h1.2 with ⟨h3, h4⟩ | ⟨g, cap, cur, e1, hb, hg, hc, hm, hs, ht⟩
  · exact ⟨none, 0, by rw [h3, h4], by omega, .inl (List.eq_nil_of_length_eq_zero h4)⟩
  · refine ⟨_, cap, e1, hc, .inr ⟨g, 0, cs, rfl, hB g hb, h2.imp fun x c hk => d.move (fun _ _ _ => rfl) (fun b hb _ => hS b hb.1) hk, fun i u hu => ?_⟩⟩
    have := h1.cells (g := g) (by rw [e1]; rfl) i u hu
    rw [add0] at this
    rw [Nat.zero_add]
    exact this
/-- one element more: to be handed what the laws on append give -/
theorem Own.snoc {x : α} {c : List Value} (h : Own d e B w S v xs) (hk : d.K w (fun b => S b ∧ Live w b ∧ v.ownBlock ≠ some b) x c)
    {w1 : World} {g cap : Nat} (hown : ∀ cs, w.ownsRow B e d.sz v xs.length cs → w1.ownsRow B e d.sz (.slice (some ⟨g, 0, none⟩) (xs.length + 1) cap) (xs.length + 1) (cs ++ c))
    (hgrow : w.grownBy w1 v.ownBlock) (hat : v.ownBlock = some g ∨ g = w.heap.size) : Own d e B w1 S (.slice (some ⟨g, 0, none⟩) (xs.length + 1) cap) (xs ++ [x]) := by
  obtain ⟨cs, h1, h2⟩ := h
  have key : ∀ b, (S b ∧ Live w b ∧ v.ownBlock ≠ some b) → Live w b → w1.heap[b]? = w.heap[b]? := fun b hb hl => hgrow.block b hl.lt (fun h => hb.2.2 h.symm)
  have key2 : ∀ b, (S b ∧ Live w b ∧ v.ownBlock ≠ some b) → Live w b → (S b ∧ Live w1 b ∧ Value.ownBlock (.slice (some ⟨g, 0, none⟩) (xs.length + 1) cap) ≠ some b) := fun b hb hl => by
    refine ⟨hb.1, ?_, ?_⟩
    · obtain ⟨c, t, f, hh⟩ := hl
      exact ⟨c, t, f, (key b hb ⟨c, t, f, hh⟩).trans hh⟩
    · intro he
      have he : g = b := by simpa [Value.ownBlock] using he
      subst he
      rcases hat with hat | hat
      · exact hb.2.2 hat
      · have := hl.lt
        omega
  refine ⟨cs ++ c, ?_, ?_⟩
  · rw [List.length_append]
    exact hown cs h1
  · exact Cs.snoc (d.move key key2 hk) (h2.imp fun x c hk => d.move key key2 hk)
/-- a slice literal of one element -/
theorem Own.one {x : α} {c : List Value} (hk : d.K w S x c) (hB : B ≤ w.heap.size) (hS : ∀ b, S b → S' b) : Own d e B (w.alloc (.cells c.toArray e)) S' (.slice (some ⟨w.heap.size, 0, none⟩) 1 1) [x] := by
  have hl := d.len hk
  refine ⟨c, ⟨by simpa using hl, .inr ⟨w.heap.size, 1, c.toArray, rfl, hB, bk_new w _, by simp, by decide, by simpa using hl, ?_⟩⟩, ?_⟩
  · simp [← hl]
  · refine ⟨c, [], by simp, d.move (fun b _ hl => (bl_new w _).block b hl.lt) (fun b hb hl => ⟨hS b hb, ?_, ?_⟩) hk, rfl⟩
    · obtain ⟨cc, t, f, hh⟩ := hl
      exact ⟨cc, t, f, bk_alloc hh _⟩
    · have := hl.lt
      simp [Value.ownBlock]
      omega
end
/-- append of one element that has just been laid into a block of its own, at a region's list: the law of Derived/Deep/AppendLies.lean on Own -/
theorem wp_snoc {α : Type} {d : EK α} {P : Program} {ops : Array Oper} {Q : Exit → Act → World → Prop} {rest : List Oper} {o : Oper} {a : Act} {w : World} (hgd : o.guard = none) (s y : Operand) (t : TypeId)
    (ho : o.op = .call { callee := .builtin .append, args := #[s, y], argTypes := #[t, t] })
    {B : Nat} {e : TypeId} {bytes : Nat} {z : Value} {S : Nat → Prop} {v : Value} {xs : List α} {x : α} {c : List Value}
    (ht : P.underlying t = some (.slice e)) (hi : (P.info? e).map (fun i => (i.zero, i.size, i.bytes)) = some (some z, d.sz, bytes)) (hz : z.cells.size = d.sz) (hby : bytes ≤ 1000)
    (hs : a.eval s = v) (hown : Own d e B w S v xs) (hlen : xs.length < 1000000000) (hB : B ≤ w.heap.size)
    {b : Nat} {cap0 : Nat} (hx : a.eval y = .slice (some ⟨b, 0, none⟩) 1 cap0) (hb : w.heap[b]? = some (.cells c.toArray e (0, 0)))
    (hk : d.K w (fun b => S b ∧ Live w b ∧ v.ownBlock ≠ some b) x c)
    (h : ∀ g cap w', Own d e B w' S (.slice (some ⟨g, 0, none⟩) (xs.length + 1) cap) (xs ++ [x]) → w.grownBy w' v.ownBlock → xs.length + 1 ≤ cap → g < w'.heap.size → B ≤ g → wpList P ops Q rest (a.put o.dst (.slice (some ⟨g, 0, none⟩) (xs.length + 1) cap)) w') :
    wpList P ops Q (o :: rest) a w := by
  cases hI : P.info? e with
  | none => rw [hI] at hi; cases hi
  | some i =>
    rw [hI] at hi
    simp only [Option.map_some, Option.some.injEq, Prod.mk.injEq] at hi
    obtain ⟨hz0, hz1, hz2⟩ := hi
    obtain ⟨cs, h1, h2⟩ := id hown
    have hl := d.len hk
    have hbig : (xs.length + 1) * bytes ≤ 1000000000 * 1000 := Nat.mul_le_mul (by omega) hby
    refine wpList_append_lies w hgd s y t ho B e i z d.sz bytes ht hI hz0 hz1 hz2 hz d.pos v xs.length cs hs h1 ⟨b, 0, none⟩ 1 cap0 c hx (by simpa using hl) ?_ (d.one hk) (by omega) (by simp [maxLen]; omega) (by omega) hB _ rfl ?_
    · intro j u hj
      have := bk_cell hb j (v := u) (by simpa using hj)
      rw [add0]
      exact this
    · intro g cap w1 hown1 hgrow hat hlt
      have hO : Own d e B w1 S (.slice (some ⟨g, 0, none⟩) (xs.length + 1) cap) (xs ++ [x]) := by
        refine hown.snoc hk (fun cs' h' => ?_) hgrow hat
        have : cs' = cs := by
          rcases h1.2 with ⟨e1, e2⟩ | ⟨g1, cap1, cur1, e1, _, hg1, _, _, _, ht1⟩
          · have a1 := h1.1
            have a2 := h'.1
            rw [e2, Nat.zero_mul] at a1 a2
            rw [List.eq_nil_of_length_eq_zero a1, List.eq_nil_of_length_eq_zero a2]
          · rcases h'.2 with ⟨e2, _⟩ | ⟨g2, cap2, cur2, e2, _, hg2, _, _, _, ht2⟩
            · rw [e1] at e2; cases e2
            · rw [e1] at e2
              simp only [Value.slice.injEq, Option.some.injEq, Addr.mk.injEq, true_and, and_true] at e2
              obtain ⟨rfl, rfl⟩ := e2
              rw [hg1] at hg2
              simp only [Option.some.injEq, Obj.cells.injEq, and_true] at hg2
              subst hg2
              rw [← ht1, ← ht2]
        rw [this]
        exact hown1
      obtain ⟨A, c2, e2, hle, hAA⟩ := hO.len
      simp only [Value.slice.injEq] at e2
      obtain ⟨e3, e4, e5⟩ := e2
      obtain ⟨g', hg', hBg, _⟩ := hAA _ e3.symm
      have : g = g' := by simpa using hg'
      subst this
      exact h g cap w1 hO hgrow (by rw [e5]; simpa using hle) hlt hBg
end Go.Proofs.Ytolooomphmcphaa
