/- More words: an element of a slice of terms that the call owns is turned. No program in sight. -/
import Derived.Test.YtolooomphmcphaaK3
namespace Go.Proofs.Ytolooomphmcphaa
open Go.RowKit

theorem list_set4 (l : List Value) (p k : Nat) (v0 v1 v2 v3 : Value) (h : p + 4 ≤ k) (hk : k ≤ l.length) :
    ((((l.set p v0).set (p + 1) v1).set (p + 2) v2).set (p + 3) v3).take k = (l.take k).take p ++ [v0, v1, v2, v3] ++ (l.take k).drop (p + 4) := by
  apply List.ext_getElem?
  intro i
  have h1 : ((l.take k).take p).length = p := by simp; omega
  rcases Nat.lt_or_ge i p with h2 | h2
  · rw [List.append_assoc, List.getElem?_append_left (by omega)]
    simp only [List.getElem?_take, List.getElem?_set]
    have a1 : i < k := by omega
    have a2 : p + 3 ≠ i := by omega
    have a3 : p + 2 ≠ i := by omega
    have a4 : p + 1 ≠ i := by omega
    have a5 : p ≠ i := by omega
    simp [a1, a2, a3, a4, a5, h2]
  · rcases Nat.lt_or_ge i (p + 4) with h3 | h3
    · rw [List.append_assoc, List.getElem?_append_right (by omega), h1, List.getElem?_append_left (by simp; omega)]
      simp only [List.getElem?_take, List.getElem?_set, List.length_set]
      have a1 : i < k := by omega
      have a6 : i < l.length := by omega
      obtain rfl | rfl | rfl | rfl : i = p ∨ i = p + 1 ∨ i = p + 2 ∨ i = p + 3 := by omega
      · simp [a1, a6]
      · simp [a1, a6]
      · simp [a1, a6]
      · simp [a1, a6]
    · rw [List.getElem?_append_right (by simp; omega)]
      simp only [List.getElem?_take, List.getElem?_set, List.getElem?_drop, List.length_append, h1]
      have a2 : p + 3 ≠ i := by omega
      have a3 : p + 2 ≠ i := by omega
      have a4 : p + 1 ≠ i := by omega
      have a5 : p ≠ i := by omega
      have a6 : p + 4 + (i - (p + 4)) = i := by omega
      simp [a2, a3, a4, a5, a6]

abbrev put4 (w : World) (g p : Nat) (v0 v1 v2 v3 : Value) : World := (((w.setCell ⟨g, p, none⟩ v0).setCell ⟨g, p + 1, none⟩ v1).setCell ⟨g, p + 2, none⟩ v2).setCell ⟨g, p + 3, none⟩ v3
theorem put4_far {w : World} {g p b : Nat} {v0 v1 v2 v3 : Value} (h : b ≠ g) : (put4 w g p v0 v1 v2 v3).heap[b]? = w.heap[b]? := by
  rw [Below.heap_setCell _ _ _ b h, Below.heap_setCell _ _ _ b h, Below.heap_setCell _ _ _ b h, Below.heap_setCell _ _ _ b h]
theorem put4_self {w : World} {g p : Nat} {v0 v1 v2 v3 : Value} {cur : Array Value} {T : TypeId} (h : w.heap[g]? = some (.cells cur T (0, 0))) :
    (put4 w g p v0 v1 v2 v3).heap[g]? = some (.cells ((((cur.setIfInBounds p v0).setIfInBounds (p + 1) v1).setIfInBounds (p + 2) v2).setIfInBounds (p + 3) v3) T (0, 0)) := bk_set (bk_set (bk_set (bk_set h p v0) (p + 1) v1) (p + 2) v2) (p + 3) v3
theorem put4_size {w : World} {g p : Nat} {v0 v1 v2 v3 : Value} : (put4 w g p v0 v1 v2 v3).heap.size = w.heap.size := by simp
/-- element m of a slice of terms that the call owns is turned -/
theorem Own.put {e : TypeId} {B : Nat} {w : World} {S : Nat → Prop} {g n c m : Nat} {xs : List Tm} {x : Tm} {v0 v1 v2 v3 : Value} (h : Own tmK e B w S (.slice (some ⟨g, 0, none⟩) n c) xs) (hm : m < xs.length)
    (hk : tmK.K w (fun b => S b ∧ Live w b ∧ g ≠ b) x [v0, v1, v2, v3]) : Own tmK e B (put4 w g (m * 4) v0 v1 v2 v3) S (.slice (some ⟨g, 0, none⟩) n c) (xs.set m x) := by
  obtain ⟨cs, h1, h2⟩ := h
  have hlen := h1.1
  rcases h1.2 with ⟨e1, _⟩ | ⟨g', cap, cur, e1, hb, hg, hnc, hcm, hcs, ht⟩
  · cases e1
  · simp only [Value.slice.injEq, Option.some.injEq, Addr.mk.injEq, and_true] at e1
    obtain ⟨rfl, hn, rfl⟩ := e1
    have hsz : tmK.sz = 4 := rfl
    rw [hsz] at hlen hcs ht
    have hkk : xs.length * 4 ≤ cur.toList.length := by
      have h9 : cur.toList.length = c * 4 := by rw [← hcs]; rfl
      rw [h9]; exact Nat.mul_le_mul_right _ hnc
    have key : ∀ b, (S b ∧ Live w b ∧ g ≠ b) → (put4 w g (m * 4) v0 v1 v2 v3).heap[b]? = w.heap[b]? := fun b hb => put4_far (Ne.symm hb.2.2)
    have key2 : ∀ b, (S b ∧ Live w b ∧ g ≠ b) → (S b ∧ Live (put4 w g (m * 4) v0 v1 v2 v3) b ∧ Value.ownBlock (.slice (some ⟨g, 0, none⟩) n c) ≠ some b) := fun b hb => by
      refine ⟨hb.1, ?_, fun he => hb.2.2 (by simpa [Value.ownBlock] using he)⟩
      obtain ⟨cc, t, f, hh⟩ := hb.2.1
      exact ⟨cc, t, f, (key b hb).trans hh⟩
    have h2' : Cs (tmK.K (put4 w g (m * 4) v0 v1 v2 v3) (fun b => S b ∧ Live (put4 w g (m * 4) v0 v1 v2 v3) b ∧ Value.ownBlock (.slice (some ⟨g, 0, none⟩) n c) ≠ some b)) xs cs :=
      h2.imp fun y d hd => tmK.move (fun b hb _ => key b ⟨hb.1, hb.2.1, fun he => hb.2.2 (by simp [Value.ownBlock, he])⟩) (fun b hb _ => key2 b ⟨hb.1, hb.2.1, fun he => hb.2.2 (by simp [Value.ownBlock, he])⟩) hd
    have h3 := h2'.set (sz := 4) (fun _ _ hk => tmK.len hk) m x [v0, v1, v2, v3] hm (tmK.move (fun b hb _ => key b hb) (fun b hb _ => key2 b hb) hk)
    have hcl : cs.length = xs.length * 4 := by rw [hlen]
    refine ⟨cs.take (m * 4) ++ [v0, v1, v2, v3] ++ cs.drop (m * 4 + 4), ⟨?_, .inr ⟨g, c, _, ?_, hb, put4_self hg, ?_, hcm, ?_, ?_⟩⟩, h3⟩
    · simp [hcl, hsz]; omega
    · rw [List.length_set, ← hn]
    · rw [List.length_set]; exact hnc
    · simp [hcs, hsz]
    · rw [List.length_set, hsz]
      simp only [Array.toList_setIfInBounds]
      rw [list_set4 _ _ _ _ _ _ _ (by omega) hkk, ht]
end Go.Proofs.Ytolooomphmcphaa
