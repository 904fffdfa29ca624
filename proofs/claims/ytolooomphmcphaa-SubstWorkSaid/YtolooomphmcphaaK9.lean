/- A region that draws its order, where several of its steps may come in several orders: walked along a tree of orders. No program in sight. -/
import Derived.Test.YtolooomphmcphaaK8
namespace Go.Proofs.Ytolooomphmcphaa
open Go
/-- the orders: one step that comes up as soon as it may; one that comes up alone; two, or three, that may come up next -/
inductive MixT where
  | nil : MixT
  | soft (i : Nat) (r : MixT) : MixT
  | hard (i : Nat) (r : MixT) : MixT
  | two (i : Nat) (r : MixT) (j : Nat) (s : MixT) : MixT
  | three (i : Nat) (r : MixT) (j : Nat) (s : MixT) (k : Nat) (t : MixT) : MixT
section
variable {P : Program} {md : Region.Mode}
def treeB (md : Region.Mode) (ops : Array Oper) : MixT → Nat → Array Bool → Bool
  | .nil, n, listed => decide (n = 0) && (Region.ready md ops listed).isEmpty
  | .soft i r, n, listed => decide (0 < n) && (Region.ready md ops listed).contains i && Region.free md ops listed i && treeB md ops r (n - 1) (listed.setIfInBounds i true)
  | .hard i r, n, listed => decide (0 < n) && decide (Region.ready md ops listed = [i]) && treeB md ops r (n - 1) (listed.setIfInBounds i true)
  | .two i r j s, n, listed => decide (0 < n) && decide (Region.ready md ops listed = [i, j]) && treeB md ops r (n - 1) (listed.setIfInBounds i true) && treeB md ops s (n - 1) (listed.setIfInBounds j true)
  | .three i r j s k t, n, listed => decide (0 < n) && decide (Region.ready md ops listed = [i, j, k]) && treeB md ops r (n - 1) (listed.setIfInBounds i true) && treeB md ops s (n - 1) (listed.setIfInBounds j true) && treeB md ops t (n - 1) (listed.setIfInBounds k true)
/-- one hard step, and then R -/
def stepT (P : Program) (ops : Array Oper) (Q : Exit → Act → World → Prop) (S : World → Prop) (R : Act → World → Prop) (i : Nat) (a : Act) (w : World) : Prop :=
  ∃ o, ops[i]? = some o ∧ o.guard = none ∧ wpList P #[] (fun e a' w' => match e with | .normal => S w' ∧ R a' w' | e => Q e a' w') [o] a w
def wpTree (P : Program) (ops : Array Oper) (Q : Exit → Act → World → Prop) (S : World → Prop) : MixT → Act → World → Prop
  | .nil, a, w => Q .normal a w
  | .soft i r, a, w => ∃ o, ops[i]? = some o ∧ ∃ v, o.guard = none ∧ (∀ w', S w' → (execOp a.eval o).run P w' = .ok (.value v) w') ∧ wpTree P ops Q S r (a.put o.dst v) w
  | .hard i r, a, w => stepT P ops Q S (wpTree P ops Q S r) i a w
  | .two i r j s, a, w => stepT P ops Q S (wpTree P ops Q S r) i a w ∧ stepT P ops Q S (wpTree P ops Q S s) j a w
  | .three i r j s k t, a, w => stepT P ops Q S (wpTree P ops Q S r) i a w ∧ stepT P ops Q S (wpTree P ops Q S s) j a w ∧ stepT P ops Q S (wpTree P ops Q S t) k a w
def treeQ (P : Program) (ops : Array Oper) (Q : Exit → Act → World → Prop) (S : World → Prop) (r : MixT) : Exit → Act → World → Prop
  | .normal, a, w => S w ∧ wpTree P ops Q S r a w
  | e, a, w => Q e a w
theorem treeQ_normal {ops : Array Oper} {Q : Exit → Act → World → Prop} {S : World → Prop} {r : MixT} {a : Act} {w : World} (hS : S w) (h : wpTree P ops Q S r a w) : treeQ P ops Q S r .normal a w := ⟨hS, h⟩
theorem stepT_of {l : List Oper} {Q : Exit → Act → World → Prop} {S : World → Prop} {r : MixT} {i : Nat} {o : Oper} {a : Act} {w : World} (ho : l[i]? = some o) (hg : o.guard = none) (h : wpList P #[] (treeQ P l.toArray Q S r) [o] a w) : stepT P l.toArray Q S (wpTree P l.toArray Q S r) i a w := by
  refine ⟨o, by simpa using ho, hg, ?_⟩
  have e : (fun e a' w' => match e with | .normal => S w' ∧ wpTree P l.toArray Q S r a' w' | e => Q e a' w') = treeQ P l.toArray Q S r := by
    funext e a' w'
    cases e <;> rfl
  rw [e]
  exact h
theorem wpTree_soft {l : List Oper} {Q : Exit → Act → World → Prop} {S : World → Prop} {r : MixT} {i : Nat} {o : Oper} {a : Act} {w : World} {v : Value} (ho : l[i]? = some o) (hg : o.guard = none)
    (hv : ∀ w', S w' → (execOp a.eval o).run P w' = .ok (.value v) w') (h : wpTree P l.toArray Q S r (a.put o.dst v) w) : wpTree P l.toArray Q S (.soft i r) a w := ⟨o, by simpa using ho, v, hg, hv, h⟩
theorem wpTree_done {ops : Array Oper} {Q : Exit → Act → World → Prop} {S : World → Prop} {a : Act} {w : World} (h : Q .normal a w) : wpTree P ops Q S .nil a w := h
theorem stepT_op {ops : Array Oper} {Q : Exit → Act → World → Prop} {S : World → Prop} {R K : Act → World → Prop} {i : Nat} {a : Act} {w : World} (h : stepT P ops Q S R i a w) (hK : ∀ a' w', S w' → R a' w' → K a' w') : wpOp P ops Q i (fun a' w' => S w' ∧ K a' w') a w := by
  obtain ⟨o, ho, hg, h⟩ := h
  exact wpOp_mix ho hg h (fun a' w' h' => ⟨h'.1, hK a' w' h'.1 h'.2⟩) (fun e a' w' hne h' => by cases e <;> first | exact h' | exact absurd rfl hne)
theorem wpAnyH_tree {ops : Array Oper} {Q : Exit → Act → World → Prop} {S : World → Prop} (hsel : Region.noSelect ops = true) (hQ : ∀ c (a : Act) (d : Option Tmp) (v : Value) w, Q (.panic c) (a.put d v) w → Q (.panic c) a w) :
    ∀ (r : MixT) (n : Nat) (listed : Array Bool) (a : Act) (w : World), S w → treeB md ops r n listed = true → wpTree P ops Q S r a w → wpAnyH P md ops Q S n listed a w
  | .nil, n, listed, a, w, _, hB, h => by
    simp only [treeB, Bool.and_eq_true, decide_eq_true_eq] at hB
    obtain ⟨rfl, hB⟩ := hB
    exact wpAnyH_done (by simpa using hB) h 0
  | .soft i r, n, listed, a, w, hS, hB, ⟨o, ho, v, hg, hv, h⟩ => by
    simp only [treeB, Bool.and_eq_true, decide_eq_true_eq] at hB
    obtain ⟨⟨⟨h0, h1⟩, h2⟩, h3⟩ := hB
    obtain ⟨n, rfl⟩ : ∃ m, n = m + 1 := ⟨n - 1, by omega⟩
    exact wpAnyH_take ho hsel h2 h1 (fun c a w h => hQ c _ _ _ w h) (.inl ⟨wanted_none hg _, hv⟩) hS (wpAnyH_tree hsel hQ r n _ _ w hS h3 h)
  | .hard i r, n, listed, a, w, hS, hB, h => by
    simp only [treeB, Bool.and_eq_true, decide_eq_true_eq] at hB
    obtain ⟨⟨h0, h1⟩, h2⟩ := hB
    obtain ⟨n, rfl⟩ : ∃ m, n = m + 1 := ⟨n - 1, by omega⟩
    refine wpAnyH_all h1 (by simp) fun k hk => ?_
    obtain rfl : k = i := by simpa using hk
    exact stepT_op h fun a' w' hS' h' => wpAnyH_tree hsel hQ r n _ a' w' hS' h2 h'
  | .two i r j s, n, listed, a, w, hS, hB, ⟨hr, hs⟩ => by
    simp only [treeB, Bool.and_eq_true, decide_eq_true_eq] at hB
    obtain ⟨⟨⟨h0, h1⟩, h2⟩, h3⟩ := hB
    obtain ⟨n, rfl⟩ : ∃ m, n = m + 1 := ⟨n - 1, by omega⟩
    refine wpAnyH_all h1 (by simp) fun k hk => ?_
    have hk' : k = i ∨ k = j := by simpa using hk
    rcases hk' with rfl | rfl
    · exact stepT_op hr fun a' w' hS' h' => wpAnyH_tree hsel hQ r n _ a' w' hS' h2 h'
    · exact stepT_op hs fun a' w' hS' h' => wpAnyH_tree hsel hQ s n _ a' w' hS' h3 h'
  | .three i r j s k t, n, listed, a, w, hS, hB, ⟨hr, hs, ht⟩ => by
    simp only [treeB, Bool.and_eq_true, decide_eq_true_eq] at hB
    obtain ⟨⟨⟨⟨h0, h1⟩, h2⟩, h3⟩, h4⟩ := hB
    obtain ⟨n, rfl⟩ : ∃ m, n = m + 1 := ⟨n - 1, by omega⟩
    refine wpAnyH_all h1 (by simp) fun x hx => ?_
    have hx' : x = i ∨ x = j ∨ x = k := by simpa using hx
    rcases hx' with rfl | rfl | rfl
    · exact stepT_op hr fun a' w' hS' h' => wpAnyH_tree hsel hQ r n _ a' w' hS' h2 h'
    · exact stepT_op hs fun a' w' hS' h' => wpAnyH_tree hsel hQ s n _ a' w' hS' h3 h'
    · exact stepT_op ht fun a' w' hS' h' => wpAnyH_tree hsel hQ t n _ a' w' hS' h4 h'
theorem wpTree_hard {ops : Array Oper} {Q : Exit → Act → World → Prop} {S : World → Prop} {r : MixT} {i : Nat} {a : Act} {w : World} (h : stepT P ops Q S (wpTree P ops Q S r) i a w) : wpTree P ops Q S (.hard i r) a w := h
theorem wpTree_two {ops : Array Oper} {Q : Exit → Act → World → Prop} {S : World → Prop} {r s : MixT} {i j : Nat} {a : Act} {w : World} (h : stepT P ops Q S (wpTree P ops Q S r) i a w) (h' : stepT P ops Q S (wpTree P ops Q S s) j a w) : wpTree P ops Q S (.two i r j s) a w := ⟨h, h'⟩
theorem wpTree_three {ops : Array Oper} {Q : Exit → Act → World → Prop} {S : World → Prop} {r s t : MixT} {i j k : Nat} {a : Act} {w : World} (h : stepT P ops Q S (wpTree P ops Q S r) i a w) (h' : stepT P ops Q S (wpTree P ops Q S s) j a w) (h'' : stepT P ops Q S (wpTree P ops Q S t) k a w) : wpTree P ops Q S (.three i r j s k t) a w := ⟨h, h', h''⟩
/-- **THE LAW**: along a tree of orders; the region is shown not to panic -/
theorem wp_region_tree {id : Nat} {Q : Exit → Act → World → Prop} {a : Act} {w : World} {l : List Oper} (S : World → Prop) (r : MixT) (hm : P.follows .mixedOrders = true)
    (hB : (Region.noSelect l.toArray && treeB .any l.toArray r l.length (Array.replicate l.length false)) = true)
    (hS : S w.drew) (h : wpTree P l.toArray (NoPanic Q) S r a w.drew) : (Code.region id l.toArray true).wp P Q a w := by
  refine wp_region_noPanic ?_
  simp only [Bool.and_eq_true] at hB
  refine wp_region_any hm ?_
  exact wpAny_of_held _ _ _ _ (wpAnyH_tree (Q := NoPanic Q) hB.1 (fun _ _ _ _ _ h => h) r _ _ a w.drew hS hB.2 h)
end
end Go.Proofs.Ytolooomphmcphaa
