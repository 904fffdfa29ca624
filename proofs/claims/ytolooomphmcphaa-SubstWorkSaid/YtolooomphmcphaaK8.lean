/- A region that draws its order, where once two of its steps may come in either order: walked in both. No program in sight. -/
import Derived.Test.YtolooomphmcphaaK1
namespace Go.Proofs.Ytolooomphmcphaa
open Go
section
variable {P : Program} {md : Region.Mode}
def forkB (md : Region.Mode) (ops : Array Oper) (rA rB : List (Bool × Nat)) : List (Bool × Nat) → Array Bool → Bool
  | [], listed => match rA, rB with
    | (false, i) :: a, (false, j) :: b => decide (Region.ready md ops listed = [i, j]) && decide (a.length = b.length) && mixB md ops a (listed.setIfInBounds i true) && mixB md ops b (listed.setIfInBounds j true)
    | _, _ => false
  | (true, i) :: r, listed => (Region.ready md ops listed).contains i && Region.free md ops listed i && forkB md ops rA rB r (listed.setIfInBounds i true)
  | (false, i) :: r, listed => decide (Region.ready md ops listed = [i]) && forkB md ops rA rB r (listed.setIfInBounds i true)
def forkQ (P : Program) (ops : Array Oper) (Q : Exit → Act → World → Prop) (S : World → Prop) (rA rB : List (Bool × Nat)) : Exit → Act → World → Prop
  | .normal, a, w => wpMix P ops Q S rA a w ∧ wpMix P ops Q S rB a w
  | e, a, w => Q e a w
theorem forkQ_normal {ops : Array Oper} {Q : Exit → Act → World → Prop} {S : World → Prop} {rA rB : List (Bool × Nat)} {a : Act} {w : World} (h : wpMix P ops Q S rA a w) (h' : wpMix P ops Q S rB a w) : forkQ P ops Q S rA rB .normal a w := ⟨h, h'⟩
theorem wpAnyH_hd {ops : Array Oper} {Q : Exit → Act → World → Prop} {S : World → Prop} (hsel : Region.noSelect ops = true) (hQ : ∀ c (a : Act) (d : Option Tmp) (v : Value) w, Q (.panic c) (a.put d v) w → Q (.panic c) a w)
    {r : List (Bool × Nat)} {i : Nat} {listed : Array Bool} {a : Act} {w : World} (hB : mixB md ops r (listed.setIfInBounds i true) = true) (h : wpMix P ops Q S ((false, i) :: r) a w) :
    wpOp P ops Q i (fun a' w' => S w' ∧ wpAnyH P md ops Q S r.length (listed.setIfInBounds i true) a' w') a w := by
  obtain ⟨o, ho, hg, h⟩ := h
  exact wpOp_mix ho hg h (fun a' w' h' => ⟨h'.1, wpAnyH_mix hsel hQ r _ a' w' h'.1 hB h'.2⟩) (fun e a' w' hne h' => by cases e <;> first | exact h' | exact absurd rfl hne)
theorem wpAnyH_fork {ops : Array Oper} {Q : Exit → Act → World → Prop} {S : World → Prop} (hsel : Region.noSelect ops = true) (hQ : ∀ c (a : Act) (d : Option Tmp) (v : Value) w, Q (.panic c) (a.put d v) w → Q (.panic c) a w) (rA rB : List (Bool × Nat)) :
    ∀ (r : List (Bool × Nat)) (listed : Array Bool) (a : Act) (w : World), S w → forkB md ops rA rB r listed = true → wpMix P ops (forkQ P ops Q S rA rB) S r a w → wpAnyH P md ops Q S (r.length + rA.length) listed a w
  | [], listed, a, w, hS, hB, h => by
    obtain ⟨h, h'⟩ := h
    match rA, rB, hB, h, h' with
    | (false, i) :: ra, (false, j) :: rb, hB, h, h' =>
      simp only [forkB, Bool.and_eq_true, decide_eq_true_eq] at hB
      obtain ⟨⟨⟨h1, h2⟩, h3⟩, h4⟩ := hB
      rw [List.length_nil, Nat.zero_add]
      refine wpAnyH_all h1 (by simp) fun k hk => ?_
      have hk' : k = i ∨ k = j := by simpa using hk
      rcases hk' with rfl | rfl
      · exact wpAnyH_hd hsel hQ h3 h
      · rw [h2]
        exact wpAnyH_hd hsel hQ h4 h'
  | (true, i) :: r, listed, a, w, hS, hB, ⟨o, ho, v, hg, hv, h⟩ => by
    simp only [forkB, Bool.and_eq_true] at hB
    rw [List.length_cons, Nat.add_right_comm]
    exact wpAnyH_take ho hsel hB.1.2 hB.1.1 (fun c a w h => hQ c _ _ _ w h) (.inl ⟨wanted_none hg _, hv⟩) hS (wpAnyH_fork hsel hQ rA rB r _ _ w hS hB.2 h)
  | (false, i) :: r, listed, a, w, hS, hB, ⟨o, ho, hg, h⟩ => by
    simp only [forkB, Bool.and_eq_true, decide_eq_true_eq] at hB
    rw [List.length_cons, Nat.add_right_comm]
    refine wpAnyH_all hB.1 (by simp) fun j hj => ?_
    have : j = i := by simpa using hj
    subst this
    exact wpOp_mix ho hg h (fun a' w' h' => ⟨h'.1, wpAnyH_fork hsel hQ rA rB r _ a' w' h'.1 hB.2 h'.2⟩) (fun e a' w' hne h' => by cases e <;> first | exact h' | exact absurd rfl hne)
/-- **THE LAW**: first r, then rA or rB; the region is shown not to panic -/
theorem wp_region_fork {id : Nat} {Q : Exit → Act → World → Prop} {a : Act} {w : World} {l : List Oper} (S : World → Prop) (r rA rB : List (Bool × Nat)) (hm : P.follows .mixedOrders = true)
    (hB : (Region.noSelect l.toArray && decide (r.length + rA.length = l.length) && forkB .any l.toArray rA rB r (Array.replicate l.length false)) = true)
    (hS : S w.drew) (h : wpMix P l.toArray (forkQ P l.toArray (NoPanic Q) S rA rB) S r a w.drew) : (Code.region id l.toArray true).wp P Q a w := by
  refine wp_region_noPanic ?_
  simp only [Bool.and_eq_true, decide_eq_true_eq] at hB
  obtain ⟨⟨h2, h3⟩, h4⟩ := hB
  refine wp_region_any hm ?_
  have := wpAny_of_held _ _ _ _ (wpAnyH_fork (Q := NoPanic Q) h2 (fun _ _ _ _ _ h => h) rA rB r _ a w.drew hS h4 h)
  rw [h3] at this
  exact this
end
end Go.Proofs.Ytolooomphmcphaa
