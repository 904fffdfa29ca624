/- A region that draws its order, with guards (a && b): walked in one order, where what comes in another order yields the same. No program in sight. -/
import Derived.Test.YtolooomphmcphaaK1
namespace Go.Proofs.Ytolooomphmcphaa
open Go
section
variable {P : Program} {md : Region.Mode}
def bare (o : Oper) : Oper := { o with guard := none }
def wpMg (P : Program) (ops : Array Oper) (Q : Exit → Act → World → Prop) (S : World → Prop) : List (Bool × Nat) → Act → World → Prop
  | [], a, w => Q .normal a w
  | (true, i) :: r, a, w => ∃ o, ops[i]? = some o ∧ ∃ v, YieldsIf P ops S o v a ∧ wpMg P ops Q S r (a.put o.dst v) w
  | (false, i) :: r, a, w => ∃ o, ops[i]? = some o ∧ ((Region.wanted o (yielded ops a.tmps) = true ∧ wpList P #[] (fun e a' w' => match e with | .normal => S w' ∧ wpMg P ops Q S r a' w' | e => Q e a' w') [bare o] a w) ∨
      (Region.wanted o (yielded ops a.tmps) = false ∧ wpMg P ops Q S r (a.put o.dst undef) w))
def mgQ (P : Program) (ops : Array Oper) (Q : Exit → Act → World → Prop) (S : World → Prop) (r : List (Bool × Nat)) : Exit → Act → World → Prop
  | .normal, a, w => S w ∧ wpMg P ops Q S r a w
  | e, a, w => Q e a w
section
variable {ops : Array Oper} {Q : Exit → Act → World → Prop} {S : World → Prop} {r : List (Bool × Nat)} {i : Nat} {o : Oper} {a : Act} {w : World}
theorem mgQ_normal (hS : S w) (h : wpMg P ops Q S r a w) : mgQ P ops Q S r .normal a w := ⟨hS, h⟩
theorem wpMg_done (h : Q .normal a w) : wpMg P ops Q S [] a w := h
theorem mgQ_eq : (fun e a' w' => match e with | .normal => S w' ∧ wpMg P ops Q S r a' w' | e => Q e a' w') = mgQ P ops Q S r := by
  funext e a' w'
  cases e <;> rfl
end
theorem wpOp_mg {ops : Array Oper} {Q : Exit → Act → World → Prop} {K : Act → World → Prop} {R : Exit → Act → World → Prop} {i : Nat} {o : Oper} {a : Act} {w : World} (ho : ops[i]? = some o) (hg : Region.wanted o (yielded ops a.tmps) = true)
    (h : wpList P #[] R [bare o] a w) (hn : ∀ a w, R .normal a w → K a w) (he : ∀ e a w, e ≠ .normal → R e a w → Q e a w) : wpOp P ops Q i K a w := by
  unfold wpOp
  simp only [ho]
  rw [if_pos hg]
  have h' : Oper.wp P o a w (wpList P #[] R []) R ∨ (o.asks P a w ∧ LetsOut R) := by
    have h' : (if Region.wanted (bare o) (yielded #[] a.tmps) = true then Oper.wp P (bare o) a w (wpList P #[] R []) R ∨ ((bare o).asks P a w ∧ LetsOut R) else wpList P #[] R [] (a.put o.dst undef) w) := h
    rw [if_pos (wanted_none rfl _)] at h'
    exact h'
  refine h'.imp (fun h => ?_) (fun h => ⟨h.1, h.2.imp fun a ⟨w, h⟩ => ⟨w, he _ _ _ (by simp) h⟩⟩)
  refine Oper.wp_mono (K := wpList P #[] R []) (fun a w hq => hn a w hq) ?_
  unfold Oper.wp at *
  generalize (execOp a.eval o).run P w = r at *
  cases r with
  | ok m w' =>
    cases m <;> simp only [Oper.upon] at h ⊢ <;> first | exact h | skip
    all_goals exact Calls.mono h (fun e w'' hh => by
      cases e with
      | returned v => exact hh
      | panicked c => exact he _ _ _ (by simp) hh
      | outgrown => exact hh.imp fun a ⟨w, h⟩ => ⟨w, he _ _ _ (by simp) h⟩)
  | halt x w' => cases x <;> simp only [Oper.upon] at h ⊢ <;> first | exact h | exact he _ _ _ (by simp) h
theorem wpAnyH_mg {ops : Array Oper} {Q : Exit → Act → World → Prop} {S : World → Prop} (hsel : Region.noSelect ops = true) (hQ : ∀ c (a : Act) (d : Option Tmp) (v : Value) w, Q (.panic c) (a.put d v) w → Q (.panic c) a w) :
    ∀ (r : List (Bool × Nat)) (listed : Array Bool) (a : Act) (w : World), S w → mixB md ops r listed = true → wpMg P ops Q S r a w → wpAnyH P md ops Q S r.length listed a w
  | [], listed, a, w, _, hB, h => wpAnyH_done (by simpa [mixB] using hB) h 0
  | (true, i) :: r, listed, a, w, hS, hB, ⟨o, ho, v, hv, h⟩ => by
    simp only [mixB, Bool.and_eq_true] at hB
    exact wpAnyH_take ho hsel hB.1.2 hB.1.1 (fun c a w h => hQ c _ _ _ w h) hv hS (wpAnyH_mg hsel hQ r _ _ w hS hB.2 h)
  | (false, i) :: r, listed, a, w, hS, hB, ⟨o, ho, h⟩ => by
    simp only [mixB, Bool.and_eq_true, decide_eq_true_eq] at hB
    refine wpAnyH_all hB.1 (by simp) fun j hj => ?_
    have : j = i := by simpa using hj
    subst this
    rcases h with ⟨hg, h⟩ | ⟨hg, h⟩
    · rw [mgQ_eq] at h
      exact wpOp_mg ho hg h (fun a' w' h' => ⟨h'.1, wpAnyH_mg hsel hQ r _ a' w' h'.1 hB.2 h'.2⟩) (fun e a' w' hne h' => by cases e <;> first | exact h' | exact absurd rfl hne)
    · unfold wpOp
      simp only [ho]
      rw [if_neg (by rw [hg]; simp)]
      exact ⟨hS, wpAnyH_mg hsel hQ r _ _ w hS hB.2 h⟩
theorem wpMg_soft {l : List Oper} {Q : Exit → Act → World → Prop} {S : World → Prop} {r : List (Bool × Nat)} {i : Nat} {o : Oper} {a : Act} {w : World} {v : Value} (ho : l[i]? = some o) (hg : Region.wanted o (yielded l.toArray a.tmps) = true)
    (hv : ∀ w', S w' → (execOp a.eval o).run P w' = .ok (.value v) w') (h : wpMg P l.toArray Q S r (a.put o.dst v) w) : wpMg P l.toArray Q S ((true, i) :: r) a w := ⟨o, by simpa using ho, v, .inl ⟨hg, hv⟩, h⟩
theorem wpMg_off {l : List Oper} {Q : Exit → Act → World → Prop} {S : World → Prop} {r : List (Bool × Nat)} {i : Nat} {o : Oper} {a : Act} {w : World} (ho : l[i]? = some o) (hg : Region.wanted o (yielded l.toArray a.tmps) = false)
    (h : wpMg P l.toArray Q S r (a.put o.dst undef) w) : wpMg P l.toArray Q S ((true, i) :: r) a w := ⟨o, by simpa using ho, undef, .inr ⟨hg, rfl⟩, h⟩
theorem wpMg_hard {l : List Oper} {Q : Exit → Act → World → Prop} {S : World → Prop} {r : List (Bool × Nat)} {i : Nat} {o : Oper} {a : Act} {w : World} (ho : l[i]? = some o) (hg : Region.wanted o (yielded l.toArray a.tmps) = true)
    (h : wpList P #[] (mgQ P l.toArray Q S r) [bare o] a w) : wpMg P l.toArray Q S ((false, i) :: r) a w := ⟨o, by simpa using ho, .inl ⟨hg, by rw [mgQ_eq]; exact h⟩⟩
theorem wpMg_none {l : List Oper} {Q : Exit → Act → World → Prop} {S : World → Prop} {r : List (Bool × Nat)} {i : Nat} {o : Oper} {a : Act} {w : World} (ho : l[i]? = some o) (hg : Region.wanted o (yielded l.toArray a.tmps) = false)
    (h : wpMg P l.toArray Q S r (a.put o.dst undef) w) : wpMg P l.toArray Q S ((false, i) :: r) a w := ⟨o, by simpa using ho, .inr ⟨hg, h⟩⟩
/-- **THE LAW**: the region is shown not to panic -/
theorem wp_region_mg {id : Nat} {Q : Exit → Act → World → Prop} {a : Act} {w : World} {l : List Oper} (S : World → Prop) (r : List (Bool × Nat)) (hm : P.follows .mixedOrders = true)
    (hB : (Region.noSelect l.toArray && decide (r.length = l.length) && mixB .any l.toArray r (Array.replicate l.length false)) = true)
    (hS : S w.drew) (h : wpMg P l.toArray (NoPanic Q) S r a w.drew) : (Code.region id l.toArray true).wp P Q a w := by
  refine wp_region_noPanic ?_
  simp only [Bool.and_eq_true, decide_eq_true_eq] at hB
  obtain ⟨⟨h2, h3⟩, h4⟩ := hB
  refine wp_region_any hm ?_
  have := wpAny_of_held _ _ _ _ (wpAnyH_mg (Q := NoPanic Q) h2 (fun _ _ _ _ _ h => h) r _ a w.drew hS h4 h)
  rw [h3] at this
  exact this
end
end Go.Proofs.Ytolooomphmcphaa
