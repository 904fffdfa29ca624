/- Regions that draw their order and in which a call may panic. No program in sight. -/
import Derived.Test.YtolooomphmcphaaK1
namespace Go.Proofs.Ytolooomphmcphaa
open Go
section
variable {P : Program}
/-- at a panic: no deferred calls, and what Φ says -/
def PanTo (Φ : List PanicEntry → World → Prop) (Q : Exit → Act → World → Prop) : Exit → Act → World → Prop
  | .panic c, a, w => a.defers = [] ∧ Φ c w
  | e, a, w => Q e a w
theorem PanTo.normal {Φ : List PanicEntry → World → Prop} {Q : Exit → Act → World → Prop} {a : Act} {w : World} (h : Q .normal a w) : PanTo Φ Q .normal a w := h
theorem PanTo.imp {Φ : List PanicEntry → World → Prop} {Q : Exit → Act → World → Prop} (hΦ : ∀ c a w, a.defers = [] → Φ c w → Q (.panic c) a w) : ∀ (e : Exit) (a : Act) (w : World), PanTo Φ Q e a w → Q e a w := fun e a w h => by
  cases e <;> first | exact h | exact hΦ _ _ _ h.1 h.2
theorem PanTo.put {Φ : List PanicEntry → World → Prop} {Q : Exit → Act → World → Prop} (c : List PanicEntry) (a : Act) (d : Option Tmp) (v : Value) (w : World) (h : PanTo Φ Q (.panic c) (a.put d v) w) : PanTo Φ Q (.panic c) a w := by
  refine ⟨?_, h.2⟩
  have := h.1
  cases d <;> exact this
theorem wp_region_mixP {id : Nat} {Q : Exit → Act → World → Prop} {a : Act} {w : World} {l : List Oper} {o : Oper} (n : Nat) (S : World → Prop) (Φ : List PanicEntry → World → Prop) (r : List (Bool × Nat)) (hm : P.follows .mixedOrders = true) (ho : l[n]? = some o)
    (hB : (cutB .any l.toArray n && Region.noSelect l.toArray.pop && decide (r.length = n) && (r.all fun x => decide (x.2 < n)) && mixB .any l.toArray.pop r (Array.replicate n false)) = true)
    (hΦ : ∀ c a w, a.defers = [] → Φ c w → Q (.panic c) a w)
    (hS : S w.drew) (h : wpMix P l.toArray (cutQ P o (PanTo Φ Q)) S r a w.drew) : (Code.region id l.toArray true).wp P Q a w :=
  Code.wp_mono (PanTo.imp hΦ) (wp_region_mix n S r hm ho hB PanTo.put hS h)
theorem wp_region_mixedP {id : Nat} {Q : Exit → Act → World → Prop} {a : Act} {w : World} {l : List Oper} (S : World → Prop) (Φ : List PanicEntry → World → Prop) (r : List (Bool × Nat)) (hm : P.follows .mixedOrders = true)
    (hB : (Region.noSelect l.toArray && decide (r.length = l.length) && mixB .any l.toArray r (Array.replicate l.length false)) = true)
    (hΦ : ∀ c a w, a.defers = [] → Φ c w → Q (.panic c) a w)
    (hS : S w.drew) (h : wpMix P l.toArray (PanTo Φ Q) S r a w.drew) : (Code.region id l.toArray true).wp P Q a w :=
  Code.wp_mono (PanTo.imp hΦ) (wp_region_mixed S r hm hB PanTo.put hS h)
end
end Go.Proofs.Ytolooomphmcphaa
