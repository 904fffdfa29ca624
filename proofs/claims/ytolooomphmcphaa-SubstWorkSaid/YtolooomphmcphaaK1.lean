/- A region that draws its order and whose last operation waits for all others: the last one may be cut off and walked by itself. No program in sight. -/
import Derived.StillTail
import Derived.Deep.RegionHeld3
import Derived.Deep.AppendLies
namespace Go.Proofs.Ytolooomphmcphaa
open Go

section
variable {P : Program} {md : Region.Mode}
/-- no guards, and each operation waits for earlier ones alone -/
def cutB (md : Region.Mode) (ops : Array Oper) (n : Nat) : Bool :=
  decide (ops.size = n + 1) && Region.sinkB md ops n &&
  (List.range (n + 1)).all fun j => match ops[j]? with
    | some o => o.guard.isNone && o.after.all fun e => !Region.binds md e || decide (e.on < j)
    | none => false
theorem cut_spec {ops : Array Oper} {n : Nat} (h : cutB md ops n = true) : ops.size = n + 1 ∧ Region.sinkB md ops n = true ∧
    ∀ (j : Nat) (o : Oper), ops[j]? = some o → o.guard = none ∧ ∀ e ∈ o.after, Region.binds md e = true → e.on < j := by
  simp only [cutB, Bool.and_eq_true, decide_eq_true_eq] at h
  refine ⟨h.1.1, h.1.2, fun j o ho => ?_⟩
  have hj : j < n + 1 := by
    have := (Array.getElem?_eq_some_iff.1 ho).1
    omega
  have h2 := List.all_eq_true.1 h.2 j (List.mem_range.2 hj)
  rw [ho] at h2
  simp only [Bool.and_eq_true] at h2
  refine ⟨by simpa using h2.1, fun e he hb => ?_⟩
  have := Array.all_eq_true'.1 h2.2 e he
  simpa [hb] using this
theorem wanted_none {o : Oper} (h : o.guard = none) (f : Nat → Option Bool) : Region.wanted o f = true := by
  unfold Region.wanted
  simp [h]
theorem pad_size (l : Array Bool) : (l.push false).size = l.size + 1 := by simp
theorem pad_get {l : Array Bool} {n i : Nat} (hl : l.size = n) (hi : i < n) (d : Bool) : (l.push false).getD i d = l.getD i d := by
  have h1 : i < (l.push false).size := by simp; omega
  have h2 : i < l.size := by omega
  simp only [Array.getD_eq_getD_getElem?]
  rw [Array.getElem?_push]
  have : i ≠ l.size := by omega
  simp [this]
theorem pad_last {l : Array Bool} {n : Nat} (hl : l.size = n) (d : Bool) : (l.push false).getD n d = false := by
  subst hl
  simp [Array.getD_eq_getD_getElem?]
theorem pad_set {l : Array Bool} {n i : Nat} (hl : l.size = n) (hi : i < n) : (l.push false).setIfInBounds i true = (l.setIfInBounds i true).push false := by
  apply Array.ext_getElem?
  intro j
  simp only [Array.getElem?_setIfInBounds, Array.getElem?_push, Array.size_push, Array.size_setIfInBounds]
  by_cases hij : i = j
  · subst hij
    have : i < l.size := by omega
    have h3 : i ≠ l.size := by omega
    simp [this, h3]
    omega
  · simp [hij]

theorem pop_get {ops : Array Oper} {n j : Nat} (hs : ops.size = n + 1) (hj : j < n) : ops.pop[j]? = ops[j]? := by
  rw [Array.getElem?_pop]
  split
  · rfl
  · omega
theorem pop_none {ops : Array Oper} {n j : Nat} (hs : ops.size = n + 1) (hj : n ≤ j) : ops.pop[j]? = none := by
  apply Array.getElem?_eq_none
  simp; omega

/-- the post of the head: the last operation is yet to come -/
def cutQ (P : Program) (o : Oper) (Q : Exit → Act → World → Prop) : Exit → Act → World → Prop
  | .normal, a, w => wpList P #[] Q [o] a w
  | e, a, w => Q e a w

theorem cutQ_lets {o : Oper} {Q : Exit → Act → World → Prop} : LetsOut (cutQ P o Q) → LetsOut Q := fun ⟨a, w, h⟩ => ⟨a, w, h⟩
theorem wpOp_cut {ops : Array Oper} {n i : Nat} {o : Oper} {Q : Exit → Act → World → Prop} {K : Act → World → Prop} {a : Act} {w : World} (hs : ops.size = n + 1) (hi : i < n)
    (hg : ∀ (j : Nat) (o : Oper), ops[j]? = some o → o.guard = none) (h : wpOp P ops.pop (cutQ P o Q) i K a w) : wpOp P ops Q i K a w := by
  unfold wpOp at *
  rw [pop_get hs hi] at h
  cases ho : ops[i]? with
  | none => simpa [ho] using h
  | some x =>
    simp only [ho] at h ⊢
    rw [if_pos (wanted_none (hg i x ho) _)] at h ⊢
    refine h.imp (fun h => ?_) (fun h => ⟨h.1, cutQ_lets h.2⟩)
    unfold Oper.wp at *
    generalize (execOp a.eval x).run P w = r at *
    cases r with
    | ok m w' =>
      cases m <;> simp only [Oper.upon] at h ⊢ <;> first | exact h | skip
      all_goals exact Calls.mono h (fun e w'' he => by cases e <;> first | exact he | exact he)
    | halt x w' => cases x <;> simp only [Oper.upon] at h ⊢ <;> exact h

theorem ready_cut {ops : Array Oper} {n i : Nat} {l : Array Bool} (hs : ops.size = n + 1) (hl : l.size = n) (hk : ∀ (j : Nat) (o : Oper), ops[j]? = some o → ∀ e ∈ o.after, Region.binds md e = true → e.on < j) (hi : i < n) :
    i ∈ Region.ready md ops (l.push false) ↔ i ∈ Region.ready md ops.pop l := by
  rw [mem_ready, mem_ready, pop_get hs hi, pad_get hl hi]
  refine and_congr_right fun _ => exists_congr fun o => and_congr_right fun ho => forall_congr' fun e => forall_congr' fun he => forall_congr' fun hb => ?_
  have := hk i o ho e he hb
  rw [pad_get hl (by omega)]

theorem head_all {ops : Array Oper} {n : Nat} {l : Array Bool} (hs : ops.size = n + 1) (hl : l.size = n) (hk : ∀ (j : Nat) (o : Oper), ops[j]? = some o → ∀ e ∈ o.after, Region.binds md e = true → e.on < j)
    (hr : Region.ready md ops.pop l = []) : ∀ i, i < n → l.getD i false = true := by
  intro i
  induction i using Nat.strongRecOn with
  | _ i ih =>
    intro hi
    cases hg : l.getD i false with
    | true => rfl
    | false =>
      have : i ∈ Region.ready md ops.pop l := by
        have hlt : i < ops.size := by omega
        rw [mem_ready, pop_get hs hi]
        refine ⟨getD_in (by omega) hg, ops[i], by simp [hlt], fun e he hb => ?_⟩
        have h1 := hk i ops[i] (by simp [hlt]) e he hb
        exact ih e.on h1 (by omega)
      rw [hr] at this
      cases this

theorem wpAny_cut {ops : Array Oper} {n : Nat} {o : Oper} {Q : Exit → Act → World → Prop} (hB : cutB md ops n = true) (ho : ops[n]? = some o) :
    ∀ (f : Nat) (l : Array Bool) (a : Act) (w : World), l.size = n → HeadInv md ops n (l.push false) → wpAny P md ops.pop (cutQ P o Q) f l a w → wpAny P md ops Q (f + 1) (l.push false) a w := by
  obtain ⟨hs, hsink, hk⟩ := cut_spec hB
  have hkk : ∀ (j : Nat) (o : Oper), ops[j]? = some o → ∀ e ∈ o.after, Region.binds md e = true → e.on < j := fun j o h => (hk j o h).2
  have hg : ∀ (j : Nat) (o : Oper), ops[j]? = some o → o.guard = none := fun j o h => (hk j o h).1
  have hchain : Region.chainB md ops n = true := by
    unfold Region.chainB
    rw [List.all_eq_true]
    intro t ht
    have := List.mem_range.1 ht
    simp; left; omega
  -- all of the head have come up
  have last : ∀ (f : Nat) (l : Array Bool) (a : Act) (w : World), l.size = n → Region.ready md ops.pop l = [] → wpList P #[] Q [o] a w → wpAny P md ops Q (f + 1) (l.push false) a w := by
    intro f l a w hl hr h
    have hall := head_all hs hl hkk hr
    have hn : n ∈ Region.ready md ops (l.push false) := by
      rw [mem_ready]
      refine ⟨pad_last hl _, o, ho, fun e he hb => ?_⟩
      have := hkk n o ho e he hb
      rw [pad_get hl this]
      exact hall _ this
    refine ⟨fun h0 => (by rw [h0] at hn; cases hn), fun i hi => ?_⟩
    have hin : i = n := by
      rcases Nat.lt_trichotomy i n with h1 | h1 | h1
      · have := (ready_cut hs hl hkk h1).1 hi
        rw [hr] at this
        cases this
      · exact h1
      · obtain ⟨_, oi, hoi, _⟩ := mem_ready.1 hi
        have := (Array.getElem?_eq_some_iff.1 hoi).1
        omega
    subst hin
    have hdone : Region.ready md ops ((l.push false).setIfInBounds i true) = [] := by
      refine List.eq_nil_iff_forall_not_mem.2 fun j hj => ?_
      obtain ⟨h1, oj, hoj, _⟩ := mem_ready.1 hj
      have hjlt := (Array.getElem?_eq_some_iff.1 hoj).1
      by_cases hji : i = j
      · subst hji
        simp [Array.getD_eq_getD_getElem?, hl] at h1
      · rw [getD_set_ne true hji, pad_get hl (by omega)] at h1
        have h2 := hall j (by omega)
        rw [getD_both h1] at h2
        cases h2
    have hfin : ∀ a w, Q .normal a w → wpAny P md ops Q f ((l.push false).setIfInBounds i true) a w := by
      intro a w hq
      cases f with
      | zero => exact ⟨hdone, hq⟩
      | succ f => exact ⟨fun _ => hq, by rw [hdone]; simp⟩
    unfold wpOp
    simp only [ho]
    have h' : (if Region.wanted o (yielded #[] a.tmps) = true then Oper.wp P o a w (wpList P #[] Q []) Q ∨ (o.asks P a w ∧ LetsOut Q) else wpList P #[] Q [] (a.put o.dst undef) w) := h
    rw [if_pos (wanted_none (hg i o ho) _)] at h' ⊢
    exact h'.imp (Oper.wp_mono fun a w hq => hfin a w hq) id
  intro f
  induction f with
  | zero =>
    intro l a w hl _ h
    exact last 0 l a w hl h.1 h.2
  | succ f ih =>
    intro l a w hl inv h
    by_cases hr : Region.ready md ops.pop l = []
    · exact last (f + 1) l a w hl hr (h.1 hr)
    · obtain ⟨i0, hi0⟩ := List.exists_mem_of_ne_nil _ hr
      have hi0n : i0 < n := by
        obtain ⟨_, oi, hoi, _⟩ := mem_ready.1 hi0
        rcases Nat.lt_or_ge i0 n with h1 | h1
        · exact h1
        · rw [pop_none hs h1] at hoi; cases hoi
      have hi0r := (ready_cut hs hl hkk hi0n).2 hi0
      have hun := (mem_ready.1 hi0r).1
      refine ⟨fun h0 => (by rw [h0] at hi0r; cases hi0r), fun i hi => ?_⟩
      have hin : i < n := by
        rcases Nat.lt_or_ge i n with h1 | h1
        · exact h1
        · exact absurd hi (tail_waits hsink hchain (by omega) inv _ i0 rfl hi0n hun i h1)
      have h1 := h.2 i ((ready_cut hs hl hkk hin).1 hi)
      refine wpOp_cut hs hin hg (wpOp_mono (fun a' w' h2 => ?_) h1)
      rw [pad_set hl hin]
      refine ih _ a' w' (by simp [hl]) ?_ h2
      rw [← pad_set hl hin]
      exact inv.set hi hin

/-! ### the order: what yields the same in every world that meets S is taken as soon as it may come up; the others must come up alone -/
def mixB (md : Region.Mode) (ops : Array Oper) : List (Bool × Nat) → Array Bool → Bool
  | [], listed => (Region.ready md ops listed).isEmpty
  | (true, i) :: r, listed => (Region.ready md ops listed).contains i && Region.free md ops listed i && mixB md ops r (listed.setIfInBounds i true)
  | (false, i) :: r, listed => decide (Region.ready md ops listed = [i]) && mixB md ops r (listed.setIfInBounds i true)
def wpMix (P : Program) (ops : Array Oper) (Q : Exit → Act → World → Prop) (S : World → Prop) : List (Bool × Nat) → Act → World → Prop
  | [], a, w => Q .normal a w
  | (true, i) :: r, a, w => ∃ o, ops[i]? = some o ∧ ∃ v, o.guard = none ∧ (∀ w', S w' → (execOp a.eval o).run P w' = .ok (.value v) w') ∧ wpMix P ops Q S r (a.put o.dst v) w
  | (false, i) :: r, a, w => ∃ o, ops[i]? = some o ∧ o.guard = none ∧ wpList P #[] (fun e a' w' => match e with | .normal => S w' ∧ wpMix P ops Q S r a' w' | e => Q e a' w') [o] a w
def mixQ (P : Program) (ops : Array Oper) (Q : Exit → Act → World → Prop) (S : World → Prop) (r : List (Bool × Nat)) : Exit → Act → World → Prop
  | .normal, a, w => S w ∧ wpMix P ops Q S r a w
  | e, a, w => Q e a w
section
variable {ops : Array Oper} {Q : Exit → Act → World → Prop} {S : World → Prop} {r : List (Bool × Nat)} {i : Nat} {o : Oper} {a : Act} {w : World}
theorem mixQ_normal (hS : S w) (h : wpMix P ops Q S r a w) : mixQ P ops Q S r .normal a w := ⟨hS, h⟩
theorem wpMix_done (h : Q .normal a w) : wpMix P ops Q S [] a w := h
theorem wpMix_s {v : Value} (ho : ops[i]? = some o) (hg : o.guard = none) (hv : ∀ w', S w' → (execOp a.eval o).run P w' = .ok (.value v) w') (h : wpMix P ops Q S r (a.put o.dst v) w) : wpMix P ops Q S ((true, i) :: r) a w :=
  ⟨o, ho, v, hg, hv, h⟩
theorem wpMix_h (ho : ops[i]? = some o) (hg : o.guard = none) (h : wpList P #[] (mixQ P ops Q S r) [o] a w) : wpMix P ops Q S ((false, i) :: r) a w := by
  refine ⟨o, ho, hg, ?_⟩
  have e : (fun e a' w' => match e with | .normal => S w' ∧ wpMix P ops Q S r a' w' | e => Q e a' w') = mixQ P ops Q S r := by
    funext e a' w'
    cases e <;> rfl
  rw [e]
  exact h
end
theorem wpOp_mix {ops : Array Oper} {Q : Exit → Act → World → Prop} {K : Act → World → Prop} {R : Exit → Act → World → Prop} {i : Nat} {o : Oper} {a : Act} {w : World} (ho : ops[i]? = some o) (hg : o.guard = none)
    (h : wpList P #[] R [o] a w) (hn : ∀ a w, R .normal a w → K a w) (he : ∀ e a w, e ≠ .normal → R e a w → Q e a w) : wpOp P ops Q i K a w := by
  unfold wpOp
  simp only [ho]
  have h' : (if Region.wanted o (yielded #[] a.tmps) = true then Oper.wp P o a w (wpList P #[] R []) R ∨ (o.asks P a w ∧ LetsOut R) else wpList P #[] R [] (a.put o.dst undef) w) := h
  rw [if_pos (wanted_none hg _)] at h' ⊢
  refine h'.imp (fun h => ?_) (fun h => ⟨h.1, h.2.imp fun a ⟨w, h⟩ => ⟨w, he _ _ _ (by simp) h⟩⟩)
  refine Oper.wp_mono (K := wpList P #[] R []) (fun a w hq => hn a w hq) ?_
  unfold Oper.wp at *
  generalize (execOp a.eval o).run P w = r at *
  cases r with
  | ok m w' =>
    cases m <;> simp only [Oper.upon] at h ⊢ <;> first | exact h | skip
    all_goals exact Calls.mono h (fun e w'' hh => by
      cases e with
      | returned v => exact hh
      | panicked c => exact he _ _ _ (by simp) hh
      | outgrown => exact hh.imp fun a ⟨w, h⟩ => ⟨w, he _ _ _ (by simp) h⟩)
  | halt x w' => cases x <;> simp only [Oper.upon] at h ⊢ <;> first | exact h | exact he _ _ _ (by simp) h

theorem wpAnyH_mix {ops : Array Oper} {Q : Exit → Act → World → Prop} {S : World → Prop} (hsel : Region.noSelect ops = true) (hQ : ∀ c (a : Act) (d : Option Tmp) (v : Value) w, Q (.panic c) (a.put d v) w → Q (.panic c) a w) :
    ∀ (r : List (Bool × Nat)) (listed : Array Bool) (a : Act) (w : World), S w → mixB md ops r listed = true → wpMix P ops Q S r a w → wpAnyH P md ops Q S r.length listed a w
  | [], listed, a, w, _, hB, h => wpAnyH_done (by simpa [mixB] using hB) h 0
  | (true, i) :: r, listed, a, w, hS, hB, ⟨o, ho, v, hg, hv, h⟩ => by
    simp only [mixB, Bool.and_eq_true] at hB
    exact wpAnyH_take ho hsel hB.1.2 hB.1.1 (fun c a w h => hQ c _ _ _ w h) (.inl ⟨wanted_none hg _, hv⟩) hS (wpAnyH_mix hsel hQ r _ _ w hS hB.2 h)
  | (false, i) :: r, listed, a, w, hS, hB, ⟨o, ho, hg, h⟩ => by
    simp only [mixB, Bool.and_eq_true, decide_eq_true_eq] at hB
    refine wpAnyH_all hB.1 (by simp) fun j hj => ?_
    have : j = i := by simpa using hj
    subst this
    exact wpOp_mix ho hg h (fun a' w' h' => ⟨h'.1, wpAnyH_mix hsel hQ r _ a' w' h'.1 hB.2 h'.2⟩) (fun e a' w' hne h' => by cases e <;> first | exact h' | exact absurd rfl hne)

theorem wpMix_ops {ops ops' : Array Oper} {Q : Exit → Act → World → Prop} {S : World → Prop} {n : Nat} (he : ∀ i, i < n → ops'[i]? = ops[i]?) : ∀ (r : List (Bool × Nat)) (a : Act) (w : World), (r.all fun x => decide (x.2 < n)) = true →
    wpMix P ops Q S r a w → wpMix P ops' Q S r a w
  | [], _, _, _, h => h
  | (true, i) :: r, a, w, hr, ⟨o, ho, v, hg, hv, h⟩ => by
    simp only [List.all_cons, Bool.and_eq_true, decide_eq_true_eq] at hr
    exact ⟨o, (he i hr.1).trans ho, v, hg, hv, wpMix_ops he r _ _ hr.2 h⟩
  | (false, i) :: r, a, w, hr, ⟨o, ho, hg, h⟩ => by
    simp only [List.all_cons, Bool.and_eq_true, decide_eq_true_eq] at hr
    have e : (fun e a' w' => match e with | .normal => S w' ∧ wpMix P ops Q S r a' w' | e => Q e a' w') = mixQ P ops Q S r := by
      funext e a' w'
      cases e <;> rfl
    rw [e] at h
    refine wpMix_h ((he i hr.1).trans ho) hg ?_
    have h' : (if Region.wanted o (yielded #[] a.tmps) = true then Oper.wp P o a w (wpList P #[] (mixQ P ops Q S r) []) (mixQ P ops Q S r) ∨ (o.asks P a w ∧ LetsOut (mixQ P ops Q S r)) else wpList P #[] (mixQ P ops Q S r) [] (a.put o.dst undef) w) := h
    show (if Region.wanted o (yielded #[] a.tmps) = true then Oper.wp P o a w (wpList P #[] (mixQ P ops' Q S r) []) (mixQ P ops' Q S r) ∨ (o.asks P a w ∧ LetsOut (mixQ P ops' Q S r)) else wpList P #[] (mixQ P ops' Q S r) [] (a.put o.dst undef) w)
    rw [if_pos (wanted_none hg _)] at h' ⊢
    refine h'.imp (fun h => ?_) (fun h => ⟨h.1, h.2.imp fun a ⟨w, h⟩ => ⟨w, h⟩⟩)
    refine Oper.wp_mono (K := wpList P #[] (mixQ P ops Q S r) []) (fun a w hq => ⟨hq.1, wpMix_ops he r a w hr.2 hq.2⟩) ?_
    unfold Oper.wp at *
    generalize (execOp a.eval o).run P w = r at *
    cases r with
    | ok m w' =>
      cases m <;> simp only [Oper.upon] at h ⊢ <;> first | exact h | skip
      all_goals exact Calls.mono h (fun e w'' hh => by
        cases e with
        | returned v => exact hh
        | panicked c => exact hh
        | outgrown => exact hh.imp fun a ⟨w, h⟩ => ⟨w, h⟩)
    | halt x w' => cases x <;> simp only [Oper.upon] at h ⊢ <;> exact h
/-- **THE LAW**, with the last operation cut off: it may write what S says. -/
theorem wp_region_mix {id : Nat} {Q : Exit → Act → World → Prop} {a : Act} {w : World} {l : List Oper} {o : Oper} (n : Nat) (S : World → Prop) (r : List (Bool × Nat)) (hm : P.follows .mixedOrders = true) (ho : l[n]? = some o)
    (hB : (cutB .any l.toArray n && Region.noSelect l.toArray.pop && decide (r.length = n) && (r.all fun x => decide (x.2 < n)) && mixB .any l.toArray.pop r (Array.replicate n false)) = true)
    (hQ : ∀ c (a : Act) (d : Option Tmp) (v : Value) w, Q (.panic c) (a.put d v) w → Q (.panic c) a w) (hS : S w.drew)
    (h : wpMix P l.toArray (cutQ P o Q) S r a w.drew) : (Code.region id l.toArray true).wp P Q a w := by
  simp only [Bool.and_eq_true, decide_eq_true_eq] at hB
  obtain ⟨⟨⟨⟨h1, h2⟩, h3⟩, h5⟩, h4⟩ := hB
  have hsz := (cut_spec h1).1
  have hln : l.length = n + 1 := by simpa using hsz
  refine wp_region_any hm ?_
  have H := wpMix_ops (ops' := l.toArray.pop) (n := n) (fun i hi => pop_get hsz hi) r _ _ h5 h
  have := wpAny_of_held _ _ _ _ (wpAnyH_mix (Q := cutQ P o Q) h2 (fun c a d v w h => hQ c a d v w h) r _ a w.drew hS h4 H)
  rw [h3] at this
  have hrep : Array.replicate l.toArray.size false = (Array.replicate n false).push false := by
    apply Array.ext'
    simp [hln, List.replicate_succ']
  rw [hrep, hsz]
  refine wpAny_cut (o := o) h1 (by simpa using ho) n _ a _ (by simp) ?_ this
  refine ⟨by simp [hsz], fun j oj _ hl => ?_, fun t _ ht => ?_⟩
  · exfalso
    rw [← hrep, getD_replicate_false] at hl
    cases hl
  · rw [← hrep]
    exact getD_in (by simpa using ht) (getD_replicate_false _ _)
/-- The same with nothing cut off. -/
theorem wp_region_mixed {id : Nat} {Q : Exit → Act → World → Prop} {a : Act} {w : World} {l : List Oper} (S : World → Prop) (r : List (Bool × Nat)) (hm : P.follows .mixedOrders = true)
    (hB : (Region.noSelect l.toArray && decide (r.length = l.length) && mixB .any l.toArray r (Array.replicate l.length false)) = true)
    (hQ : ∀ c (a : Act) (d : Option Tmp) (v : Value) w, Q (.panic c) (a.put d v) w → Q (.panic c) a w) (hS : S w.drew)
    (h : wpMix P l.toArray Q S r a w.drew) : (Code.region id l.toArray true).wp P Q a w := by
  simp only [Bool.and_eq_true, decide_eq_true_eq] at hB
  obtain ⟨⟨h2, h3⟩, h4⟩ := hB
  refine wp_region_any hm ?_
  have := wpAny_of_held _ _ _ _ (wpAnyH_mix (Q := Q) h2 hQ r _ a w.drew hS h4 h)
  rw [h3] at this
  exact this
/-- the same, where the post of a panic may hang on the frame: the region is shown not to panic -/
theorem wp_region_mixN {id : Nat} {Q : Exit → Act → World → Prop} {a : Act} {w : World} {l : List Oper} {o : Oper} (n : Nat) (S : World → Prop) (r : List (Bool × Nat)) (hm : P.follows .mixedOrders = true) (ho : l[n]? = some o)
    (hB : (cutB .any l.toArray n && Region.noSelect l.toArray.pop && decide (r.length = n) && (r.all fun x => decide (x.2 < n)) && mixB .any l.toArray.pop r (Array.replicate n false)) = true)
    (hS : S w.drew) (h : wpMix P l.toArray (cutQ P o (NoPanic Q)) S r a w.drew) : (Code.region id l.toArray true).wp P Q a w :=
  wp_region_noPanic (wp_region_mix n S r hm ho hB (fun _ _ _ _ _ h => h) hS h)
theorem wpMix_soft {l : List Oper} {Q : Exit → Act → World → Prop} {S : World → Prop} {r : List (Bool × Nat)} {i : Nat} {o : Oper} {a : Act} {w : World} {v : Value} (ho : l[i]? = some o) (hg : o.guard = none)
    (hv : ∀ w', S w' → (execOp a.eval o).run P w' = .ok (.value v) w') (h : wpMix P l.toArray Q S r (a.put o.dst v) w) : wpMix P l.toArray Q S ((true, i) :: r) a w := wpMix_s (by simpa using ho) hg hv h
theorem wpMix_hard {l : List Oper} {Q : Exit → Act → World → Prop} {S : World → Prop} {r : List (Bool × Nat)} {i : Nat} {o : Oper} {a : Act} {w : World} (ho : l[i]? = some o) (hg : o.guard = none)
    (h : wpList P #[] (mixQ P l.toArray Q S r) [o] a w) : wpMix P l.toArray Q S ((false, i) :: r) a w := wpMix_h (by simpa using ho) hg h
theorem wp_region_mixedN {id : Nat} {Q : Exit → Act → World → Prop} {a : Act} {w : World} {l : List Oper} (S : World → Prop) (r : List (Bool × Nat)) (hm : P.follows .mixedOrders = true)
    (hB : (Region.noSelect l.toArray && decide (r.length = l.length) && mixB .any l.toArray r (Array.replicate l.length false)) = true)
    (hS : S w.drew) (h : wpMix P l.toArray (NoPanic Q) S r a w.drew) : (Code.region id l.toArray true).wp P Q a w :=
  wp_region_noPanic (wp_region_mixed S r hm hB (fun _ _ _ _ _ h => h) hS h)
theorem cutQ_normal {o : Oper} {Q : Exit → Act → World → Prop} {a : Act} {w : World} (h : wpList P #[] Q [o] a w) : cutQ P o Q .normal a w := h
end
end Go.Proofs.Ytolooomphmcphaa
