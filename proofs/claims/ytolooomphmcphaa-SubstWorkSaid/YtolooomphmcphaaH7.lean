/- subst.forms, notObject; lfcheckref05.Formed, lfcheckref08.objects, Simples: the first error of some terms and simple types. -/
import Derived.Test.YtolooomphmcphaaTw
import Derived.Test.YtolooomphmcphaaR6
import Derived.Test.YtolooomphmcphaaQ1
namespace Go.Proofs.Ytolooomphmcphaa
open Go.RowKit

def firstE : List Int → Int | [] => 0 | e :: r => if e ≠ 0 then e else firstE r
theorem firstE_app : ∀ (a b : List Int), firstE a = 0 → firstE (a ++ b) = firstE b
  | [], _, _ => rfl
  | e :: r, b, h => by
    unfold firstE at h
    split at h
    · rename_i he; exact absurd h he
    · rename_i he
      rw [List.cons_append, firstE, if_neg he]
      exact firstE_app r b h
theorem firstE_stop {α : Type} (f : α → Int) (a : List α) (m : Nat) (hm : m < a.length) (h0 : firstE ((a.take m).map f) = 0) (h1 : f a[m] ≠ 0) : firstE (a.map f) = f a[m] := by
  have e : a = a.take m ++ a[m] :: a.drop (m + 1) := by
    rw [← List.drop_eq_getElem_cons hm, List.take_append_drop]
  have e2 : a.map f = (a.take m).map f ++ f a[m] :: (a.drop (m + 1)).map f := by
    rw [← List.map_cons, ← List.map_append, ← e]
  rw [e2, firstE_app _ _ h0, firstE, if_pos h1]
theorem firstE_go {α : Type} (f : α → Int) (a : List α) (m : Nat) (hm : m < a.length) (h0 : firstE ((a.take m).map f) = 0) (h1 : f a[m] = 0) : firstE ((a.take (m + 1)).map f) = 0 := by
  rw [List.take_succ_eq_append_getElem hm, List.map_append, firstE_app _ _ h0]
  simp [firstE, h1]
def wfsE (ts : List Tm) : Int := firstE (ts.map wfE)
def swfsE (ss : List Sm) : Int := firstE (ss.map swfE)
def formsE (ts : List Tm) (ss : List Sm) : Int := if wfsE ts ≠ 0 then wfsE ts else swfsE ss
def objoB (t : Tm) : Bool := objB t && smallB t
def objsE (ts : List Tm) : Int := if ts.all objoB then 0 else 32
theorem all_stop (p : Tm → Bool) (a : List Tm) (m : Nat) (hm : m < a.length) (h : p a[m] = false) : a.all p = false := by
  rw [List.all_eq_false]
  exact ⟨a[m], List.getElem_mem hm, by rw [h]; simp⟩
theorem all_go (p : Tm → Bool) (a : List Tm) (m : Nat) (hm : m < a.length) (h0 : (a.take m).all p = true) (h : p a[m] = true) : (a.take (m + 1)).all p = true := by
  rw [List.take_succ_eq_append_getElem hm, List.all_append, h0]
  simp [h]
theorem formed_calls (a : List Tm) (A : Option Addr) (c : Nat) (w : World) (S : Nat → Prop) (hl : a.length < 1000000000) (h2 : ∀ t ∈ a, tsize t < 1000000000) (hr : Rd tmK w S A a) :
    Giv Try.prog 53 #[.slice A a.length c] w (.int .i64 (wfsE a)) := by
  have H2 := Lib.hid h2
  clear h2
  go_enter Try.func53, Try.ntmps53
  go_wp2_with fail
  go_loopw [3] (fun i w' => ∃ m : Nat, m ≤ a.length ∧ i = .int .i64 m ∧ Hid (firstE ((a.take m).map wfE) = 0) ∧ Below w.heap.size w w') (fun i _ => a.length - (intOf i).toNat)
  case atStart => exact ⟨0, by omega, rfl, Lib.hid (by simp [firstE]), Below.refl _ _⟩
  case round =>
    obtain ⟨m, hm, rfl, Hall, hB⟩ := hrel
    by_cases hlt : m < a.length
    · obtain ⟨b, o, A', c', rfl, _, e0, e1, e2, e3, hl', hr'⟩ := (hr.below hB).tm m hlt
      have hz := H2.out _ (List.getElem_mem hlt)
      by_cases h0 : wfE a[m] = 0
      · have H0 := Lib.hid h0
        clear h0
        go_wp2_with fail
        refine (refWellFormed_calls a[m] A' c' S _ hz hr').use fun w1 hb1 => ?_
        rw [H0.out]
        go_wp2_with fail
        go_roundw
        case rel => exact ⟨m + 1, by omega, by go_num, Lib.hid (firstE_go wfE a m hlt Hall.out H0.out), bl_self hB hb1⟩
        case measure => simp [intOf]; omega
      · have h0' : (wfE a[m] != 0) = true := by simpa using h0
        have H0 := Lib.hid h0
        clear h0
        go_wp2_with fail
        refine (refWellFormed_calls a[m] A' c' S _ hz hr').use fun w1 hb1 => ?_
        go_wp2_with fail
        go_ret
        exact ⟨by rw [wfsE, firstE_stop wfE a m hlt Hall.out H0.out]; rfl, bl_self hB hb1⟩
    · obtain rfl : m = a.length := by omega
      go_wp2_with fail
      go_ret
      refine ⟨?_, hB⟩
      have := Hall.out
      rw [List.take_length] at this
      rw [wfsE, this]
      rfl
theorem simples_calls (a : List Sm) (A : Option Addr) (c : Nat) (w : World) (S : Nat → Prop) (hl : a.length < 1000000000) (h2 : ∀ t ∈ a, ssize t < 1000000000) (hr : Rd smK w S A a) :
    Giv Try.prog 78 #[.slice A a.length c] w (.int .i64 (swfsE a)) := by
  have H2 := Lib.hid h2
  clear h2
  go_enter Try.func78, Try.ntmps78
  go_wp2_with fail
  go_loopw [3] (fun i w' => ∃ m : Nat, m ≤ a.length ∧ i = .int .i64 m ∧ Hid (firstE ((a.take m).map swfE) = 0) ∧ Below w.heap.size w w') (fun i _ => a.length - (intOf i).toNat)
  case atStart => exact ⟨0, by omega, rfl, Lib.hid (by simp [firstE]), Below.refl _ _⟩
  case round =>
    obtain ⟨m, hm, rfl, Hall, hB⟩ := hrel
    by_cases hlt : m < a.length
    · obtain ⟨b, o, A', c', rfl, _, e0, e1, hl', hr'⟩ := (hr.below hB).sm m hlt
      have hz := H2.out _ (List.getElem_mem hlt)
      by_cases h0 : swfE a[m] = 0
      · have H0 := Lib.hid h0
        clear h0
        go_wp2_with fail
        refine (qWellFormed_calls a[m] A' c' S _ hz hr').use fun w1 hb1 => ?_
        rw [H0.out]
        go_wp2_with fail
        go_roundw
        case rel => exact ⟨m + 1, by omega, by go_num, Lib.hid (firstE_go swfE a m hlt Hall.out H0.out), bl_self hB hb1⟩
        case measure => simp [intOf]; omega
      · have h0' : (swfE a[m] != 0) = true := by simpa using h0
        have H0 := Lib.hid h0
        clear h0
        go_wp2_with fail
        refine (qWellFormed_calls a[m] A' c' S _ hz hr').use fun w1 hb1 => ?_
        go_wp2_with fail
        go_ret
        exact ⟨by rw [swfsE, firstE_stop swfE a m hlt Hall.out H0.out]; rfl, bl_self hB hb1⟩
    · obtain rfl : m = a.length := by omega
      go_wp2_with fail
      go_ret
      refine ⟨?_, hB⟩
      have := Hall.out
      rw [List.take_length] at this
      rw [swfsE, this]
      rfl
theorem objects_calls (a : List Tm) (A : Option Addr) (c : Nat) (w : World) (S : Nat → Prop) (hl : a.length < 1000000000) (h2 : ∀ t ∈ a, tsize t < 1000000000) (hr : Rd tmK w S A a) :
    Giv Try.prog 55 #[.slice A a.length c] w (.int .i64 (objsE a)) := by
  have H2 := Lib.hid h2
  clear h2
  go_enter Try.func55, Try.ntmps55
  go_wp2_with fail
  go_loopw [3] (fun i w' => ∃ m : Nat, m ≤ a.length ∧ i = .int .i64 m ∧ Hid ((a.take m).all objoB = true) ∧ Below w.heap.size w w') (fun i _ => a.length - (intOf i).toNat)
  case atStart => exact ⟨0, by omega, rfl, Lib.hid (by simp), Below.refl _ _⟩
  case round =>
    obtain ⟨m, hm, rfl, Hall, hB⟩ := hrel
    by_cases hlt : m < a.length
    · obtain ⟨b, o, A', c', rfl, _, e0, e1, e2, e3, hl', hr'⟩ := (hr.below hB).tm m hlt
      have hz := H2.out _ (List.getElem_mem hlt)
      cases h0 : objoB a[m]
      · have H0 := Lib.hid h0
        go_wp2_with fail
        refine (refIsObject_calls a[m] A' c' S _ hz hr').use fun w1 hb1 => ?_
        rw [show (objB a[m] && smallB a[m]) = false from H0.out]
        go_wp2_with fail
        go_ret
        exact ⟨by rw [objsE, all_stop objoB a m hlt H0.out]; rfl, bl_self hB hb1⟩
      · have H0 := Lib.hid h0
        go_wp2_with fail
        refine (refIsObject_calls a[m] A' c' S _ hz hr').use fun w1 hb1 => ?_
        rw [show (objB a[m] && smallB a[m]) = true from H0.out]
        go_wp2_with fail
        go_roundw
        case rel => exact ⟨m + 1, by omega, by go_num, Lib.hid (all_go objoB a m hlt Hall.out H0.out), bl_self hB hb1⟩
        case measure => simp [intOf]; omega
    · obtain rfl : m = a.length := by omega
      go_wp2_with fail
      go_ret
      refine ⟨?_, hB⟩
      have := Hall.out
      rw [List.take_length] at this
      rw [objsE, this]
      rfl
theorem notObject_calls (t : Tm) (A : Option Addr) (c : Nat) (w : World) (S : Nat → Prop) (h2 : tsize t < 1000000000) (hr : Rd tmK w S A t.args) :
    Giv Try.prog 48 #[tmV t A c] w (.bool (!objoB t)) := by
  have HO := Lib.hid (isObject_calls t A c S (w.alloc (.cells (tmB t A c) 33)) h2 (hr.below (bl_new _ _)))
  go_enter Try.func48, Try.ntmps48
  go_wp2_with fail
  refine HO.out.use fun w1 hb1 => ?_
  go_wp2_with fail
  go_ret
  exact ⟨by rw [objoB, Bool.not_and]; rfl, bl_self (bl_new _ _) hb1⟩
/-- slices.IndexFunc with a function that tells p of a term -/
theorem indexTm_calls (N : FuncId) (p : Tm → Bool) (hN : ∀ (a : Array Value) (w : World), (callFunc N a).run Try.prog w = .ok (.enter N a) w) (a : List Tm) (A : Option Addr) (c : Nat) (w : World) (S : Nat → Prop)
    (hp : ∀ t ∈ a, ∀ A c w S, Rd tmK w S A t.args → Giv Try.prog N #[tmV t A c] w (.bool (p t))) (hl : a.length < 1000000000) (hr : Rd tmK w S A a) :
    Calls Try.prog 80 #[.slice A a.length c, .func (.func N) #[] #[]] w fun e w' => ∃ v : Int, e = .returned (.int .i64 v) ∧ decide (0 ≤ v) = a.any p ∧ Below w.heap.size w w' := by
  have H := Lib.hid hp
  clear hp
  go_enter Try.func80, Try.ntmps80
  go_wp2_with fail
  go_loopw [8] (fun i w' => ∃ m : Nat, m ≤ a.length ∧ i = .int .i64 m ∧ Hid ((a.take m).any p = false) ∧ Below w.heap.size w w') (fun i _ => a.length - (intOf i).toNat)
  case atStart => exact ⟨0, by omega, rfl, Lib.hid (by simp), Below.refl _ _⟩
  case round =>
    obtain ⟨m, hm, rfl, Hall, hB⟩ := hrel
    by_cases hlt : m < a.length
    · obtain ⟨b, o, A', c', rfl, _, e0, e1, e2, e3, hl', hr'⟩ := (hr.below hB).tm m hlt
      have hj := List.getElem_mem hlt
      cases ho : p a[m]
      · have Ho := Lib.hid ho
        go_wp2_with fail
        refine (H.out a[m] hj A' c' _ S hr').use fun w1 hb1 => ?_
        rw [ho]
        go_wp2_with fail
        go_roundw
        case rel => exact ⟨m + 1, by omega, by go_num, Lib.hid (by rw [List.take_succ_eq_append_getElem hlt, List.any_append, Hall.out]; simp [Ho.out]), bl_self hB hb1⟩
        case measure => simp [intOf]; omega
      · have Ho := Lib.hid ho
        go_wp2_with fail
        refine (H.out a[m] hj A' c' _ S hr').use fun w1 hb1 => ?_
        rw [ho]
        go_wp2_with fail
        go_ret
        refine ⟨m, rfl, ?_, bl_self hB hb1⟩
        have : a.any p = true := List.any_eq_true.2 ⟨a[m], List.getElem_mem hlt, Ho.out⟩
        rw [this]
        simp
    · obtain rfl : m = a.length := by omega
      go_wp2_with fail
      go_ret
      refine ⟨-1, rfl, ?_, hB⟩
      have := Hall.out
      rw [List.take_length] at this
      rw [this]
      rfl
theorem containsNot_calls (a : List Tm) (A : Option Addr) (c : Nat) (w : World) (S : Nat → Prop) (hl : a.length < 1000000000) (h2 : ∀ t ∈ a, tsize t < 1000000000) (hr : Rd tmK w S A a) :
    Giv Try.prog 47 #[.slice A a.length c, .func (.func 48) #[] #[]] w (.bool (!a.all objoB)) := by
  have Hi := Lib.hid (indexTm_calls 48 (fun t => !objoB t) (fun a w => by go_simp) a A c w S (fun t ht A c w S h => notObject_calls t A c w S (h2 t ht) h) hl hr)
  clear h2
  go_enter Try.func47, Try.ntmps47
  go_wp2_with fail
  refine Hi.out.mono ?_
  rintro e w1 ⟨v, rfl, hv, hb⟩
  have Hv := Lib.hid hv
  clear hv
  go_wp2_with fail
  go_ret
  refine ⟨?_, hb⟩
  rw [List.not_all_eq_any_not, ← Hv.out]
  rfl
theorem forms_calls (a : List Tm) (q : List Sm) (A A2 : Option Addr) (c c2 : Nat) (w : World) (S S2 : Nat → Prop) (hl : a.length < 1000000000) (hlq : q.length < 1000000000) (h2 : ∀ t ∈ a, tsize t < 1000000000) (h3 : ∀ t ∈ q, ssize t < 1000000000)
    (hr : Rd tmK w S A a) (hr2 : Rd smK w S2 A2 q) :
    Giv Try.prog 46 #[.slice A a.length c, .slice A2 q.length c2] w (.int .i64 (formsE a q)) := by
  have H2 := Lib.hid h2
  have H3 := Lib.hid h3
  clear h2 h3
  go_enter Try.func46, Try.ntmps46
  go_wp2_with fail
  go_loopw [13] (fun i w' => ∃ m : Nat, m ≤ a.length ∧ i = .int .i64 m ∧ Hid (firstE ((a.take m).map wfE) = 0) ∧ Below w.heap.size w w') (fun i _ => a.length - (intOf i).toNat)
  case atStart => exact ⟨0, by omega, rfl, Lib.hid (by simp [firstE]), Below.refl _ _⟩
  case round =>
    obtain ⟨m, hm, rfl, Hall, hB⟩ := hrel
    by_cases hlt : m < a.length
    · obtain ⟨b, o, A', c', rfl, _, e0, e1, e2, e3, hl', hr'⟩ := (hr.below hB).tm m hlt
      have hz := H2.out _ (List.getElem_mem hlt)
      have hr1 := hr'.below (bl_new wr (.cells (tmB a[m] A' c') 33))
      by_cases h0 : wfE a[m] = 0
      · have H0 := Lib.hid h0
        clear h0
        go_wp2_with fail
        refine (wellFormed_calls a[m] A' c' S _ hz hr1).use fun w1 hb1 => ?_
        rw [H0.out]
        go_wp2_with fail
        go_roundw
        case rel => exact ⟨m + 1, by omega, by go_num, Lib.hid (firstE_go wfE a m hlt Hall.out H0.out), bl_self (bl_alloc hB _) hb1⟩
        case measure => simp [intOf]; omega
      · have h0' : (wfE a[m] != 0) = true := by simpa using h0
        have H0 := Lib.hid h0
        clear h0
        go_wp2_with fail
        refine (wellFormed_calls a[m] A' c' S _ hz hr1).use fun w1 hb1 => ?_
        go_wp2_with fail
        go_ret
        refine ⟨?_, bl_self (bl_alloc hB _) hb1⟩
        have e : wfsE a = wfE a[m] := by rw [wfsE, firstE_stop wfE a m hlt Hall.out H0.out]
        rw [formsE, e, if_pos H0.out]
        rfl
    · obtain rfl : m = a.length := by omega
      have hw0 := Hall.out
      rw [List.take_length] at hw0
      have HW0 : Hid (formsE a q = swfsE q) := Lib.hid (by rw [formsE, if_neg]; rw [wfsE, hw0]; simp)
      clear hw0
      go_wp2_with fail
      go_loopw [25] (fun i w' => ∃ m : Nat, m ≤ q.length ∧ i = .int .i64 m ∧ Hid (firstE ((q.take m).map swfE) = 0) ∧ Below w.heap.size w w') (fun i _ => q.length - (intOf i).toNat)
      case atStart => exact ⟨0, by omega, rfl, Lib.hid (by simp [firstE]), hB⟩
      case round =>
        clear hB Hall
        obtain ⟨m, hm, rfl, Hall, hB⟩ := hrel
        by_cases hlt : m < q.length
        · obtain ⟨b, o, A', c', rfl, _, e0, e1, hl', hr'⟩ := (hr2.below hB).sm m hlt
          have hz := H3.out _ (List.getElem_mem hlt)
          have hr1 := hr'.below (bl_new wr (.cells (smB q[m] A' c') 25))
          by_cases h0 : swfE q[m] = 0
          · have H0 := Lib.hid h0
            clear h0
            go_wp2_with fail
            refine (sWellFormed_calls q[m] A' c' S2 _ hz hr1).use fun w1 hb1 => ?_
            rw [H0.out]
            go_wp2_with fail
            go_roundw
            case rel => exact ⟨m + 1, by omega, by go_num, Lib.hid (firstE_go swfE q m hlt Hall.out H0.out), bl_self (bl_alloc hB _) hb1⟩
            case measure => simp [intOf]; omega
          · have h0' : (swfE q[m] != 0) = true := by simpa using h0
            have H0 := Lib.hid h0
            clear h0
            go_wp2_with fail
            refine (sWellFormed_calls q[m] A' c' S2 _ hz hr1).use fun w1 hb1 => ?_
            go_wp2_with fail
            go_ret
            refine ⟨?_, bl_self (bl_alloc hB _) hb1⟩
            rw [HW0.out, swfsE, firstE_stop swfE q m hlt Hall.out H0.out]
            rfl
        · obtain rfl : m = q.length := by omega
          go_wp2_with fail
          go_ret
          refine ⟨?_, hB⟩
          have := Hall.out
          rw [List.take_length] at this
          rw [HW0.out, swfsE, this]
          rfl
end Go.Proofs.Ytolooomphmcphaa
