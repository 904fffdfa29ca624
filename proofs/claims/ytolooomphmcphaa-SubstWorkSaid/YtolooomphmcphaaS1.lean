/- The program's package simple, on simple types: Size, depth, order, Same. -/
import Derived.Test.YtolooomphmcphaaMv
import Derived.Laws.EntriesVeiled
namespace Go.Proofs.Ytolooomphmcphaa
open Go.RowKit

abbrev smV (t : Sm) (A : Option Addr) (c : Nat) : Value := .agg #[.string t.fam, .slice A t.args.length c]
abbrev smB (t : Sm) (A : Option Addr) (c : Nat) : Array Value := #[.string t.fam, .slice A t.args.length c]
mutual
def ssize : Sm → Nat | .mk _ a => 1 + ssizes a
def ssizes : List Sm → Nat | [] => 0 | t :: r => ssize t + ssizes r
end
mutual
def sdep : Sm → Nat | .mk _ a => 1 + sdeps a
def sdeps : List Sm → Nat | [] => 0 | t :: r => max (sdep t) (sdeps r)
end
mutual
def sord : Sm → Nat | .mk _ a => sords a
def sords : List Sm → Nat | [] => 0 | t :: r => max (1 + sord t) (sords r)
end
mutual
def formB : Sm → Bool | .mk s a => (isName s || s.toList == [116, 121, 112, 101]) && formBs a
def formBs : List Sm → Bool | [] => true | t :: r => formB t && formBs r
end
mutual
def sameS : Sm → Sm → Bool | .mk s a, .mk s' a' => (s.toList == s'.toList) && sameSs a a'
def sameSs : List Sm → List Sm → Bool | [], [] => true | t :: r, t' :: r' => sameS t t' && sameSs r r' | _, _ => false
end
theorem ssize_eq (t : Sm) : ssize t = 1 + ssizes t.args := by cases t; rfl
theorem sdep_eq (t : Sm) : sdep t = 1 + sdeps t.args := by cases t; rfl
theorem sord_eq (t : Sm) : sord t = sords t.args := by cases t; rfl
theorem formB_eq (t : Sm) : formB t = ((isName t.fam || t.fam.toList == [116, 121, 112, 101]) && formBs t.args) := by cases t; simp only [formB, Sm.fam, Sm.args]
theorem sameS_eq (t u : Sm) : sameS t u = ((t.fam.toList == u.fam.toList) && sameSs t.args u.args) := by cases t; cases u; simp only [sameS, Sm.fam, Sm.args]
theorem ssizes_append (a b : List Sm) : ssizes (a ++ b) = ssizes a + ssizes b := by
  induction a with
  | nil => simp [ssizes]
  | cons t r ih => simp [ssizes, ih]; omega
theorem ssizes_take (a : List Sm) (m : Nat) (h : m < a.length) : ssizes (a.take (m + 1)) = ssizes (a.take m) + ssize a[m] := by
  rw [List.take_succ_eq_append_getElem h, ssizes_append]; simp [ssizes]
theorem ssizes_take_le (a : List Sm) (m : Nat) : ssizes (a.take m) ≤ ssizes a := by
  have := ssizes_append (a.take m) (a.drop m)
  rw [List.take_append_drop] at this
  omega
theorem ssizes_mem (a : List Sm) (m : Nat) (h : m < a.length) : ssize a[m] ≤ ssizes a := by
  have := ssizes_take a m h
  have := ssizes_take_le a (m + 1)
  omega
theorem ssize_pos (t : Sm) : 0 < ssize t := by have := ssize_eq t; omega
theorem len_le_ssizes (a : List Sm) : a.length ≤ ssizes a := by
  induction a with
  | nil => simp [ssizes]
  | cons t r ih => have := ssize_pos t; simp only [ssizes, List.length_cons]; omega
theorem formBs_iff (a : List Sm) : formBs a = a.all formB := by
  induction a with
  | nil => rfl
  | cons t r ih => simp [formBs, ih]
/-- the greatest of what F tells -/
def mx (F : Sm → Nat) : List Sm → Nat | [] => 0 | t :: r => max (F t) (mx F r)
theorem mx_append (F : Sm → Nat) (a b : List Sm) : mx F (a ++ b) = max (mx F a) (mx F b) := by
  induction a with
  | nil => simp [mx]
  | cons t r ih => simp only [mx, List.cons_append, ih]; omega
theorem mx_take (F : Sm → Nat) (a : List Sm) (m : Nat) (h : m < a.length) : mx F (a.take (m + 1)) = max (mx F (a.take m)) (F a[m]) := by
  rw [List.take_succ_eq_append_getElem h, mx_append]; simp [mx]
theorem mx_sdep (a : List Sm) : mx sdep a = sdeps a := by
  induction a with
  | nil => rfl
  | cons t r ih => simp [mx, sdeps, ih]
theorem mx_sord (a : List Sm) (h : a ≠ []) : 1 + mx sord a = sords a := by
  induction a with
  | nil => exact absurd rfl h
  | cons t r ih =>
    cases r with
    | nil => simp [mx, sords]
    | cons u r =>
      have := ih (by simp)
      simp only [mx, sords] at this ⊢
      omega
mutual
theorem sdep_le : ∀ t : Sm, sdep t ≤ ssize t
  | .mk _ a => by have := sdeps_le a; simp [sdep, ssize]; omega
theorem sdeps_le : ∀ a : List Sm, sdeps a ≤ ssizes a
  | [] => by simp [sdeps, ssizes]
  | t :: r => by have := sdep_le t; have := sdeps_le r; simp [sdeps, ssizes]; omega
end
mutual
theorem sord_le : ∀ t : Sm, sord t < ssize t
  | .mk _ a => by have := sords_le a; simp [sord, ssize]; omega
theorem sords_le : ∀ a : List Sm, sords a ≤ ssizes a
  | [] => by simp [sords, ssizes]
  | t :: r => by have := sord_le t; have := sords_le r; simp [sords, ssizes]; omega
end
theorem mx_le (F : Sm → Nat) (hF : ∀ t, F t ≤ ssize t) (a : List Sm) : mx F a ≤ ssizes a := by
  induction a with
  | nil => simp [mx]
  | cons t r ih => have := hF t; simp only [mx, ssizes]; omega

theorem sSize_calls (n : Nat) : ∀ (t : Sm) (A : Option Addr) (c : Nat) (w : World) (S : Nat → Prop), ssize t < n → ssize t < 1000000000 → Rd smK w S A t.args →
    Giv Try.prog 35 #[smV t A c] w (.int .i64 (ssize t)) := by
  induction n with
  | zero => intro t A c w S h; omega
  | succ n ih =>
  intro t A c w S h1 h2 hr
  have hts := ssize_eq t
  have hla := len_le_ssizes t.args
  have H := Lib.hid ih
  clear ih
  have Hts := Lib.hid hts
  have hts1 : 1 + ssizes t.args ≤ ssize t := by omega
  clear hts
  have hB := bl_new w (.cells (smB t A c) 25)
  go_enter Try.func35, Try.ntmps35
  go_wp2_with fail
  go_loopw [3, 9] (fun v i w' => ∃ m : Nat, m ≤ t.args.length ∧ i = .int .i64 m ∧ v = .int .i64 (1 + ssizes (t.args.take m)) ∧ Below w.heap.size w w') (fun _ i _ => t.args.length - (intOf i).toNat)
  case atStart => exact ⟨0, by omega, rfl, by simp [ssizes], hB⟩
  case round =>
    clear hB
    obtain ⟨m, hm, rfl, rfl, hB⟩ := hrel
    have hlt1 := ssizes_take_le t.args m
    by_cases hlt : m < t.args.length
    · obtain ⟨b, o, A', c', rfl, _, e0, e1, hl', hr'⟩ := (hr.below hB).sm m hlt
      have hm1 := ssizes_mem t.args m hlt
      have Hd := Lib.hid (ssizes_take t.args m hlt)
      have hle : ssizes (t.args.take m) + ssize t.args[m] ≤ 1000000000 := by have := Hd.out; have := ssizes_take_le t.args (m + 1); omega
      go_wp2_with fail
      refine (H.out t.args[m] A' c' _ S (by omega) (by omega) (hr'.below (bl_new _ _))).use fun w1 hb => ?_
      replace hB := bl_self (bl_alloc hB _) hb
      go_wp2_with fail
      go_roundw
      case rel => exact ⟨m + 1, by omega, by go_num, by rw [Hd.out]; go_num, hB⟩
      case measure => simp [intOf]; omega
    · obtain rfl : m = t.args.length := by omega
      go_wp2_with fail
      go_ret
      exact ⟨by rw [Hts.out]; simp, hB⟩

/-- the function of number f tells F of all simple types of fewer than n nodes -/
def Tells (f : FuncId) (F : Sm → Nat) (n : Nat) : Prop := ∀ (t : Sm) (A : Option Addr) (c : Nat) (w : World) (S : Nat → Prop), ssize t < n → ssize t < 1000000000 → Rd smK w S A t.args →
  Giv Try.prog f #[smV t A c] w (.int .i64 (F t))
set_option maxRecDepth 100000 in
theorem deepest_calls {n : Nat} (f : FuncId) (F : Sm → Nat) (hf : ∀ (a : Array Value) (w : World), (callFunc f a).run Try.prog w = .ok (.enter f a) w) (hF : ∀ t, F t ≤ ssize t) (h : Tells f F n) (t : Sm) (A : Option Addr) (c : Nat) (w : World) (S : Nat → Prop) (h1 : ssizes t.args < n) (h2 : ssizes t.args < 1000000000) (hr : Rd smK w S A t.args) :
    Giv Try.prog 75 #[smV t A c, .func (.func f) #[] #[]] w (.int .i64 (mx F t.args)) := by
  have hla := len_le_ssizes t.args
  have H := Lib.hid h
  clear h
  have hB := bl_new w (.cells (smB t A c) 25)
  have Hmx := Lib.hid (fun a => mx_le F hF a)
  have HF := Lib.hid hF
  clear hF
  go_enter Try.func75, Try.ntmps75
  go_wp2_with fail
  go_loopw [5, 11] (fun v i w' => ∃ (m k : Nat), m ≤ t.args.length ∧ i = .int .i64 m ∧ Hid (k = mx F (t.args.take m)) ∧ k ≤ 1000000000 ∧ v = .int .i64 k ∧ Below w.heap.size w w') (fun _ i _ => t.args.length - (intOf i).toNat)
  case atStart => exact ⟨0, 0, by omega, rfl, Lib.hid (by simp [mx]), by omega, rfl, hB⟩
  case round =>
    clear hB
    obtain ⟨m, k, hm, rfl, Hk, hk, rfl, hB⟩ := hrel
    by_cases hlt : m < t.args.length
    · obtain ⟨b, o, A', c', rfl, _, e0, e1, hl', hr'⟩ := (hr.below hB).sm m hlt
      have hm1 := ssizes_mem t.args m hlt
      obtain ⟨q, Hq, hq⟩ : ∃ q : Nat, Hid (q = F t.args[m]) ∧ q ≤ 1000000000 := ⟨_, Lib.hid rfl, by have := HF.out t.args[m]; omega⟩
      go_wp2_with fail
      refine (H.out t.args[m] A' c' _ S (by omega) (by omega) (hr'.below (bl_new _ _))).use fun w1 hb => ?_
      rw [← Hq.out]
      replace hB := bl_self (bl_alloc hB _) hb
      have Hd : Hid (max k q = mx F (t.args.take (m + 1))) := Lib.hid (by rw [mx_take F _ _ hlt, Hk.out, Hq.out])
      by_cases hkq : k ≤ q
      · go_wp2_with fail
        go_roundw
        case rel => exact ⟨m + 1, q, by omega, by go_num, Lib.hid (by rw [← Hd.out]; omega), hq, by go_num, hB⟩
        case measure => simp [intOf]; omega
      · go_wp2_with fail
        go_roundw
        case rel => exact ⟨m + 1, k, by omega, by go_num, Lib.hid (by rw [← Hd.out]; omega), hk, by go_num, hB⟩
        case measure => simp [intOf]; omega
    · obtain rfl : m = t.args.length := by omega
      go_wp2_with fail
      go_ret
      exact ⟨by rw [Hk.out]; simp, hB⟩
theorem sdepth_calls (n : Nat) : Tells 40 sdep n := by
  induction n with
  | zero => intro t A c w S h; omega
  | succ n ih =>
  intro t A c w S h1 h2 hr
  have hts := ssize_eq t
  have hd := deepest_calls 40 sdep (fun a w => by go_simp) sdep_le ih t A c (w.alloc (.cells (smB t A c) 25)) S (by omega) (by omega) (hr.below (bl_new _ _))
  have hm : mx sdep t.args ≤ ssizes t.args := mx_le _ sdep_le _
  have hmm : mx sdep t.args ≤ 1000000000 := by omega
  have Hd := Lib.hid hd
  have He := Lib.hid (sdep_eq t)
  have Hm := Lib.hid (mx_sdep t.args)
  clear hd ih
  obtain ⟨k, Hk, hk⟩ : ∃ k : Nat, Hid (mx sdep t.args = k) ∧ k ≤ 1000000000 := ⟨_, Lib.hid rfl, hmm⟩
  go_enter Try.func40, Try.ntmps40
  go_wp2_with fail
  refine Hd.out.use fun w1 hb1 => ?_
  rw [Hk.out]
  go_wp2_with fail
  go_ret
  exact ⟨by rw [He.out, ← Hm.out, Hk.out]; simp, bl_self (bl_new _ _) hb1⟩
theorem sorder_calls (n : Nat) : Tells 70 sord n := by
  induction n with
  | zero => intro t A c w S h; omega
  | succ n ih =>
  intro t A c w S h1 h2 hr
  have hts := ssize_eq t
  have hd := deepest_calls 70 sord (fun a w => by go_simp) (fun t => Nat.le_of_lt (sord_le t)) ih t A c (w.alloc (.cells (smB t A c) 25)) S (by omega) (by omega) (hr.below (bl_new _ _))
  have hm : mx sord t.args ≤ ssizes t.args := mx_le _ (fun t => Nat.le_of_lt (sord_le t)) _
  have hmm : mx sord t.args ≤ 1000000000 := by omega
  have Hd := Lib.hid hd
  have He := Lib.hid (sord_eq t)
  have Hm := Lib.hid (mx_sord t.args)
  clear hd ih
  obtain ⟨k, Hk, hk⟩ : ∃ k : Nat, Hid (mx sord t.args = k) ∧ k ≤ 1000000000 := ⟨_, Lib.hid rfl, hmm⟩
  by_cases h0 : t.args = []
  · have hl : t.args.length = 0 := by rw [h0]; rfl
    have H0 := Lib.hid h0
    clear h0
    go_enter Try.func70, Try.ntmps70
    go_wp2_with fail
    go_ret
    exact ⟨by rw [He.out, H0.out]; rfl, bl_new _ _⟩
  · have hl : 0 < t.args.length := List.length_pos_iff.2 h0
    have hl1 : (t.args.length == 0) = false := by simpa using h0
    have Hm := Lib.hid (Hm.out h0)
    clear h0
    go_enter Try.func70, Try.ntmps70
    go_wp2_with fail
    refine Hd.out.use fun w1 hb1 => ?_
    rw [Hk.out]
    go_wp2_with fail
    go_ret
    exact ⟨by rw [He.out, ← Hm.out, Hk.out]; simp, bl_self (bl_new _ _) hb1⟩
end Go.Proofs.Ytolooomphmcphaa
