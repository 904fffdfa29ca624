/- lfcheckref07 on simple types: form, Size, depth, WellFormed. -/
import Derived.Test.YtolooomphmcphaaS2
import Derived.Test.YtolooomphmcphaaR6
namespace Go.Proofs.Ytolooomphmcphaa
open Go.RowKit

theorem qSize_calls (n : Nat) : ∀ (t : Sm) (A : Option Addr) (c : Nat) (w : World) (S : Nat → Prop), ssize t < n → ssize t < 1000000000 → Rd smK w S A t.args →
    Giv Try.prog 84 #[smV t A c] w (.int .i64 (ssize t)) := by
  induction n with
  | zero => intro t A c w S h; omega
  | succ n ih =>
  intro t A c w S h1 h2 hr
  have hts := ssize_eq t
  have hla := len_le_ssizes t.args
  have H := Lib.hid ih
  clear ih
  have Hts := Lib.hid hts
  have hts1 : 1 + ssizes t.args ≤ ssize t := by omega
  clear hts
  have hk := bk_new w (.cells (smB t A c) 25)
  have hB := bl_new w (.cells (smB t A c) 25)
  go_enter Try.func84, Try.ntmps84
  go_wp2_with fail
  go_loopw [3, 4] (fun v i w' => ∃ m : Nat, m ≤ t.args.length ∧ i = .int .i64 m ∧ v = .int .i64 (1 + ssizes (t.args.take m)) ∧ w'.heap[w.heap.size]? = some (.cells (smB t A c) 25 (0, 0)) ∧ Below w.heap.size w w') (fun _ i _ => t.args.length - (intOf i).toNat)
  case atStart => exact ⟨0, by omega, rfl, by simp [ssizes], hk, hB⟩
  case round =>
    clear hk hB
    obtain ⟨m, hm, rfl, rfl, hk, hB⟩ := hrel
    have hlt1 := ssizes_take_le t.args m
    obtain ⟨c0, c1⟩ := bx2 hk
    by_cases hlt : m < t.args.length
    · obtain ⟨b, o, A', c', rfl, _, e0, e1, hl', hr'⟩ := (hr.below hB).sm m hlt
      have hm1 := ssizes_mem t.args m hlt
      have Hd := Lib.hid (ssizes_take t.args m hlt)
      have hle : ssizes (t.args.take m) + ssize t.args[m] ≤ 1000000000 := by have := Hd.out; have := ssizes_take_le t.args (m + 1); omega
      go_wp2_with fail
      refine (H.out t.args[m] A' c' _ S (by omega) (by omega) hr').use fun w1 hb => ?_
      replace hk := bk_below hk hb
      replace hB := bl_self hB hb
      go_wp2_with fail
      go_roundw
      case rel => exact ⟨m + 1, by omega, by go_num, by rw [Hd.out]; go_num, hk, hB⟩
      case measure => simp [intOf]; omega
    · obtain rfl : m = t.args.length := by omega
      go_wp2_with fail
      go_ret
      exact ⟨by rw [Hts.out]; simp, hB⟩
theorem sdeps_take (a : List Sm) (m : Nat) (h : m < a.length) : sdeps (a.take (m + 1)) = max (sdeps (a.take m)) (sdep a[m]) := by
  rw [List.take_succ_eq_append_getElem h]
  generalize a.take m = b
  induction b with
  | nil => simp [sdeps]
  | cons t r ih => simp only [List.cons_append, sdeps, ih]; omega
theorem qDepth_calls (n : Nat) : ∀ (t : Sm) (A : Option Addr) (c : Nat) (w : World) (S : Nat → Prop), ssize t < n → ssize t < 1000000000 → Rd smK w S A t.args →
    Giv Try.prog 85 #[smV t A c] w (.int .i64 (sdep t)) := by
  induction n with
  | zero => intro t A c w S h; omega
  | succ n ih =>
  intro t A c w S h1 h2 hr
  have hts1 : ssizes t.args < ssize t := by have := ssize_eq t; omega
  have hla := len_le_ssizes t.args
  have H := Lib.hid ih
  clear ih
  have hk := bk_new w (.cells (smB t A c) 25)
  have hB := bl_new w (.cells (smB t A c) 25)
  go_enter Try.func85, Try.ntmps85
  go_wp2_with fail
  go_loopw [3, 4] (fun v i w' => ∃ m : Nat, m ≤ t.args.length ∧ i = .int .i64 m ∧ v = .int .i64 (sdeps (t.args.take m)) ∧ w'.heap[w.heap.size]? = some (.cells (smB t A c) 25 (0, 0)) ∧ Below w.heap.size w w') (fun _ i _ => t.args.length - (intOf i).toNat)
  case atStart => exact ⟨0, by omega, rfl, by simp [sdeps], hk, hB⟩
  case round =>
    clear hk hB
    obtain ⟨m, hm, rfl, rfl, hk, hB⟩ := hrel
    have hlt0 := sdeps_le (t.args.take m)
    have hlt1 := ssizes_take_le t.args m
    obtain ⟨c0, c1⟩ := bx2 hk
    by_cases hlt : m < t.args.length
    · obtain ⟨b, o, A', c', rfl, _, e0, e1, hl', hr'⟩ := (hr.below hB).sm m hlt
      have hm1 := ssizes_mem t.args m hlt
      have hd1 := sdep_le t.args[m]
      have Hd := Lib.hid (sdeps_take t.args m hlt)
      go_wp2_with fail
      refine (H.out t.args[m] A' c' _ S (by omega) (by omega) hr').use fun w1 hb => ?_
      replace hk := bk_below hk hb
      replace hB := bl_self hB hb
      go_wp2_with fail
      go_roundw
      case rel => exact ⟨m + 1, by omega, by go_num, by rw [Hd.out]; go_num, hk, hB⟩
      case measure => simp [intOf]; omega
    · obtain rfl : m = t.args.length := by omega
      have hd := sdeps_le t.args
      go_wp2_with fail
      go_ret
      exact ⟨by rw [sdep_eq]; go_num, hB⟩
theorem formBs_get (a : List Sm) (m : Nat) (hm : m < a.length) (h : formB a[m] = false) : formBs a = false := by
  rw [formBs_iff, List.all_eq_false]
  exact ⟨a[m], List.getElem_mem hm, by rw [h]; simp⟩
theorem formBs_all (a : List Sm) (h : ∀ m (hm : m < a.length), formB a[m] = true) : formBs a = true := by
  rw [formBs_iff, List.all_eq_true]
  intro x hx
  obtain ⟨m, hm, rfl⟩ := List.getElem_of_mem hx
  exact h m hm
set_option maxHeartbeats 1000000 in
theorem qForm_calls (n : Nat) : ∀ (t : Sm) (A : Option Addr) (c : Nat) (w : World) (S : Nat → Prop), ssize t < n → ssize t < 1000000000 → Rd smK w S A t.args →
    Giv Try.prog 83 #[smV t A c] w (.bool (formB t)) := by
  induction n with
  | zero => intro t A c w S h; omega
  | succ n ih =>
  intro t A c w S h1 h2 hr
  have hts1 : ssizes t.args < ssize t := by have := ssize_eq t; omega
  have hla := len_le_ssizes t.args
  have H := Lib.hid ih
  clear ih
  have hk := bk_new w (.cells (smB t A c) 25)
  have hB := bl_new w (.cells (smB t A c) 25)
  have HN := Lib.hid (refIsName_calls t.fam)
  obtain ⟨nm, Hn⟩ : ∃ nm, Hid (isName t.fam = nm) := ⟨_, Lib.hid rfl⟩
  obtain ⟨ty, Hty⟩ : ∃ ty, Hid ((t.fam.toList == [116, 121, 112, 101]) = ty) := ⟨_, Lib.hid rfl⟩
  have Hf : Hid (formB t = ((nm || ty) && formBs t.args)) := Lib.hid (by rw [formB_eq, Hn.out, Hty.out])
  cases ty
  · have hty : (t.fam.toList == [116, 121, 112, 101]) = false := Hty.out
    cases nm
    · go_enter Try.func83, Try.ntmps83
      obtain ⟨c0, c1⟩ := bx2 hk
      go_wp2_with fail
      refine (HN.out _).use fun w1 hb1 => ?_
      rw [Hn.out]
      go_wp2_with fail
      go_ret
      exact ⟨by rw [Hf.out]; rfl, bl_self hB hb1⟩
    · go_enter Try.func83, Try.ntmps83
      obtain ⟨c0, c1⟩ := bx2 hk
      go_wp2_with fail
      refine (HN.out _).use fun w1 hb1 => ?_
      rw [Hn.out]
      replace hk := bk_below hk hb1
      replace hB := bl_self hB hb1
      clear c0 c1
      go_wp2_with fail
      go_loopw [3] (fun i w' => ∃ m : Nat, m ≤ t.args.length ∧ i = .int .i64 m ∧ Hid (∀ j (hj : j < t.args.length), j < m → formB t.args[j] = true) ∧ w'.heap[w.heap.size]? = some (.cells (smB t A c) 25 (0, 0)) ∧ Below w.heap.size w w') (fun i _ => t.args.length - (intOf i).toNat)
      case atStart => exact ⟨0, by omega, rfl, Lib.hid (fun j _ h => by omega), hk, hB⟩
      case round =>
        clear hk hB
        obtain ⟨m, hm, rfl, Hall, hk, hB⟩ := hrel
        obtain ⟨c0, c1⟩ := bx2 hk
        by_cases hlt : m < t.args.length
        · obtain ⟨b, o, A', c', rfl, _, e0, e1, hl', hr'⟩ := (hr.below hB).sm m hlt
          have hm1 := ssizes_mem t.args m hlt
          cases hs : formB t.args[m]
          · have Hs := Lib.hid hs
            clear hs
            go_wp2_with fail
            refine (H.out t.args[m] A' c' _ S (by omega) (by omega) hr').use fun w1 hb => ?_
            rw [Hs.out]
            replace hB := bl_self hB hb
            go_wp2_with fail
            go_ret
            exact ⟨by rw [Hf.out, formBs_get _ m hlt Hs.out]; simp, hB⟩
          · have Hs := Lib.hid hs
            clear hs
            go_wp2_with fail
            refine (H.out t.args[m] A' c' _ S (by omega) (by omega) hr').use fun w1 hb => ?_
            rw [Hs.out]
            replace hk := bk_below hk hb
            replace hB := bl_self hB hb
            go_wp2_with fail
            go_roundw
            case rel => exact ⟨m + 1, by omega, by go_num, Lib.hid (fun j hj hjm => (Nat.lt_succ_iff_lt_or_eq.1 hjm).elim (fun h => Hall.out j hj h) (fun h => by subst h; exact Hs.out)), hk, hB⟩
            case measure => simp [intOf]; omega
        · obtain rfl : m = t.args.length := by omega
          go_wp2_with fail
          go_ret
          exact ⟨by rw [Hf.out, formBs_all _ fun m hm => Hall.out m hm hm]; simp, hB⟩
  · have hty : (t.fam.toList == [116, 121, 112, 101]) = true := Hty.out
    go_enter Try.func83, Try.ntmps83
    go_wp2_with fail
    go_loopw [3] (fun i w' => ∃ m : Nat, m ≤ t.args.length ∧ i = .int .i64 m ∧ Hid (∀ j (hj : j < t.args.length), j < m → formB t.args[j] = true) ∧ w'.heap[w.heap.size]? = some (.cells (smB t A c) 25 (0, 0)) ∧ Below w.heap.size w w') (fun i _ => t.args.length - (intOf i).toNat)
    case atStart => exact ⟨0, by omega, rfl, Lib.hid (fun j _ h => by omega), hk, hB⟩
    case round =>
      clear hk hB
      obtain ⟨m, hm, rfl, Hall, hk, hB⟩ := hrel
      obtain ⟨c0, c1⟩ := bx2 hk
      by_cases hlt : m < t.args.length
      · obtain ⟨b, o, A', c', rfl, _, e0, e1, hl', hr'⟩ := (hr.below hB).sm m hlt
        have hm1 := ssizes_mem t.args m hlt
        cases hs : formB t.args[m]
        · have Hs := Lib.hid hs
          clear hs
          go_wp2_with fail
          refine (H.out t.args[m] A' c' _ S (by omega) (by omega) hr').use fun w1 hb => ?_
          rw [Hs.out]
          replace hB := bl_self hB hb
          go_wp2_with fail
          go_ret
          exact ⟨by rw [Hf.out, formBs_get _ m hlt Hs.out]; simp, hB⟩
        · have Hs := Lib.hid hs
          clear hs
          go_wp2_with fail
          refine (H.out t.args[m] A' c' _ S (by omega) (by omega) hr').use fun w1 hb => ?_
          rw [Hs.out]
          replace hk := bk_below hk hb
          replace hB := bl_self hB hb
          go_wp2_with fail
          go_roundw
          case rel => exact ⟨m + 1, by omega, by go_num, Lib.hid (fun j hj hjm => (Nat.lt_succ_iff_lt_or_eq.1 hjm).elim (fun h => Hall.out j hj h) (fun h => by subst h; exact Hs.out)), hk, hB⟩
          case measure => simp [intOf]; omega
      · obtain rfl : m = t.args.length := by omega
        go_wp2_with fail
        go_ret
        exact ⟨by rw [Hf.out, formBs_all _ fun m hm => Hall.out m hm hm]; simp, hB⟩
theorem qWellFormed_calls (t : Sm) (A : Option Addr) (c : Nat) (S : Nat → Prop) (w : World) (h2 : ssize t < 1000000000) (hr : Rd smK w S A t.args) :
    Giv Try.prog 54 #[smV t A c] w (.int .i64 (swfE t)) := by
  have hk := bk_new w (.cells (smB t A c) 25)
  have hB := bl_new w (.cells (smB t A c) 25)
  have hd := sdep_le t
  cases hf : formB t
  · have Hf := Lib.hid hf
    clear hf
    go_enter Try.func54, Try.ntmps54
    go_wp2_with fail
    refine (qForm_calls _ t A c _ S (Nat.lt_succ_self _) h2 (hr.below hB)).use fun w1 hb1 => ?_
    rw [Hf.out]
    go_wp2_with fail
    go_ret
    exact ⟨by unfold swfE; rw [Hf.out]; rfl, bl_self hB hb1⟩
  · have Hf := Lib.hid hf
    clear hf
    by_cases h : ssize t ≤ 4096
    · go_enter Try.func54, Try.ntmps54
      go_wp2_with fail
      refine (qForm_calls _ t A c _ S (Nat.lt_succ_self _) h2 (hr.below hB)).use fun w1 hb1 => ?_
      rw [Hf.out]
      replace hk := bk_below hk hb1; replace hB := bl_self hB hb1; clear hb1
      obtain ⟨c0, c1⟩ := bx2 hk
      go_wp2_with fail
      refine (qSize_calls _ t A c _ S (Nat.lt_succ_self _) h2 (hr.below hB)).use fun w2 hb2 => ?_
      clear c0 c1
      replace hk := bk_below hk hb2; replace hB := bl_self hB hb2; clear hb2
      obtain ⟨c0, c1⟩ := bx2 hk
      go_wp2_with fail
      refine (qDepth_calls _ t A c _ S (Nat.lt_succ_self _) h2 (hr.below hB)).use fun w3 hb3 => ?_
      replace hk := bk_below hk hb3; replace hB := bl_self hB hb3; clear hb3
      go_wp2_with fail
      all_goals (go_ret; exact ⟨by unfold swfE; rw [Hf.out]; simp; omega, hB⟩)
    · go_enter Try.func54, Try.ntmps54
      go_wp2_with fail
      refine (qForm_calls _ t A c _ S (Nat.lt_succ_self _) h2 (hr.below hB)).use fun w1 hb1 => ?_
      rw [Hf.out]
      replace hk := bk_below hk hb1; replace hB := bl_self hB hb1; clear hb1
      obtain ⟨c0, c1⟩ := bx2 hk
      go_wp2_with fail
      refine (qSize_calls _ t A c _ S (Nat.lt_succ_self _) h2 (hr.below hB)).use fun w2 hb2 => ?_
      replace hk := bk_below hk hb2; replace hB := bl_self hB hb2; clear hb2
      go_wp2_with fail
      go_ret
      exact ⟨by unfold swfE; rw [Hf.out]; simp; omega, hB⟩
end Go.Proofs.Ytolooomphmcphaa
