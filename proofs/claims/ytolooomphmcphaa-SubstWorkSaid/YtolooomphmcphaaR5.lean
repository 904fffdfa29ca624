/- The reference's function lfcheckref05.sorts tells the three sorts of a term as the program's object, typed and kind do. -/
import Derived.Test.YtolooomphmcphaaR5a
namespace Go.Proofs.Ytolooomphmcphaa
open Go.RowKit

def SortsOK (n : Nat) : Prop := ∀ (t : Tm) (A : Option Addr) (c : Nat) (w : World) (S : Nat → Prop), tsize t < n → tsize t < 1000000000 → Rd tmK w S A t.args →
  Giv Try.prog 98 #[tmV t A c] w (.int .i64 (sortN t))

set_option maxHeartbeats 4000000 in
set_option maxRecDepth 100000 in
theorem sorts_calls : ∀ n, SortsOK n := by
  intro n
  induction n with
  | zero => intro t A c w S h; omega
  | succ n ih =>
  intro t A c w S h1 h2 hr
  have hts := tsize_eq t
  have hla := len_le_tsizes t.args
  have H := Lib.hid ih
  clear ih
  have hk := bk_new w (.cells (tmB t A c) 33)
  have hB := bl_new w (.cells (tmB t A c) 33)
  rcases kindCases t.kind with ⟨k1, k2, k3, k4, k5, k6⟩ | ⟨k1, k2, k3, k4, k5, k6⟩ | ⟨k1, k2, k3, k4, k5, k6⟩ | ⟨k1, k2, k3, k4, k5, k6⟩ | ⟨k1, k2, k3, k4, k5, k6⟩ | ⟨k1, k2, k3, k4, k5, k6⟩ | ⟨k1, k2, k3, k4, k5, k6⟩
  · -- Sort
    have H0 := Lib.hid (sortN_1 k1)
    go_enter Try.func98, Try.ntmps98
    go_wp2_with fail
    all_goals (go_ret; exact ⟨by rw [H0.out]; simp_all, by first | exact hB | exact bl_new _ _⟩)
  · -- Pi
    cases hi : (t.idx == 0)
    · have hbn : boundB t 2 = false := by simp [boundB, hi]
      have H0 := Lib.hid (sortN_2 k2 hbn)
      go_enter Try.func98, Try.ntmps98
      go_wp2_with (go_at_call 100; refine (refIsName_calls _ _).use fun w1 hb => ?_; replace hk := bk_below hk hb; replace hB := bl_self hB hb; clear hb; obtain ⟨c0, c1, c2, c3⟩ := bx4 hk)
      all_goals (go_ret; exact ⟨by rw [H0.out]; rfl, by first | exact hB | exact bl_new _ _⟩)
    · cases hl : ((t.args.length : Int) == 2)
      · have hbn : boundB t 2 = false := by rw [boundB, hl]; simp
        have H0 := Lib.hid (sortN_2 k2 hbn)
        go_enter Try.func98, Try.ntmps98
        go_wp2_with (go_at_call 100; refine (refIsName_calls _ _).use fun w1 hb => ?_; replace hk := bk_below hk hb; replace hB := bl_self hB hb; clear hb; obtain ⟨c0, c1, c2, c3⟩ := bx4 hk)
        all_goals (go_ret; exact ⟨by rw [H0.out]; rfl, by first | exact hB | exact bl_new _ _⟩)
      · cases hn : okName t.name
        · have hbn : boundB t 2 = false := by rw [boundB, hn]; simp
          have H0 := Lib.hid (sortN_2 k2 hbn)
          simp only [okName, Bool.or_eq_false_iff] at hn
          obtain ⟨⟨e1, e2⟩, e3⟩ := hn
          clear hbn
          go_enter Try.func98, Try.ntmps98
          go_wp2_with (go_at_call 100; refine (refIsName_calls _ _).use fun w1 hb => ?_; rw [e3]; replace hk := bk_below hk hb; replace hB := bl_self hB hb; clear hb; obtain ⟨c0, c1, c2, c3⟩ := bx4 hk)
          all_goals (go_ret; exact ⟨by rw [H0.out]; rfl, by first | exact hB | exact bl_new _ _⟩)
        · have hbn : boundB t 2 = true := by rw [boundB, hi, hl, hn]; rfl
          have hl2 := bound_len (n := 2) hbn
          have h0 : 0 < t.args.length := by omega
          have h1' : 1 < t.args.length := by omega
          have H0 := Lib.hid (sortN_2y k2 hbn h0 h1')
          have hs0 := tsizes_mem t.args 0 h0
          have hs1 := tsizes_mem t.args 1 h1'
          obtain ⟨b, o, A0, cc0, rfl, _, e0, e1, e2, e3, hl0, hr0⟩ := hr.tm0 h0
          clear e0 e1 e2 e3 hl0 hr0 hbn hl2
          obtain ⟨A0, cc0, _, e0, e1, e2, e3, hl0, hr0⟩ := (hr.below hB).tmb 0 h0
          simp only [Nat.zero_mul, Nat.add_zero] at e0 e1 e2 e3
          have Hn : Hid (okName t.name = true) := hn
          have hcase : t.name.toList.isEmpty = true ∨ (t.name.toList.isEmpty = false ∧ (t.name.toList == [95]) = true) ∨ (t.name.toList.isEmpty = false ∧ (t.name.toList == [95]) = false ∧ isName t.name = true) := by
            unfold okName at hn
            cases hq1 : t.name.toList.isEmpty <;> cases hq2 : (t.name.toList == [95]) <;> simp_all
          clear hn
          have ra := run_andT
          have rb := run_andTK
          have hq : (andT t.args[0] == 0) = !typB t.args[0] := by unfold andT; cases typB t.args[0] <;> rfl
          cases ht0 : typB t.args[0]
          · rw [ht0, Bool.not_false] at hq
            have Ht0 := Lib.hid ht0
            clear ht0
            rcases hcase with n1 | ⟨n1, n2⟩ | ⟨n1, n2, n3⟩
            all_goals
              go_enter Try.func98, Try.ntmps98
              go_wp2_with (go_at_call 100; refine (refIsName_calls _ _).use fun w1 hb => ?_; rw [n3]; replace hk := bk_below hk hb; replace hB := bl_self hB hb; clear hb; obtain ⟨c0, c1, c2, c3⟩ := bx4 hk; obtain ⟨A0, cc0, _, e0, e1, e2, e3, hl0, hr0⟩ := (hr.below hB).tmb 0 h0; simp only [Nat.zero_mul, Nat.add_zero] at e0 e1 e2 e3)
              refine (H.out t.args[0] A0 cc0 _ S (by omega) (by omega) hr0).use fun w2 hb => ?_
              replace hB := bl_self hB hb
              go_wp2_with fail
              go_ret
              exact ⟨by rw [H0.out, Ht0.out]; rfl, hB⟩
          · rw [ht0, Bool.not_true] at hq
            have Ht0 := Lib.hid ht0
            clear ht0
            rcases hcase with n1 | ⟨n1, n2⟩ | ⟨n1, n2, n3⟩
            all_goals
              go_enter Try.func98, Try.ntmps98
              go_wp2_with (go_at_call 100; refine (refIsName_calls _ _).use fun w1 hb => ?_; rw [n3]; replace hk := bk_below hk hb; replace hB := bl_self hB hb; clear hb; obtain ⟨c0, c1, c2, c3⟩ := bx4 hk; obtain ⟨A0, cc0, _, e0, e1, e2, e3, hl0, hr0⟩ := (hr.below hB).tmb 0 h0; simp only [Nat.zero_mul, Nat.add_zero] at e0 e1 e2 e3)
              refine (H.out t.args[0] A0 cc0 _ S (by omega) (by omega) hr0).use fun w2 hb => ?_
              replace hk := bk_below hk hb
              replace hB := bl_self hB hb
              obtain ⟨c0, c1, c2, c3⟩ := bx4 hk
              obtain ⟨A1, cc1, _, g0, g1, g2, g3, hl1, hr1⟩ := (hr.below hB).tmb1 h1'
              go_wp2_with fail
              refine (H.out t.args[1] A1 cc1 _ S (by omega) (by omega) hr1).use fun w3 hb => ?_
              replace hB := bl_self hB hb
              go_wp2_with fail
              go_ret
              exact ⟨by rw [H0.out, Ht0.out]; rfl, hB⟩
  · -- Lam
    cases hi : (t.idx == 0)
    · have hbn : boundB t 1 = false := by simp [boundB, hi]
      have H0 := Lib.hid (sortN_3 k3 hbn)
      go_enter Try.func98, Try.ntmps98
      go_wp2_with (go_at_call 100; refine (refIsName_calls _ _).use fun w1 hb => ?_; replace hk := bk_below hk hb; replace hB := bl_self hB hb; clear hb; obtain ⟨c0, c1, c2, c3⟩ := bx4 hk)
      all_goals (go_ret; exact ⟨by rw [H0.out]; rfl, by first | exact hB | exact bl_new _ _⟩)
    · cases hl : ((t.args.length : Int) == 1)
      · have hbn : boundB t 1 = false := by rw [boundB, hl]; simp
        have H0 := Lib.hid (sortN_3 k3 hbn)
        go_enter Try.func98, Try.ntmps98
        go_wp2_with (go_at_call 100; refine (refIsName_calls _ _).use fun w1 hb => ?_; replace hk := bk_below hk hb; replace hB := bl_self hB hb; clear hb; obtain ⟨c0, c1, c2, c3⟩ := bx4 hk)
        all_goals (go_ret; exact ⟨by rw [H0.out]; rfl, by first | exact hB | exact bl_new _ _⟩)
      · have hl2 : ((t.args.length : Int) == 2) = false := by rw [beq_eq_false_iff_ne]; rw [beq_iff_eq] at hl; omega
        cases hn : okName t.name
        · have hbn : boundB t 1 = false := by rw [boundB, hn]; simp
          have H0 := Lib.hid (sortN_3 k3 hbn)
          simp only [okName, Bool.or_eq_false_iff] at hn
          obtain ⟨⟨e1, e2⟩, e3⟩ := hn
          clear hbn
          go_enter Try.func98, Try.ntmps98
          go_wp2_with (go_at_call 100; refine (refIsName_calls _ _).use fun w1 hb => ?_; rw [e3]; replace hk := bk_below hk hb; replace hB := bl_self hB hb; clear hb; obtain ⟨c0, c1, c2, c3⟩ := bx4 hk)
          all_goals (go_ret; exact ⟨by rw [H0.out]; rfl, by first | exact hB | exact bl_new _ _⟩)
        · have hbn : boundB t 1 = true := by rw [boundB, hi, hl, hn]; rfl
          have hln := bound_len (n := 1) hbn
          have h0 : 0 < t.args.length := by omega
          have H0 := Lib.hid (sortN_3y k3 hbn h0)
          have hs0 := tsizes_mem t.args 0 h0
          obtain ⟨b, o, A0, cc0, rfl, _, e0, e1, e2, e3, hl0, hr0⟩ := hr.tm0 h0
          clear e0 e1 e2 e3 hl0 hr0 hbn hln
          obtain ⟨A0, cc0, _, e0, e1, e2, e3, hl0, hr0⟩ := (hr.below hB).tmb 0 h0
          simp only [Nat.zero_mul, Nat.add_zero] at e0 e1 e2 e3
          have hcase : t.name.toList.isEmpty = true ∨ (t.name.toList.isEmpty = false ∧ (t.name.toList == [95]) = true) ∨ (t.name.toList.isEmpty = false ∧ (t.name.toList == [95]) = false ∧ isName t.name = true) := by
            unfold okName at hn
            cases hq1 : t.name.toList.isEmpty <;> cases hq2 : (t.name.toList == [95]) <;> simp_all
          clear hn
          have ra := run_andO
          rcases hcase with n1 | ⟨n1, n2⟩ | ⟨n1, n2, n3⟩
          all_goals
            go_enter Try.func98, Try.ntmps98
            go_wp2_with (go_at_call 100; refine (refIsName_calls _ _).use fun w1 hb => ?_; rw [n3]; replace hk := bk_below hk hb; replace hB := bl_self hB hb; clear hb; obtain ⟨c0, c1, c2, c3⟩ := bx4 hk; obtain ⟨A0, cc0, _, e0, e1, e2, e3, hl0, hr0⟩ := (hr.below hB).tmb 0 h0; simp only [Nat.zero_mul, Nat.add_zero] at e0 e1 e2 e3)
            refine (H.out t.args[0] A0 cc0 _ S (by omega) (by omega) hr0).use fun w2 hb => ?_
            replace hB := bl_self hB hb
            go_wp2_with fail
            go_ret
            exact ⟨by rw [H0.out]; rfl, hB⟩
  · -- Const
    have hz : ((t.args.length : Int) == 0) = false ∨ ((t.args.length : Int) == 0) = true := by cases ((t.args.length : Int) == 0) <;> simp
    cases hn : isName t.name
    · have H0 := Lib.hid ((sortN_4 k4).trans (by rw [hn]; rfl) : sortN t = 0)
      have Hn := Lib.hid hn
      clear hn
      go_enter Try.func98, Try.ntmps98
      go_wp2_with (go_at_call 100; refine (refIsName_calls _ _).use fun w1 hb => ?_; rw [Hn.out]; replace hk := bk_below hk hb; replace hB := bl_self hB hb; clear hb; obtain ⟨c0, c1, c2, c3⟩ := bx4 hk)
      all_goals (go_ret; exact ⟨by rw [H0.out]; rfl, by first | exact hB | exact bl_new _ _⟩)
    · have Hn := Lib.hid hn
      cases hi : (t.idx == 0)
      · have H0 := Lib.hid ((sortN_4 k4).trans (by rw [hn, hi]; rfl) : sortN t = 0)
        clear hn
        go_enter Try.func98, Try.ntmps98
        go_wp2_with (go_at_call 100; refine (refIsName_calls _ _).use fun w1 hb => ?_; rw [Hn.out]; replace hk := bk_below hk hb; replace hB := bl_self hB hb; clear hb; obtain ⟨c0, c1, c2, c3⟩ := bx4 hk)
        all_goals (go_ret; exact ⟨by rw [H0.out]; rfl, by first | exact hB | exact bl_new _ _⟩)
      · have H0 := Lib.hid ((sortN_4 k4).trans (by rw [hn, hi]; rfl) : sortN t = if objBs t.args then 3 else 0)
        clear hn
        have ra := run_andO
        go_enter Try.func98, Try.ntmps98
        go_wp2_with (go_at_call 100; refine (refIsName_calls _ _).use fun w1 hb => ?_; rw [Hn.out]; replace hk := bk_below hk hb; replace hB := bl_self hB hb; clear hb; obtain ⟨c0, c1, c2, c3⟩ := bx4 hk)
        go_loopw [6] (fun i w' => ∃ m : Nat, m ≤ t.args.length ∧ i = .int .i64 m ∧ objBs (t.args.take m) = true ∧ w'.heap[w.heap.size]? = some (.cells (tmB t A c) 33 (0, 0)) ∧ Below w.heap.size w w') (fun i _ => t.args.length - (intOf i).toNat)
        case atStart => exact ⟨0, by omega, rfl, by simp [objBs], hk, hB⟩
        case round =>
          clear hk hB
          (try clear c0 c1 c2 c3)
          obtain ⟨m, hm, rfl, hall, hk, hB⟩ := hrel
          have Hall := Lib.hid hall
          clear hall
          obtain ⟨c0, c1, c2, c3⟩ := bx4 hk
          by_cases hlt : m < t.args.length
          · obtain ⟨b, o, A', c', rfl, _, e0, e1, e2, e3, hl', hr'⟩ := (hr.below hB).tm m hlt
            have hm1 := tsizes_mem t.args m hlt
            have hq : (andO t.args[m] == 0) = !objB t.args[m] := by unfold andO; cases objB t.args[m] <;> rfl
            cases ho : objB t.args[m]
            · rw [ho, Bool.not_false] at hq
              have Ho := Lib.hid ho
              clear ho
              go_wp2_with fail
              refine (H.out t.args[m] A' c' _ S (by omega) (by omega) hr').use fun w1 hb => ?_
              replace hB := bl_self hB hb
              go_wp2_with fail
              go_ret
              exact ⟨by rw [H0.out, objBs_no m hlt Ho.out]; rfl, hB⟩
            · rw [ho, Bool.not_true] at hq
              have Ho := Lib.hid ho
              clear ho
              go_wp2_with fail
              refine (H.out t.args[m] A' c' _ S (by omega) (by omega) hr').use fun w1 hb => ?_
              replace hk := bk_below hk hb
              replace hB := bl_self hB hb
              go_wp2_with fail
              go_roundw
              case rel => exact ⟨m + 1, by omega, by go_num, objBs_snoc m hlt Hall.out Ho.out, hk, hB⟩
              case measure => simp [intOf]; omega
          · obtain rfl : m = t.args.length := by omega
            have hok : objBs t.args = true := by have := Hall.out; rwa [List.take_length] at this
            have Hok := Lib.hid hok
            clear hok
            go_wp2_with fail
            go_ret
            exact ⟨by rw [H0.out, Hok.out]; rfl, hB⟩
  · -- Var
    cases hn : t.name.toList.isEmpty
    · have H0 := Lib.hid ((sortN_5 k5).trans (by rw [hn]; rfl) : sortN t = 0)
      go_enter Try.func98, Try.ntmps98
      go_wp2_with fail
      all_goals (go_ret; exact ⟨by rw [H0.out]; rfl, by first | exact hB | exact bl_new _ _⟩)
    · by_cases hi : 0 ≤ t.idx
      · by_cases hi2 : t.idx ≤ 1048576
        · have H0 := Lib.hid ((sortN_5 k5).trans (by rw [hn, decide_eq_true hi, decide_eq_true hi2]; rfl) : sortN t = if objBs t.args then 1 else 0)
          have ra := run_andO
          go_enter Try.func98, Try.ntmps98
          go_wp2_with fail
          go_loopw [6] (fun i w' => ∃ m : Nat, m ≤ t.args.length ∧ i = .int .i64 m ∧ objBs (t.args.take m) = true ∧ w'.heap[w.heap.size]? = some (.cells (tmB t A c) 33 (0, 0)) ∧ Below w.heap.size w w') (fun i _ => t.args.length - (intOf i).toNat)
          case atStart => exact ⟨0, by omega, rfl, by simp [objBs], hk, hB⟩
          case round =>
            clear hk hB
            (try clear c0 c1 c2 c3)
            obtain ⟨m, hm, rfl, hall, hk, hB⟩ := hrel
            have Hall := Lib.hid hall
            clear hall
            obtain ⟨c0, c1, c2, c3⟩ := bx4 hk
            by_cases hlt : m < t.args.length
            · obtain ⟨b, o, A', c', rfl, _, e0, e1, e2, e3, hl', hr'⟩ := (hr.below hB).tm m hlt
              have hm1 := tsizes_mem t.args m hlt
              have hq : (andO t.args[m] == 0) = !objB t.args[m] := by unfold andO; cases objB t.args[m] <;> rfl
              cases ho : objB t.args[m]
              · rw [ho, Bool.not_false] at hq
                have Ho := Lib.hid ho
                clear ho
                go_wp2_with fail
                refine (H.out t.args[m] A' c' _ S (by omega) (by omega) hr').use fun w1 hb => ?_
                replace hB := bl_self hB hb
                go_wp2_with fail
                go_ret
                exact ⟨by rw [H0.out, objBs_no m hlt Ho.out]; rfl, hB⟩
              · rw [ho, Bool.not_true] at hq
                have Ho := Lib.hid ho
                clear ho
                go_wp2_with fail
                refine (H.out t.args[m] A' c' _ S (by omega) (by omega) hr').use fun w1 hb => ?_
                replace hk := bk_below hk hb
                replace hB := bl_self hB hb
                go_wp2_with fail
                go_roundw
                case rel => exact ⟨m + 1, by omega, by go_num, objBs_snoc m hlt Hall.out Ho.out, hk, hB⟩
                case measure => simp [intOf]; omega
            · obtain rfl : m = t.args.length := by omega
              have hok : objBs t.args = true := by have := Hall.out; rwa [List.take_length] at this
              have Hok := Lib.hid hok
              clear hok
              go_wp2_with fail
              go_ret
              exact ⟨by rw [H0.out, Hok.out]; rfl, hB⟩
        · have H0 := Lib.hid ((sortN_5 k5).trans (by rw [decide_eq_false hi2]; simp) : sortN t = 0)
          go_enter Try.func98, Try.ntmps98
          go_wp2_with fail
          all_goals (go_ret; exact ⟨by rw [H0.out]; rfl, by first | exact hB | exact bl_new _ _⟩)
      · have H0 := Lib.hid ((sortN_5 k5).trans (by rw [decide_eq_false hi]; simp) : sortN t = 0)
        go_enter Try.func98, Try.ntmps98
        go_wp2_with fail
        all_goals (go_ret; exact ⟨by rw [H0.out]; rfl, by first | exact hB | exact bl_new _ _⟩)
  · -- Meta
    cases hn : t.name.toList.isEmpty
    · have H0 := Lib.hid ((sortN_6 k6).trans (by rw [hn]; rfl) : sortN t = 0)
      go_enter Try.func98, Try.ntmps98
      go_wp2_with fail
      all_goals (go_ret; exact ⟨by rw [H0.out]; rfl, by first | exact hB | exact bl_new _ _⟩)
    · by_cases hi : 0 ≤ t.idx
      · by_cases hi2 : t.idx < 2048
        · have H0 := Lib.hid ((sortN_6 k6).trans (by rw [hn, decide_eq_true hi, decide_eq_true hi2]; rfl) : sortN t = if objBs t.args then 1 else 0)
          have ra := run_andO
          go_enter Try.func98, Try.ntmps98
          go_wp2_with fail
          go_loopw [6] (fun i w' => ∃ m : Nat, m ≤ t.args.length ∧ i = .int .i64 m ∧ objBs (t.args.take m) = true ∧ w'.heap[w.heap.size]? = some (.cells (tmB t A c) 33 (0, 0)) ∧ Below w.heap.size w w') (fun i _ => t.args.length - (intOf i).toNat)
          case atStart => exact ⟨0, by omega, rfl, by simp [objBs], hk, hB⟩
          case round =>
            clear hk hB
            (try clear c0 c1 c2 c3)
            obtain ⟨m, hm, rfl, hall, hk, hB⟩ := hrel
            have Hall := Lib.hid hall
            clear hall
            obtain ⟨c0, c1, c2, c3⟩ := bx4 hk
            by_cases hlt : m < t.args.length
            · obtain ⟨b, o, A', c', rfl, _, e0, e1, e2, e3, hl', hr'⟩ := (hr.below hB).tm m hlt
              have hm1 := tsizes_mem t.args m hlt
              have hq : (andO t.args[m] == 0) = !objB t.args[m] := by unfold andO; cases objB t.args[m] <;> rfl
              cases ho : objB t.args[m]
              · rw [ho, Bool.not_false] at hq
                have Ho := Lib.hid ho
                clear ho
                go_wp2_with fail
                refine (H.out t.args[m] A' c' _ S (by omega) (by omega) hr').use fun w1 hb => ?_
                replace hB := bl_self hB hb
                go_wp2_with fail
                go_ret
                exact ⟨by rw [H0.out, objBs_no m hlt Ho.out]; rfl, hB⟩
              · rw [ho, Bool.not_true] at hq
                have Ho := Lib.hid ho
                clear ho
                go_wp2_with fail
                refine (H.out t.args[m] A' c' _ S (by omega) (by omega) hr').use fun w1 hb => ?_
                replace hk := bk_below hk hb
                replace hB := bl_self hB hb
                go_wp2_with fail
                go_roundw
                case rel => exact ⟨m + 1, by omega, by go_num, objBs_snoc m hlt Hall.out Ho.out, hk, hB⟩
                case measure => simp [intOf]; omega
            · obtain rfl : m = t.args.length := by omega
              have hok : objBs t.args = true := by have := Hall.out; rwa [List.take_length] at this
              have Hok := Lib.hid hok
              clear hok
              go_wp2_with fail
              go_ret
              exact ⟨by rw [H0.out, Hok.out]; rfl, hB⟩
        · have H0 := Lib.hid ((sortN_6 k6).trans (by rw [decide_eq_false hi2]; simp) : sortN t = 0)
          go_enter Try.func98, Try.ntmps98
          go_wp2_with fail
          all_goals (go_ret; exact ⟨by rw [H0.out]; rfl, by first | exact hB | exact bl_new _ _⟩)
      · have H0 := Lib.hid ((sortN_6 k6).trans (by rw [decide_eq_false hi]; simp) : sortN t = 0)
        go_enter Try.func98, Try.ntmps98
        go_wp2_with fail
        all_goals (go_ret; exact ⟨by rw [H0.out]; rfl, by first | exact hB | exact bl_new _ _⟩)
  · have H0 := Lib.hid (sortN_0 k1 k2 k3 k4 k5 k6)
    go_enter Try.func98, Try.ntmps98
    go_wp2_with fail
    all_goals (go_ret; exact ⟨by rw [H0.out]; rfl, by first | exact hB | exact bl_new _ _⟩)
end Go.Proofs.Ytolooomphmcphaa
