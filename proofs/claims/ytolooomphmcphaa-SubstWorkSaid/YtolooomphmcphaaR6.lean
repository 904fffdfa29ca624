/- The reference's packages lfcheckref05 and lfcheckref06: Size, Depth, Small, WellFormed, IsObject, IsType, IsKind, Under. -/
import Derived.StillTailTactics
import Derived.Test.YtolooomphmcphaaR5
namespace Go.Proofs.Ytolooomphmcphaa
open Go.RowKit

theorem refSize_calls (n : Nat) : ∀ (t : Tm) (A : Option Addr) (c : Nat) (w : World) (S : Nat → Prop), tsize t < n → tsize t < 1000000000 → Rd tmK w S A t.args →
    Giv Try.prog 42 #[tmV t A c] w (.int .i64 (tsize t)) := by
  induction n with
  | zero => intro t A c w S h; omega
  | succ n ih =>
  intro t A c w S h1 h2 hr
  have hts := tsize_eq t
  have hla := len_le_tsizes t.args
  have H := Lib.hid ih
  clear ih
  have Hts := Lib.hid hts
  have hts1 : 1 + tsizes t.args ≤ tsize t := by omega
  clear hts
  have hk := bk_new w (.cells (tmB t A c) 33)
  have hB := bl_new w (.cells (tmB t A c) 33)
  go_enter Try.func42, Try.ntmps42
  go_wp2_with fail
  go_loopw [3, 4] (fun v i w' => ∃ m : Nat, m ≤ t.args.length ∧ i = .int .i64 m ∧ v = .int .i64 (1 + tsizes (t.args.take m)) ∧ w'.heap[w.heap.size]? = some (.cells (tmB t A c) 33 (0, 0)) ∧ Below w.heap.size w w') (fun _ i _ => t.args.length - (intOf i).toNat)
  case atStart => exact ⟨0, by omega, rfl, by simp [tsizes], hk, hB⟩
  case round =>
    clear hk hB
    obtain ⟨m, hm, rfl, rfl, hk, hB⟩ := hrel
    have hlt1 := tsizes_take_le t.args m
    obtain ⟨c0, c1, c2, c3⟩ := bx4 hk
    by_cases hlt : m < t.args.length
    · obtain ⟨b, o, A', c', rfl, _, e0, e1, e2, e3, hl', hr'⟩ := (hr.below hB).tm m hlt
      have hm1 := tsizes_mem t.args m hlt
      have Hd := Lib.hid (tsizes_take t.args m hlt)
      have hle : tsizes (t.args.take m) + tsize t.args[m] ≤ 1000000000 := by have := Hd.out; have := tsizes_take_le t.args (m + 1); omega
      go_wp2_with fail
      refine (H.out t.args[m] A' c' _ S (by omega) (by omega) hr').use fun w1 hb => ?_
      replace hk := bk_below hk hb
      replace hB := bl_self hB hb
      go_wp2_with fail
      go_roundw
      case rel => exact ⟨m + 1, by omega, by go_num, by rw [Hd.out]; go_num, hk, hB⟩
      case measure => simp [intOf]; omega
    · obtain rfl : m = t.args.length := by omega
      go_wp2_with fail
      go_ret
      exact ⟨by rw [Hts.out]; simp, hB⟩
theorem refDepth_calls (n : Nat) : ∀ (t : Tm) (A : Option Addr) (c : Nat) (w : World) (S : Nat → Prop), tsize t < n → tsize t < 1000000000 → Rd tmK w S A t.args →
    Giv Try.prog 41 #[tmV t A c] w (.int .i64 (tdep t)) := by
  induction n with
  | zero => intro t A c w S h; omega
  | succ n ih =>
  intro t A c w S h1 h2 hr
  have hts1 : tsizes t.args < tsize t := by have := tsize_eq t; omega
  have hla := len_le_tsizes t.args
  have H := Lib.hid ih
  clear ih
  have hk := bk_new w (.cells (tmB t A c) 33)
  have hB := bl_new w (.cells (tmB t A c) 33)
  go_enter Try.func41, Try.ntmps41
  go_wp2_with fail
  go_loopw [3, 4] (fun v i w' => ∃ m : Nat, m ≤ t.args.length ∧ i = .int .i64 m ∧ v = .int .i64 (tdeps (t.args.take m)) ∧ w'.heap[w.heap.size]? = some (.cells (tmB t A c) 33 (0, 0)) ∧ Below w.heap.size w w') (fun _ i _ => t.args.length - (intOf i).toNat)
  case atStart => exact ⟨0, by omega, rfl, by simp [tdeps], hk, hB⟩
  case round =>
    clear hk hB
    obtain ⟨m, hm, rfl, rfl, hk, hB⟩ := hrel
    have hlt0 := tdeps_le (t.args.take m)
    have hlt1 := tsizes_take_le t.args m
    obtain ⟨c0, c1, c2, c3⟩ := bx4 hk
    by_cases hlt : m < t.args.length
    · obtain ⟨b, o, A', c', rfl, _, e0, e1, e2, e3, hl', hr'⟩ := (hr.below hB).tm m hlt
      have hm1 := tsizes_mem t.args m hlt
      have hd1 := tdep_le t.args[m]
      have Hd := Lib.hid (tdeps_take t.args m hlt)
      go_wp2_with fail
      refine (H.out t.args[m] A' c' _ S (by omega) (by omega) hr').use fun w1 hb => ?_
      replace hk := bk_below hk hb
      replace hB := bl_self hB hb
      go_wp2_with fail
      go_roundw
      case rel => exact ⟨m + 1, by omega, by go_num, by rw [Hd.out]; go_num, hk, hB⟩
      case measure => simp [intOf]; omega
    · obtain rfl : m = t.args.length := by omega
      have hd := tdeps_le t.args
      go_wp2_with fail
      go_ret
      exact ⟨by rw [tdep_eq]; go_num, hB⟩
theorem refSmall_calls (t : Tm) (A : Option Addr) (c : Nat) (S : Nat → Prop) (w : World) (h2 : tsize t < 1000000000) (hr : Rd tmK w S A t.args) : Giv Try.prog 99 #[tmV t A c] w (.bool (smallB t)) := by
  have hd := tdep_le t
  by_cases h : tsize t ≤ 4096
  · go_enter Try.func99, Try.ntmps99
    go_wp2_with fail
    refine (refSize_calls _ t A c _ S (Nat.lt_succ_self _) h2 (hr.below (bl_new _ _))).use fun w1 hb1 => ?_
    obtain ⟨c0, c1, c2, c3⟩ := bx4 (bk_below (bk_new w _) hb1)
    go_wp2_with fail
    refine (refDepth_calls _ t A c _ S (Nat.lt_succ_self _) h2 (hr.below (bl_self (bl_new _ _) hb1))).use fun w2 hb2 => ?_
    go_wp2_with fail
    go_ret
    exact ⟨by simp [smallB, h]; omega, bl_self (bl_self (bl_new _ _) hb1) hb2⟩
  · go_enter Try.func99, Try.ntmps99
    go_wp2_with fail
    refine (refSize_calls _ t A c _ S (Nat.lt_succ_self _) h2 (hr.below (bl_new _ _))).use fun w1 hb1 => ?_
    go_wp2_with fail
    go_ret
    exact ⟨by simp [smallB]; omega, bl_self (bl_new _ _) hb1⟩
theorem sorts_c (t : Tm) (A : Option Addr) (c : Nat) (S : Nat → Prop) (w : World) (h2 : tsize t < 1000000000) (hr : Rd tmK w S A t.args) : Giv Try.prog 98 #[tmV t A c] w (.int .i64 (sortN t)) :=
  sorts_calls _ t A c w S (Nat.lt_succ_self _) h2 hr
theorem sortN_zero (t : Tm) : (sortN t == 0) = (!objB t && !typB t && !kndB t) := by
  unfold sortN
  cases objB t <;> cases typB t <;> cases kndB t <;> rfl
theorem andO_ne (t : Tm) : (andO t != 0) = objB t := by unfold andO; cases objB t <;> rfl
theorem andT_ne (t : Tm) : (andT t != 0) = typB t := by unfold andT; cases typB t <;> rfl
def andK (t : Tm) : Int := if kndB t then 4 else 0
theorem run_andK (t : Tm) : bits .and .i64 (sortN t) 4 = andK t := by
  unfold andK
  rcases sortN_vals t with ⟨_, _, h, e⟩ | ⟨_, _, h, e⟩ | ⟨_, _, h, e⟩ | ⟨_, _, h, e⟩ | ⟨_, _, h, e⟩ <;> rw [h, e] <;> decide
theorem andK_ne (t : Tm) : (andK t != 0) = kndB t := by unfold andK; cases kndB t <;> rfl
theorem refWellFormed_calls (t : Tm) (A : Option Addr) (c : Nat) (S : Nat → Prop) (w : World) (h2 : tsize t < 1000000000) (hr : Rd tmK w S A t.args) : Giv Try.prog 82 #[tmV t A c] w (.int .i64 (wfE t)) := by
  have hk := bk_new w (.cells (tmB t A c) 33)
  have hB := bl_new w (.cells (tmB t A c) 33)
  have Hz := Lib.hid (sortN_zero t)
  go_enter Try.func82, Try.ntmps82
  go_wp2_with (first
    | (go_at_call 98; refine (sorts_c t A c S _ h2 (hr.below hB)).use fun w1 hb => ?_; replace hk := bk_below hk hb; replace hB := bl_self hB hb; clear hb; obtain ⟨c0, c1, c2, c3⟩ := bx4 hk)
    | (go_at_call 99; refine (refSmall_calls t A c S _ h2 (hr.below hB)).use fun w1 hb => ?_; replace hk := bk_below hk hb; replace hB := bl_self hB hb))
  all_goals (go_ret; exact ⟨by have hz := Hz.out; simp_all [wfE], hB⟩)
theorem refIsObject_calls (t : Tm) (A : Option Addr) (c : Nat) (S : Nat → Prop) (w : World) (h2 : tsize t < 1000000000) (hr : Rd tmK w S A t.args) : Giv Try.prog 86 #[tmV t A c] w (.bool (objB t && smallB t)) := by
  have hk := bk_new w (.cells (tmB t A c) 33)
  have hB := bl_new w (.cells (tmB t A c) 33)
  have ra := run_andO
  have rb := andO_ne
  go_enter Try.func86, Try.ntmps86
  go_wp2_with (first
    | (go_at_call 98; refine (sorts_c t A c S _ h2 (hr.below hB)).use fun w1 hb => ?_; replace hk := bk_below hk hb; replace hB := bl_self hB hb; clear hb; obtain ⟨c0, c1, c2, c3⟩ := bx4 hk)
    | (go_at_call 99; refine (refSmall_calls t A c S _ h2 (hr.below hB)).use fun w1 hb => ?_; replace hk := bk_below hk hb; replace hB := bl_self hB hb))
  all_goals (go_ret; exact ⟨by simp [*], hB⟩)
def underN (k : Int) (j : Int) : Int := if k = 3 ∨ (k = 2 ∧ j = 1) then 1 else 0
theorem under_calls (t : Tm) (A : Option Addr) (c : Nat) (j : Int) (w : World) : Giv Try.prog 31 #[tmV t A c, .int .i64 j] w (.int .i64 (underN t.kind j)) := by
  go_enter Try.func31, Try.ntmps31
  go_wp2_with fail
  all_goals (go_ret; exact ⟨by simp_all [underN], by first | exact bl_new _ _⟩)
theorem sameT_eq (t u : Tm) : sameT t u = (t.kind == u.kind && t.idx == u.idx && (t.kind == 2 || t.kind == 3 || t.name.toList == u.name.toList) && sameTs t.args u.args) := by cases t; simp only [sameT, Tm.kind, Tm.idx, Tm.name, Tm.args]
theorem sameTs_len : ∀ (a b : List Tm), a.length ≠ b.length → sameTs a b = false
  | [], [], h => absurd rfl h
  | [], _ :: _, _ => by simp [sameTs]
  | _ :: _, [], _ => by simp [sameTs]
  | t :: r, u :: v, h => by simp only [sameTs]; rw [sameTs_len r v (by simpa using h)]; simp
theorem sameTs_take : ∀ (a b : List Tm) (m : Nat) (h : m < a.length) (h' : m < b.length), sameTs (a.take (m + 1)) (b.take (m + 1)) = (sameTs (a.take m) (b.take m) && sameT a[m] b[m])
  | t :: r, u :: v, 0, _, _ => by simp [sameTs]
  | t :: r, u :: v, m + 1, h, h' => by
    have := sameTs_take r v m (by simpa using h) (by simpa using h')
    simp only [List.take_succ_cons, sameTs, List.getElem_cons_succ]
    rw [this, Bool.and_assoc]
theorem sameTs_no : ∀ (a b : List Tm) (m : Nat) (h : m < a.length) (h' : m < b.length), sameT a[m] b[m] = false → sameTs a b = false
  | t :: r, u :: v, 0, _, _, e => by simp only [List.getElem_cons_zero] at e; simp [sameTs, e]
  | t :: r, u :: v, m + 1, h, h', e => by
    have := sameTs_no r v m (by simpa using h) (by simpa using h') (by simpa using e)
    simp [sameTs, this]
set_option maxRecDepth 100000 in
set_option maxHeartbeats 1000000 in
theorem refSame_calls (n : Nat) : ∀ (t u : Tm) (A B : Option Addr) (c d : Nat) (w : World) (S : Nat → Prop), tsize t < n → tsize t < 1000000000 → tsize u < 1000000000 → Rd tmK w S A t.args → Rd tmK w S B u.args →
    Giv Try.prog 12 #[tmV t A c, tmV u B d] w (.bool (sameT t u)) := by
  induction n with
  | zero => intro t u A B c d w S h; omega
  | succ n ih =>
  intro t u A B c d w S h1 h2 h3 hr hq
  have hts1 : tsizes t.args < tsize t := by have := tsize_eq t; omega
  have hus1 : tsizes u.args < tsize u := by have := tsize_eq u; omega
  have hla := len_le_tsizes t.args
  have hlu := len_le_tsizes u.args
  have H := Lib.hid ih
  clear ih
  have hk := bk_alloc (bk_new w (.cells (tmB t A c) 33)) (.cells (tmB u B d) 33)
  have hk2 := bk_new (w.alloc (.cells (tmB t A c) 33)) (.cells (tmB u B d) 33)
  have hB := bl_alloc (bl_new w (.cells (tmB t A c) 33)) (.cells (tmB u B d) 33)
  cases p1 : (t.kind == u.kind)
  · have p1' : (t.kind != u.kind) = true := by rw [bne, p1]; rfl
    have H0 := Lib.hid (by rw [sameT_eq, p1]; rfl : sameT t u = false)
    go_enter Try.func12, Try.ntmps12
    go_wp2_with fail
    go_ret
    exact ⟨by rw [H0.out]; rfl, by first | exact hB | exact bl_alloc (bl_new _ _) _⟩
  have p1' : (t.kind != u.kind) = false := by rw [bne, p1]; rfl
  cases p2 : (t.idx == u.idx)
  · have p2' : (t.idx != u.idx) = true := by rw [bne, p2]; rfl
    have H0 := Lib.hid (by rw [sameT_eq, p2]; simp : sameT t u = false)
    go_enter Try.func12, Try.ntmps12
    go_wp2_with fail
    go_ret
    exact ⟨by rw [H0.out]; rfl, by first | exact hB | exact bl_alloc (bl_new _ _) _⟩
  have p2' : (t.idx != u.idx) = false := by rw [bne, p2]; rfl
  by_cases p3 : t.args.length = u.args.length
  · have p3' : ((t.args.length : Int) != (u.args.length : Int)) = false := by rw [bne, Bool.not_eq_false', beq_iff_eq]; omega
    have hcase : ((t.kind != 2) = true ∧ (t.kind != 3) = true ∧ (t.name.toList == u.name.toList) = false ∧ (t.kind == 2 || t.kind == 3 || t.name.toList == u.name.toList) = false) ∨ (((t.kind != 2) = false ∧ (t.kind == 2 || t.kind == 3 || t.name.toList == u.name.toList) = true) ∨ ((t.kind != 2) = true ∧ (t.kind != 3) = false ∧ (t.kind == 2 || t.kind == 3 || t.name.toList == u.name.toList) = true) ∨ ((t.kind != 2) = true ∧ (t.kind != 3) = true ∧ (t.name.toList == u.name.toList) = true ∧ (t.kind == 2 || t.kind == 3 || t.name.toList == u.name.toList) = true)) := by
      rw [bne, bne]
      cases (t.kind == 2) <;> cases (t.kind == 3) <;> cases (t.name.toList == u.name.toList) <;> simp
    have H3 := Lib.hid p3
    have hle : t.args.length ≤ u.args.length := by omega
    have hge : u.args.length ≤ t.args.length := by omega
    clear p3
    rcases hcase with ⟨q2, q3, qn, qq⟩ | hok
    · have H0 : Hid (sameT t u = false) := by
        show sameT t u = false
        rw [sameT_eq, qq]; simp
      clear qq
      go_enter Try.func12, Try.ntmps12
      go_wp2_with fail
      go_ret
      exact ⟨by rw [H0.out]; rfl, hB⟩
    · have H0 : Hid (sameT t u = sameTs t.args u.args) := by
        show sameT t u = sameTs t.args u.args
        rw [sameT_eq, p1, p2]
        rcases hok with ⟨_, qq⟩ | ⟨_, _, qq⟩ | ⟨_, _, _, qq⟩ <;> rw [qq] <;> rfl
      rcases hok with ⟨q2, qq⟩ | ⟨q2, q3, qq⟩ | ⟨q2, q3, qn, qq⟩
      all_goals
        clear qq
        go_enter Try.func12, Try.ntmps12
        go_wp2_with fail
        go_loopw [5] (fun i w' => ∃ m : Nat, m ≤ t.args.length ∧ i = .int .i64 m ∧ sameTs (t.args.take m) (u.args.take m) = true ∧ w'.heap[w.heap.size]? = some (.cells (tmB t A c) 33 (0, 0)) ∧ w'.heap[w.heap.size + 1]? = some (.cells (tmB u B d) 33 (0, 0)) ∧ Below w.heap.size w w') (fun i _ => t.args.length - (intOf i).toNat)
        case atStart => exact ⟨0, by omega, rfl, by simp [sameTs], hk, by simpa using hk2, hB⟩
        case round =>
          clear hk hk2 hB
          obtain ⟨m, hm, rfl, hall, hk, hk2, hB⟩ := hrel
          have Hall := Lib.hid hall
          clear hall
          obtain ⟨c0, c1, c2, c3⟩ := bx4 hk
          obtain ⟨d0, d1, d2, d3⟩ := bx4 hk2
          by_cases hlt : m < t.args.length
          · have hlt' : m < u.args.length := by omega
            obtain ⟨b, o, A', c', rfl, _, e0, e1, e2, e3, hl', hr'⟩ := (hr.below hB).tm m hlt
            obtain ⟨b', o', B', d', rfl, _, f0, f1, f2, f3, hl'', hq'⟩ := (hq.below hB).tm m hlt'
            have hm1 := tsizes_mem t.args m hlt
            have hm2 := tsizes_mem u.args m hlt'
            cases hs : sameT t.args[m] u.args[m]
            · have Hs := Lib.hid hs
              clear hs
              go_wp2_with fail
              go_still_tail 10, (by kernel_rfl)
              go_wp2_with fail
              refine (H.out t.args[m] u.args[m] A' B' c' d' _ S (by omega) (by omega) (by omega) hr'.drew hq'.drew).use fun w1 hb => ?_
              rw [Hs.out]
              replace hB := bl_self hB (bl_undrew hb)
              go_wp2_with fail
              go_ret
              exact ⟨by rw [H0.out, sameTs_no _ _ m hlt hlt' Hs.out]; rfl, hB⟩
            · have Hs := Lib.hid hs
              clear hs
              go_wp2_with fail
              go_still_tail 10, (by kernel_rfl)
              go_wp2_with fail
              refine (H.out t.args[m] u.args[m] A' B' c' d' _ S (by omega) (by omega) (by omega) hr'.drew hq'.drew).use fun w1 hb => ?_
              rw [Hs.out]
              replace hB := bl_self hB (bl_undrew hb)
              replace hk := bk_below hk (bl_undrew hb)
              replace hk2 := bk_below hk2 (bl_undrew hb)
              go_wp2_with fail
              go_roundw
              case rel => exact ⟨m + 1, by omega, by go_num, by rw [sameTs_take _ _ m hlt hlt', Hall.out, Hs.out]; rfl, hk, hk2, hB⟩
              case measure => simp [intOf]; omega
          · obtain rfl : m = t.args.length := by omega
            have hok : sameTs t.args u.args = true := by have h4 := Hall.out; rw [List.take_length, H3.out, List.take_length] at h4; exact h4
            have Hok := Lib.hid hok
            clear hok
            go_wp2_with fail
            go_ret
            exact ⟨by rw [H0.out, Hok.out]; rfl, hB⟩
  · have p3' : ((t.args.length : Int) != (u.args.length : Int)) = true := by rw [bne, Bool.not_eq_true', beq_eq_false_iff_ne]; omega
    have H0 := Lib.hid (by rw [sameT_eq, sameTs_len _ _ p3]; simp : sameT t u = false)
    go_enter Try.func12, Try.ntmps12
    go_wp2_with fail
    go_ret
    exact ⟨by rw [H0.out]; rfl, by first | exact hB | exact bl_alloc (bl_new _ _) _⟩
end Go.Proofs.Ytolooomphmcphaa
