/- The program's package term: WellFormed, IsObject, IsType, IsKind. -/
import Derived.Test.YtolooomphmcphaaIu
namespace Go.Proofs.Ytolooomphmcphaa
open Go.RowKit

theorem small_calls (t : Tm) (A : Option Addr) (c : Nat) (S : Nat → Prop) (w : World) (h2 : tsize t < 1000000000) (hr : Rd tmK w S A t.args) : Giv Try.prog 60 #[tmV t A c] w (.bool (smallB t)) := by
  have hd := tdep_le t
  by_cases h : tsize t ≤ 4096
  · go_enter Try.func60, Try.ntmps60
    go_wp2_with fail
    refine (size_calls t A c S _ h2 (hr.below (bl_new _ _))).use fun w1 hb1 => ?_
    obtain ⟨c0, c1, c2, c3⟩ := bx4 (bk_below (bk_new w _) hb1)
    go_wp2_with fail
    refine (depth_calls _ t A c _ S (Nat.lt_succ_self _) h2 (hr.below (bl_self (bl_new _ _) hb1))).use fun w2 hb2 => ?_
    go_wp2_with fail
    go_ret
    exact ⟨by simp [smallB, h]; omega, bl_self (bl_self (bl_new _ _) hb1) hb2⟩
  · go_enter Try.func60, Try.ntmps60
    go_wp2_with fail
    refine (size_calls t A c S _ h2 (hr.below (bl_new _ _))).use fun w1 hb1 => ?_
    go_wp2_with fail
    go_ret
    exact ⟨by simp [smallB]; omega, bl_self (bl_new _ _) hb1⟩
theorem object_c (t : Tm) (A : Option Addr) (c : Nat) (S : Nat → Prop) (w : World) (h2 : tsize t < 1000000000) (hr : Rd tmK w S A t.args) : Giv Try.prog 57 #[tmV t A c] w (.bool (objB t)) :=
  object_calls _ t A c w S (Nat.lt_succ_self _) h2 hr
theorem typed_c (t : Tm) (A : Option Addr) (c : Nat) (S : Nat → Prop) (w : World) (h2 : tsize t < 1000000000) (hr : Rd tmK w S A t.args) : Giv Try.prog 58 #[tmV t A c] w (.bool (typB t)) :=
  typed_calls _ t A c w S (Nat.lt_succ_self _) h2 hr
theorem kind_c (t : Tm) (A : Option Addr) (c : Nat) (S : Nat → Prop) (w : World) (h2 : tsize t < 1000000000) (hr : Rd tmK w S A t.args) : Giv Try.prog 59 #[tmV t A c] w (.bool (kndB t)) :=
  kind_calls _ t A c w S (Nat.lt_succ_self _) h2 hr
theorem wellFormed_calls (t : Tm) (A : Option Addr) (c : Nat) (S : Nat → Prop) (w : World) (h2 : tsize t < 1000000000) (hr : Rd tmK w S A t.args) : Giv Try.prog 24 #[tmV t A c] w (.int .i64 (wfE t)) := by
  have hk := bk_new w (.cells (tmB t A c) 33)
  have hB := bl_new w (.cells (tmB t A c) 33)
  go_enter Try.func24, Try.ntmps24
  go_wp2_with (first
    | (go_at_call 57; refine (object_c t A c S _ h2 (hr.below hB)).use fun w1 hb => ?_; replace hk := bk_below hk hb; replace hB := bl_self hB hb; clear hb; obtain ⟨c0, c1, c2, c3⟩ := bx4 hk)
    | (go_at_call 58; refine (typed_c t A c S _ h2 (hr.below hB)).use fun w1 hb => ?_; replace hk := bk_below hk hb; replace hB := bl_self hB hb; clear hb; obtain ⟨c0, c1, c2, c3⟩ := bx4 hk)
    | (go_at_call 59; refine (kind_c t A c S _ h2 (hr.below hB)).use fun w1 hb => ?_; replace hk := bk_below hk hb; replace hB := bl_self hB hb; clear hb; obtain ⟨c0, c1, c2, c3⟩ := bx4 hk)
    | (go_at_call 60; refine (small_calls t A c S _ h2 (hr.below hB)).use fun w1 hb => ?_; replace hk := bk_below hk hb; replace hB := bl_self hB hb))
  all_goals (go_ret; exact ⟨by simp_all [wfE], hB⟩)
theorem isObject_calls (t : Tm) (A : Option Addr) (c : Nat) (S : Nat → Prop) (w : World) (h2 : tsize t < 1000000000) (hr : Rd tmK w S A t.args) : Giv Try.prog 30 #[tmV t A c] w (.bool (objB t && smallB t)) := by
  have hk := bk_new w (.cells (tmB t A c) 33)
  have hB := bl_new w (.cells (tmB t A c) 33)
  go_enter Try.func30, Try.ntmps30
  go_wp2_with (first
    | (go_at_call 57; refine (object_c t A c S _ h2 (hr.below hB)).use fun w1 hb => ?_; replace hk := bk_below hk hb; replace hB := bl_self hB hb; clear hb; obtain ⟨c0, c1, c2, c3⟩ := bx4 hk)
    | (go_at_call 60; refine (small_calls t A c S _ h2 (hr.below hB)).use fun w1 hb => ?_; replace hk := bk_below hk hb; replace hB := bl_self hB hb))
  all_goals (go_ret; exact ⟨by simp [*], hB⟩)
theorem isType_calls (t : Tm) (A : Option Addr) (c : Nat) (S : Nat → Prop) (w : World) (h2 : tsize t < 1000000000) (hr : Rd tmK w S A t.args) : Giv Try.prog 66 #[tmV t A c] w (.bool (typB t && smallB t)) := by
  have hk := bk_new w (.cells (tmB t A c) 33)
  have hB := bl_new w (.cells (tmB t A c) 33)
  go_enter Try.func66, Try.ntmps66
  go_wp2_with (first
    | (go_at_call 58; refine (typed_c t A c S _ h2 (hr.below hB)).use fun w1 hb => ?_; replace hk := bk_below hk hb; replace hB := bl_self hB hb; clear hb; obtain ⟨c0, c1, c2, c3⟩ := bx4 hk)
    | (go_at_call 60; refine (small_calls t A c S _ h2 (hr.below hB)).use fun w1 hb => ?_; replace hk := bk_below hk hb; replace hB := bl_self hB hb))
  all_goals (go_ret; exact ⟨by simp [*], hB⟩)
theorem isKind_calls (t : Tm) (A : Option Addr) (c : Nat) (S : Nat → Prop) (w : World) (h2 : tsize t < 1000000000) (hr : Rd tmK w S A t.args) : Giv Try.prog 67 #[tmV t A c] w (.bool (kndB t && smallB t)) := by
  have hk := bk_new w (.cells (tmB t A c) 33)
  have hB := bl_new w (.cells (tmB t A c) 33)
  go_enter Try.func67, Try.ntmps67
  go_wp2_with (first
    | (go_at_call 59; refine (kind_c t A c S _ h2 (hr.below hB)).use fun w1 hb => ?_; replace hk := bk_below hk hb; replace hB := bl_self hB hb; clear hb; obtain ⟨c0, c1, c2, c3⟩ := bx4 hk)
    | (go_at_call 60; refine (small_calls t A c S _ h2 (hr.below hB)).use fun w1 hb => ?_; replace hk := bk_below hk hb; replace hB := bl_self hB hb))
  all_goals (go_ret; exact ⟨by simp [*], hB⟩)
end Go.Proofs.Ytolooomphmcphaa
