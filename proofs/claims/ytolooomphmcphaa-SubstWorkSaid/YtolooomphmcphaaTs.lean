/- The program's package term: typed, kind, Depth. -/
import Derived.Test.YtolooomphmcphaaTr
namespace Go.Proofs.Ytolooomphmcphaa
open Go.RowKit

theorem typB_atom {t : Tm} (h : atomB t = true) : typB t = true := by rw [typB_eq, h]; rfl
theorem typB_pi {t : Tm} (h : atomB t = false) (hk : (t.kind == 2) = true) (hb : boundB t 2 = true) : typB t = typBs t.args := by rw [typB_eq, h, hk, hb]; rfl
theorem typB_no1 {t : Tm} (h : atomB t = false) (hk : (t.kind == 2) = false) : typB t = false := by rw [typB_eq, h, hk]; rfl
theorem typB_no2 {t : Tm} (h : atomB t = false) (hb : boundB t 2 = false) : typB t = false := by rw [typB_eq, h, hb]; simp
theorem atomB_kind {t : Tm} (h : atomB t = true) : t.kind = 4 := by simp [atomB] at h; exact h.1.1.1

theorem typed_calls (n : Nat) : ∀ (t : Tm) (A : Option Addr) (c : Nat) (w : World) (S : Nat → Prop), tsize t < n → tsize t < 1000000000 → Rd tmK w S A t.args →
    Giv Try.prog 58 #[tmV t A c] w (.bool (typB t)) := by
  induction n with
  | zero => intro t A c w S h; omega
  | succ n ih =>
  intro t A c w S h1 h2 hr
  have hg1 : tsizes t.args < tsize t := by have := tsize_eq t; omega
  have hg2 : tsizes t.args < 1000000000 := by omega
  have hat := atom_calls (object_calls _) t A c (w.alloc (.cells (tmB t A c) 33)) S hg1 hg2 (hr.below (bl_new _ _))
  have Hat := Lib.hid hat
  clear hat
  have H := Lib.hid ih
  clear ih
  cases ha : atomB t
  · have Ha := Lib.hid ha
    clear ha
    cases hk : (t.kind == 2)
    · have Hf := Lib.hid (typB_no1 Ha.out hk)
      go_enter Try.func58, Try.ntmps58
      go_wp2_with fail
      refine Hat.out.use fun w1 hb1 => ?_
      rw [Ha.out]
      obtain ⟨c0, c1, c2, c3⟩ := bx4 (bk_below (bk_new w _) hb1)
      go_wp2_with fail
      go_ret
      exact ⟨by rw [Hf.out]; rfl, bl_self (bl_new _ _) hb1⟩
    · cases hb : boundB t 2
      · have Hb := Lib.hid hb
        have Hf := Lib.hid (typB_no2 Ha.out hb)
        clear hb
        go_enter Try.func58, Try.ntmps58
        go_wp2_with fail
        refine Hat.out.use fun w1 hb1 => ?_
        rw [Ha.out]
        obtain ⟨c0, c1, c2, c3⟩ := bx4 (bk_below (bk_new w _) hb1)
        go_wp2_with fail
        refine (bound_calls t A c 2 _).use fun w2 hb2 => ?_
        rw [Hb.out]
        go_wp2_with fail
        go_ret
        exact ⟨by rw [Hf.out]; rfl, bl_self (bl_self (bl_new _ _) hb1) hb2⟩
      · have Hb := Lib.hid hb
        have hl := bound_len (n := 2) hb
        have h0 : 0 < t.args.length := by omega
        have h1 : 1 < t.args.length := by omega
        have Hf := Lib.hid ((typB_pi Ha.out hk hb).trans (typBs_two hl h0 h1))
        have hs0 := tsizes_mem t.args 0 h0
        have hs1 := tsizes_mem t.args 1 h1
        clear hb hl
        go_enter Try.func58, Try.ntmps58
        go_wp2_with fail
        refine Hat.out.use fun w1 hb1 => ?_
        rw [Ha.out]
        have hk1 := bk_below (bk_new w _) hb1
        obtain ⟨c0, c1, c2, c3⟩ := bx4 hk1
        go_wp2_with fail
        refine (bound_calls t A c 2 _).use fun w2 hb2 => ?_
        rw [Hb.out]
        have hk2 := bk_below hk1 hb2
        have hB2 := bl_self (bl_self (bl_new w _) hb1) hb2
        clear c0 c1 c2 c3
        obtain ⟨c0, c1, c2, c3⟩ := bx4 hk2
        obtain ⟨b, o, A', c', rfl, _, e0, e1, e2, e3, hl', hr'⟩ := (hr.below hB2).tm0 h0
        clear hk1
        cases ht0 : typB t.args[0]
        · have Ht0 := Lib.hid ht0
          clear ht0
          go_wp2_with fail
          refine (H.out t.args[0] A' c' _ S (by omega) (by omega) hr').use fun w3 hb3 => ?_
          rw [Ht0.out]
          go_wp2_with fail
          go_ret
          exact ⟨by rw [Hf.out, Ht0.out]; rfl, bl_self hB2 hb3⟩
        · have Ht0 := Lib.hid ht0
          clear ht0
          go_wp2_with fail
          refine (H.out t.args[0] A' c' _ S (by omega) (by omega) hr').use fun w3 hb3 => ?_
          rw [Ht0.out]
          have hk3 := bk_below hk2 hb3
          have hB3 := bl_self hB2 hb3
          clear c0 c1 c2 c3 e0 e1 e2 e3
          obtain ⟨c0, c1, c2, c3⟩ := bx4 hk3
          obtain ⟨A2, c2', _, e0, e1, e2, e3, hl2, hr2⟩ := (hr.below hB3).tmb1 h1
          go_wp2_with fail
          refine (H.out t.args[1] A2 c2' _ S (by omega) (by omega) hr2).use fun w4 hb4 => ?_
          go_wp2_with fail
          go_ret
          exact ⟨by rw [Hf.out, Ht0.out]; rfl, bl_self hB3 hb4⟩
  · have Ha := Lib.hid ha
    have Hf := Lib.hid (typB_atom ha)
    clear ha
    go_enter Try.func58, Try.ntmps58
    go_wp2_with fail
    refine Hat.out.use fun w1 hb1 => ?_
    rw [Ha.out]
    go_wp2_with fail
    go_ret
    exact ⟨by rw [Hf.out]; rfl, bl_self (bl_new _ _) hb1⟩

theorem kndB_no1 {t : Tm} (h1 : (t.kind == 1) = false) (hk : (t.kind == 2) = false) : kndB t = false := by rw [kndB_eq, h1, hk]; rfl
theorem kndB_no2 {t : Tm} (h1 : (t.kind == 1) = false) (hb : boundB t 2 = false) : kndB t = false := by rw [kndB_eq, h1, hb]; simp
theorem kndB_pi {t : Tm} (h1 : (t.kind == 1) = false) (hk : (t.kind == 2) = true) (hb : boundB t 2 = true) : kndB t = kndBl t.args := by rw [kndB_eq, h1, hk, hb]; rfl
theorem kndB_sort {t : Tm} (h1 : (t.kind == 1) = true) : kndB t = (t.name.toList.isEmpty && t.idx == 0 && (t.args.length : Int) == 0) := by
  have hk : t.kind = 1 := by simpa using h1
  rw [kndB_eq, hk]
  cases t.args <;> simp
  intros
  omega
theorem kind_calls (n : Nat) : ∀ (t : Tm) (A : Option Addr) (c : Nat) (w : World) (S : Nat → Prop), tsize t < n → tsize t < 1000000000 → Rd tmK w S A t.args →
    Giv Try.prog 59 #[tmV t A c] w (.bool (kndB t)) := by
  induction n with
  | zero => intro t A c w S h; omega
  | succ n ih =>
  intro t A c w S h1 h2 hr
  have hg1 : tsizes t.args < tsize t := by have := tsize_eq t; omega
  have hg2 : tsizes t.args < 1000000000 := by omega
  have H := Lib.hid ih
  clear ih
  cases ha : (t.kind == 1)
  · cases hk : (t.kind == 2)
    · have Hf := Lib.hid (kndB_no1 ha hk)
      go_enter Try.func59, Try.ntmps59
      go_wp2_with fail
      go_ret
      exact ⟨by rw [Hf.out]; rfl, bl_new _ _⟩
    · cases hb : boundB t 2
      · have Hb := Lib.hid hb
        have Hf := Lib.hid (kndB_no2 ha hb)
        clear hb
        go_enter Try.func59, Try.ntmps59
        go_wp2_with fail
        refine (bound_calls t A c 2 _).use fun w1 hb1 => ?_
        rw [Hb.out]
        go_wp2_with fail
        go_ret
        exact ⟨by rw [Hf.out]; rfl, bl_self (bl_new _ _) hb1⟩
      · have Hb := Lib.hid hb
        have hl := bound_len (n := 2) hb
        have h0 : 0 < t.args.length := by omega
        have h1 : 1 < t.args.length := by omega
        have Hf := Lib.hid ((kndB_pi ha hk hb).trans (kndBl_two hl h0 h1))
        have hs0 := tsizes_mem t.args 0 h0
        have hs1 := tsizes_mem t.args 1 h1
        clear hb hl
        go_enter Try.func59, Try.ntmps59
        go_wp2_with fail
        refine (bound_calls t A c 2 _).use fun w2 hb2 => ?_
        rw [Hb.out]
        have hk2 := bk_below (bk_new w _) hb2
        have hB2 := bl_self (bl_new w _) hb2
        obtain ⟨c0, c1, c2, c3⟩ := bx4 hk2
        obtain ⟨b, o, A', c', rfl, _, e0, e1, e2, e3, hl', hr'⟩ := (hr.below hB2).tm0 h0
        cases ht0 : typB t.args[0]
        · have Ht0 := Lib.hid ht0
          clear ht0
          go_wp2_with fail
          refine (typed_calls _ t.args[0] A' c' _ S (Nat.lt_succ_self _) (by omega) hr').use fun w3 hb3 => ?_
          rw [Ht0.out]
          go_wp2_with fail
          go_ret
          exact ⟨by rw [Hf.out, Ht0.out]; rfl, bl_self hB2 hb3⟩
        · have Ht0 := Lib.hid ht0
          clear ht0
          go_wp2_with fail
          refine (typed_calls _ t.args[0] A' c' _ S (Nat.lt_succ_self _) (by omega) hr').use fun w3 hb3 => ?_
          rw [Ht0.out]
          have hk3 := bk_below hk2 hb3
          have hB3 := bl_self hB2 hb3
          clear c0 c1 c2 c3 e0 e1 e2 e3
          obtain ⟨c0, c1, c2, c3⟩ := bx4 hk3
          obtain ⟨A2, c2', _, e0, e1, e2, e3, hl2, hr2⟩ := (hr.below hB3).tmb1 h1
          go_wp2_with fail
          refine (H.out t.args[1] A2 c2' _ S (by omega) (by omega) hr2).use fun w4 hb4 => ?_
          go_wp2_with fail
          go_ret
          exact ⟨by rw [Hf.out, Ht0.out]; rfl, bl_self hB3 hb4⟩
  · have Hf := Lib.hid (kndB_sort ha)
    go_enter Try.func59, Try.ntmps59
    go_wp2_with fail
    all_goals (go_ret; exact ⟨by rw [Hf.out]; simp [*], bl_new _ _⟩)

theorem depth_calls (n : Nat) : ∀ (t : Tm) (A : Option Addr) (c : Nat) (w : World) (S : Nat → Prop), tsize t < n → tsize t < 1000000000 → Rd tmK w S A t.args →
    Giv Try.prog 27 #[tmV t A c] w (.int .i64 (tdep t)) := by
  induction n with
  | zero => intro t A c w S h; omega
  | succ n ih =>
  intro t A c w S h1 h2 hr
  have hts := tsize_eq t
  have hla := len_le_tsizes t.args
  have H := Lib.hid ih
  clear ih
  go_enter Try.func27, Try.ntmps27
  go_wp2_with fail
  have hbk := bk_new w (.cells (tmB t A c) 33)
  have hB := bl_new w (.cells (tmB t A c) 33)
  go_loopw [3, 9] (fun v i w' => ∃ m : Nat, m ≤ t.args.length ∧ i = .int .i64 m ∧ v = .int .i64 (tdeps (t.args.take m)) ∧ Below w.heap.size w w') (fun _ i _ => t.args.length - (intOf i).toNat)
  case atStart => exact ⟨0, by omega, rfl, by simp [tdeps], hB⟩
  case round =>
    clear hbk hB
    obtain ⟨m, hm, rfl, rfl, hB⟩ := hrel
    have hlt0 := tdeps_le (t.args.take m)
    have hlt1 := tsizes_take_le t.args m
    by_cases hlt : m < t.args.length
    · obtain ⟨b, o, A', c', rfl, _, e0, e1, e2, e3, hl', hr'⟩ := (hr.below hB).tm m hlt
      have hm1 := tsizes_mem t.args m hlt
      have hd1 := tdep_le t.args[m]
      go_wp2_with fail
      refine (H.out t.args[m] A' c' _ S (by omega) (by omega) (hr'.below (bl_new _ _))).use fun w1 hb1 => ?_
      have Hd := Lib.hid (tdeps_take t.args m hlt)
      go_wp2_with fail
      go_roundw
      case rel => exact ⟨m + 1, by omega, by go_num, by rw [Hd.out]; go_num, bl_self (bl_alloc hB _) hb1⟩
      case measure => simp [intOf]; omega
    · obtain rfl : m = t.args.length := by omega
      have hd := tdeps_le t.args
      go_wp2_with fail
      go_ret
      exact ⟨by rw [tdep_eq, List.take_length]; go_num, hB⟩
end Go.Proofs.Ytolooomphmcphaa
