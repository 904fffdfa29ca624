/- lfcheckref07 on simple types: order, Order, Same. -/
import Derived.StillTailTactics
import Derived.Test.YtolooomphmcphaaDoorQ1
namespace Go.Proofs.YtolooomphmcphaaDoor
open Go.RowKit

theorem sords_take (a : List Sm) (m : Nat) (h : m < a.length) : sords (a.take (m + 1)) = max (sords (a.take m)) (sord a[m] + 1) := by
  rw [List.take_succ_eq_append_getElem h]
  generalize a.take m = b
  induction b with
  | nil => simp [sords]; omega
  | cons t r ih => simp only [List.cons_append, sords, ih]; omega
theorem sord_lt (t : Sm) : sord t ≤ ssize t := by
  have := sords_le t.args
  have := sord_eq t
  have := ssize_eq t
  omega
theorem qOrder1_calls (n : Nat) : ∀ (t : Sm) (A : Option Addr) (c : Nat) (w : World) (S : Nat → Prop), ssize t < n → ssize t < 1000000000 → Rd smK w S A t.args →
    Giv Tryd.prog 54 #[smV t A c] w (.int .i64 (sord t)) := by
  induction n with
  | zero => intro t A c w S h; omega
  | succ n ih =>
  intro t A c w S h1 h2 hr
  have hts1 : ssizes t.args < ssize t := by have := ssize_eq t; omega
  have hla := len_le_ssizes t.args
  have H := Lib.hid ih
  clear ih
  have hk := bk_new w (.cells (smB t A c) 26)
  have hB := bl_new w (.cells (smB t A c) 26)
  go_enter Tryd.func54, Tryd.ntmps54
  go_wp2_with fail
  go_loopw [3, 4] (fun v i w' => ∃ m : Nat, m ≤ t.args.length ∧ i = .int .i64 m ∧ v = .int .i64 (sords (t.args.take m)) ∧ w'.heap[w.heap.size]? = some (.cells (smB t A c) 26 (0, 0)) ∧ Below w.heap.size w w') (fun _ i _ => t.args.length - (intOf i).toNat)
  case atStart => exact ⟨0, by omega, rfl, by simp [sords], hk, hB⟩
  case round =>
    clear hk hB
    obtain ⟨m, hm, rfl, rfl, hk, hB⟩ := hrel
    have hlt0 := sords_le (t.args.take m)
    have hlt1 := ssizes_take_le t.args m
    obtain ⟨c0, c1⟩ := bx2 hk
    by_cases hlt : m < t.args.length
    · obtain ⟨b, o, A', c', rfl, _, e0, e1, hl', hr'⟩ := (hr.below hB).sm m hlt
      have hm1 := ssizes_mem t.args m hlt
      have hd1 := sord_lt t.args[m]
      have Hd := Lib.hid (sords_take t.args m hlt)
      go_wp2_with fail
      refine (H.out t.args[m] A' c' _ S (by omega) (by omega) hr').use fun w1 hb => ?_
      replace hk := bk_below hk hb
      replace hB := bl_self hB hb
      go_wp2_with fail
      go_roundw
      case rel => exact ⟨m + 1, by omega, by go_num, by rw [Hd.out]; go_num, hk, hB⟩
      case measure => simp [intOf]; omega
    · obtain rfl : m = t.args.length := by omega
      go_wp2_with fail
      go_ret
      exact ⟨by rw [sord_eq]; simp, hB⟩
theorem qOrder_calls (t : Sm) (A : Option Addr) (c : Nat) (S : Nat → Prop) (w : World) (h2 : ssize t < 1000000000) (hr : Rd smK w S A t.args) :
    Giv Tryd.prog 18 #[smV t A c] w (.int .i64 (if swfE t = 0 then sord t else 0)) := by
  have hk := bk_new w (.cells (smB t A c) 26)
  have hB := bl_new w (.cells (smB t A c) 26)
  by_cases h0 : swfE t = 0
  · have H0 := Lib.hid h0
    clear h0
    go_enter Tryd.func18, Tryd.ntmps18
    go_wp2_with fail
    refine (qWellFormed_calls t A c S _ h2 (hr.below hB)).use fun w1 hb1 => ?_
    rw [H0.out]
    replace hk := bk_below hk hb1; replace hB := bl_self hB hb1; clear hb1
    obtain ⟨c0, c1⟩ := bx2 hk
    go_wp2_with fail
    refine (qOrder1_calls _ t A c _ S (Nat.lt_succ_self _) h2 (hr.below hB)).use fun w2 hb2 => ?_
    go_wp2_with fail
    go_ret
    exact ⟨rfl, bl_self hB hb2⟩
  · have H0 := Lib.hid h0
    have h0' : (swfE t != 0) = true := by simpa using h0
    clear h0
    go_enter Tryd.func18, Tryd.ntmps18
    go_wp2_with fail
    refine (qWellFormed_calls t A c S _ h2 (hr.below hB)).use fun w1 hb1 => ?_
    go_wp2_with fail
    go_ret
    exact ⟨rfl, bl_self hB hb1⟩
set_option maxRecDepth 100000 in
set_option maxHeartbeats 1000000 in
theorem qSame_calls (n : Nat) : ∀ (t u : Sm) (A B : Option Addr) (c d : Nat) (w : World) (S S' : Nat → Prop), ssize t < n → ssize t < 1000000000 → ssize u < 1000000000 → Rd smK w S A t.args → Rd smK w S' B u.args →
    Giv Tryd.prog 20 #[smV t A c, smV u B d] w (.bool (sameS t u)) := by
  induction n with
  | zero => intro t u A B c d w S S' h; omega
  | succ n ih =>
  intro t u A B c d w S S' h1 h2 h3 hr hq
  have hts1 : ssizes t.args < ssize t := by have := ssize_eq t; omega
  have hus1 : ssizes u.args < ssize u := by have := ssize_eq u; omega
  have hla := len_le_ssizes t.args
  have hlu := len_le_ssizes u.args
  have H := Lib.hid ih
  clear ih
  have hk := bk_alloc (bk_new w (.cells (smB t A c) 26)) (.cells (smB u B d) 26)
  have hk2 := bk_at (w := w.alloc (.cells (smB t A c) 26)) (n := w.heap.size + 1) (by simp) (.cells (smB u B d) 26)
  have hB := bl_alloc (bl_new w (.cells (smB t A c) 26)) (.cells (smB u B d) 26)
  cases p1 : (t.fam.toList == u.fam.toList)
  · have H0 := Lib.hid (by rw [sameS_eq, p1]; rfl : sameS t u = false)
    go_enter Tryd.func20, Tryd.ntmps20
    go_wp2_with fail
    go_ret
    exact ⟨by rw [H0.out]; rfl, hB⟩
  by_cases p3 : t.args.length = u.args.length
  · have p3' : ((t.args.length : Int) != (u.args.length : Int)) = false := by rw [bne, Bool.not_eq_false', beq_iff_eq]; omega
    have H3 := Lib.hid p3
    have H0 : Hid (sameS t u = sameSs t.args u.args) := Lib.hid (by rw [sameS_eq, p1]; rfl)
    have hle : t.args.length ≤ u.args.length := by omega
    have hge : u.args.length ≤ t.args.length := by omega
    clear p3
    go_enter Tryd.func20, Tryd.ntmps20
    go_wp2_with fail
    go_loopw [5] (fun i w' => ∃ m : Nat, m ≤ t.args.length ∧ i = .int .i64 m ∧ Hid (sameSs (t.args.take m) (u.args.take m) = true) ∧ w'.heap[w.heap.size]? = some (.cells (smB t A c) 26 (0, 0)) ∧ w'.heap[w.heap.size + 1]? = some (.cells (smB u B d) 26 (0, 0)) ∧ Below w.heap.size w w') (fun i _ => t.args.length - (intOf i).toNat)
    case atStart => exact ⟨0, by omega, rfl, Lib.hid (by simp [sameSs]), hk, hk2, hB⟩
    case round =>
      clear hk hk2 hB
      obtain ⟨m, hm, rfl, Hall, hk, hk2, hB⟩ := hrel
      obtain ⟨c0, c1⟩ := bx2 hk
      obtain ⟨d0, d1⟩ := bx2 hk2
      by_cases hlt : m < t.args.length
      · have hlt' : m < u.args.length := by omega
        obtain ⟨b, o, A', c', rfl, _, e0, e1, hl', hr'⟩ := (hr.below hB).sm m hlt
        obtain ⟨b', o', B', d', rfl, _, f0, f1, hl'', hq'⟩ := (hq.below hB).sm m hlt'
        have hm1 := ssizes_mem t.args m hlt
        have hm2 := ssizes_mem u.args m hlt'
        cases hs : sameS t.args[m] u.args[m]
        · have Hs := Lib.hid hs
          clear hs
          go_wp2_with fail
          go_still_tail 10, (by kernel_rfl)
          go_wp2_with fail
          refine (H.out t.args[m] u.args[m] A' B' c' d' _ S S' (by omega) (by omega) (by omega) hr'.drew hq'.drew).use fun w1 hb => ?_
          rw [Hs.out]
          replace hB := bl_self hB (bl_undrew hb)
          go_wp2_with fail
          go_ret
          exact ⟨by rw [H0.out, sameSs_pre _ _ H3.out m hlt Hs.out]; rfl, hB⟩
        · have Hs := Lib.hid hs
          clear hs
          go_wp2_with fail
          go_still_tail 10, (by kernel_rfl)
          go_wp2_with fail
          refine (H.out t.args[m] u.args[m] A' B' c' d' _ S S' (by omega) (by omega) (by omega) hr'.drew hq'.drew).use fun w1 hb => ?_
          rw [Hs.out]
          replace hB := bl_self hB (bl_undrew hb)
          replace hk := bk_below hk (bl_undrew hb)
          replace hk2 := bk_below hk2 (bl_undrew hb)
          go_wp2_with fail
          go_roundw
          case rel => exact ⟨m + 1, by omega, by go_num, Lib.hid (by rw [sameSs_take _ _ H3.out m hlt, Hall.out, Hs.out]; rfl), hk, hk2, hB⟩
          case measure => simp [intOf]; omega
      · obtain rfl : m = t.args.length := by omega
        have hok : sameSs t.args u.args = true := by have h4 := Hall.out; rw [List.take_length, H3.out, List.take_length] at h4; exact h4
        have Hok := Lib.hid hok
        clear hok
        go_wp2_with fail
        go_ret
        exact ⟨by rw [H0.out, Hok.out]; rfl, hB⟩
  · have p3' : ((t.args.length : Int) != (u.args.length : Int)) = true := by rw [bne, Bool.not_eq_true', beq_eq_false_iff_ne]; omega
    have H0 : Hid (sameS t u = false) := Lib.hid (by
      rw [sameS_eq, p1]
      cases hss : sameSs t.args u.args
      · rfl
      · exact absurd (sameSs_len _ _ hss) p3)
    clear p3
    go_enter Tryd.func20, Tryd.ntmps20
    go_wp2_with fail
    go_ret
    exact ⟨by rw [H0.out]; rfl, hB⟩
end Go.Proofs.YtolooomphmcphaaDoor
