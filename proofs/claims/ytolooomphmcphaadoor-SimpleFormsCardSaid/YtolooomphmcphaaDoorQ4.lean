/- lfcheckref07.Variable, Fits, Erase, longSize; lfcheckref06.Greatest. -/
import Derived.Test.YtolooomphmcphaaDoorQ3
import Derived.Test.YtolooomphmcphaaDoorL1
namespace Go.Proofs.YtolooomphmcphaaDoor
open Go.RowKit

set_option maxRecDepth 100000 in
set_option maxHeartbeats 4000000 in
theorem qVariable1_calls (n : Nat) : ∀ (t : Tm) (A : Option Addr) (c : Nat) (w : World) (S : Nat → Prop), tsize t < n → tsize t < 1000000000 → okV t → Rd tmK w S A t.args →
    Giv Tryd.prog 68 #[tmV t A c] w (.tuple #[.int .i64 (varI (varN n t)), .bool (varN n t).isSome]) := by
  induction n with
  | zero => intro t A c w S h; omega
  | succ f ih =>
  intro t A c w S h1 h2 hok hr
  have H := Lib.hid ih
  clear ih
  have hr0 := hr.bound
  clear hr
  have hk := bk_new w (.cells (tmB t A c) 30)
  have hB := bl_new w (.cells (tmB t A c) 30)
  have Hok := Lib.hid hok
  clear hok
  go_enter Tryd.func68, Tryd.ntmps68
  go_wp2_with fail
  go_loopw [4] (fun i w' => ∃ (m : Nat) (u : Tm) (A' : Option Addr) (c' : Nat), m + tsize u ≤ tsize t ∧ i = .int .i64 m ∧ Hid ((unlam t).1 = m + (unlam u).1 ∧ (unlam t).2 = (unlam u).2 ∧ okV u) ∧
    w'.heap[w.heap.size]? = some (.cells (tmB u A' c') 30 (0, 0)) ∧ Rd tmK w' (fun b => S b ∧ b < w.heap.size) A' u.args ∧ Below w.heap.size w w') (fun i _ => tsize t - (intOf i).toNat)
  case atStart => exact ⟨0, t, A, c, by omega, rfl, Lib.hid ⟨by omega, rfl, Hok.out⟩, hk, (hr0.below hB).mono (fun b hb _ => ⟨hb.1, hb.2.lt⟩), hB⟩
  case round =>
    clear hk hB
    obtain ⟨m, u, A', c', hm, rfl, Hu, hk, hR, hB⟩ := hrel
    obtain ⟨c0, c1, c2, c3⟩ := bx4 hk
    have hup := tsize_pos u
    cases h3 : (u.kind == 3)
    · have hne : Hid (u.kind ≠ 3) := Lib.hid (by simpa using h3)
      have Hul : Hid ((unlam t).1 = m ∧ (unlam t).2 = u) := Lib.hid (by
        have := Hu.out
        rw [unlam_stop hne.out] at this
        exact ⟨by simpa using this.1, this.2.1⟩)
      have Hv := Lib.hid (varN_eq f t)
      have hul := len_le_tsizes u.args
      have hus := tsize_eq u
      have bad : (¬ (u.kind = 5 ∧ (m : Int) ≤ u.idx ∧ u.args.length = m)) → varN (f + 1) t = none := fun hn => by
        rw [Hv.out, Hul.out.1, Hul.out.2, if_neg]
        rintro ⟨x1, x2, x3, _⟩
        exact hn ⟨x1, x2, x3⟩
      have Hbad := Lib.hid bad
      clear bad
      cases h5 : (u.kind == 5)
      · have h5' : (u.kind != 5) = true := by rw [bne, h5]; rfl
        go_wp2_with fail
        go_ret2
        exact ⟨by rw [Hbad.out (by simp at h5; omega)]; rfl, hB⟩
      · have h5' : (u.kind != 5) = false := by rw [bne, h5]; rfl
        cases hi : decide (u.idx < (m : Int))
        · cases hl : ((u.args.length : Int) != (m : Int))
          · have hb5 : u.kind = 5 := by simpa using h5
            have hbi : (m : Int) ≤ u.idx := by simp at hi; omega
            have hbl : u.args.length = m := by simp at hl; omega
            have hobu : Hid (objBs u.args = true ∧ 0 ≤ u.idx ∧ u.idx ≤ 1048576) := Lib.hid (by
              rcases Hu.out.2.2 with h | h
              · exact var_obj h hb5
              · exact absurd hb5 h.2)
            have hmi : u.idx ≤ 1048576 := hobu.out.2.2
            have hmi0 : 0 ≤ u.idx := hobu.out.2.1
            have Hgood : Hid (varN (f + 1) t = if varM f m u m = true then some (u.idx - m) else none) := Lib.hid (by
              rw [Hv.out, Hul.out.1, Hul.out.2]
              by_cases h : varM f m u m = true
              · rw [if_pos ⟨hb5, hbi, hbl, h⟩, if_pos h]
              · rw [if_neg (fun hh => h hh.2.2.2), if_neg h])
            have Hbl := Lib.hid hbl
            have Hbi := Lib.hid hbi
            have hmm : (m : Int) ≤ 1000000000 := by omega
            clear hb5 hbi hbl
            have hw0 : IntKind.i64.wrap ((m : Int) - 1) = (m : Int) - 1 := IntWalk.i64_in _ ⟨by omega, by omega⟩
            have hw1 : IntKind.i64.wrap (u.idx - (m : Int)) = u.idx - (m : Int) := IntWalk.i64_in _ ⟨by omega, by omega⟩
            go_wp2_with fail
            go_loopw [5] (fun i w' => ∃ k : Nat, k ≤ m ∧ i = .int .i64 k ∧ Hid (varM f m u k = true) ∧ w'.heap[w.heap.size]? = some (.cells (tmB u A' c') 30 (0, 0)) ∧ Below w.heap.size w w') (fun i _ => m - (intOf i).toNat)
            case atStart => exact ⟨0, by omega, rfl, Lib.hid rfl, hk, hB⟩
            case round =>
              have Hk0 := Lib.hid hk
              have HB0 := Lib.hid hB
              clear hk hB c0 c1 c2 c3
              obtain ⟨k, hkm, rfl, Hm, hk, hB⟩ := hrel
              obtain ⟨c0, c1, c2, c3⟩ := bx4 hk
              have hR1 := hR.move (w' := wr) (S' := fun b => S b ∧ b < w.heap.size) (fun b hb _ => (hB.block b hb.2).trans (HB0.out.block b hb.2).symm) (fun _ h _ => h)
              by_cases hlt : k < m
              · have hlt2 : k < u.args.length := by have := Hbl.out; omega
                obtain ⟨b, o, A2', c2', rfl, _, e0, e1, e2, e3, hl', hr'⟩ := hR1.tm k hlt2
                have hsz := tsizes_mem u.args k hlt2
                have hw2 : IntKind.i64.wrap ((m : Int) - 1 - k) = (m : Int) - 1 - k := IntWalk.i64_in _ ⟨by omega, by omega⟩
                have hkI : (k : Int) < (u.args.length : Int) := by omega
                have Hob := Lib.hid (objBs_get hobu.out.1 k hlt2)
                have Hd : Hid (u.args.getD k u = u.args[k]) := Lib.hid (by simp [List.getD, hlt2])
                obtain ⟨ov, Hov⟩ : ∃ ov, Hid (varN f u.args[k] = ov) := ⟨_, Lib.hid rfl⟩
                have hB2 := hB
                have hk2 := hk
                go_wp2_with fail
                refine (H.out u.args[k] A2' c2' _ (fun b => S b ∧ b < w.heap.size) (by omega) (by omega) (.inl Hob.out) hr').use fun w1 hb1 => ?_
                rw [Hov.out]
                replace hk2 := bk_below hk2 hb1
                replace hB2 := bl_self hB2 hb1
                cases hov : ov with
                | none =>
                  simp only [varI, Option.getD_none, Option.isSome_none]
                  go_wp2_with fail
                  go_ret2
                  exact ⟨by rw [Hgood.out, varM_less f m u k m hlt (by rw [Hd.out, Hov.out, hov]; rfl)]; rfl, hB2⟩
                | some x =>
                  simp only [varI, Option.getD_some, Option.isSome_some]
                  cases hx : (x != (m : Int) - 1 - k)
                  · have Hx : Hid (x = (m : Int) - 1 - k) := Lib.hid (by simpa using hx)
                    go_wp2_with fail
                    go_roundw
                    case rel => exact ⟨k + 1, by omega, by go_num, Lib.hid (by rw [varM_succ, Hm.out, Hd.out, Hov.out, hov, Hx.out]; simp), hk2, hB2⟩
                    case measure => simp [intOf]; omega
                  · have Hx : Hid (x ≠ (m : Int) - 1 - k) := Lib.hid (by simpa using hx)
                    go_wp2_with fail
                    go_ret2
                    exact ⟨by rw [Hgood.out, varM_less f m u k m hlt (by rw [Hd.out, Hov.out, hov]; simpa using Hx.out)]; rfl, hB2⟩
              · obtain rfl : k = m := by omega
                have hkI : ¬ (k : Int) < (u.args.length : Int) := by have := Hbl.out; omega
                go_wp2_with fail
                go_ret2
                exact ⟨by rw [Hgood.out, Hm.out]; rfl, hB⟩
          · go_wp2_with fail
            go_ret2
            exact ⟨by rw [Hbad.out (by simp at hl; omega)]; rfl, hB⟩
        · go_wp2_with fail
          go_ret2
          exact ⟨by rw [Hbad.out (by simp at hi; omega)]; rfl, hB⟩
    · have he : u.kind = 3 := by simpa using h3
      have hou : objB u = true := by
        rcases Hu.out.2.2 with h | h
        · exact h
        · exact absurd he h.1
      obtain ⟨hl1, hob⟩ := lam_obj hou he
      have H3 := Lib.hid he
      have Hob := Lib.hid hob
      clear he hob hou
      have hlp : 0 < u.args.length := by omega
      obtain ⟨b, o, A2', c2', rfl, ⟨_, hbl⟩, e0, e1, e2, e3, hl', hr'⟩ := hR.tm0 hlp
      have Hl1 := Lib.hid hl1
      have hl0 : (0 : Int) < (u.args.length : Int) := by omega
      have hsz := tsizes_mem u.args 0 hlp
      have hus := tsize_eq u
      clear hl1
      have g0 := bk_free hk 0
      have g1 := bk_free hk 1
      have g2 := bk_free hk 2
      have g3 := bk_free hk 3
      go_wp2_with fail
      go_roundw
      case rel =>
        refine ⟨m + 1, u.args[0], A2', c2', by omega, by go_num, Lib.hid ⟨?_, ?_, .inl ?_⟩, set4_self hk, hr'.set4 (fun b hb => by have := hb.2; omega), bl_set4 hB (Nat.le_refl _)⟩
        · have := Hu.out.1
          rw [unlam_lam H3.out hlp] at this
          simp only at this
          omega
        · have := Hu.out.2.1
          rw [unlam_lam H3.out hlp] at this
          exact this
        · have := Hob.out
          rw [objBs_one Hl1.out hlp] at this
          exact this
      case measure => simp [intOf]; omega

theorem qVariable_calls (t : Tm) (A : Option Addr) (c : Nat) (w : World) (S : Nat → Prop) (h2 : tsize t < 1000000000) (hr : Rd tmK w S A t.args) :
    Giv Tryd.prog 30 #[tmV t A c] w (.tuple #[.int .i64 (varI (variT t)), .bool (variT t).isSome]) := by
  have hk := bk_new w (.cells (tmB t A c) 30)
  have hB := bl_new w (.cells (tmB t A c) 30)
  have HW := Lib.hid (refWellFormed_calls t A c _ _ h2 (hr.below hB))
  by_cases h0 : wfE t = 0
  · have H0 := Lib.hid h0
    have e : variT t = varN (tsize t + 1) t := by rw [variT, if_pos h0]
    clear h0
    rw [e]
    have He := Lib.hid e
    clear e
    go_enter Tryd.func30, Tryd.ntmps30
    go_wp2_with fail
    refine HW.out.use fun w1 hb1 => ?_
    rw [H0.out]
    obtain ⟨c0, c1, c2, c3⟩ := bx4 (bk_below hk hb1)
    replace hB := bl_self hB hb1
    go_wp2_with fail
    refine (qVariable1_calls (tsize t + 1) t A c _ S (Nat.lt_succ_self _) h2 (okV_wf H0.out) (hr.below hB)).use fun w2 hb2 => ?_
    go_wp2_with fail
    go_ret2
    exact ⟨rfl, bl_self hB hb2⟩
  · have h0' : (wfE t != 0) = true := by simpa using h0
    have e : variT t = none := by rw [variT, if_neg h0]
    rw [e]
    clear e
    go_enter Tryd.func30, Tryd.ntmps30
    go_wp2_with fail
    refine HW.out.use fun w1 hb1 => ?_
    go_wp2_with fail
    go_ret2
    exact ⟨rfl, bl_self hB hb1⟩
set_option maxRecDepth 100000 in
set_option maxHeartbeats 4000000 in
theorem qFits_calls (t : Tm) (s : Sm) (A A2 : Option Addr) (c c2 : Nat) (w : World) (S _S2 : Nat → Prop) (h2 : tsize t < 1000000000) (hs : ssize s < 1000000000) (hr : Rd tmK w S A t.args) :
    Giv Tryd.prog 22 #[tmV t A c, smV s A2 c2] w (.bool (objB t && smallB t && (unlam t).1 == s.args.length)) := by
  have hls : s.args.length < 1000000000 := by have := ssize_eq s; have := len_le_ssizes s.args; omega
  have hr0 := hr.bound
  clear hr
  have hk := bk_alloc (bk_new w (.cells (tmB t A c) 30)) (.cells (smB s A2 c2) 26)
  have hk1 := bk_at (w := w.alloc (.cells (tmB t A c) 30)) (n := w.heap.size + 1) (by simp) (.cells (smB s A2 c2) 26)
  have hB := bl_alloc (bl_new w (.cells (tmB t A c) 30)) (.cells (smB s A2 c2) 26)
  have HO := Lib.hid (refIsObject_calls t A c _ _ h2 (hr0.below hB))
  cases ho : (objB t && smallB t)
  · have Ho := Lib.hid ho
    clear ho
    go_enter Tryd.func22, Tryd.ntmps22
    go_wp2_with fail
    refine HO.out.use fun w1 hb1 => ?_
    rw [Ho.out]
    go_wp2_with fail
    go_ret
    exact ⟨by simp, bl_self hB hb1⟩
  · have Ho := Lib.hid ho
    clear ho
    go_enter Tryd.func22, Tryd.ntmps22
    go_wp2_with fail
    refine HO.out.use fun w1 hb1 => ?_
    rw [Ho.out]
    replace hk := bk_below hk hb1; replace hk1 := bk_below hk1 hb1; replace hB := bl_self hB hb1; clear hb1
    go_wp2_with fail
    go_loopw [5] (fun i w' => ∃ (m : Nat) (u : Tm) (A' : Option Addr) (c' : Nat), m + tsize u ≤ tsize t ∧ i = .int .i64 m ∧ Hid ((unlam t).1 = m + (unlam u).1 ∧ objB u = true) ∧
      w'.heap[w.heap.size]? = some (.cells (tmB u A' c') 30 (0, 0)) ∧ w'.heap[w.heap.size + 1]? = some (.cells (smB s A2 c2) 26 (0, 0)) ∧ Rd tmK w' (fun b => S b ∧ b < w.heap.size) A' u.args ∧ Below w.heap.size w w') (fun i _ => tsize t - (intOf i).toNat)
    case atStart => exact ⟨0, t, A, c, by omega, rfl, Lib.hid ⟨by omega, by have := Ho.out; simp at this; exact this.1⟩, hk, hk1, (hr0.below hB).mono (fun b hb _ => ⟨hb.1, hb.2.lt⟩), hB⟩
    case round =>
      clear hk hk1 hB
      obtain ⟨m, u, A', c', hm, rfl, Hu, hk, hk1, hR, hB⟩ := hrel
      obtain ⟨c0, c1, c2, c3⟩ := bx4 hk
      obtain ⟨d0, d1⟩ := bx2 hk1
      have hup := tsize_pos u
      cases h3 : (u.kind == 3)
      · have Hul : Hid ((unlam t).1 = m) := Lib.hid (by
          have := Hu.out.1
          rw [unlam_stop (t := u) (by simpa using h3)] at this
          simpa using this)
        go_wp2_with fail
        go_ret
        exact ⟨by rw [Hul.out]; simp [Bool.beq_eq_decide_eq]; omega, hB⟩
      · have he : u.kind = 3 := by simpa using h3
        obtain ⟨hl1, hob⟩ := lam_obj Hu.out.2 he
        have H3 := Lib.hid he
        have Hob := Lib.hid hob
        clear he hob
        have hlp : 0 < u.args.length := by omega
        obtain ⟨b, o, A2', c2', rfl, ⟨_, hbl⟩, e0, e1, e2, e3, hl', hr'⟩ := hR.tm0 hlp
        have Hl1 := Lib.hid hl1
        have hl0 : (0 : Int) < (u.args.length : Int) := by omega
        have hsz := tsizes_mem u.args 0 hlp
        have hus := tsize_eq u
        clear hl1
        have g0 := bk_free hk 0
        have g1 := bk_free hk 1
        have g2 := bk_free hk 2
        have g3 := bk_free hk 3
        go_wp2_with fail
        go_roundw
        case rel =>
          refine ⟨m + 1, u.args[0], A2', c2', by omega, by go_num, Lib.hid ⟨?_, ?_⟩, set4_self hk, (set4_far (by omega)).trans hk1, hr'.set4 (fun b hb => by have := hb.2; omega), bl_set4 hB (Nat.le_refl _)⟩
          · have := Hu.out.1
            rw [unlam_lam H3.out (by have := Hl1.out; omega)] at this
            simp only at this
            omega
          · have := Hob.out
            rw [objBs_one Hl1.out (by have := Hl1.out; omega)] at this
            exact this
        case measure => simp [intOf]; omega
end Go.Proofs.YtolooomphmcphaaDoor
