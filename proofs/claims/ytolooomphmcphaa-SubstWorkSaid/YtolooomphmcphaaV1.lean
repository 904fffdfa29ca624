/- simple.variable, Variable, Fits. -/
import Derived.Test.YtolooomphmcphaaE1
import Derived.Test.YtolooomphmcphaaTw
namespace Go.Proofs.Ytolooomphmcphaa
open Go.RowKit

/-- the Lams in front of a term, and what they stand before -/
def unlam : Tm → Nat × Tm
  | .mk k s i (a :: r) => if k = 3 then ((unlam a).1 + 1, (unlam a).2) else (0, .mk k s i (a :: r))
  | t => (0, t)
theorem unlam_lam {t : Tm} (hk : t.kind = 3) (h : 0 < t.args.length) : unlam t = ((unlam t.args[0]).1 + 1, (unlam t.args[0]).2) := by
  obtain ⟨k, s, i, a⟩ := t
  cases a with
  | nil => simp [Tm.args] at h
  | cons x r =>
    have hk : k = 3 := hk
    subst hk
    simp [unlam, Tm.args]
theorem unlam_stop {t : Tm} (hk : t.kind ≠ 3) : unlam t = (0, t) := by
  obtain ⟨k, s, i, a⟩ := t
  have hk : k ≠ 3 := hk
  cases a with
  | nil => simp [unlam]
  | cons x r =>
    rw [unlam]
    exact if_neg hk
theorem unlam_size : ∀ (t : Tm), tsize (unlam t).2 + (unlam t).1 ≤ tsize t
  | .mk k s i [] => by simp [unlam]
  | .mk k s i (a :: r) => by
    have := unlam_size a
    unfold unlam
    split
    · simp only [tsize, tsizes]; omega
    · simp
/-- the variable of which a term is the eta-long form; -1: none -/
def varN : Nat → Tm → Option Int
  | 0, _ => none
  | f + 1, t =>
    let n := (unlam t).1
    let u := (unlam t).2
    if u.kind = 5 ∧ (n : Int) ≤ u.idx ∧ u.args.length = n ∧ (List.range n).all (fun k => varN f (u.args.getD k u) == some ((n : Int) - 1 - k)) then some (u.idx - n) else none
theorem lam_obj {t : Tm} (h : objB t = true) (hk : t.kind = 3) : t.args.length = 1 ∧ objBs t.args = true := by
  rw [objB_eq] at h
  simp [atomB, hk, boundB] at h
  exact ⟨by omega, h.2⟩
theorem fits_calls (t : Tm) (s : Sm) (A A2 : Option Addr) (c c2 : Nat) (w : World) (S _S2 : Nat → Prop) (h2 : tsize t < 1000000000) (hs : ssize s < 1000000000) (hr : Rd tmK w S A t.args) :
    Giv Try.prog 11 #[tmV t A c, smV s A2 c2] w (.bool (objB t && smallB t && (unlam t).1 == s.args.length)) := by
  have hls : s.args.length < 1000000000 := by have := ssize_eq s; have := len_le_ssizes s.args; omega
  have hr0 := hr.bound
  clear hr
  have hk := bk_alloc (bk_new w (.cells (tmB t A c) 33)) (.cells (smB s A2 c2) 25)
  have hk1 := bk_at (w := w.alloc (.cells (tmB t A c) 33)) (n := w.heap.size + 1) (by simp) (.cells (smB s A2 c2) 25)
  have hB := bl_alloc (bl_new w (.cells (tmB t A c) 33)) (.cells (smB s A2 c2) 25)
  have HO := Lib.hid (isObject_calls t A c _ _ h2 (hr0.below hB))
  cases ho : (objB t && smallB t)
  · have Ho := Lib.hid ho
    clear ho
    go_enter Try.func11, Try.ntmps11
    go_wp2_with fail
    refine HO.out.use fun w1 hb1 => ?_
    rw [Ho.out]
    go_wp2_with fail
    go_ret
    exact ⟨by simp, bl_self hB hb1⟩
  · have Ho := Lib.hid ho
    clear ho
    go_enter Try.func11, Try.ntmps11
    go_wp2_with fail
    refine HO.out.use fun w1 hb1 => ?_
    rw [Ho.out]
    replace hk := bk_below hk hb1
    replace hk1 := bk_below hk1 hb1
    replace hB := bl_self hB hb1
    obtain ⟨d0, d1⟩ := bx2 hk1
    clear hb1
    go_wp2_with fail
    go_loopw [11] (fun i w' => ∃ (m : Nat) (u : Tm) (A' : Option Addr) (c' : Nat), m ≤ s.args.length ∧ i = .int .i64 m ∧ Hid ((unlam t).1 = m + (unlam u).1 ∧ objB u = true) ∧
      w'.heap[w.heap.size]? = some (.cells (tmB u A' c') 33 (0, 0)) ∧ Rd tmK w' (fun b => S b ∧ b < w.heap.size) A' u.args ∧ Below w.heap.size w w') (fun i _ => s.args.length - (intOf i).toNat)
    case atStart => exact ⟨0, t, A, c, by omega, rfl, Lib.hid ⟨by omega, by have := Ho.out; simp at this; exact this.1⟩, hk, (hr0.below hB).mono (fun b hb _ => ⟨hb.1, hb.2.lt⟩), hB⟩
    case round =>
      clear hk hk1 hB d0 d1
      obtain ⟨m, u, A', c', hm, rfl, Hu, hk, hR, hB⟩ := hrel
      obtain ⟨c0, c1, c2, c3⟩ := bx4 hk
      by_cases hlt : m < s.args.length
      · cases h3 : (u.kind == 3)
        · have h3' : (u.kind != 3) = true := by rw [bne, h3]; rfl
          go_wp2_with fail
          go_ret
          have hne : u.kind ≠ 3 := by simpa using h3
          have := Hu.out.1
          rw [unlam_stop hne] at this
          have hf : ((unlam t).1 == s.args.length) = false := by simp; simp only at this; omega
          exact ⟨by rw [hf]; rfl, hB⟩
        · have h3' : (u.kind != 3) = false := by rw [bne, h3]; rfl
          have he : u.kind = 3 := by simpa using h3
          obtain ⟨hl1, hob⟩ := lam_obj Hu.out.2 he
          have H3 := Lib.hid he
          have Hob := Lib.hid hob
          clear he hob
          have hlp : 0 < u.args.length := by omega
          obtain ⟨b, o, A2', c2', rfl, ⟨_, hbl⟩, e0, e1, e2, e3, hl', hr'⟩ := hR.tm0 hlp
          have Hl1 := Lib.hid hl1
          have hl0 : (0 : Int) < (u.args.length : Int) := by omega
          clear hl1
          have g0 := bk_free hk 0
          have g1 := bk_free hk 1
          have g2 := bk_free hk 2
          have g3 := bk_free hk 3
          go_wp2_with fail
          go_roundw
          case rel =>
            refine ⟨m + 1, u.args[0], A2', c2', by omega, by go_num, Lib.hid ⟨?_, ?_⟩, set4_self hk, hr'.set4 (fun b hb => by have := hb.2; omega), bl_set4 hB (Nat.le_refl _)⟩
            · have := Hu.out.1
              rw [unlam_lam H3.out (by have := Hl1.out; omega)] at this
              simp only at this
              omega
            · have := Hob.out
              rw [objBs_one Hl1.out (by have := Hl1.out; omega)] at this
              exact this
          case measure => simp [intOf]; omega
      · obtain rfl : m = s.args.length := by omega
        go_wp2_with fail
        go_ret
        refine ⟨?_, hB⟩
        have hu := Hu.out.1
        by_cases h3 : u.kind = 3
        · obtain ⟨hl1, _⟩ := lam_obj Hu.out.2 h3
          rw [unlam_lam h3 (by omega)] at hu
          have : ((unlam t).1 == s.args.length) = false := by simp; simp only at hu; omega
          simp [h3, this]
        · rw [unlam_stop h3] at hu
          have : ((unlam t).1 == s.args.length) = true := by simp; simpa using hu
          simp [h3, this]

def okV (t : Tm) : Prop := objB t = true ∨ (t.kind ≠ 3 ∧ t.kind ≠ 5)
def varI (o : Option Int) : Int := o.getD 0
def varM (f n : Nat) (u : Tm) (k : Nat) : Bool := (List.range k).all (fun k => varN f (u.args.getD k u) == some ((n : Int) - 1 - k))
theorem varM_succ (f n : Nat) (u : Tm) (k : Nat) : varM f n u (k + 1) = (varM f n u k && (varN f (u.args.getD k u) == some ((n : Int) - 1 - k))) := by
  unfold varM
  rw [List.range_succ, List.all_append]
  simp
theorem varM_less (f n : Nat) (u : Tm) (k m : Nat) (hk : k < m) (h : (varN f (u.args.getD k u) == some ((n : Int) - 1 - k)) = false) : varM f n u m = false := by
  unfold varM
  rw [List.all_eq_false]
  exact ⟨k, List.mem_range.2 hk, by rw [h]; simp⟩
theorem varN_eq (f : Nat) (t : Tm) : varN (f + 1) t = if (unlam t).2.kind = 5 ∧ ((unlam t).1 : Int) ≤ (unlam t).2.idx ∧ (unlam t).2.args.length = (unlam t).1 ∧ varM f (unlam t).1 (unlam t).2 (unlam t).1 = true then some ((unlam t).2.idx - (unlam t).1) else none := rfl
theorem objBs_get {a : List Tm} (h : objBs a = true) (m : Nat) (hm : m < a.length) : objB a[m] = true := by
  rw [objBs_iff, List.all_eq_true] at h
  exact h _ (List.getElem_mem hm)
theorem var_obj {t : Tm} (h : objB t = true) (hk : t.kind = 5) : objBs t.args = true ∧ 0 ≤ t.idx ∧ t.idx ≤ 1048576 := by
  rw [objB_eq] at h
  simp [atomB, hk, boundB] at h
  exact ⟨h.2, by omega, by omega⟩

set_option maxRecDepth 100000 in
set_option maxHeartbeats 4000000 in
theorem variable_calls (n : Nat) : ∀ (t : Tm) (A : Option Addr) (c : Nat) (w : World) (S : Nat → Prop), tsize t < n → tsize t < 1000000000 → okV t → Rd tmK w S A t.args →
    Giv Try.prog 29 #[tmV t A c] w (.tuple #[.int .i64 (varI (varN n t)), .bool (varN n t).isSome]) := by
  induction n with
  | zero => intro t A c w S h; omega
  | succ f ih =>
  intro t A c w S h1 h2 hok hr
  have H := Lib.hid ih
  clear ih
  have hr0 := hr.bound
  clear hr
  have hk := bk_new w (.cells (tmB t A c) 33)
  have hB := bl_new w (.cells (tmB t A c) 33)
  have Hok := Lib.hid hok
  clear hok
  go_enter Try.func29, Try.ntmps29
  go_wp2_with fail
  go_loopw [4] (fun i w' => ∃ (m : Nat) (u : Tm) (A' : Option Addr) (c' : Nat), m + tsize u ≤ tsize t ∧ i = .int .i64 m ∧ Hid ((unlam t).1 = m + (unlam u).1 ∧ (unlam t).2 = (unlam u).2 ∧ okV u) ∧
    w'.heap[w.heap.size]? = some (.cells (tmB u A' c') 33 (0, 0)) ∧ Rd tmK w' (fun b => S b ∧ b < w.heap.size) A' u.args ∧ Below w.heap.size w w') (fun i _ => tsize t - (intOf i).toNat)
  case atStart => exact ⟨0, t, A, c, by omega, rfl, Lib.hid ⟨by omega, rfl, Hok.out⟩, hk, (hr0.below hB).mono (fun b hb _ => ⟨hb.1, hb.2.lt⟩), hB⟩
  case round =>
    clear hk hB
    obtain ⟨m, u, A', c', hm, rfl, Hu, hk, hR, hB⟩ := hrel
    obtain ⟨c0, c1, c2, c3⟩ := bx4 hk
    have hup := tsize_pos u
    cases h3 : (u.kind == 3)
    · have hne : Hid (u.kind ≠ 3) := Lib.hid (by simpa using h3)
      have Hul : Hid ((unlam t).1 = m ∧ (unlam t).2 = u) := Lib.hid (by
        have := Hu.out
        rw [unlam_stop hne.out] at this
        exact ⟨by simpa using this.1, this.2.1⟩)
      have Hv := Lib.hid (varN_eq f t)
      have hul := len_le_tsizes u.args
      have hus := tsize_eq u
      have bad : (¬ (u.kind = 5 ∧ (m : Int) ≤ u.idx ∧ u.args.length = m)) → varN (f + 1) t = none := fun hn => by
        rw [Hv.out, Hul.out.1, Hul.out.2, if_neg]
        rintro ⟨x1, x2, x3, _⟩
        exact hn ⟨x1, x2, x3⟩
      have Hbad := Lib.hid bad
      clear bad
      cases h5 : (u.kind == 5)
      · have h5' : (u.kind != 5) = true := by rw [bne, h5]; rfl
        go_wp2_with fail
        go_ret2
        exact ⟨by rw [Hbad.out (by simp at h5; omega)]; rfl, hB⟩
      · have h5' : (u.kind != 5) = false := by rw [bne, h5]; rfl
        cases hi : decide (u.idx < (m : Int))
        · cases hl : ((u.args.length : Int) != (m : Int))
          · have hb5 : u.kind = 5 := by simpa using h5
            have hbi : (m : Int) ≤ u.idx := by simp at hi; omega
            have hbl : u.args.length = m := by simp at hl; omega
            have hobu : Hid (objBs u.args = true ∧ 0 ≤ u.idx ∧ u.idx ≤ 1048576) := Lib.hid (by
              rcases Hu.out.2.2 with h | h
              · exact var_obj h hb5
              · exact absurd hb5 h.2)
            have hmi : u.idx ≤ 1048576 := hobu.out.2.2
            have hmi0 : 0 ≤ u.idx := hobu.out.2.1
            have Hgood : Hid (varN (f + 1) t = if varM f m u m = true then some (u.idx - m) else none) := Lib.hid (by
              rw [Hv.out, Hul.out.1, Hul.out.2]
              by_cases h : varM f m u m = true
              · rw [if_pos ⟨hb5, hbi, hbl, h⟩, if_pos h]
              · rw [if_neg (fun hh => h hh.2.2.2), if_neg h])
            have Hbl := Lib.hid hbl
            have Hbi := Lib.hid hbi
            have hmm : (m : Int) ≤ 1000000000 := by omega
            clear hb5 hbi hbl
            have hw0 : IntKind.i64.wrap ((m : Int) - 1) = (m : Int) - 1 := IntWalk.i64_in _ ⟨by omega, by omega⟩
            have hw1 : IntKind.i64.wrap (u.idx - (m : Int)) = u.idx - (m : Int) := IntWalk.i64_in _ ⟨by omega, by omega⟩
            go_wp2_with fail
            go_loopw [37] (fun i w' => ∃ k : Nat, k ≤ m ∧ i = .int .i64 k ∧ Hid (varM f m u k = true) ∧ w'.heap[w.heap.size]? = some (.cells (tmB u A' c') 33 (0, 0)) ∧ Below w.heap.size w w') (fun i _ => m - (intOf i).toNat)
            case atStart => exact ⟨0, by omega, rfl, Lib.hid rfl, hk, hB⟩
            case round =>
              have Hk0 := Lib.hid hk
              have HB0 := Lib.hid hB
              clear hk hB c0 c1 c2 c3
              obtain ⟨k, hkm, rfl, Hm, hk, hB⟩ := hrel
              obtain ⟨c0, c1, c2, c3⟩ := bx4 hk
              have hR1 := hR.move (w' := wr) (S' := fun b => S b ∧ b < w.heap.size) (fun b hb _ => (hB.block b hb.2).trans (HB0.out.block b hb.2).symm) (fun _ h _ => h)
              by_cases hlt : k < m
              · have hlt2 : k < u.args.length := by have := Hbl.out; omega
                obtain ⟨b, o, A2', c2', rfl, _, e0, e1, e2, e3, hl', hr'⟩ := hR1.tm k hlt2
                have hsz := tsizes_mem u.args k hlt2
                have hw2 : IntKind.i64.wrap ((m : Int) - 1 - k) = (m : Int) - 1 - k := IntWalk.i64_in _ ⟨by omega, by omega⟩
                have hkI : (k : Int) < (u.args.length : Int) := by omega
                have Hob := Lib.hid (objBs_get hobu.out.1 k hlt2)
                have Hd : Hid (u.args.getD k u = u.args[k]) := Lib.hid (by simp [List.getD, hlt2])
                obtain ⟨ov, Hov⟩ : ∃ ov, Hid (varN f u.args[k] = ov) := ⟨_, Lib.hid rfl⟩
                have hB2 := bl_alloc hB (.cells #[.int .i64 u.args[k].kind, .string u.args[k].name, .int .i64 u.args[k].idx, .slice A2' u.args[k].args.length c2'] 33)
                have hk2 := bk_alloc hk (.cells #[.int .i64 u.args[k].kind, .string u.args[k].name, .int .i64 u.args[k].idx, .slice A2' u.args[k].args.length c2'] 33)
                go_wp2_with fail
                refine (H.out u.args[k] A2' c2' _ (fun b => S b ∧ b < w.heap.size) (by omega) (by omega) (.inl Hob.out) (hr'.below (bl_new _ _))).use fun w1 hb1 => ?_
                rw [Hov.out]
                replace hk2 := bk_below hk2 hb1
                replace hB2 := bl_self hB2 hb1
                cases hov : ov with
                | none =>
                  simp only [varI, Option.getD_none, Option.isSome_none]
                  go_wp2_with fail
                  go_ret2
                  exact ⟨by rw [Hgood.out, varM_less f m u k m hlt (by rw [Hd.out, Hov.out, hov]; rfl)]; rfl, hB2⟩
                | some x =>
                  simp only [varI, Option.getD_some, Option.isSome_some]
                  cases hx : (x != (m : Int) - 1 - k)
                  · have Hx : Hid (x = (m : Int) - 1 - k) := Lib.hid (by simpa using hx)
                    go_wp2_with fail
                    go_roundw
                    case rel => exact ⟨k + 1, by omega, by go_num, Lib.hid (by rw [varM_succ, Hm.out, Hd.out, Hov.out, hov, Hx.out]; simp), hk2, hB2⟩
                    case measure => simp [intOf]; omega
                  · have Hx : Hid (x ≠ (m : Int) - 1 - k) := Lib.hid (by simpa using hx)
                    go_wp2_with fail
                    go_ret2
                    exact ⟨by rw [Hgood.out, varM_less f m u k m hlt (by rw [Hd.out, Hov.out, hov]; simpa using Hx.out)]; rfl, hB2⟩
              · obtain rfl : k = m := by omega
                have hkI : ¬ (k : Int) < (u.args.length : Int) := by have := Hbl.out; omega
                go_wp2_with fail
                go_ret2
                exact ⟨by rw [Hgood.out, Hm.out]; rfl, hB⟩
          · go_wp2_with fail
            go_ret2
            exact ⟨by rw [Hbad.out (by simp at hl; omega)]; rfl, hB⟩
        · go_wp2_with fail
          go_ret2
          exact ⟨by rw [Hbad.out (by simp at hi; omega)]; rfl, hB⟩
    · have he : u.kind = 3 := by simpa using h3
      have hou : objB u = true := by
        rcases Hu.out.2.2 with h | h
        · exact h
        · exact absurd he h.1
      obtain ⟨hl1, hob⟩ := lam_obj hou he
      have H3 := Lib.hid he
      have Hob := Lib.hid hob
      clear he hob hou
      have hlp : 0 < u.args.length := by omega
      obtain ⟨b, o, A2', c2', rfl, ⟨_, hbl⟩, e0, e1, e2, e3, hl', hr'⟩ := hR.tm0 hlp
      have Hl1 := Lib.hid hl1
      have hl0 : (0 : Int) < (u.args.length : Int) := by omega
      have hsz := tsizes_mem u.args 0 hlp
      have hus := tsize_eq u
      clear hl1
      have g0 := bk_free hk 0
      have g1 := bk_free hk 1
      have g2 := bk_free hk 2
      have g3 := bk_free hk 3
      go_wp2_with fail
      go_roundw
      case rel =>
        refine ⟨m + 1, u.args[0], A2', c2', by omega, by go_num, Lib.hid ⟨?_, ?_, .inl ?_⟩, set4_self hk, hr'.set4 (fun b hb => by have := hb.2; omega), bl_set4 hB (Nat.le_refl _)⟩
        · have := Hu.out.1
          rw [unlam_lam H3.out hlp] at this
          simp only at this
          omega
        · have := Hu.out.2.1
          rw [unlam_lam H3.out hlp] at this
          exact this
        · have := Hob.out
          rw [objBs_one Hl1.out hlp] at this
          exact this
      case measure => simp [intOf]; omega

/-- what Variable answers -/
def variT (t : Tm) : Option Int := if wfE t = 0 then varN (tsize t + 1) t else none
theorem okV_wf {t : Tm} (h : wfE t = 0) : okV t := by
  by_cases ho : objB t = true
  · exact .inl ho
  · refine .inr ?_
    have ho : objB t = false := by simpa using ho
    by_cases ht : typB t = true
    · rw [typB_eq] at ht
      simp only [Bool.or_eq_true, Bool.and_eq_true, atomB, beq_iff_eq] at ht
      omega
    · have ht : typB t = false := by simpa using ht
      by_cases hk : kndB t = true
      · rw [kndB_eq] at hk
        simp only [Bool.or_eq_true, Bool.and_eq_true, beq_iff_eq] at hk
        omega
      · have hk : kndB t = false := by simpa using hk
        rw [wfE, ho, ht, hk] at h
        simp at h
theorem variable2_calls (t : Tm) (A : Option Addr) (c : Nat) (w : World) (S : Nat → Prop) (h2 : tsize t < 1000000000) (hr : Rd tmK w S A t.args) :
    Giv Try.prog 10 #[tmV t A c] w (.tuple #[.int .i64 (varI (variT t)), .bool (variT t).isSome]) := by
  have hk := bk_new w (.cells (tmB t A c) 33)
  have hB := bl_new w (.cells (tmB t A c) 33)
  have HW := Lib.hid (wellFormed_calls t A c _ _ h2 (hr.below hB))
  by_cases h0 : wfE t = 0
  · have H0 := Lib.hid h0
    have e : variT t = varN (tsize t + 1) t := by rw [variT, if_pos h0]
    clear h0
    rw [e]
    have He := Lib.hid e
    clear e
    go_enter Try.func10, Try.ntmps10
    go_wp2_with fail
    refine HW.out.use fun w1 hb1 => ?_
    rw [H0.out]
    obtain ⟨c0, c1, c2, c3⟩ := bx4 (bk_below hk hb1)
    replace hB := bl_self hB hb1
    go_wp2_with fail
    refine (variable_calls (tsize t + 1) t A c _ S (Nat.lt_succ_self _) h2 (okV_wf H0.out) (hr.below hB)).use fun w2 hb2 => ?_
    go_wp2_with fail
    go_ret2
    exact ⟨rfl, bl_self hB hb2⟩
  · have h0' : (wfE t != 0) = true := by simpa using h0
    have e : variT t = none := by rw [variT, if_neg h0]
    rw [e]
    clear e
    go_enter Try.func10, Try.ntmps10
    go_wp2_with fail
    refine HW.out.use fun w1 hb1 => ?_
    go_wp2_with fail
    go_ret2
    exact ⟨rfl, bl_self hB hb1⟩
end Go.Proofs.Ytolooomphmcphaa
