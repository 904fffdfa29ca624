/- The plain law of SimpleEta: the reference's answer is the program's. No program in sight. -/
import Derived.Test.YtolooomphmcphaaDoorQ6
namespace Go.Proofs.YtolooomphmcphaaDoor
open Go.RowKit

mutual
/-- all indices of variables are at most M -/
def vLe (M : Int) : Tm → Bool | .mk k _ i a => (!(k == 5) || decide (i ≤ M)) && vLes M a
def vLes (M : Int) : List Tm → Bool | [] => true | t :: r => vLe M t && vLes M r
end
mutual
theorem grT_le (M : Int) (hM : -1 ≤ M) : ∀ t : Tm, decide (grT t ≤ M) = vLe M t
  | .mk k s i a => by
    rw [grT, vLe, grTs_le M hM a]
    by_cases h : k = 5
    · simp [h]
    · simp [h, hM]
theorem grTs_le (M : Int) (hM : -1 ≤ M) : ∀ (a : List Tm) (n : Int), decide (grTs n a ≤ M) = (decide (n ≤ M) && vLes M a)
  | [], n => by rw [grTs, vLes, Bool.and_true]
  | t :: r, n => by
    rw [grTs, grTs_le M hM r, vLes, ← grT_le M hM t]
    rw [← Bool.and_assoc]
    congr 1
    rw [Bool.eq_iff_iff]
    simp only [decide_eq_true_eq, Bool.and_eq_true]
    omega
end
theorem vLes_append (M : Int) (a b : List Tm) : vLes M (a ++ b) = (vLes M a && vLes M b) := by
  induction a with
  | nil => simp [vLes]
  | cons t r ih => simp [vLes, ih, Bool.and_assoc]
theorem vLe_lams (M : Int) (n : Nat) (t : Tm) : vLe M (lamsT n t) = vLe M t := by
  induction n with
  | zero => rfl
  | succ n ih => rw [lamsT, vLe, vLes, vLes, ih]; simp
mutual
theorem vLe_exp (M : Int) : ∀ (s : Sm) (j : Int), j ≤ M → 2 * ssize s ≤ M → vLe M (expandT (vr j) s) = true
  | .mk f a, j, h1, h2 => by
    simp only [ssize] at h2
    rw [expandT, vLe_lams, vLe, vLes_append, vLes_exp M a.length 0 a (by have := len_le_ssizes a; omega) (by omega)]
    show ((!((5 : Int) == 5) || decide (j ≤ M)) && (vLes M [] && true)) = true
    simp [vLes, h1]
theorem vLes_exp (M : Int) : ∀ (n k : Nat) (a : List Sm), (n : Int) + ssizes a ≤ M → 2 * ssizes a ≤ M → vLes M (expArgs n k a) = true
  | n, k, [], _, _ => rfl
  | n, k, s :: r, h, h2 => by
    simp only [ssizes] at h h2
    have hl : s.args.length ≤ ssize s := by have := len_le_ssizes s.args; have := ssize_eq s; omega
    rw [expArgs, vLes, vLe_exp M s _ (by omega) (by omega), vLes_exp M n (k + 1) r (by omega) (by omega)]
    rfl
end
mutual
theorem vLe_mv (d : Int) (hd : 0 ≤ d) : ∀ (t : Tm) (bs : Int), 0 ≤ bs → objB t = true → vLe 1048576 (mv d bs t) = shOk d 0 bs t
  | .mk k s i a, bs, h0, ho => by
    have hi : i ≤ 1048576 ∧ objBs a = true := by
      rw [objB] at ho
      simp only [Bool.or_eq_true, Bool.and_eq_true, boundB, Tm.idx, beq_iff_eq, decide_eq_true_eq] at ho
      rcases ho with ((h | h) | h) | h
      · exact ⟨by omega, h.2⟩
      · exact ⟨by omega, h.2⟩
      · exact ⟨by omega, h.2⟩
      · exact ⟨by omega, h.2⟩
    rw [mv, vLe, shOk_eq, vLes_mv d hd k a bs 0 h0 hi.2]
    show _ = ((!(k == 5 && decide (bs ≤ i)) || (if i - bs < 0 then decide (i ≤ 1048576) else decide (d ≤ 1048576) && decide (i + d ≤ 1048576))) && shOks d 0 bs k 0 a)
    congr 1
    by_cases hk : k = 5
    · by_cases hb : bs ≤ i
      · rw [if_pos ⟨hk, hb⟩, if_neg (by omega)]
        simp [hk, hb]
        omega
      · rw [if_neg (fun h => hb h.2)]
        simp [hb, hi.1]
    · have hk' : (k == 5) = false := by simpa using hk
      rw [hk']
      rfl
theorem vLes_mv (d : Int) (hd : 0 ≤ d) (k : Int) : ∀ (a : List Tm) (bs : Int) (j : Nat), 0 ≤ bs → objBs a = true → vLes 1048576 (mvs d bs k j a) = shOks d 0 bs k j a
  | [], bs, j, _, _ => rfl
  | t :: r, bs, j, h0, ho => by
    rw [objBs, Bool.and_eq_true] at ho
    have := underN_le k j
    rw [mvs, vLes, shOks, vLe_mv d hd t _ (by omega) ho.1, vLes_mv d hd k r bs (j + 1) h0 ho.2]
end
theorem mv_dep (d fr : Int) (t : Tm) : tdep (mv d fr t) = tdep t := by
  revert fr
  refine Tm.rec (motive_1 := fun t => ∀ fr, tdep (mv d fr t) = tdep t) (motive_2 := fun a => ∀ fr k j, tdeps (mvs d fr k j a) = tdeps a) ?_ ?_ ?_ t
  · intro k s i a ih fr
    simp [mv, tdep, ih]
  · intro fr k j
    rfl
  · intro t r h1 h2 fr k j
    simp [mvs, tdeps, h1, h2]
theorem lams_dep' (n : Nat) (t : Tm) : tdep (lamsT n t) = n + tdep t := by
  induction n with
  | zero => simp [lamsT]
  | succ n ih => simp [lamsT, tdep, tdeps, ih]; omega
theorem tdeps_app (a b : List Tm) : tdeps (a ++ b) = max (tdeps a) (tdeps b) := by
  induction a with
  | nil => simp [tdeps]
  | cons t r ih => simp only [List.cons_append, tdeps, ih]; omega
theorem mvx_size (d : Int) (h : Tm) (s : Sm) : tsize (expandT (mv d 0 h) s) = tsize (expandT h s) := by
  have := mv_size d 0 h
  rw [tsize_eq, tsize_eq h] at this
  rw [expandT_size, expandT_size]
  omega
theorem mvx_dep (d : Int) (h : Tm) (s : Sm) : tdep (expandT (mv d 0 h) s) = tdep (expandT h s) := by
  have := mv_dep d 0 h
  rw [tdep_eq, tdep_eq h] at this
  rw [expandT_eq, expandT_eq, lams_dep', lams_dep', tdep, tdep, tdeps_app, tdeps_app]
  omega
theorem head_obj {h : Tm} (hw : wfE h = 0) (hh : headB h = true) : objB h = true := by
  cases ho : objB h
  · exfalso
    have hk : kndB h = false := by
      rw [kndB_eq]
      simp only [headB, Bool.or_eq_true, beq_iff_eq] at hh
      rcases hh with (hh | hh) | hh <;> simp [hh]
    have ht : typB h = false := by
      cases ht : typB h
      · rfl
      · rw [typB_eq] at ht
        simp only [headB, Bool.or_eq_true, beq_iff_eq] at hh
        simp only [Bool.or_eq_true, Bool.and_eq_true, beq_iff_eq] at ht
        rcases ht with ht | ht
        · rw [objB_eq, ht] at ho
          simp at ho
        · omega
    unfold wfE at hw
    rw [ho, ht, hk] at hw
    simp at hw
  · rfl
/-- what the reference answers -/
theorem eta_ref (h : Tm) (s : Sm) (h0 : wfE h = 0) (hs : swfE s = 0) (hh : headB h = true) (hss : ssize s ≤ 100000) :
    (4096 < tsize h - 1 + lsz s → etaE h s = 2) ∧ (¬ 4096 < tsize h - 1 + lsz s → smallB (expandT (mv s.args.length 0 h) s) = false → etaE h s = 2) ∧
    (¬ 4096 < tsize h - 1 + lsz s → smallB (expandT (mv s.args.length 0 h) s) = true → 1048576 < grT (expandT (mv s.args.length 0 h) s) → etaE h s = 5) ∧
    (¬ 4096 < tsize h - 1 + lsz s → smallB (expandT (mv s.args.length 0 h) s) = true → ¬ 1048576 < grT (expandT (mv s.args.length 0 h) s) → etaE h s = 0 ∧ etaT h s = expandT (mv s.args.length 0 h) s) := by
  have ho := head_obj h0 hh
  have hz := expandT_size h s
  have ht := tsize_eq h
  have hl1 := lsz_le s
  have hl2 := lsz_xsz s
  have hsm : smallB (expandT (mv s.args.length 0 h) s) = decide (tsize (expandT h s) ≤ 4096 ∧ tdep (expandT h s) ≤ 128) := by
    unfold smallB
    rw [mvx_size, mvx_dep]
    simp
  have hg : decide (grT (expandT (mv s.args.length 0 h) s) ≤ 1048576) = shOk s.args.length 0 0 h := by
    rw [grT_le _ (by omega), expandT_eq, vLe_lams, vLe, vLes_append, vLes_exp _ _ _ _ (by have := len_le_ssizes s.args; have := ssize_eq s; omega) (by have := ssize_eq s; omega), Bool.and_true,
      ← vLe_mv _ (by omega) h 0 (by omega) ho]
    cases hm : mv s.args.length 0 h
    rw [vLe]
    rfl
  have hE : etaE h s = if tsize (expandT h s) ≤ 4096 ∧ tdep (expandT h s) ≤ 128 then shiftE s.args.length 0 h else 2 := by rw [etaE, if_pos h0, if_pos hs, if_pos hh]
  refine ⟨fun h1 => ?_, fun h1 h2 => ?_, fun h1 h2 h3 => ?_, fun h1 h2 h3 => ?_⟩
  · rw [hE, if_neg (by omega)]
  · rw [hsm] at h2
    rw [hE, if_neg (by simpa using h2)]
  · rw [hsm] at h2
    rw [hE, if_pos (by simpa using h2), shiftE, if_pos h0, if_neg]
    rw [← hg]
    simp
    omega
  · rw [hsm] at h2
    have hk : shOk s.args.length 0 0 h = true := by rw [← hg]; simp; omega
    have e : etaE h s = 0 := by rw [hE, if_pos (by simpa using h2), shiftE, if_pos h0, if_pos hk]
    exact ⟨e, by rw [etaT, if_pos e, shiftT, if_pos h0, if_pos hk]⟩
end Go.Proofs.YtolooomphmcphaaDoor
