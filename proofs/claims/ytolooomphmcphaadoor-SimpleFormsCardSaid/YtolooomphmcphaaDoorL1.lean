/- The plain law: the eta-long form of a variable is recognized, fits, and is moved as the variable is. No program in sight. -/
import Derived.Test.YtolooomphmcphaaDoorE4
import Derived.Test.YtolooomphmcphaaDoorT2
namespace Go.Proofs.YtolooomphmcphaaDoor
open Go.RowKit

theorem repS_all (P : Sm → Prop) (f : List Int → Sm × List Int) (hf : ∀ T, P (f T).1) : ∀ (n : Nat) (T : List Int), ∀ s ∈ (repS f n T).1, P s
  | 0, T, s, h => by simp [repS] at h
  | n + 1, T, s, h => by
    simp only [repS, List.mem_cons] at h
    rcases h with rfl | h
    · exact hf T
    · exact repS_all P f hf n _ s h
theorem fam3_form (k : Nat) : (isName (fam3 k) || (fam3 k).toList == [116, 121, 112, 101]) = true := by
  unfold fam3
  split
  · decide +kernel
  · split
    · decide +kernel
    · decide +kernel
theorem mkS_form : ∀ (d : Nat) (T : List Int), formB (mkS d T).1 = true
  | 0, T => by
    rw [formB_eq]
    simp only [mkS, Sm.fam, Sm.args, formBs, Bool.and_true]
    exact fam3_form _
  | d + 1, T => by
    rw [formB_eq]
    simp only [mkS, Sm.fam, Sm.args, fam3_form, Bool.true_and, formBs_iff, List.all_eq_true]
    exact repS_all (fun s => formB s = true) _ (mkS_form d) _ _
theorem ssizes_le (B : Nat) : ∀ (a : List Sm), (∀ s ∈ a, ssize s ≤ B) → ssizes a ≤ a.length * B
  | [], _ => by simp [ssizes]
  | t :: r, h => by
    have h1 := h t (by simp)
    have h2 := ssizes_le B r (fun s hs => h s (by simp [hs]))
    simp only [ssizes, List.length_cons, Nat.add_mul]
    omega
theorem mkS_size : ∀ (d : Nat) (T : List Int), ssize (mkS d T).1 ≤ 2 ^ (d + 1) - 1
  | 0, T => by simp [mkS, ssize, ssizes]
  | d + 1, T => by
    rw [ssize_eq]
    have h := ssizes_le (2 ^ (d + 1) - 1) (mkS (d + 1) T).1.args (by
      show ∀ s ∈ (repS (mkS d) _ _).1, _
      exact repS_all _ _ (mkS_size d) _ _)
    have hl : (mkS (d + 1) T).1.args.length ≤ 2 := by
      show (repS (mkS d) _ _).1.length ≤ 2
      rw [repS_len]
      have := nxV_lt T.tail (n := 3) (by omega)
      omega
    have hp : 0 < 2 ^ (d + 1) := Nat.two_pow_pos _
    have : (mkS (d + 1) T).1.args.length * (2 ^ (d + 1) - 1) ≤ 2 * (2 ^ (d + 1) - 1) := Nat.mul_le_mul_right _ hl
    rw [Nat.pow_succ]
    omega
theorem swf_of {s : Sm} (h : formB s = true) (h2 : ssize s ≤ 100) : swfE s = 0 := by
  have := sdep_le s
  unfold swfE
  rw [if_neg (by rw [h]; simp), if_neg (by omega)]

/-! ### eta-long forms -/
abbrev vr (j : Int) : Tm := .mk 5 ⟨#[]⟩ j []
theorem lams_obj (n : Nat) (t : Tm) : objB (lamsT n t) = objB t := by
  induction n with
  | zero => rfl
  | succ n ih =>
    rw [lamsT, objB_eq]
    simp only [Tm.kind, Tm.args, objBs, ih, atomB]
    simp [boundB, Tm.idx, Tm.args, Tm.name, okName]
theorem var_obj' (j : Int) (a : List Tm) (h0 : 0 ≤ j) (h1 : j ≤ 1048576) (ha : objBs a = true) : objB (.mk 5 ⟨#[]⟩ j a) = true := by
  rw [objB]
  simp [ha, h0, h1]
mutual
theorem expandT_obj : ∀ (s : Sm) (j : Int), 0 ≤ j → j ≤ 1048576 → ssize s ≤ 100000 → objB (expandT (vr j) s) = true
  | .mk f a, j, h0, h1, hs => by
    rw [expandT, lams_obj]
    simp only [ssize] at hs
    have hl := len_le_ssizes a
    exact var_obj' j _ h0 h1 (show objBs (expArgs a.length 0 a) = true from expArgs_obj a.length 0 a (by omega) (by omega) (by omega))
theorem expArgs_obj : ∀ (n k : Nat) (a : List Sm), k + a.length ≤ n → n ≤ 100000 → ssizes a ≤ 100000 → objBs (expArgs n k a) = true
  | n, k, [], _, _, _ => rfl
  | n, k, s :: r, h, hn, hs => by
    simp only [ssizes, List.length_cons] at hs h
    have hl : s.args.length ≤ ssize s := by have := len_le_ssizes s.args; have := ssize_eq s; omega
    rw [expArgs, objBs, expandT_obj s _ (by omega) (by omega) (by omega), expArgs_obj n (k + 1) r (by omega) hn (by omega)]
    rfl
end
theorem unlam_lams (n : Nat) (t : Tm) (h : t.kind ≠ 3) : unlam (lamsT n t) = (n, t) := by
  induction n with
  | zero => exact unlam_stop h
  | succ n ih => rw [lamsT, unlam]; simp [ih]
theorem expandT_vr (j : Int) (s : Sm) : expandT (vr j) s = lamsT s.args.length (.mk 5 ⟨#[]⟩ j (expArgs s.args.length 0 s.args)) := by rw [expandT_eq]; rfl
theorem unlam_exp (j : Int) (s : Sm) : unlam (expandT (vr j) s) = (s.args.length, .mk 5 ⟨#[]⟩ j (expArgs s.args.length 0 s.args)) := by
  rw [expandT_vr, unlam_lams _ _ (by simp [Tm.kind])]
theorem expArgs_get (n : Nat) : ∀ (j : Nat) (a : List Sm) (k : Nat) (h : k < a.length), (expArgs n j a)[k]? = some (expandT (vr ((n : Int) - 1 - ((j + k : Nat) : Int) + a[k].args.length)) a[k])
  | j, [], k, h => by simp at h
  | j, s :: r, 0, _ => by simp [expArgs]
  | j, s :: r, k + 1, h => by
    have := expArgs_get n (j + 1) r k (by simpa using h)
    rw [expArgs, List.getElem?_cons_succ, this]
    simp [Nat.add_assoc, Nat.add_comm 1 k]
theorem varN_exp (f : Nat) : ∀ (s : Sm) (v : Int), 0 ≤ v → ssize s ≤ f → varN f (expandT (vr (v + s.args.length)) s) = some v := by
  induction f with
  | zero => intro s v _ h; have := ssize_pos s; omega
  | succ f ih =>
    intro s v hv hs
    rw [varN_eq, unlam_exp]
    rw [if_pos]
    · show some (v + (s.args.length : Int) - s.args.length) = _
      congr 1
      omega
    · refine ⟨rfl, by show (s.args.length : Int) ≤ v + s.args.length; omega, by show (expArgs _ _ _).length = _; rw [expArgs_len], ?_⟩
      unfold varM
      rw [List.all_eq_true]
      intro k hk
      have hk : k < s.args.length := by simpa using hk
      have hm := ssizes_mem s.args k hk
      have he := ssize_eq s
      have hg := expArgs_get s.args.length 0 s.args k hk
      have hgd : (expArgs s.args.length 0 s.args).getD k (.mk 5 ⟨#[]⟩ (v + s.args.length) (expArgs s.args.length 0 s.args)) = expandT (vr (((s.args.length : Int) - 1 - k) + s.args[k].args.length)) s.args[k] := by
        rw [List.getD_eq_getElem?_getD, hg]
        simp
      show (varN f ((expArgs s.args.length 0 s.args).getD k (.mk 5 ⟨#[]⟩ (v + s.args.length) (expArgs s.args.length 0 s.args))) == _) = true
      rw [hgd, ih s.args[k] ((s.args.length : Int) - 1 - k) (by omega) (by omega)]
      simp
theorem mv_lams (d : Int) (t : Tm) : ∀ (n : Nat) (fr : Int), mv d fr (lamsT n t) = lamsT n (mv d (fr + n) t)
  | 0, fr => by simp [lamsT]
  | n + 1, fr => by
    rw [lamsT, mv, mvs, mvs, mv_lams d t n, lamsT]
    simp [underN, Int.add_assoc, Int.add_comm 1 (n : Int)]
mutual
theorem mv_low (d : Int) : ∀ (s : Sm) (j fr : Int), 0 ≤ fr → j < fr + s.args.length → mv d fr (expandT (vr j) s) = expandT (vr j) s
  | .mk f a, j, fr, h0, h => by
    have h : j < fr + a.length := h
    rw [expandT, mv_lams, mv]
    show lamsT a.length (.mk 5 ⟨#[]⟩ (if (5 : Int) = 5 ∧ fr + a.length ≤ j then j + d else j) (mvs d (fr + a.length) 5 0 ([] ++ expArgs a.length 0 a))) = lamsT a.length (.mk 5 ⟨#[]⟩ j ([] ++ expArgs a.length 0 a))
    rw [mvs_low d a.length 0 a (fr + a.length) 0 (by omega) (by omega), if_neg (by omega)]
theorem mvs_low (d : Int) : ∀ (n k : Nat) (a : List Sm) (fr : Int) (i : Nat), n ≤ fr → k + a.length ≤ n → mvs d fr 5 i ([] ++ expArgs n k a) = [] ++ expArgs n k a
  | n, k, [], fr, i, _, _ => by simp [expArgs, mvs]
  | n, k, s :: r, fr, i, h0, h => by
    simp only [List.length_cons] at h
    have h2 := mvs_low d n (k + 1) r fr (i + 1) h0 (by omega)
    simp only [List.nil_append] at h2 ⊢
    rw [expArgs, mvs, h2, show underN 5 i = 0 from by unfold underN; rw [if_neg (by omega)], Int.add_zero, mv_low d s _ fr (by omega) (by omega)]
end
theorem mv_high (d : Int) (s : Sm) (j fr : Int) (h0 : 0 ≤ fr) (h : fr + s.args.length ≤ j) : mv d fr (expandT (vr j) s) = expandT (vr (j + d)) s := by
  cases s with
  | mk f a =>
    have h : fr + a.length ≤ j := h
    rw [expandT, expandT, mv_lams, mv]
    show lamsT _ (.mk 5 ⟨#[]⟩ _ (mvs d _ 5 0 ([] ++ expArgs a.length 0 a))) = _
    rw [mvs_low d a.length 0 a (fr + a.length) 0 (by omega) (by omega), if_pos ⟨rfl, h⟩]
    rfl
mutual
theorem sameT_refl : ∀ t : Tm, sameT t t = true
  | .mk k s i a => by simp [sameT, Tm.kind, Tm.idx, Tm.name, Tm.args, sameTs_refl a]
theorem sameTs_refl : ∀ a : List Tm, sameTs a a = true
  | [] => rfl
  | t :: r => by simp [sameTs, sameT_refl t, sameTs_refl r]
end
mutual
theorem obj_ix : ∀ t : Tm, objB t = true → ixT 1000000000000 t
  | .mk k s i a, h => by
    rw [objB] at h
    simp only [Bool.or_eq_true, Bool.and_eq_true, boundB, Tm.idx, beq_iff_eq, decide_eq_true_eq] at h
    rw [ixT]
    rcases h with ((h | h) | h) | h
    · exact ⟨by omega, by omega, objs_ix a h.2⟩
    · exact ⟨by omega, by omega, objs_ix a h.2⟩
    · exact ⟨by omega, by omega, objs_ix a h.2⟩
    · exact ⟨by omega, by omega, objs_ix a h.2⟩
theorem objs_ix : ∀ a : List Tm, objBs a = true → ixTs 1000000000000 a
  | [], _ => trivial
  | t :: r, h => by
    rw [objBs, Bool.and_eq_true] at h
    exact ⟨obj_ix t h.1, objs_ix r h.2⟩
end
theorem ssize_xsz : ∀ s : Sm, ssize s ≤ xsz s := by
  intro s
  refine Sm.rec (motive_1 := fun s => ssize s ≤ xsz s) (motive_2 := fun a => ssizes a ≤ xszs a) ?_ ?_ ?_ s
  · intro f a ih; simp only [ssize, xsz]; omega
  · simp [ssizes, xszs]
  · intro t r h1 h2; simp only [ssizes, xszs]; omega
theorem exp_size (j : Int) (s : Sm) : tsize (expandT (vr j) s) = xsz s := by rw [expandT_size]; simp [Tm.args, tsizes]
theorem wf_exp (j : Int) (s : Sm) (h0 : 0 ≤ j) (h1 : j ≤ 1048576) (hs : ssize s ≤ 60) : wfE (expandT (vr j) s) = 0 ∧ smallB (expandT (vr j) s) = true := by
  have ho := expandT_obj s j h0 h1 (by omega)
  have hx := xsz_le s
  have hz := exp_size j s
  have hd := tdep_le (expandT (vr j) s)
  have hsm : smallB (expandT (vr j) s) = true := by simp [smallB]; omega
  exact ⟨by unfold wfE; rw [ho, hsm]; simp, hsm⟩
theorem vr_wf (v : Int) (h0 : 0 ≤ v) (h1 : v ≤ 1048576) : wfE (vr v) = 0 := by
  have ho := var_obj' v [] h0 h1 rfl
  unfold wfE smallB
  rw [ho]
  simp [tsize, tsizes, tdep, tdeps]
theorem eta_var (s : Sm) (v : Int) (hf : formB s = true) (hs : ssize s ≤ 60) (h0 : 0 ≤ v) (h1 : v ≤ 1000) : etaE (vr v) s = 0 ∧ etaT (vr v) s = expandT (vr (v + s.args.length)) s := by
  have hl : s.args.length ≤ 60 := by have := len_le_ssizes s.args; have := ssize_eq s; omega
  have hw := vr_wf v h0 (by omega)
  have hok : shOk s.args.length 0 0 (vr v) = true := by
    rw [shOk_eq]
    simp [Tm.kind, Tm.idx, Tm.args, shOks, show ¬ v < 0 by omega]
    exact .inr ⟨by omega, decide_eq_true (show v + (s.args.length : Int) ≤ 1048576 by omega)⟩
  have hx := xsz_le s
  have hz := exp_size v s
  have hd := tdep_le (expandT (vr v) s)
  have hE : shiftE s.args.length 0 (vr v) = 0 := by rw [shiftE, if_pos hw, if_pos hok]
  have e : etaE (vr v) s = 0 := by
    rw [etaE, if_pos hw, if_pos (swf_of hf (by omega)), if_pos (by rfl), if_pos (by omega), hE]
  refine ⟨e, ?_⟩
  rw [etaT, if_pos e, shiftT, if_pos hw, if_pos hok, mv]
  rw [if_pos ⟨rfl, h0⟩]
  rfl
theorem law_var (l : List Int) (v n : Int) (hv0 : 0 ≤ v) (hv : v < 50) (hn0 : 0 ≤ n) (hn : n < 50) :
    ssize (mkS 3 l).1 ≤ 15 ∧ etaE (vr v) (mkS 3 l).1 = 0 ∧ etaE (vr (v + n)) (mkS 3 l).1 = 0 ∧ variT (etaT (vr v) (mkS 3 l).1) = some v ∧
    (objB (etaT (vr v) (mkS 3 l).1) && smallB (etaT (vr v) (mkS 3 l).1) && (unlam (etaT (vr v) (mkS 3 l).1)).1 == (mkS 3 l).1.args.length) = true ∧
    sameT (mv n 0 (etaT (vr v) (mkS 3 l).1)) (etaT (vr (v + n)) (mkS 3 l).1) = true ∧ tsize (etaT (vr v) (mkS 3 l).1) ≤ 100 ∧ tsize (etaT (vr (v + n)) (mkS 3 l).1) ≤ 100 := by
  have hf := mkS_form 3 l
  have hs := mkS_size 3 l
  generalize (mkS 3 l).1 = s at hf hs ⊢
  have hs : ssize s ≤ 15 := hs
  have hl : s.args.length ≤ 15 := by have := len_le_ssizes s.args; have := ssize_eq s; omega
  obtain ⟨e1, e2⟩ := eta_var s v hf (by omega) hv0 (by omega)
  obtain ⟨e3, e4⟩ := eta_var s (v + n) hf (by omega) (by omega) (by omega)
  rw [e2, e4]
  obtain ⟨w1, w2⟩ := wf_exp (v + s.args.length) s (by omega) (by omega) (by omega)
  have hx := xsz_le s
  refine ⟨hs, e1, e3, ?_, ?_, ?_, ?_, ?_⟩
  · rw [variT, if_pos w1]
    exact varN_exp _ s v hv0 (by rw [exp_size]; have := ssize_xsz s; omega)
  · rw [w2, expandT_obj s _ (by omega) (by omega) (by omega), unlam_exp]
    simp
  · rw [mv_high n s _ 0 (Int.le_refl _) (by omega), show v + n + (s.args.length : Int) = v + s.args.length + n by omega]
    exact sameT_refl _
  · rw [exp_size]; omega
  · rw [exp_size]; omega
end Go.Proofs.YtolooomphmcphaaDoor
