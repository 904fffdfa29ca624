/- The plain law of SubstWork: x (x (.. (x c))) with x := [y] f y y has 2^k leaves. No program in sight. -/
import Derived.Test.YtolooomphmcphaaH9
import Derived.Test.YtolooomphmcphaaH10
namespace Go.Proofs.Ytolooomphmcphaa
open Go.RowKit

def natS : Sm := .mk ⟨#[110, 97, 116]⟩ []
def fS : Sm := .mk ⟨#[110, 97, 116]⟩ [natS]
def cT : Tm := .mk 4 ⟨#[99]⟩ 0 []
def v0T : Tm := .mk 5 ⟨#[]⟩ 0 []
def bdT : Tm := .mk 4 ⟨#[102]⟩ 0 [v0T, v0T]
def dbT : Tm := .mk 3 ⟨#[]⟩ 0 [bdT]
def xsT : Nat → Tm | 0 => cT | n + 1 => .mk 5 ⟨#[]⟩ 0 [xsT n]
def dT : Nat → Tm | 0 => cT | n + 1 => .mk 4 ⟨#[102]⟩ 0 [dT n, dT n]
theorem dT_kind (k : Nat) : (dT k).kind = 4 := by cases k <;> rfl
theorem isName_c : isName ⟨#[99]⟩ = true := by decide +kernel
theorem isName_f : isName ⟨#[102]⟩ = true := by decide +kernel
theorem dT_obj : ∀ k, objB (dT k) = true
  | 0 => by decide +kernel
  | k + 1 => by
    have h := dT_obj k
    simp only [dT, objB, objBs, h, isName_f]
    simp
theorem dT_size : ∀ k, tsize (dT k) + 1 = 2 ^ (k + 1)
  | 0 => rfl
  | k + 1 => by
    have h := dT_size k
    simp only [dT, tsize, tsizes]
    rw [Nat.pow_succ]
    omega
theorem dT_dep : ∀ k, tdep (dT k) = k + 1
  | 0 => rfl
  | k + 1 => by
    have h := dT_dep k
    simp only [dT, tdep, tdeps]
    omega
theorem dT_small {k : Nat} (h : k ≤ 11) : tsize (dT k) ≤ 4096 ∧ tdep (dT k) ≤ 128 := by
  have h1 := dT_size k
  have h2 := dT_dep k
  have h3 : 2 ^ (k + 1) ≤ 2 ^ 12 := Nat.pow_le_pow_right (by decide) (by omega)
  have h4 : (2 : Nat) ^ 12 = 4096 := by decide
  omega
theorem sub_var (f W : Nat) (a : Tm) (hf : 1 ≤ f) (hW : W + 1 ≤ 262144) (ho : objB a = true) (hs : tsize a ≤ 4096 ∧ tdep a ≤ 128) (hk : a.kind ≠ 3) : subT f W v0T [a] [natS] 0 = (0, W + 1, a) := by
  obtain ⟨f, rfl⟩ : ∃ g, f = g + 1 := ⟨f - 1, by omega⟩
  rw [subT_eq, if_neg (by omega)]
  have e : subL (Ff f [a] [natS]) v0T.kind 0 (W + 1) 0 v0T.args = (0, W + 1, []) := rfl
  rw [e, if_neg (by simp)]
  show nodeT (Gf f) (W + 1) v0T [] [a] [natS] 0 = _
  rw [show v0T = .mk 5 ⟨#[]⟩ 0 [] from rfl, nodeT_mk, if_neg (by omega), if_pos (show (0 - ((0 : Nat) : Int)).toNat < ([a] : List Tm).length from by simp)]
  show (if shOk 0 0 0 a = true then (if ([] : List Tm).length = natS.args.length then appL (Gf f) (W + 1) (mv 0 0 a) natS.args [] else errT 6 (W + 1)) else errT 5 (W + 1)) = _
  rw [if_pos (shOk_zero a 0 ho), if_pos (show ([] : List Tm).length = natS.args.length from rfl), mv_zero]
  show appL (Gf f) (W + 1) a [] [] = _
  rw [appL, if_neg hk, chkT, if_pos hs]
theorem sub_body (f W : Nat) (a : Tm) (hf : 2 ≤ f) (hW : W + 3 ≤ 262144) (ho : objB a = true) (hs : tsize a ≤ 4096 ∧ tdep a ≤ 128) (hk : a.kind ≠ 3) : subT f W bdT [a] [natS] 0 = chkT (W + 3) (.mk 4 ⟨#[102]⟩ 0 [a, a]) := by
  obtain ⟨f, rfl⟩ : ∃ g, f = g + 1 := ⟨f - 1, by omega⟩
  rw [subT_eq, if_neg (by omega)]
  have h1 : Ff f [a] [natS] (W + 1) v0T (0 + undI 4 0) = (0, W + 1 + 1, a) := sub_var f (W + 1) a (by omega) (by omega) ho hs hk
  have h2 : Ff f [a] [natS] (W + 1 + 1) v0T (0 + undI 4 (0 + 1)) = (0, W + 1 + 1 + 1, a) := sub_var f (W + 1 + 1) a (by omega) (by omega) ho hs hk
  have e : subL (Ff f [a] [natS]) bdT.kind 0 (W + 1) 0 bdT.args = (0, W + 3, [a, a]) := by
    show subL (Ff f [a] [natS]) 4 0 (W + 1) 0 [v0T, v0T] = _
    rw [subL, h1]
    simp only [ne_eq, not_true, if_false]
    rw [subL, h2]
    simp [subL]
  rw [e, if_neg (by simp)]
  show nodeT (Gf f) (W + 3) bdT [a, a] [a] [natS] 0 = _
  rw [show bdT = .mk 4 ⟨#[102]⟩ 0 [v0T, v0T] from rfl, nodeT_mk, if_pos (.inl (by decide))]
theorem appL_lam (G : Nat → Tm → Tm → Sm → Res) (W : Nat) (m : Tm) (s : Sm) (q : List Sm) (a : Tm) (r : List Tm) (hk : m.kind = 3) : appL G W m (s :: q) (a :: r) =
    if (G W (m.args.getD 0 nilT) a s).1 ≠ 0 then errT (G W (m.args.getD 0 nilT) a s).1 (G W (m.args.getD 0 nilT) a s).2.1 else appL G (G W (m.args.getD 0 nilT) a s).2.1 (G W (m.args.getD 0 nilT) a s).2.2 q r := by
  rw [appL, if_neg (fun h => h hk)]
theorem sub_steps : ∀ (k f W : Nat), k + 3 ≤ f → W + 4 * k + 1 ≤ 262144 → (k ≤ 11 → subT f W (xsT k) [dbT] [fS] 0 = (0, W + 4 * k + 1, dT k)) ∧ (11 < k → (subT f W (xsT k) [dbT] [fS] 0).1 = 2)
  | 0, f, W, hf, hW => by
    refine ⟨fun _ => ?_, fun h => by omega⟩
    obtain ⟨f, rfl⟩ : ∃ g, f = g + 1 := ⟨f - 1, by omega⟩
    rw [subT_eq, if_neg (by omega)]
    have e : subL (Ff f [dbT] [fS]) (xsT 0).kind 0 (W + 1) 0 (xsT 0).args = (0, W + 1, []) := rfl
    rw [e, if_neg (by simp)]
    show nodeT (Gf f) (W + 1) cT [] [dbT] [fS] 0 = _
    rw [show cT = .mk 4 ⟨#[99]⟩ 0 [] from rfl, nodeT_mk, if_pos (.inl (by decide)), chkT, if_pos (by decide)]
    rfl
  | k + 1, f, W, hf, hW => by
    obtain ⟨f, rfl⟩ : ∃ g, f = g + 1 := ⟨f - 1, by omega⟩
    have ih := sub_steps k f (W + 1) (by omega) (by omega)
    rw [subT_eq, if_neg (by omega)]
    have e0 : subL (Ff f [dbT] [fS]) (xsT (k + 1)).kind 0 (W + 1) 0 (xsT (k + 1)).args = subL (Ff f [dbT] [fS]) 5 0 (W + 1) 0 [xsT k] := rfl
    rw [e0]
    by_cases hk : k ≤ 11
    · have h1 : Ff f [dbT] [fS] (W + 1) (xsT k) (0 + undI 5 0) = (0, W + 1 + 4 * k + 1, dT k) := ih.1 hk
      have e : subL (Ff f [dbT] [fS]) 5 0 (W + 1) 0 [xsT k] = (0, W + 1 + 4 * k + 1, [dT k]) := by
        rw [subL, h1]
        simp [subL]
      rw [e, if_neg (by simp)]
      have hb := sub_body f (W + 1 + 4 * k + 1) (dT k) (by omega) (by omega) (dT_obj k) (dT_small hk) (by rw [dT_kind]; decide)
      have key : nodeT (Gf f) (W + 1 + 4 * k + 1) (xsT (k + 1)) [dT k] [dbT] [fS] 0 = if (chkT (W + 1 + 4 * k + 1 + 3) (dT (k + 1))).1 ≠ 0 then errT (chkT (W + 1 + 4 * k + 1 + 3) (dT (k + 1))).1 (chkT (W + 1 + 4 * k + 1 + 3) (dT (k + 1))).2.1 else appL (Gf f) (chkT (W + 1 + 4 * k + 1 + 3) (dT (k + 1))).2.1 (chkT (W + 1 + 4 * k + 1 + 3) (dT (k + 1))).2.2 [] [] := by
        rw [show xsT (k + 1) = .mk 5 ⟨#[]⟩ 0 [xsT k] from rfl, nodeT_mk, if_neg (by omega), if_pos (by decide)]
        show (if shOk 0 0 0 dbT = true then (if ([dT k] : List Tm).length = fS.args.length then appL (Gf f) (W + 1 + 4 * k + 1) (mv 0 0 dbT) [natS] [dT k] else errT 6 (W + 1 + 4 * k + 1)) else errT 5 (W + 1 + 4 * k + 1)) = _
        rw [if_pos (by decide +kernel), if_pos (show ([dT k] : List Tm).length = fS.args.length from rfl), mv_zero, appL_lam (Gf f) (W + 1 + 4 * k + 1) dbT natS [] (dT k) [] rfl]
        show (if (subT f (W + 1 + 4 * k + 1) bdT [dT k] [natS] 0).1 ≠ 0 then errT (subT f (W + 1 + 4 * k + 1) bdT [dT k] [natS] 0).1 (subT f (W + 1 + 4 * k + 1) bdT [dT k] [natS] 0).2.1 else appL (Gf f) (subT f (W + 1 + 4 * k + 1) bdT [dT k] [natS] 0).2.1 (subT f (W + 1 + 4 * k + 1) bdT [dT k] [natS] 0).2.2 [] []) = _
        rw [hb]
        rfl
      show (_ → nodeT (Gf f) (W + 1 + 4 * k + 1) (xsT (k + 1)) [dT k] [dbT] [fS] 0 = _) ∧ (_ → (nodeT (Gf f) (W + 1 + 4 * k + 1) (xsT (k + 1)) [dT k] [dbT] [fS] 0).1 = _)
      rw [key]
      by_cases hk1 : k + 1 ≤ 11
      · refine ⟨fun _ => ?_, fun h => by omega⟩
        have hc : chkT (W + 1 + 4 * k + 1 + 3) (dT (k + 1)) = (0, W + 1 + 4 * k + 1 + 3, dT (k + 1)) := by rw [chkT, if_pos (dT_small hk1)]
        rw [hc, if_neg (by simp)]
        show appL (Gf f) (W + 1 + 4 * k + 1 + 3) (dT (k + 1)) [] [] = _
        rw [appL, if_neg (by rw [dT_kind]; decide), chkT, if_pos (dT_small hk1), show W + 1 + 4 * k + 1 + 3 = W + 4 * (k + 1) + 1 by omega]
      · obtain rfl : k = 11 := by omega
        refine ⟨fun h => by omega, fun _ => ?_⟩
        have hz := dT_size 12
        have hc : chkT (W + 1 + 4 * 11 + 1 + 3) (dT 12) = errT 2 (W + 1 + 4 * 11 + 1 + 3) := by
          rw [chkT, if_neg]
          have h4 : (2 : Nat) ^ 13 = 8192 := by decide
          omega
        show (if (chkT (W + 1 + 4 * 11 + 1 + 3) (dT 12)).1 ≠ 0 then errT (chkT (W + 1 + 4 * 11 + 1 + 3) (dT 12)).1 (chkT (W + 1 + 4 * 11 + 1 + 3) (dT 12)).2.1 else appL (Gf f) (chkT (W + 1 + 4 * 11 + 1 + 3) (dT 12)).2.1 (chkT (W + 1 + 4 * 11 + 1 + 3) (dT 12)).2.2 [] []).1 = 2
        rw [hc]
        rfl
    · refine ⟨fun h => by omega, fun _ => ?_⟩
      have h1 : (Ff f [dbT] [fS] (W + 1) (xsT k) (0 + undI 5 0)).1 = 2 := ih.2 (by omega)
      have e : (subL (Ff f [dbT] [fS]) 5 0 (W + 1) 0 [xsT k]).1 = 2 := by
        rw [subL, if_pos (by rw [h1]; decide)]
        exact h1
      rw [if_pos (by rw [e]; decide)]
      exact e
theorem forms_steps : ∀ k < 42, formsE [xsT k, dbT] [fS] = 0 := by decide +kernel
theorem db_obj : ([dbT] : List Tm).all objoB = true := by decide +kernel
theorem work_law (k : Nat) (h : k < 42) : ((manyR (xsT k) [dbT] [fS]).1 == 2) = decide (11 < k) := by
  have h1 := forms_steps k h
  rw [manyR, if_neg (fun hh => hh h1), if_neg (fun hh => hh rfl), db_obj, if_pos rfl]
  have h2 := sub_steps k 262145 0 (by omega) (by omega)
  by_cases hk : 11 < k
  · rw [h2.2 hk, decide_eq_true hk]; rfl
  · rw [h2.1 (by omega), decide_eq_false hk]; rfl
end Go.Proofs.Ytolooomphmcphaa
