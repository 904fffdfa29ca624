/- The plain law of SimpleLimits. No program in sight. -/
import Derived.Test.YtolooomphmcphaaT3
import Derived.Test.YtolooomphmcphaaL1
namespace Go.Proofs.Ytolooomphmcphaa
open Go.RowKit

def chainT : Nat → Sm | 0 => natT | m + 1 => .mk natB [chainT m]
abbrev zT : Tm := .mk 4 ⟨#[122]⟩ 0 []
def wideT : Sm := .mk natB (List.replicate 120 natT)
def manyT (n : Nat) : Tm := .mk 4 ⟨#[99]⟩ 0 (List.replicate (3854 + n) zT)
theorem chain_wf (n : Nat) (h : n < 4) : swfE (chainT (126 + n)) = if n > 1 then 2 else 0 := by
  have : n = 0 ∨ n = 1 ∨ n = 2 ∨ n = 3 := by omega
  rcases this with rfl | rfl | rfl | rfl <;> decide +kernel
theorem z_obj : objB zT = true := by decide +kernel
theorem rep_objs (k : Nat) : objBs (List.replicate k zT) = true := by
  induction k with
  | zero => rfl
  | succ k ih => rw [List.replicate_succ, objBs, z_obj, ih]; rfl
theorem rep_sizes (k : Nat) : tsizes (List.replicate k zT) = k := by
  induction k with
  | zero => rfl
  | succ k ih => rw [List.replicate_succ, tsizes, ih]; simp [tsize, tsizes]; omega
theorem rep_deps (k : Nat) : tdeps (List.replicate k zT) ≤ 1 := by
  induction k with
  | zero => simp [tdeps]
  | succ k ih => rw [List.replicate_succ, tdeps]; simp [tdep, tdeps]; omega
theorem rep_oks (d fr bs k : Int) (j n : Nat) : shOks d fr bs k j (List.replicate n zT) = true := by
  induction n generalizing j with
  | zero => rfl
  | succ n ih =>
    rw [List.replicate_succ, shOks, ih, shOk_eq]
    simp [Tm.kind, Tm.args, shOks]
theorem lams_dep (n : Nat) (t : Tm) : tdep (lamsT n t) = n + tdep t := by
  induction n with
  | zero => simp [lamsT]
  | succ n ih => simp [lamsT, tdep, tdeps, ih]; omega
theorem exp_deps (n : Nat) : ∀ (j k : Nat), tdeps (expArgs n k (List.replicate j natT)) ≤ 1
  | 0, _ => by simp [expArgs, tdeps]
  | j + 1, k => by
    rw [List.replicate_succ, expArgs, tdeps]
    have := exp_deps n j (k + 1)
    have e : ∀ i : Int, tdep (expandT (.mk 5 ⟨#[]⟩ i []) natT) = 1 := fun i => rfl
    rw [e]
    omega
theorem wide_wf : swfE wideT = 0 := by decide +kernel
theorem wide_xsz : xsz wideT = 241 := by decide +kernel
theorem many_obj (n : Nat) : objB (manyT n) = true := by
  have hc : isName ⟨#[99]⟩ = true := by decide +kernel
  unfold manyT
  rw [objB, rep_objs, hc]
  simp
theorem many_size (n : Nat) : tsize (manyT n) = 3855 + n := by
  unfold manyT
  rw [tsize, rep_sizes]
  omega
theorem tmV_many (n : Nat) (A : Option Addr) (c : Nat) : tmV (manyT n) A c = .agg #[.int .i64 4, .string ⟨#[99]⟩, .int .i64 0, .slice A (3854 + n) c] := by
  simp [manyT, Tm.kind, Tm.name, Tm.idx, Tm.args]
theorem many_wf (n : Nat) (h : n < 4) : wfE (manyT n) = 0 := by
  have hc : isName ⟨#[99]⟩ = true := by decide +kernel
  have ho : objB (manyT n) = true := by
    unfold manyT
    rw [objB, rep_objs, hc]
    simp
  have hd := rep_deps (3854 + n)
  have hs : smallB (manyT n) = true := by
    unfold smallB manyT
    rw [tsize, tdep, rep_sizes]
    simp
    omega
  unfold wfE
  rw [ho, hs]
  rfl
theorem many_eta (n : Nat) (h : n < 4) : etaE (manyT n) wideT = if n > 1 then 2 else 0 := by
  have hw := many_wf n h
  have hok : shOk wideT.args.length 0 0 (manyT n) = true := by
    rw [shOk_eq]
    unfold manyT
    simp [Tm.kind, Tm.args, rep_oks]
  have hz : tsize (expandT (manyT n) wideT) = 3854 + n + 241 := by
    rw [expandT_size, wide_xsz]
    show tsizes (List.replicate (3854 + n) zT) + 241 = _
    rw [rep_sizes]
  have hd : tdep (expandT (manyT n) wideT) ≤ 128 := by
    rw [expandT_eq, lams_dep, tdep, tdeps_append]
    have h1 := rep_deps (3854 + n)
    have h2 := exp_deps 120 120 0
    have h3 : wideT.args.length = 120 := by decide +kernel
    have h4 : tdeps (manyT n).args ≤ 1 := h1
    have h5 : tdeps (expArgs wideT.args.length 0 wideT.args) ≤ 1 := by rw [h3]; exact h2
    omega
  rw [etaE, if_pos hw, if_pos wide_wf, if_pos (by rfl)]
  by_cases h1 : n > 1
  · rw [if_neg (by omega), if_pos h1]
  · rw [if_pos ⟨by omega, hd⟩, if_neg h1, shiftE, if_pos hw, if_pos hok]
theorem chain_size : ∀ m, ssize (chainT m) = m + 1
  | 0 => rfl
  | m + 1 => by simp [chainT, ssize, ssizes, chain_size m]; omega
end Go.Proofs.Ytolooomphmcphaa
