/- What a row's arguments read as: a slice of whole numbers. No program in sight. -/
import Derived.ProofKit
import Derived.OpenShut
import Derived.Test.YtolooomphmcphaaK
namespace Go.Proofs.Ytolooomphmcphaa
open Go.RowKit

theorem spot_none {w : World} {a : Addr} {v : Value} (h : w.cell? a = some v) : a = ⟨a.block, a.off, none⟩ := by
  unfold World.cell? at h
  split at h
  · split at h
    · cases h
    · rename_i hs
      cases a
      simp_all
  · cases h
theorem cs_ints (w : World) (S : Nat → Prop) : ∀ zs : List Int, Cs (intK.K w S) zs (zs.map (Value.int .i64))
  | [] => rfl
  | z :: r => ⟨[.int .i64 z], r.map (Value.int .i64), rfl, rfl, cs_ints w S r⟩
/-- a row that has been read is a slice that can be read -/
theorem rd_row {w : World} {a : Addr} {zs : List Int} {len : Nat} (hl : len ≤ zs.length) (hc : ∀ i, i < zs.length → w.cell? (a.add i) = some (.int .i64 (zs.getD i 0))) : Rd intK w (fun _ => True) (some a) (zs.take len) := by
  cases hz : zs.take len with
  | nil => exact .inl rfl
  | cons z r =>
    have h0 : 0 < zs.length := by
      cases zs with
      | nil => simp at hz
      | cons _ _ => simp
    have ha := spot_none (by simpa [Addr.add] using hc 0 h0)
    refine .inr ⟨a.block, a.off, (z :: r).map (Value.int .i64), by rw [← ha], trivial, cs_ints _ _ _, fun i u hu => ?_⟩
    rw [← hz] at hu
    rw [List.getElem?_map] at hu
    have hi : i < len := by
      by_cases h : i < len
      · exact h
      · rw [List.getElem?_eq_none (by simp; omega)] at hu
        cases hu
    have h1 := hc i (by omega)
    rw [List.getElem?_take, if_pos hi, List.getElem?_eq_getElem (by omega)] at hu
    have hu : Value.int .i64 zs[i] = u := by simpa using hu
    rw [← hu]
    have e : (⟨a.block, a.off + i, none⟩ : Addr) = a.add i := by
      rw [ha]
      by_cases h : i = 0
      · subst h; simp [Addr.add]
      · simp [Addr.add, h]
    rw [e, h1, List.getD_eq_getElem?_getD, List.getElem?_eq_getElem (by omega)]
    rfl
end Go.Proofs.Ytolooomphmcphaa
