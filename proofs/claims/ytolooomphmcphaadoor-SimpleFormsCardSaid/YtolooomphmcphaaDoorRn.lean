/- What a row's arguments and its listed variable read as: a pair of whole numbers; the six names. -/
import Derived.Test.YtolooomphmcphaaDoorRows
import Derived.Test.YtolooomphmcphaaDoorRw
import Derived.Test.YtolooomphmcphaaDoorT6
import Derived.LaidMore
import Derived.Stop.Joined
import Derived.SliceStrings
namespace Go.Proofs.YtolooomphmcphaaDoor
open Go.ChangeShapes Go.WideShapes Go.ChangeAt Go.WideElems Go.RowKit

set_option maxRecDepth 100000 in
theorem open_pair {H : Type} {enc : TypeId × Value → H} {W : World} {base : Nat} {sp : Nat → Bool} {held : Bool} {v : Value} {d : DataW H} {ps : List MemPlace} (hval : Value.okWide Tryd.prog W .any base 23 v) (h : DataW.Trod enc Tryd.prog W 0 sp held 23 v d ps) :
    ∃ a b : Int, v = .agg #[.int .i64 a, .int .i64 b] := by
  have hv : ∃ cs, v = .agg cs ∧ cs.size = Tryd.prog.cellsOf 23 ∧ Row.okWide Tryd.prog W .any base 23 cs := by
    unfold Value.okWide at hval
    rw [Tryd.underlying23] at hval
    exact hval
  obtain ⟨cs, rfl, -, -⟩ := hv
  obtain ⟨fuel, hf⟩ := h
  obtain ⟨xs, m, rfl, hx, hlen, hn, hel⟩ := DataW.trod_array Tryd.underlying23 hf
  have c2 : Tryd.prog.cellsOf 23 = 2 := by kernel_rfl
  have c1 : Tryd.prog.cellsOf 3 = 1 := by kernel_rfl
  rw [c2] at hlen
  have h0 := hel 0 (by decide)
  have h1 := hel 1 (by decide)
  rw [c1] at h0 h1
  obtain ⟨l⟩ := cs
  simp only [Value.cells] at hlen h0 h1
  match l, hlen with
  | [x, y], _ =>
    match xs, hn with
    | [e0, e1], _ =>
      obtain ⟨a, ea, -, -⟩ := DataW.trod_int Tryd.underlying3 (by simpa using h0)
      obtain ⟨b, eb, -, -⟩ := DataW.trod_int Tryd.underlying3 (by simpa using h1)
      simp at ea eb
      exact ⟨a, b, by rw [ea, eb]⟩
theorem gN : Tryd.prog.globalNamed "lfcheck/lfcheckmade.names" = some 0 := by kernel_rfl
theorem tN : (Tryd.prog.globals[0]?).map (·.type) = some 59 := by kernel_rfl
abbrev laidN : List (String × DataW Unit) := [("lfcheck/lfcheckmade.names", Rows.laid_lfcheck_lfcheckmade_names)]
theorem door_met (os : Os) (args : Array Value) : laidMetH Tryd.prog laidN ((World.doorLaid Tryd.prog 14 os).forCall (fun _ _ => 0) ⟨#[], args, []⟩).memory :=
  laidMetH_of_parts3 (fuel := 8) (laidMet_of_run' 8 (by kernel_rfl) (by kernel_rfl)) (by kernel_rfl) (by kernel_rfl)
theorem of_bytes {s : ByteArray} {l : List UInt8} (h : s.data.toList = l) : s = ⟨l.toArray⟩ := by
  cases s
  subst h
  simp
theorem of_laid {W : World} (h : laidMetH Tryd.prog laidN W) : ∃ gb go cN, Nms W gb go cN := by
  rw [MakeChecks.laidMetH_plain _ _ _ (by kernel_rfl)] at h
  obtain ⟨ps, ⟨g0, t0, cs0, f0, p0, q0, hg0, ht0, hv0, hd0, _, _⟩, _, _⟩ := h
  obtain rfl := Option.some.inj (gN.symm.trans hg0)
  obtain rfl := Option.some.inj (tN.symm.trans ht0)
  rcases open_strings Tryd.underlying59 Tryd.underlying9 (by kernel_rfl) hd0 with ⟨_, hx⟩ | ⟨a, len, cap, ss, hcs, _, hl, hm, hz, hx, hcell, hsz⟩
  · simp [Rows.laid_lfcheck_lfcheckmade_names] at hx
  · have hls : len ≤ ss.length := by split at hz <;> omega
    simp only [Prod.mk.injEq, Rows.laid_lfcheck_lfcheckmade_names, DataW.slice.injEq] at hx
    obtain ⟨⟨hx1, -⟩, -⟩ := hx
    have hlen : len = 6 := by
      have := congrArg List.length hx1
      simp [strs] at this
      omega
    subst hlen
    have hcel0 : W.cell? ⟨0, 0, none⟩ = some (.slice (some a) 6 cap) := by
      have := World.var?_cell hg0 hv0 0
      rw [Array.eq_one_of_toList hcs] at this
      simpa using this
    match ss, hls with
    | s0 :: s1 :: s2 :: s3 :: s4 :: s5 :: r, _ =>
      simp [strs] at hx1
      obtain ⟨e0, e1, e2, e3, e4, e5⟩ := hx1
      have ha := spot_none (by simpa [Addr.add] using hcell 0 (by simp))
      refine ⟨a.block, a.off, cap, by rw [hcel0, ← ha], fun k hk => ?_⟩
      have hk1 := hcell k (by simp; omega)
      have e : (⟨a.block, a.off + k, none⟩ : Addr) = a.add k := by
        rw [ha]
        by_cases h : k = 0
        · subst h; simp [Addr.add]
        · simp [Addr.add, h]
      rw [e, hk1]
      rcases k with _ | _ | _ | _ | _ | _ | k
      · rw [show nm6 0 = s0 from (of_bytes e0.symm).symm]; rfl
      · rw [show nm6 1 = s1 from (of_bytes e1.symm).symm]; rfl
      · rw [show nm6 2 = s2 from (of_bytes e2.symm).symm]; rfl
      · rw [show nm6 3 = s3 from (of_bytes e3.symm).symm]; rfl
      · rw [show nm6 4 = s4 from (of_bytes e4.symm).symm]; rfl
      · rw [show nm6 5 = s5 from (of_bytes (by simpa using e5.symm)).symm]; rfl
      · omega
end Go.Proofs.YtolooomphmcphaaDoor
