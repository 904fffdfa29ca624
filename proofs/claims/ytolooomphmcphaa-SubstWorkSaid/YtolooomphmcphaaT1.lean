/- lfcheckmade.Cut, Tape.Next. -/
import Derived.BigQuiet
import Derived.Test.YtolooomphmcphaaK5
namespace Go.Proofs.Ytolooomphmcphaa
open Go.RowKit

def cutN (x n : Int) : Int := x % 18446744073709551616 % n
theorem cutN_nonneg (x : Int) {n : Int} (hn : 0 < n) : 0 ≤ cutN x n := Int.emod_nonneg _ (by omega)
theorem cutN_lt (x : Int) {n : Int} (hn : 0 < n) : cutN x n < n := Int.emod_lt_of_pos _ hn
theorem cut_same (x n : Int) (w : World) (hn : 0 < n) (hn1 : n ≤ 1000000000000) : Calls Try.prog 8 #[.int .i64 x, .int .i64 n] w fun e w' => e = .returned (.int .i64 (cutN x n)) ∧ w' = w := by
  have h0 := cutN_nonneg x hn
  have h1 := cutN_lt x hn
  go_enter Try.func8, Try.ntmps8
  go_wp2_with fail
  go_ret
  refine ⟨?_, rfl⟩
  show Ending.returned (.int .i64 (wrap64 ((IntKind.u64.wrap x).tmod n))) = _
  have e : IntKind.u64.wrap x = x % 18446744073709551616 := rfl
  have hx : 0 ≤ x % 18446744073709551616 := Int.emod_nonneg _ (by omega)
  rw [e, Int.tmod_eq_emod_of_nonneg hx]
  show Ending.returned (.int .i64 (wrap64 (cutN x n))) = _
  congr 2
  unfold wrap64
  omega

theorem bl_drewN (B : Nat) (w : World) (n : Nat) : Below B w (w.drewN n) := ⟨rfl, rfl, rfl, Nat.le_refl _, fun _ _ => rfl⟩
theorem gr_drewN {w w1 : World} {row : Option Nat} (h : w.grownBy w1 row) (n : Nat) : w.grownBy (w1.drewN n) row := gr_next h (bl_drewN _ _ _)
/-- block g is a list of numbers that are used one after the other: T is what is left of it; the numbers lie in S -/
def Tape (w : World) (g : Nat) (S : Nat → Prop) (T : List Int) : Prop := ¬ S g ∧ ∃ A c L i, w.heap[g]? = some (.cells #[.slice A L.length c, .int .i64 (i : Nat)] 29 (0, 0)) ∧ i ≤ L.length ∧ L.length ≤ 9223372036854775807 ∧ T = L.drop i ∧ Rd intK w S A L
def nxV (T : List Int) (n : Int) : Int := match T with | [] => 0 | x :: _ => cutN x n
theorem nxV_nonneg (T : List Int) {n : Int} (hn : 0 < n) : 0 ≤ nxV T n := by
  cases T with
  | nil => exact Int.le_refl _
  | cons x r => exact cutN_nonneg x hn
theorem nxV_lt (T : List Int) {n : Int} (hn : 0 < n) : nxV T n < n := by
  cases T with
  | nil => exact hn
  | cons x r => exact cutN_lt x hn
section
variable {w w' : World} {g : Nat} {S S' : Nat → Prop} {T : List Int}
theorem Tape.lt (h : Tape w g S T) : g < w.heap.size := by
  obtain ⟨_, A, c, L, i, h, _⟩ := h
  exact bk_lt h
theorem Tape.move (h : Tape w g S T) (hw : ∀ b, b = g ∨ S b → Live w b → w'.heap[b]? = w.heap[b]?) : Tape w' g S T := by
  obtain ⟨h0, A, c, L, i, h, h1, h2, h3, h4⟩ := h
  exact ⟨h0, A, c, L, i, (hw g (.inl rfl) ⟨_, _, _, h⟩).trans h, h1, h2, h3, h4.move (fun b hb hl => hw b (.inr hb) hl) (fun _ h _ => h)⟩
theorem Tape.below (h : Tape w g S T) (hb : Below w.heap.size w w') : Tape w' g S T := h.move fun b _ hl => hb.block b hl.lt
theorem Tape.bound (h : Tape w g S T) : Tape w g (fun b => S b ∧ b < w.heap.size) T := by
  obtain ⟨h0, A, c, L, i, h, h1, h2, h3, h4⟩ := h
  exact ⟨fun h => h0 h.1, A, c, L, i, h, h1, h2, h3, h4.bound.mono fun b hb _ => ⟨hb.1, hb.2.lt⟩⟩
theorem Tape.mono (h : Tape w g S T) (hS : ∀ b, S b → S' b) (hg : ¬ S' g) : Tape w g S' T := by
  obtain ⟨h0, A, c, L, i, h, h1, h2, h3, h4⟩ := h
  exact ⟨hg, A, c, L, i, h, h1, h2, h3, h4.mono fun b hb _ => hS b hb⟩
theorem Tape.ng (h : Tape w g S T) : ¬ S g := h.1
/-- a store into a block that is neither the tape nor its list -/
theorem Tape.setc (h : Tape w g S T) {p : Addr} (hg : p.block ≠ g) (hS : ¬ S p.block) (u : Value) : Tape (w.setCell p u) g S T :=
  h.move fun b hb _ => Below.heap_setCell _ _ _ b (by rintro rfl; exact hb.elim hg hS)
theorem Tape.grown {row : Option Nat} (h : Tape w g S T) (hw : w.grownBy w' row) (hr : ∀ k, row = some k → k ≠ g ∧ ¬ S k) : Tape w' g S T :=
  h.move fun b hb hl => hw.block b hl.lt (by rintro rfl; have := hr b rfl; exact hb.elim this.1 this.2)
end
theorem next_calls (g : Nat) (T : List Int) (n : Int) (w : World) (hn : 0 < n) (hn1 : n ≤ 1000000000000) (S : Nat → Prop) (h : Tape w g S T) :
    Calls Try.prog 23 #[.pointer (some ⟨g, 0, none⟩), .int .i64 n] w fun e w' => e = .returned (.int .i64 (nxV T n)) ∧ Tape w' g S T.tail ∧ w.grownBy w' (some g) := by
  obtain ⟨hng, A, c, L, i, hk, hi, hL, rfl, hr⟩ := h
  obtain ⟨c0, c1⟩ := bx2 hk
  have hz1 := bk_free hk 1
  by_cases hlt : i < L.length
  · obtain ⟨b, o, rfl, hbg, e0⟩ := hr.int i hlt
    have hge : decide ((i : Int) ≥ (L.length : Int)) = false := by simp; omega
    have hw1 : IntKind.i64.wrap ((i : Int) + 1) = (i : Int) + 1 := IntWalk.i64_in _ ⟨by omega, by omega⟩
    have hw2 : IntKind.i64.wrap ((i : Int) + 1 - 1) = (i : Int) := by rw [IntWalk.i64_in _ ⟨by omega, by omega⟩]; omega
    go_enter Try.func23, Try.ntmps23
    go_wp2_with fail
    go_quiet (fail)
    go_wp2_with fail
    obtain ⟨W, hW⟩ : ∃ W, W = (w.drewN nq).setCell ⟨g, 1, none⟩ (.int .i64 ((i : Int) + 1)) := ⟨_, rfl⟩
    have k1 : W.heap[g]? = some (.cells #[.slice (some ⟨b, o, none⟩) L.length c, .int .i64 ((i : Int) + 1)] 29 (0, 0)) := by rw [hW]; exact bk_set (w := w.drewN nq) hk 1 _
    have hG : w.grownBy W (some g) := by rw [hW]; exact gr_row (gr_below (bl_drewN _ w nq) _) rfl _
    have e1 : W.cell? ⟨b, o + i, none⟩ = some (.int .i64 L[i]) := cl_grown e0 hG (by simp; rintro rfl; exact hng hbg)
    rw [← hW]
    obtain ⟨d0, d1⟩ := bx2 k1
    have Hg := Lib.hid hG
    clear hW hG c0 c1 hz1
    go_quiet ((go_at_call 8; exact Calls.quiet_of_same (cut_same _ _ _ hn hn1)))
    go_wp2_with fail
    go_ret
    refine ⟨?_, ⟨hng, _, c, L, i + 1, k1, by omega, hL, by simp, ?_⟩, gr_drewN Hg.out nq⟩
    · show Ending.returned (.int .i64 (cutN L[i] n)) = _
      rw [List.drop_eq_getElem_cons hlt]
      rfl
    · exact hr.grown (gr_drewN Hg.out nq) (fun b hb => by rintro rfl; exact hng hb)
  · have hd : L.drop i = [] := List.drop_eq_nil_of_le (by omega)
    have hge : decide ((i : Int) ≥ (L.length : Int)) = true := by simp; omega
    have hN : Tape w g S (L.drop i) := ⟨hng, A, c, L, i, hk, hi, hL, rfl, hr⟩
    have HN := Lib.hid hN
    rw [hd]
    have hd' := Lib.hid hd
    clear hd hN
    go_enter Try.func23, Try.ntmps23
    go_wp2_with fail
    go_quiet (fail)
    go_wp2_with fail
    go_ret
    exact ⟨rfl, by rw [List.tail_nil, ← hd'.out]; exact HN.out.move fun b _ _ => rfl, gr_below (bl_drewN _ w nq) _⟩
end Go.Proofs.Ytolooomphmcphaa
