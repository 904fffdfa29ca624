/- subst.checked: a result that is small enough, or a panic with the error 2. -/
import Derived.Test.YtolooomphmcphaaH1
import Derived.WalkSmall
namespace Go.Proofs.Ytolooomphmcphaa
open Go.RowKit

@[reducible] def mdV (t : Tm) (A : Option Addr) (c : Nat) (s d : Int) : Value := .agg #[.int .i64 t.kind, .string t.name, .int .i64 t.idx, .slice A t.args.length c, .int .i64 s, .int .i64 d]
abbrev errE (e : Int) : Ending := .panicked [{ v := .iface 34 (.int .i64 e), recovered := false }]
theorem bx6 {w : World} {g : Nat} {ty : TypeId} {v0 v1 v2 v3 v4 v5 : Value} (h : w.heap[g]? = some (.cells #[v0, v1, v2, v3, v4, v5] ty (0, 0))) :
    w.cell? ⟨g, 0, none⟩ = some v0 ∧ w.cell? ⟨g, 1, none⟩ = some v1 ∧ w.cell? ⟨g, 2, none⟩ = some v2 ∧ w.cell? ⟨g, 3, none⟩ = some v3 ∧ w.cell? ⟨g, 4, none⟩ = some v4 ∧ w.cell? ⟨g, 5, none⟩ = some v5 := ⟨bk_cell h 0 rfl, bk_cell h 1 rfl, bk_cell h 2 rfl, bk_cell h 3 rfl, bk_cell h 4 rfl, bk_cell h 5 rfl⟩
theorem res_made {fn : Func} {r : Tmp} {tmps : Array Value} {w : World} {g : Nat} {v0 v1 v2 v3 v4 v5 : Value} (h : fn.results = #[.cell r 74]) (ht : tmps.getD r undef = .pointer (some ⟨g, 0, none⟩))
    (hk : w.heap[g]? = some (.cells #[v0, v1, v2, v3, v4, v5] 74 (0, 0))) : (results fn tmps).run Try.prog w = .ok (.agg #[v0, v1, v2, v3, v4, v5]) w := by
  obtain ⟨c0, c1, c2, c3, c4, c5⟩ := bx6 hk
  rw [Array.getD_eq_getD_getElem?] at ht
  simp [results, h, ht, go_sem, c0, c1, c2, c3, c4, c5]
set_option maxRecDepth 100000 in
theorem checked_calls (t : Tm) (A : Option Addr) (c : Nat) (s d : Int) (w : World) :
    Calls Try.prog 96 #[mdV t A c s d] w fun e w' => e = (if s ≤ 4096 ∧ d ≤ 128 then .returned (mdV t A c s d) else errE 2) ∧ Below w.heap.size w w' := by
  have q0 := bk_alloc (bk_new w (.cells #[.int .i64 t.kind, .string t.name, .int .i64 t.idx, .slice A t.args.length c, .int .i64 s, .int .i64 d] 74)) (.cells #[.int .i64 0, .string ⟨#[]⟩, .int .i64 0, .slice none 0 0, .int .i64 0, .int .i64 0] 74)
  have q1 := bk_at (w := w.alloc (.cells #[.int .i64 t.kind, .string t.name, .int .i64 t.idx, .slice A t.args.length c, .int .i64 s, .int .i64 d] 74)) (n := w.heap.size + 1) (by simp) (.cells #[.int .i64 0, .string ⟨#[]⟩, .int .i64 0, .slice none 0 0, .int .i64 0, .int .i64 0] 74)
  have B := bl_alloc (bl_new w (.cells #[.int .i64 t.kind, .string t.name, .int .i64 t.idx, .slice A t.args.length c, .int .i64 s, .int .i64 d] 74)) (.cells #[.int .i64 0, .string ⟨#[]⟩, .int .i64 0, .slice none 0 0, .int .i64 0, .int .i64 0] 74)
  have c0 := bk_cell q0 0 rfl
  have c1 := bk_cell q0 1 rfl
  have c2 := bk_cell q0 2 rfl
  have c3 := bk_cell q0 3 rfl
  have c4 := bk_cell q0 4 rfl
  have c5 := bk_cell q0 5 rfl
  have x0 := bk_cell q1 0 rfl
  have x1 := bk_cell q1 1 rfl
  have x2 := bk_cell q1 2 rfl
  have x3 := bk_cell q1 3 rfl
  have x4 := bk_cell q1 4 rfl
  have x5 := bk_cell q1 5 rfl
  have z0 := bk_free q1 0
  have z1 := bk_free q1 1
  have z2 := bk_free q1 2
  have z3 := bk_free q1 3
  have z4 := bk_free q1 4
  have z5 := bk_free q1 5
  by_cases h1 : 4096 < s
  · have e1 : decide (4096 < s) = true := decide_eq_true h1
    have he : ¬ (s ≤ 4096 ∧ d ≤ 128) := by omega
    rw [if_neg he]
    clear he h1
    go_enter Try.func96, Try.ntmps96
    go_wp2_with fail
    exact ⟨rfl, rfl, B⟩
  · have e1 : decide (4096 < s) = false := decide_eq_false h1
    by_cases h2 : 128 < d
    · have e2 : decide (128 < d) = true := decide_eq_true h2
      have he : ¬ (s ≤ 4096 ∧ d ≤ 128) := by omega
      rw [if_neg he]
      clear he h1 h2
      go_enter Try.func96, Try.ntmps96
      go_wp2_with fail
      exact ⟨rfl, rfl, B⟩
    · have e2 : decide (128 < d) = false := decide_eq_false h2
      have he : s ≤ 4096 ∧ d ≤ 128 := by omega
      rw [if_pos he]
      clear he h1 h2
      go_enter Try.func96, Try.ntmps96
      go_wp2_with fail
      exact bodyPost_ret (res_made rfl rfl (bk_at (by simp) _)) rfl ⟨rfl, bl_alloc (bl_new w _) _⟩
end Go.Proofs.Ytolooomphmcphaa
