/- subst.run: a step that may panic with an error, its deferred closure. -/
import Derived.Defers
import Derived.Recover
import Derived.Test.YtolooomphmcphaaH5
import Derived.Test.YtolooomphmcphaaR9
namespace Go.Proofs.Ytolooomphmcphaa
open Go.RowKit

theorem assert_errno (e : Int) (w : World) : (Instr.typeAssert (.iface 34 (.int .i64 e)) 20 34 true).run Try.prog w = .ok (.tuple #[.int .i64 e, .bool true]) w := by
  simp [Instr.typeAssert, run_underlying Try.underlying34, go_sem]
set_option maxRecDepth 100000 in
theorem catch_panicking (g0 g1 : Nat) (k : Int) (s : ByteArray) (i : Int) (sl : Value) (u e : Int) (w : World) (h0 : w.heap[g0]? = some (.cells #[.int .i64 k, .string s, .int .i64 i, sl] 33 (0, 0))) (h1 : w.heap[g1]? = some (.cells #[.int .i64 u] 34 (0, 0))) (hne : g0 ≠ g1) :
    CallsD Try.prog 81 #[.pointer (some ⟨g0, 0, none⟩), .pointer (some ⟨g1, 0, none⟩)] (.panicking [{ v := .iface 34 (.int .i64 e), recovered := false }]) w fun en u' w' =>
      en = .returned (.tuple #[]) ∧ u' = .panicking [{ v := .iface 34 (.int .i64 e), recovered := true }] ∧ w' = (set4 w g0 (.int .i64 0) (.string ⟨#[]⟩) (.int .i64 0) (.slice none 0 0)).setCell ⟨g1, 0, none⟩ (.int .i64 e) := by
  refine callsD_of_wpS Try.func81 rfl fun c₀ cs hu => ?_
  apply wpS_seq
  apply wpS_region
  simp [wpOpsS, go_sem, recoverD, hu, Try.ntmps81, Exit.thenS]
  refine wpS_of_wp ?_
  have eT : (#[Value.pointer (some ⟨g0, 0, none⟩), Value.pointer (some ⟨g1, 0, none⟩)] : Array Value) ++ (Array.replicate 11 undef).setIfInBounds 3 (.iface 34 (.int .i64 e)) = #[.pointer (some ⟨g0, 0, none⟩), .pointer (some ⟨g1, 0, none⟩), undef, undef, undef, .iface 34 (.int .i64 e), undef, undef, undef, undef, undef, undef, undef] := rfl
  rw [eT]
  obtain ⟨c0, c1, c2, c3⟩ := bx4 h0
  have d0 := bx1 h1
  have z0 := bk_free h0 0
  have z1 := bk_free h0 1
  have z2 := bk_free h0 2
  have z3 := bk_free h0 3
  have y0 := bk_free h1 0
  have hta := fun w => assert_errno e w
  go_wp2_with fail
  exact ⟨rfl, _, rfl, .tuple #[], by simp [results, Try.results81, go_sem], rfl, rfl, rfl⟩
set_option maxRecDepth 100000 in
theorem catch_idle (g0 g1 : Nat) (w : World) :
    CallsD Try.prog 81 #[.pointer (some ⟨g0, 0, none⟩), .pointer (some ⟨g1, 0, none⟩)] .returning w fun en u' w' => en = .returned (.tuple #[]) ∧ u' = .returning ∧ w' = w := by
  refine callsD_of_wpS Try.func81 rfl fun c₀ cs hu => ?_
  apply wpS_seq
  apply wpS_region
  simp [wpOpsS, go_sem, recoverD, hu, Try.ntmps81, Exit.thenS]
  refine wpS_of_wp ?_
  have eT : (#[Value.pointer (some ⟨g0, 0, none⟩), Value.pointer (some ⟨g1, 0, none⟩)] : Array Value) ++ (Array.replicate 11 undef).setIfInBounds 3 .nilIface = #[.pointer (some ⟨g0, 0, none⟩), .pointer (some ⟨g1, 0, none⟩), undef, undef, undef, .nilIface, undef, undef, undef, undef, undef, undef, undef] := rfl
  rw [eT]
  go_wp2_with fail
  refine ⟨rfl, .returning, ?_, .tuple #[], by simp [results, Try.results81, go_sem], rfl, rfl, rfl⟩
  cases c₀
  simp_all
theorem field_made (t : Tm) (A : Option Addr) (c : Nat) (s d : Int) (w : World) : (Instr.field 74 (mdV t A c s d) 0).run Try.prog w = .ok (tmV t A c) w := by
  simp [Instr.field, run_underlying Try.underlying74, go_sem, part, asAgg]
theorem res_pairC {fn : Func} {r s : Tmp} {tmps : Array Value} {w : World} {g g2 : Nat} {v0 v1 v2 v3 v : Value} (h : fn.results = #[.cell r 33, .cell s 34]) (ht : tmps.getD r undef = .pointer (some ⟨g, 0, none⟩)) (hs : tmps.getD s undef = .pointer (some ⟨g2, 0, none⟩))
    (hk : w.heap[g]? = some (.cells #[v0, v1, v2, v3] 33 (0, 0))) (hk2 : w.heap[g2]? = some (.cells #[v] 34 (0, 0))) : (results fn tmps).run Try.prog w = .ok (.tuple #[.agg #[v0, v1, v2, v3], v]) w := by
  obtain ⟨c0, c1, c2, c3⟩ := bx4 hk
  have d0 := bx1 hk2
  rw [Array.getD_eq_getD_getElem?] at ht hs
  simp [results, h, ht, hs, go_sem, c0, c1, c2, c3, d0]
def runT (r : Res) : Tm := if r.1 = 0 then r.2.2 else zeroT
set_option maxRecDepth 100000 in
set_option maxHeartbeats 1000000 in
/-- run, of a closure N with the captured caps that does as r says -/
theorem srun_calls (N : FuncId) (caps : Array Value) (r : Res) (w : World) (S : Nat → Prop) (hN : ∀ (a : Array Value) (w : World), (callFunc N a).run Try.prog w = .ok (.enter N a) w) (hS : ∀ b, S b → b < w.heap.size)
    (h : ∀ (w1 : World) (g : Nat), Below w.heap.size w w1 → w.heap.size ≤ g → w1.heap[g]? = some (.cells #[.int .i64 0] 3 (0, 0)) → Calls Try.prog N (#[wkP g] ++ caps) w1 (SubP g w1 S r)) :
    GivP Try.prog 49 #[.func (.func N) #[] caps] w S (runT r) (.int .i64 r.1) := by
  have hmf : ∀ (fn : Fn) (first cap : Array Value) (w : World), (Instr.makeFunc fn first cap).run Try.prog w = .ok (.func fn first cap) w := fun _ _ _ _ => rfl
  have H := Lib.hid h
  clear h
  go_enter_defers Try.func49, Try.ntmps49
  go_wp2_with fail
  have p0 := bk_alloc (bk_alloc (bk_new w (.cells #[.int .i64 0, .string ⟨#[]⟩, .int .i64 0, .slice none 0 0] 33)) (.cells #[.int .i64 0] 34)) (.cells #[.int .i64 0] 3)
  have p1 := bk_alloc (bk_at (w := w.alloc (.cells #[.int .i64 0, .string ⟨#[]⟩, .int .i64 0, .slice none 0 0] 33)) (n := w.heap.size + 1) (by simp) (.cells #[.int .i64 0] 34)) (.cells #[.int .i64 0] 3)
  have pg := bk_at (w := (w.alloc (.cells #[.int .i64 0, .string ⟨#[]⟩, .int .i64 0, .slice none 0 0] 33)).alloc (.cells #[.int .i64 0] 34)) (n := w.heap.size + 1 + 1) (by simp) (.cells #[.int .i64 0] 3)
  have B := bl_alloc (bl_alloc (bl_new w (.cells #[.int .i64 0, .string ⟨#[]⟩, .int .i64 0, .slice none 0 0] 33)) (.cells #[.int .i64 0] 34)) (.cells #[.int .i64 0] 3)
  refine (H.out _ (w.heap.size + 1 + 1) B (by omega) pg).mono ?_
  rintro e w1 ⟨hG, h⟩
  replace p0 := bk_grown p0 hG (by simp; omega)
  replace p1 := bk_grown p1 hG (by simp)
  replace B := bl_grown B hG (fun k hk => by simp at hk; omega)
  have hs1 : w.heap.size + 3 ≤ w1.heap.size := by have := hG.size; simp at this; omega
  rcases h with ⟨h0, ⟨A7, c7, rfl, hl7, R7⟩, pg2⟩ | ⟨h0, rfl⟩
  · have H0 := Lib.hid h0
    clear h0
    obtain ⟨c0, c1, c2, c3⟩ := bx4 p0
    have d0 := bx1 p1
    have z0 := bk_free p0 0
    have z1 := bk_free p0 1
    have z2 := bk_free p0 2
    have z3 := bk_free p0 3
    have y0 := bk_free p1 0
    have hfd := fun w => field_made r.2.2 A7 c7 (tsize r.2.2) (tdep r.2.2) w
    go_wp2_with fail
    refine leaves_cons (f := 81) (args := #[.pointer (some ⟨w.heap.size, 0, none⟩), .pointer (some ⟨w.heap.size + 1, 0, none⟩)]) (by simp) (by simp [go_sem]) ?_
    refine (catch_idle _ _ _).mono ?_
    rintro e u' w'' ⟨rfl, rfl, rfl⟩
    have hp0 := bk_far (set4_self (v0 := .int .i64 r.2.2.kind) (v1 := .string r.2.2.name) (v2 := .int .i64 r.2.2.idx) (v3 := .slice A7 r.2.2.args.length c7) p0) (p := ⟨w.heap.size + 1, 0, none⟩) (by show w.heap.size ≠ w.heap.size + 1; omega) (.int .i64 0)
    have hp1 := bk_set ((set4_far (v0 := .int .i64 r.2.2.kind) (v1 := .string r.2.2.name) (v2 := .int .i64 r.2.2.idx) (v3 := .slice A7 r.2.2.args.length c7) (by omega : w.heap.size + 1 ≠ w.heap.size)).trans p1) 0 (.int .i64 0)
    refine ⟨_, res_pairC rfl rfl rfl hp0 hp1, A7, c7, ?_, ?_, ?_, ?_⟩
    · simp [runT, H0.out]
    · rw [runT, if_pos H0.out]; exact hl7
    · rw [runT, if_pos H0.out]
      have key : ∀ b, (S b ∧ b < (((w.alloc (.cells #[.int .i64 0, .string ⟨#[]⟩, .int .i64 0, .slice none 0 0] 33)).alloc (.cells #[.int .i64 0] 34)).alloc (.cells #[.int .i64 0] 3)).heap.size) ∨ (((w.alloc (.cells #[.int .i64 0, .string ⟨#[]⟩, .int .i64 0, .slice none 0 0] 33)).alloc (.cells #[.int .i64 0] 34)).alloc (.cells #[.int .i64 0] 3)).heap.size ≤ b → b ≠ w.heap.size ∧ b ≠ w.heap.size + 1 := fun b hb => by
        simp only [World.size_alloc] at hb
        rcases hb with hb | hb
        · have := hS b hb.1; omega
        · omega
      exact ((R7.set4 (fun b hb => (key b hb).1)).setc (p := ⟨w.heap.size + 1, 0, none⟩) (fun b hb => (key b hb).2) _).mono (fun b hb _ => by simp at hb; rcases hb with hb | hb; exact .inl hb.1; exact .inr (by omega))
    · exact bl_set (bl_set4 B (Nat.le_refl _)) (by show w.heap.size ≤ w.heap.size + 1; omega) _
  · go_wp2_with fail
    refine leaves_cons (f := 81) (args := #[.pointer (some ⟨w.heap.size, 0, none⟩), .pointer (some ⟨w.heap.size + 1, 0, none⟩)]) (by simp) (by simp [go_sem]) ?_
    refine (catch_panicking _ _ _ _ _ _ _ _ _ p0 p1 (by omega)).mono ?_
    rintro e u' w'' ⟨rfl, rfl, rfl⟩
    have hp0 := bk_far (set4_self (v0 := .int .i64 0) (v1 := .string ⟨#[]⟩) (v2 := .int .i64 0) (v3 := .slice none 0 0) p0) (p := ⟨w.heap.size + 1, 0, none⟩) (by show w.heap.size ≠ w.heap.size + 1; omega) (.int .i64 r.1)
    have hp1 := bk_set ((set4_far (v0 := .int .i64 0) (v1 := .string ⟨#[]⟩) (v2 := .int .i64 0) (v3 := .slice none 0 0) (by omega : w.heap.size + 1 ≠ w.heap.size)).trans p1) 0 (.int .i64 r.1)
    refine ⟨_, res_pairC rfl rfl rfl hp0 hp1, none, 0, ?_, ?_, ?_, ?_⟩
    · rw [runT, if_neg h0]; rfl
    · rw [runT, if_neg h0]; exact Nat.le_refl _
    · rw [runT, if_neg h0]; exact Rd.nil _ _ _ _
    · exact bl_set (bl_set4 B (Nat.le_refl _)) (by show w.heap.size ≤ w.heap.size + 1; omega) _
end Go.Proofs.Ytolooomphmcphaa
