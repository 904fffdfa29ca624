/- subst.measure: a term with its size and its depth. -/
import Derived.Test.YtolooomphmcphaaH2
import Derived.Test.YtolooomphmcphaaIu
import Derived.Test.YtolooomphmcphaaTs
namespace Go.Proofs.Ytolooomphmcphaa
open Go.RowKit

abbrev set6 (w : World) (g : Nat) (v0 v1 v2 v3 v4 v5 : Value) : World := ((set4 w g v0 v1 v2 v3).setCell ⟨g, 4, none⟩ v4).setCell ⟨g, 5, none⟩ v5
section
variable {w w1 : World} {g : Nat} {v0 v1 v2 v3 v4 v5 u0 u1 u2 u3 u4 u5 : Value} {T : TypeId}
theorem set6_self (h : w.heap[g]? = some (.cells #[u0, u1, u2, u3, u4, u5] T (0, 0))) : (set6 w g v0 v1 v2 v3 v4 v5).heap[g]? = some (.cells #[v0, v1, v2, v3, v4, v5] T (0, 0)) :=
  bk_set (bk_set (bk_set (bk_set (bk_set (bk_set h 0 v0) 1 v1) 2 v2) 3 v3) 4 v4) 5 v5
theorem set6_far {b : Nat} (h : b ≠ g) : (set6 w g v0 v1 v2 v3 v4 v5).heap[b]? = w.heap[b]? := by
  rw [Below.heap_setCell _ _ _ b h, Below.heap_setCell _ _ _ b h, set4_far h]
theorem set6_size : (set6 w g v0 v1 v2 v3 v4 v5).heap.size = w.heap.size := by simp
theorem rd_set6 {α : Type} {d : EK α} {S : Nat → Prop} {A : Option Addr} {xs : List α} (h : Rd d w S A xs) (hS : ∀ b, S b → b ≠ g) : Rd d (set6 w g v0 v1 v2 v3 v4 v5) S A xs := h.move (fun b hb _ => set6_far (hS b hb)) (fun _ h _ => h)
theorem bl_set6 (h : Below w.heap.size w w1) (hg : w.heap.size ≤ g) : Below w.heap.size w (set6 w1 g v0 v1 v2 v3 v4 v5) := bl_set (bl_set (bl_set4 h hg) hg _) hg _
end
/-- a made term, out of blocks of S or new ones -/
abbrev GivM (P : Program) (f : FuncId) (args : Array Value) (w : World) (S : Nat → Prop) (t : Tm) : Prop :=
  Calls P f args w fun e w' => ∃ A c, e = .returned (mdV t A c (tsize t) (tdep t)) ∧ t.args.length ≤ c ∧ Rd tmK w' (fun b => S b ∨ w.heap.size ≤ b) A t.args ∧ Below w.heap.size w w'
set_option maxRecDepth 100000 in
set_option maxHeartbeats 1000000 in
theorem measure_calls (t : Tm) (A : Option Addr) (c : Nat) (w : World) (S : Nat → Prop) (h2 : tsize t < 1000000000) (hl : t.args.length ≤ c) (hr : Rd tmK w S A t.args) :
    GivM Try.prog 51 #[tmV t A c] w S t := by
  have hr0 := hr.bound
  clear hr
  have q0 := bk_alloc (bk_new w (.cells (tmB t A c) 33)) (.cells #[.int .i64 0, .string ⟨#[]⟩, .int .i64 0, .slice none 0 0, .int .i64 0, .int .i64 0] 74)
  have q1 := bk_at (w := w.alloc (.cells (tmB t A c) 33)) (n := w.heap.size + 1) (by simp) (.cells #[.int .i64 0, .string ⟨#[]⟩, .int .i64 0, .slice none 0 0, .int .i64 0, .int .i64 0] 74)
  have B := bl_alloc (bl_new w (.cells (tmB t A c) 33)) (.cells #[.int .i64 0, .string ⟨#[]⟩, .int .i64 0, .slice none 0 0, .int .i64 0, .int .i64 0] 74)
  have hR := (hr0.below B).mono (S' := fun b => S b ∧ b < w.heap.size) (fun b hb _ => ⟨hb.1, hb.2.lt⟩)
  clear hr0
  obtain ⟨z, HZ⟩ : ∃ z : Int, Hid ((tsize t : Int) = z) := ⟨_, Lib.hid rfl⟩
  obtain ⟨d, HD⟩ : ∃ d : Int, Hid ((tdep t : Int) = d) := ⟨_, Lib.hid rfl⟩
  have HS : Hid (∀ w' : World, w'.heap[w.heap.size]? = some (.cells (tmB t A c) 33 (0, 0)) → w'.cell? ⟨w.heap.size, 0, none⟩ = some (.int .i64 t.kind) ∧ w'.cell? ⟨w.heap.size, 1, none⟩ = some (.string t.name) ∧ w'.cell? ⟨w.heap.size, 2, none⟩ = some (.int .i64 t.idx) ∧ w'.cell? ⟨w.heap.size, 3, none⟩ = some (.slice A t.args.length c)) := Lib.hid fun w' h => bx4 h
  go_enter Try.func51, Try.ntmps51
  go_wp2_with fail
  refine wp_region_mixN 6 (fun w' => w'.cell? ⟨w.heap.size, 0, none⟩ = some (.int .i64 t.kind) ∧ w'.cell? ⟨w.heap.size, 1, none⟩ = some (.string t.name) ∧ w'.cell? ⟨w.heap.size, 2, none⟩ = some (.int .i64 t.idx) ∧ w'.cell? ⟨w.heap.size, 3, none⟩ = some (.slice A t.args.length c))
    [(true, 0), (true, 1), (true, 3), (false, 2), (false, 4), (true, 5)] (by kernel_rfl) rfl (by kernel_rfl) (HS.out _ q0) ?_
  repeat (refine wpMix_soft (v := ?_) rfl rfl ?_ ?_; rotate_left; (focus (intro w' hS; go_simp; with_reducible rfl)); simp only [Act.put, List.setIfInBounds_toArray, List.set_cons_zero, List.set_cons_succ])
  refine wpMix_hard rfl rfl ?_
  go_wp2_with fail
  refine (size_calls t A c _ _ h2 hR.drew).use fun w1 hb1 => ?_
  rw [HZ.out]
  replace hb1 := bl_undrew hb1
  replace q0 := bk_below q0 hb1; replace q1 := bk_below q1 hb1; replace B := bl_self B hb1; replace hR := hR.below hb1; clear hb1
  go_wp2_with fail
  refine mixQ_normal (HS.out _ q0) ?_
  repeat (refine wpMix_soft (v := ?_) rfl rfl ?_ ?_; rotate_left; (focus (intro w' hS; go_simp; with_reducible rfl)); simp only [Act.put, List.setIfInBounds_toArray, List.set_cons_zero, List.set_cons_succ])
  refine wpMix_hard rfl rfl ?_
  go_wp2_with fail
  refine (depth_calls (tsize t + 1) t A c _ _ (Nat.lt_succ_self _) h2 hR).use fun w2 hb2 => ?_
  rw [HD.out]
  replace q0 := bk_below q0 hb2; replace q1 := bk_below q1 hb2; replace B := bl_self B hb2; replace hR := hR.below hb2; clear hb2
  go_wp2_with fail
  refine mixQ_normal (HS.out _ q0) ?_
  repeat (refine wpMix_soft (v := ?_) rfl rfl ?_ ?_; rotate_left; (focus (intro w' hS; go_simp; with_reducible rfl)); simp only [Act.put, List.setIfInBounds_toArray, List.set_cons_zero, List.set_cons_succ])
  refine wpMix_done (cutQ_normal ?_)
  obtain ⟨x0, x1, x2, x3, x4, x5⟩ := bx6 q1
  have z0 := bk_free q1 0
  have z1 := bk_free q1 1
  have z2 := bk_free q1 2
  have z3 := bk_free q1 3
  have z4 := bk_free q1 4
  have z5 := bk_free q1 5
  go_wp2_with fail
  refine NoPanic.normal ?_
  go_wp2_with fail
  refine bodyPost_ret (res_made rfl rfl (set6_self q1)) rfl ⟨A, c, by rw [HZ.out, HD.out], hl, (rd_set6 hR (fun b hb => by omega)).mono (fun b hb _ => .inl hb.1), bl_set6 B (by omega)⟩
end Go.Proofs.Ytolooomphmcphaa
