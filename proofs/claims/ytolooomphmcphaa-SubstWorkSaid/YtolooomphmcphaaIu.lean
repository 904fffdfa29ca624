/- The iterator term.nodes as a value that may be ranged over; term.Size. -/
import Derived.Laws.EntriesVeiled
import Derived.Shelf.Abstract
import Derived.Test.YtolooomphmcphaaIt
import Derived.Test.YtolooomphmcphaaTs
namespace Go.Proofs.Ytolooomphmcphaa
open Go.RowKit
attribute [local go_sem] Oper.semAt_some

set_option maxRecDepth 100000 in
set_option maxHeartbeats 2000000 in
theorem nodes1_in (Pr : Nd → Prop) (l Bt : Nat) (X : Nat → Prop) (J Jx : List (NdV Pr) → World → Prop) (m : Nat) (t : Tm) (A : Option Addr) (c : Nat) (S : Nat → Prop) (W : World) (hJ : AbidesFrom W.heap.size J)
    (hY : ∀ m pre x W, J pre W → pre.length < tsize t → YieldAt Fence.wide m Try.prog l (encN x) W fun e W' =>
      (e = .returned (.bool true) ∧ J (pre ++ [x]) W' ∧ KpC X W W') ∨ (e = .returned (.bool false) ∧ Jx (pre ++ [x]) W'))
    (h2 : tsize t < 1000000000) (hr : Rd tmK W S A t.args) (hS : ∀ g, S g → ¬ X g) (h0 : J [] W) (hall : AllN Pr t 0) (hX : ∀ g, W.heap.size ≤ g → ¬ X g) (hbt : W.heap[Bt]? = some (.cells (tmB t A c) 33 (0, 0))) :
    CallsIn Fence.wide m Try.prog 91 #[.func (.yield l) #[] #[], .pointer (some ⟨Bt, 0, none⟩)] W fun e W' => (∃ v, e = .returned v) ∧
      ((∃ ys, ys.map NdV.d = nds t 0 ∧ J ys W') ∨ (∃ q, q.map NdV.d <+: nds t 0 ∧ Jx q W')) := by
  have hdd : ∀ k : Nat, (Fence.wide.depth.isSome = true → 1 ≤ k) := fun k h => by cases h
  have hmf : ∀ (fn : Fn) (first cap : Array Value) (w : World), (Instr.makeFunc fn first cap).run Try.prog w = .ok (.func fn first cap) w := fun _ _ _ _ => rfl
  refine callsIn_of_wp Try.func91 rfl trivial ?_ rfl
  simp only [Try.ntmps91, List.size_toArray, List.length_cons, List.length_nil, Nat.reduceAdd, Nat.reduceSub, Array.replicate_succ, Array.replicate_zero, List.push_toArray, List.append_toArray, List.nil_append, List.cons_append]
  have hj1 := hJ _ _ _ none h0 (World.grownBy_alloc W (.cells #[.func (.yield l) #[] #[]] 107) none) (fun r e => by cases e)
  have hj2 := hJ _ _ _ none hj1 (World.grownBy_alloc _ (.cells #[.func (.func 92) #[] #[.pointer (some ⟨W.heap.size, 0, none⟩), .pointer (some ⟨W.heap.size + 1, 0, none⟩)]] 106) none) (fun r e => by cases e)
  have hy1 := bk_alloc (bk_new W (.cells #[.func (.yield l) #[] #[]] 107)) (.cells #[.func (.func 92) #[] #[.pointer (some ⟨W.heap.size, 0, none⟩), .pointer (some ⟨W.heap.size + 1, 0, none⟩)]] 106)
  have hw1 := bk_new (W.alloc (.cells #[.func (.yield l) #[] #[]] 107)) (.cells #[.func (.func 92) #[] #[.pointer (some ⟨W.heap.size, 0, none⟩), .pointer (some ⟨W.heap.size + 1, 0, none⟩)]] 106)
  rw [World.size_alloc] at hw1
  obtain ⟨c0, c1, c2, c3⟩ := bx4 (bk_alloc (bk_alloc hbt (.cells #[.func (.yield l) #[] #[]] 107)) (.cells #[.func (.func 92) #[] #[.pointer (some ⟨W.heap.size, 0, none⟩), .pointer (some ⟨W.heap.size + 1, 0, none⟩)]] 106))
  have cw := bx1 hw1
  gi_wp2
  refine ⟨trivial, hdd _, (walkIn Pr l W.heap.size (W.heap.size + 1) (tsize t) X W.heap.size J Jx hJ hY (hX _ (Nat.le_refl _)) (hX _ (by omega)) _ (m - 1) t A c 0 S [] _ (Nat.lt_succ_self _) h2 (hr.below (bl_self (bl_new _ _) (bl_new _ _))) hS hj2 (by simp) (by omega) (by omega) hall (fun g hg => hX g (by simp at hg; omega)) hy1 hw1).mono ?_⟩
  rintro e W3 (⟨rfl, ⟨zs, hzs, hj3⟩, hk3⟩ | ⟨rfl, q, hq, hqp, hjx⟩)
  · have Hzs := Lib.hid hzs
    clear hzs c0 c1 c2 c3 cw
    gi_wp2
    go_end0
    exact ⟨⟨_, rfl⟩, .inl ⟨zs, Hzs.out, hj3⟩⟩
  · clear c0 c1 c2 c3 cw
    gi_wp2
    go_end0
    exact ⟨⟨_, rfl⟩, .inr ⟨q, hqp, hjx⟩⟩

set_option maxHeartbeats 1000000 in
theorem nodes_in (m : Nat) (t : Tm) (A : Option Addr) (c : Nat) (w : World) :
    CallsIn Fence.wide m Try.prog 63 #[tmV t A c] w fun e w' => e = .returned (.func (.func 91) #[] #[.pointer (some ⟨w.heap.size, 0, none⟩)]) ∧ w' = w.alloc (.cells (tmB t A c) 33) := by
  have hmf : ∀ (fn : Fn) (first cap : Array Value) (w : World), (Instr.makeFunc fn first cap).run Try.prog w = .ok (.func fn first cap) w := fun _ _ _ _ => rfl
  refine callsIn_of_wp Try.func63 rfl trivial ?_ rfl
  simp only [Try.ntmps63, List.size_toArray, List.length_cons, List.length_nil, Nat.reduceAdd, Nat.reduceSub, Array.replicate_succ, Array.replicate_zero, List.push_toArray, List.append_toArray, List.nil_append, List.cons_append]
  gi_wp2
  go_ret
  exact ⟨rfl, rfl⟩

/-- the iterator over a term's nodes; X: what the rounds may write -/
theorem nodes_stops (Pr : Nd → Prop) (X : Nat → Prop) (m : Nat) (t : Tm) (A : Option Addr) (c : Nat) (S : Nat → Prop) (Bt : Nat) (w : World) (h2 : tsize t < 1000000000) (hr : Rd tmK w S A t.args) (hS : ∀ g, S g → ¬ X g) (hall : AllN Pr t 0)
    (hX : ∀ g, X g → g < w.heap.size) (hbt : w.heap[Bt]? = some (.cells (tmB t A c) 33 (0, 0))) :
    SeqStopsK Fence.wide m Try.prog 91 #[.pointer (some ⟨Bt, 0, none⟩)] (encN (Pr := Pr)) (KpC X) (fun ys => ys.map NdV.d = nds t 0) (fun q => q.map NdV.d <+: nds t 0) (tsize t) w := by
  intro l J Jx W hW hJ hJx hY h0
  refine (nodes1_in Pr l Bt X J Jx m t A c S W hJ (fun m' pre x W1 hj hl => ?_) h2 (hr.below hW) hS h0 hall (fun g hg hx => by have := hX g hx; have := hW.size; omega) (bk_below hbt hW)).mono ?_
  · obtain ⟨fn, tmps, assign, body, hy, hR⟩ := hY pre x W1 hj hl
    exact ⟨fn, tmps, assign, body, hy, hR.1, fun c cs hroom => hR.2 c cs (fun d h => by cases h)⟩
  · rintro e W' ⟨hv, h⟩
    exact ⟨hv, h⟩

theorem own_bk {β : Type} {B g : Nat} {t : TypeId} (f : β → Array Value) : OwnFrom B (fun s W => W.heap[g]? = some (.cells (f s) t (0, 0))) :=
  fun s W W' row hs hg hr => bk_grown hs hg (fun e => by
    obtain ⟨_, o, ho, hc⟩ := hr g e.symm
    rw [hs] at ho
    cases ho
    cases hc)
mutual
theorem allN_true : ∀ (t : Tm) (b : Int), AllN (fun _ => True) t b
  | .mk k s i a, b => by rw [AllN]; exact ⟨trivial, allL_true k a 0 b⟩
theorem allL_true (k : Int) : ∀ (a : List Tm) (j : Nat) (b : Int), AllL (fun _ => True) k a j b
  | [], _, _ => by rw [AllL]; trivial
  | t :: r, j, b => by rw [AllL]; exact ⟨allN_true t _, allL_true k r _ b⟩
end
set_option maxRecDepth 100000 in
set_option maxHeartbeats 2000000 in
theorem size_in (m : Nat) (hm : 3 ≤ m) (t : Tm) (A : Option Addr) (c : Nat) (S : Nat → Prop) (w : World) (h2 : tsize t < 1000000000) (hr : Rd tmK w S A t.args) :
    CallsIn Fence.wide m Try.prog 26 #[tmV t A c] w fun e W' => e = .returned (.int .i64 (tsize t)) ∧ Below w.heap.size w W' := by
  have h1 : 1 ≤ m := by omega
  refine callsIn_of_wp_marks Try.func26 rfl trivial ?_ rfl
  simp only [Try.ntmps26, List.size_toArray, List.length_cons, List.length_nil, Nat.reduceAdd, Nat.reduceSub, Array.replicate_succ, Array.replicate_zero, List.push_toArray, List.append_toArray, List.nil_append, List.cons_append]
  gi_wp2
  refine ⟨trivial, (nodes_in (m - 1) t A c _).mono ?_⟩
  rintro e w' ⟨rfl, rfl⟩
  have hn2 := bk_alloc (bk_new (w.alloc (.cells (tmB t A c) 33)) (.cells #[.int .i64 0] 3)) (.cells (tmB t A c) 33)
  have hb2 := bk_new ((w.alloc (.cells (tmB t A c) 33)).alloc (.cells #[.int .i64 0] 3)) (.cells (tmB t A c) 33)
  have hB2 : Below w.heap.size w (((w.alloc (.cells (tmB t A c) 33)).alloc (.cells #[.int .i64 0] 3)).alloc (.cells (tmB t A c) 33)) := bl_alloc (bl_alloc (bl_new _ _) _) _
  have hr2 := ((hr.bound).mono (S' := fun g => g < w.heap.size) (fun b h _ => h.2.lt)).below hB2
  simp only [World.size_alloc] at hn2 hb2
  gi_wp2
  refine wpIn_rangeFunc_ownF rfl h1 (gf := 91) (lb := #[.pointer (some ⟨w.heap.size + 1 + 1, 0, none⟩)]) rfl trivial (enters_of Try.func91 (by kernel_rfl) rfl)
    (nodes_stops (fun _ => True) (fun g => g = w.heap.size + 1) (m - 1) t A c _ (w.heap.size + 1 + 1) _ h2 hr2 (fun g hg e => by omega) (allN_true t 0) (fun g e => by subst e; simp) hb2) KpC.trans (KpC.put (w := (((w.alloc (.cells (tmB t A c) 33)).alloc (.cells #[.int .i64 0] 3)).alloc (.cells (tmB t A c) 33)))) (Below.refl _ _) (fun _ => rfl)
    (fun pre W => W.heap[w.heap.size + 1]? = some (.cells #[.int .i64 (pre.length : Int)] 3 (0, 0)) ∧ Below w.heap.size w W)
    (fun _ _ _ => False)
    (OwnFrom.and (own_bk (fun pre : List (NdV (fun _ => True)) => #[.int .i64 (pre.length : Int)])) (ownFrom_below (Nat.le_refl _) (by simp; omega)))
    (fun _ _ _ _ _ hs _ _ => hs)
    ⟨hn2, hB2⟩
    (fun x => { tmps := #[tmV t A c, .pointer (some ⟨w.heap.size, 0, none⟩), .int .i64 0, .pointer (some ⟨w.heap.size + 1, 0, none⟩), tmV t A c, .func (.func 91) #[] #[.pointer (some ⟨w.heap.size + 1 + 1, 0, none⟩)], .int .i64 x.d.b, .agg #[.int .i64 x.d.k, .string x.d.s, .int .i64 x.d.i, .slice x.A x.n x.c], undef, undef, undef], defers := [] }) ?assign ?body ?done ?stop
  case assign =>
    intro l x W K hK
    gi_wp2
    simpa [encN] using hK
  case body =>
    rintro l pre x W ⟨hc, hB⟩ hlen
    have c0 := bx1 hc
    have f0 := bk_free hc 0
    gi_wp2
    refine ⟨KeepsOthers.setCell _ _ _, KpC.set (fun g => g = w.heap.size + 1) _ _ rfl _ _, ?_, bl_set hB (by simp) _⟩
    have := bk_set hc 0 (.int .i64 ((pre.length : Int) + 1))
    simpa using this
  case done =>
    rintro D ys W hD hys ⟨hc, hB⟩ hK
    have c0 := bx1 hc
    have hl : ys.length = tsize t := by
      have := congrArg List.length hys
      rwa [List.length_map, nds_length] at this
    rw [hl] at c0
    gi_wp2
    refine ⟨by simp, .inl ⟨_, _, rfl, run_takeDeferred hK, ?_⟩⟩
    exact ⟨_, results_tmp rfl _ _ _, rfl, hB.trans (belowK_b (w := w) (Nat.le_refl _) W D _ _ (by simp at hD; omega) hK rfl rfl)⟩
  case stop =>
    rintro D c pre W _ _ h _
    exact h.elim
theorem size_calls (t : Tm) (A : Option Addr) (c : Nat) (S : Nat → Prop) (w : World) (h2 : tsize t < 1000000000) (hr : Rd tmK w S A t.args) :
    Giv Try.prog 26 #[tmV t A c] w (.int .i64 (tsize t)) := (callsIn_wide (n := 3)).1 (size_in 3 (by omega) t A c S w h2 hr)
end Go.Proofs.Ytolooomphmcphaa
