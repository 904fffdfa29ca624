/- The iterator term.nodes: each node of a term is handed over once, a node before its arguments, with the number of the binders around it. -/
import Derived.RangeFuncNested
import Derived.RangeFuncBound
import Derived.RangeFuncCalls
import Derived.RangeFuncLeaves
import Derived.RangeFuncFrom
import Derived.OwnWalkIn
import Derived.TacticsInMore
import Derived.LoopNIn
import Derived.LoopIn
import Derived.Test.YtolooomphmcphaaSp
namespace Go.Proofs.Ytolooomphmcphaa
open Go.RowKit
attribute [local go_sem] Oper.semAt_some

/-- what is told of a node: the binders around it, its kind, name and index -/
structure Nd where
  b : Int
  k : Int
  s : ByteArray
  i : Int
/-- a node as it is handed over; where its arguments lie is told, too -/
structure NdV (Pr : Nd → Prop) where
  d : Nd
  A : Option Addr
  n : Nat
  c : Nat
  h : Pr d
def encN {Pr : Nd → Prop} (x : NdV Pr) : Array Value := #[.int .i64 x.d.b, .agg #[.int .i64 x.d.k, .string x.d.s, .int .i64 x.d.i, .slice x.A x.n x.c]]
def under (k : Int) (j : Nat) : Int := if k = 3 ∨ (k = 2 ∧ j = 1) then 1 else 0
mutual
def nds : Tm → Int → List Nd
  | .mk k s i a, b => ⟨b, k, s, i⟩ :: ndsl k a 0 b
def ndsl (k : Int) : List Tm → Nat → Int → List Nd
  | [], _, _ => []
  | t :: r, j, b => nds t (b + under k j) ++ ndsl k r (j + 1) b
end
theorem nds_eq (t : Tm) (b : Int) : nds t b = ⟨b, t.kind, t.name, t.idx⟩ :: ndsl t.kind t.args 0 b := by cases t; rfl
mutual
theorem nds_length : ∀ (t : Tm) (b : Int), (nds t b).length = tsize t
  | .mk k s i a, b => by rw [nds, tsize, List.length_cons, ndsl_length k a 0 b]; omega
theorem ndsl_length (k : Int) : ∀ (a : List Tm) (j : Nat) (b : Int), (ndsl k a j b).length = tsizes a
  | [], _, _ => by rw [ndsl, tsizes]; rfl
  | t :: r, j, b => by rw [ndsl, tsizes, List.length_append, nds_length t, ndsl_length k r]
end
theorem ndsl_append (k : Int) : ∀ (a a' : List Tm) (j : Nat) (b : Int), ndsl k (a ++ a') j b = ndsl k a j b ++ ndsl k a' (j + a.length) b
  | [], a', j, b => by simp [ndsl]
  | t :: r, a', j, b => by
    simp only [List.cons_append, ndsl, List.append_assoc, List.length_cons]
    rw [ndsl_append k r a' (j + 1) b, show j + 1 + r.length = j + (r.length + 1) from by omega]
theorem ndsl_take (k : Int) (a : List Tm) (m : Nat) (h : m < a.length) (b : Int) : ndsl k (a.take (m + 1)) 0 b = ndsl k (a.take m) 0 b ++ nds a[m] (b + under k m) := by
  rw [List.take_succ_eq_append_getElem h, ndsl_append]
  simp [ndsl, List.length_take, Nat.min_eq_left (Nat.le_of_lt h)]

/-- what a round keeps: all blocks of cells that are none of X -/
def KpC (X : Nat → Prop) (W W' : World) : Prop := W.heap.size ≤ W'.heap.size ∧ ∀ k cs t f, ¬ X k → W.heap[k]? = some (.cells cs t f) → W'.heap[k]? = some (.cells cs t f)
theorem KpC.refl (X : Nat → Prop) (W : World) : KpC X W W := ⟨Nat.le_refl _, fun _ _ _ _ _ h => h⟩
theorem KpC.trans {X : Nat → Prop} {A B C : World} (h : KpC X A B) (k : KpC X B C) : KpC X A C := ⟨Nat.le_trans h.1 k.1, fun g cs t f hx hg => k.2 g cs t f hx (h.2 g cs t f hx hg)⟩
theorem KpC.alloc (X : Nat → Prop) (W : World) (o : Obj) : KpC X W (W.alloc o) := ⟨by simp, fun g cs t f _ hg => bk_alloc hg o⟩
theorem KpC.put {w : World} {X : Nat → Prop} (W : World) (l : Nat) (o o' : Obj) (_ : w.heap.size ≤ l) (h : W.heap[l]? = some o) (ho : o.isCells = false) (_ : o.isWalk = false) : KpC X W (W.putObj l o') := by
  refine ⟨by simp, fun g cs t f _ hg => ?_⟩
  have hne : g ≠ l := by
    rintro rfl
    rw [h] at hg
    injection hg with hg
    subst hg
    cases ho
  rw [World.putObj_heap_other hne]
  exact hg
theorem KpC.set (X : Nat → Prop) (W : World) (g : Nat) (hg : X g) (j : Nat) (u : Value) : KpC X W (W.setCell ⟨g, j, none⟩ u) :=
  ⟨by simp [World.setCell], fun k cs t f hx hk => bk_far hk (p := ⟨g, j, none⟩) (fun e => hx (by rw [e]; exact hg)) u⟩
theorem Rd.kpc {α : Type} {d : EK α} {W W' : World} {S X : Nat → Prop} {A : Option Addr} {xs : List α} (h : Rd d W S A xs) (hS : ∀ b, S b → ¬ X b) (hk : KpC X W W') : Rd d W' S A xs :=
  h.move (fun b hb hl => by obtain ⟨cs, t, f, e⟩ := hl; rw [e]; exact hk.2 b cs t f (hS b hb) e) (fun _ hs _ => hs)

mutual
def AllN (Pr : Nd → Prop) : Tm → Int → Prop
  | .mk k s i a, b => Pr ⟨b, k, s, i⟩ ∧ AllL Pr k a 0 b
def AllL (Pr : Nd → Prop) (k : Int) : List Tm → Nat → Int → Prop
  | [], _, _ => True
  | t :: r, j, b => AllN Pr t (b + under k j) ∧ AllL Pr k r (j + 1) b
end
theorem AllN_eq (Pr : Nd → Prop) (t : Tm) (b : Int) : AllN Pr t b ↔ Pr ⟨b, t.kind, t.name, t.idx⟩ ∧ AllL Pr t.kind t.args 0 b := by cases t; rw [AllN]; rfl
theorem AllL_get (Pr : Nd → Prop) (k : Int) : ∀ (a : List Tm) (j : Nat) (b : Int), AllL Pr k a j b → ∀ (m : Nat) (h : m < a.length), AllN Pr a[m] (b + under k (j + m))
  | [], _, _, _, m, h => by simp at h
  | t :: r, j, b, hh, 0, h => by rw [AllL] at hh; simpa using hh.1
  | t :: r, j, b, hh, m + 1, h => by
    rw [AllL] at hh
    have := AllL_get Pr k r (j + 1) b hh.2 m (by simpa using h)
    simpa [show j + 1 + m = j + (m + 1) from by omega] using this

abbrev Try.yield (l : Nat) : Value := .func (.yield l) #[] #[]
set_option maxRecDepth 100000 in
set_option maxHeartbeats 2000000 in
/-- the inner function of the iterator, which calls itself -/
theorem walkIn (Pr : Nd → Prop) (l By Bw N : Nat) (X : Nat → Prop) (B0 : Nat) (J Jx : List (NdV Pr) → World → Prop) (hJ : AbidesFrom B0 J)
    (hY : ∀ m pre x W, J pre W → pre.length < N → YieldAt Fence.wide m Try.prog l (encN x) W fun e W' =>
      (e = .returned (.bool true) ∧ J (pre ++ [x]) W' ∧ KpC X W W') ∨ (e = .returned (.bool false) ∧ Jx (pre ++ [x]) W')) (hXy : ¬ X By) (hXw : ¬ X Bw) (n : Nat) :
    ∀ (m : Nat) (t : Tm) (A : Option Addr) (c : Nat) (b : Int) (S : Nat → Prop) (pre : List (NdV Pr)) (W : World), tsize t < n → tsize t < 1000000000 → Rd tmK W S A t.args → (∀ g, S g → ¬ X g) → J pre W → pre.length + tsize t ≤ N → 0 ≤ b → b + tsize t ≤ 1000000000 → AllN Pr t b → (∀ g, W.heap.size ≤ g → ¬ X g) →
      W.heap[By]? = some (.cells #[.func (.yield l) #[] #[]] 107 (0, 0)) → W.heap[Bw]? = some (.cells #[.func (.func 92) #[] #[.pointer (some ⟨By, 0, none⟩), .pointer (some ⟨Bw, 0, none⟩)]] 106 (0, 0)) →
      CallsIn Fence.wide m Try.prog 92 #[tmV t A c, .int .i64 b, .pointer (some ⟨By, 0, none⟩), .pointer (some ⟨Bw, 0, none⟩)] W fun e W' =>
        (e = .returned (.bool true) ∧ (∃ ys, ys.map NdV.d = nds t b ∧ J (pre ++ ys) W') ∧ KpC X W W') ∨ (e = .returned (.bool false) ∧ ∃ q, List.length q ≤ tsize t ∧ q.map NdV.d <+: nds t b ∧ Jx (pre ++ q) W') := by
  induction n with
  | zero => intro m t A c b S pre W h; omega
  | succ n ih =>
  intro m t A c b S pre W h1 h2 hr hS hj hN hb0 hb1 hall hX hby hbw
  have hts := tsize_eq t
  have hla := len_le_tsizes t.args
  rw [AllN_eq] at hall
  have hdd : ∀ k : Nat, (Fence.wide.depth.isSome = true → 1 ≤ k) := fun k h => by cases h
  refine callsIn_of_wp Try.func92 rfl trivial ?_ rfl
  simp only [Try.ntmps92, List.size_toArray, List.length_cons, List.length_nil, Nat.reduceAdd, Nat.reduceSub, Array.replicate_succ, Array.replicate_zero, List.push_toArray, List.append_toArray, List.nil_append, List.cons_append]
  have cy := bx1 (bk_alloc hby (.cells (tmB t A c) 33))
  have cw := bx1 (bk_alloc hbw (.cells (tmB t A c) 33))
  have hj1 : J pre (W.alloc (.cells (tmB t A c) 33)) := hJ _ _ _ none hj (World.grownBy_alloc W _ none) (fun r e => by cases e)
  obtain ⟨fn, tmps, assign, body, hy, hR⟩ := hY (m - 1) pre ⟨⟨b, t.kind, t.name, t.idx⟩, A, t.args.length, c, hall.1⟩ _ hj1 (by omega)
  dsimp only [encN] at hy
  have hr1 := hr.below (bl_new W (.cells (tmB t A c) 33))
  have hk1 := bk_new W (.cells (tmB t A c) 33)
  have hX1 : ¬ X W.heap.size := hX _ (Nat.le_refl _)
  gi_wp2
  refine ⟨hdd _, hR.mono ?_⟩
  rintro e W1 (⟨rfl, hj2, hkp⟩ | ⟨rfl, hjx⟩)
  · have hk2 := hkp.2 _ _ _ _ hX1 hk1
    have hr2 := hr1.kpc hS hkp
    have hw2 := hkp.2 _ _ _ _ hXw (bk_alloc hbw _)
    have hy2 := hkp.2 _ _ _ _ hXy (bk_alloc hby _)
    have hkp1 : KpC X W W1 := (KpC.alloc X W _).trans hkp
    obtain ⟨c0, c1, c2, c3⟩ := bx4 hk2
    clear cy cw hj1 hy hR hk1 hr1 hkp
    gi_wp2
    gi_loopw [18] (fun i wr => ∃ (k : Nat) (ys : List (NdV Pr)), k ≤ t.args.length ∧ i = .int .i64 k ∧ ys.map NdV.d = ⟨b, t.kind, t.name, t.idx⟩ :: ndsl t.kind (t.args.take k) 0 b ∧ J (pre ++ ys) wr ∧ KpC X W1 wr) (fun i _ => t.args.length - (intOf i).toNat)
    case atStart => exact ⟨0, [_], by omega, rfl, by simp [ndsl], hj2, KpC.refl _ _⟩
    case round =>
      obtain ⟨k, ys, hk, rfl, hys, hjk, hkk⟩ := hrel
      have Hys := Lib.hid hys
      clear hys c0 c1 c2 c3
      have hkk2 := hkk.2 _ _ _ _ hX1 hk2
      have hw3 := hkk.2 _ _ _ _ hXw hw2
      have hy3 := hkk.2 _ _ _ _ hXy hy2
      by_cases hlt : k < t.args.length
      · obtain ⟨b3, o3, A3, c3', rfl, _, e0, e1, e2, e3, hl3, hr3⟩ := (hr2.kpc hS hkk).tm k hlt
        obtain ⟨c0, c1, c2, c3⟩ := bx4 (bk_alloc hkk2 (.cells (tmB t.args[k] A3 c3') 33))
        have hm1 := tsizes_mem t.args k hlt
        have hmt := tsizes_take t.args k hlt
        have hml := tsizes_take_le t.args (k + 1)
        have hwA := bk_alloc hw3 (.cells (tmB t.args[k] A3 c3') 33)
        have hyA := bk_alloc hy3 (.cells (tmB t.args[k] A3 c3') 33)
        have cw3 := bx1 hwA
        have hjk1 : J (pre ++ ys) (wr.alloc (.cells (tmB t.args[k] A3 c3') 33)) := hJ _ _ _ none hjk (World.grownBy_alloc wr _ none) (fun r e => by cases e)
        have hAl := AllL_get Pr t.kind t.args 0 b hall.2 k hlt
        rw [Nat.zero_add] at hAl
        have hcase : (((t.kind == 3) = true ∧ under t.kind k = 1) ∨ ((t.kind == 3) = false ∧ (t.kind == 2) = true ∧ ((k : Int) == 1) = true ∧ under t.kind k = 1)) ∨ (((t.kind == 3) = false ∧ (t.kind == 2) = true ∧ ((k : Int) == 1) = false ∧ under t.kind k = 0) ∨ ((t.kind == 3) = false ∧ (t.kind == 2) = false ∧ under t.kind k = 0)) := by
          unfold under
          by_cases h3 : t.kind = 3
          · simp [h3]
          · by_cases h2 : t.kind = 2
            · by_cases hk1 : k = 1
              · subst hk1; simp [h2]
              · simp [h2, hk1]; omega
            · simp [h3, h2]
        rcases hcase with (⟨g1, hu⟩ | ⟨g1, g2, g3, hu⟩) | (⟨g1, g2, g3, hu⟩ | ⟨g1, g2, hu⟩)
        · rw [hu] at hAl
          have Hu := Lib.hid hu
          clear hu
          have HAl := Lib.hid hAl
          clear hAl
          gi_wp2
          refine ⟨trivial, hdd _, (ih (m - 1) t.args[k] A3 c3' (b + 1) S (pre ++ ys) _ (by omega) (by omega) (hr3.below (bl_new _ _)) hS hjk1 (by have := congrArg List.length Hys.out; simp [ndsl_length] at this; simp; omega) (by omega) (by omega) HAl.out (fun g hg => hX g (by have := hkk.1; have := hkp1.1; simp at hg; omega)) hyA hwA).mono ?_⟩
          rintro e W3 (⟨rfl, ⟨zs, hzs, hj3⟩, hk3⟩ | ⟨rfl, q, hq, hqp, hjx⟩)
          · have Hzs := Lib.hid hzs
            clear hzs c0 c1 c2 c3 e0 e1 e2 e3 cw3 hX1 hk2 hkk2
            gi_wp2
            go_roundw
            case rel => exact ⟨k + 1, ys ++ zs, by omega, by go_num, by rw [List.map_append, Hys.out, Hzs.out, ndsl_take _ _ _ hlt, Hu.out]; simp, by rw [← List.append_assoc]; exact hj3, hkk.trans ((KpC.alloc X wr _).trans hk3)⟩
            case measure => simp [intOf]; omega
          · clear c0 c1 c2 c3 e0 e1 e2 e3 cw3 hX1 hk2 hkk2
            gi_wp2
            go_ret
            refine .inr ⟨rfl, ys ++ q, ?_, ?_, by rw [← List.append_assoc]; exact hjx⟩
            · have := congrArg List.length Hys.out
              simp [ndsl_length] at this
              simp; omega
            · rw [List.map_append, Hys.out, nds_eq]
              obtain ⟨r, hr⟩ := hqp
              have h4 := ndsl_take t.kind t.args k hlt b
              rw [Hu.out, ← hr] at h4
              have h5 := ndsl_append t.kind (t.args.take (k + 1)) (t.args.drop (k + 1)) 0 b
              rw [List.take_append_drop, h4] at h5
              rw [h5]
              exact ⟨r ++ ndsl t.kind (t.args.drop (k + 1)) (0 + (t.args.take (k + 1)).length) b, by simp⟩
        · rw [hu] at hAl
          have Hu := Lib.hid hu
          clear hu
          have HAl := Lib.hid hAl
          clear hAl
          gi_wp2
          refine ⟨trivial, hdd _, (ih (m - 1) t.args[k] A3 c3' (b + 1) S (pre ++ ys) _ (by omega) (by omega) (hr3.below (bl_new _ _)) hS hjk1 (by have := congrArg List.length Hys.out; simp [ndsl_length] at this; simp; omega) (by omega) (by omega) HAl.out (fun g hg => hX g (by have := hkk.1; have := hkp1.1; simp at hg; omega)) hyA hwA).mono ?_⟩
          rintro e W3 (⟨rfl, ⟨zs, hzs, hj3⟩, hk3⟩ | ⟨rfl, q, hq, hqp, hjx⟩)
          · have Hzs := Lib.hid hzs
            clear hzs c0 c1 c2 c3 e0 e1 e2 e3 cw3 hX1 hk2 hkk2
            gi_wp2
            go_roundw
            case rel => exact ⟨k + 1, ys ++ zs, by omega, by go_num, by rw [List.map_append, Hys.out, Hzs.out, ndsl_take _ _ _ hlt, Hu.out]; simp, by rw [← List.append_assoc]; exact hj3, hkk.trans ((KpC.alloc X wr _).trans hk3)⟩
            case measure => simp [intOf]; omega
          · clear c0 c1 c2 c3 e0 e1 e2 e3 cw3 hX1 hk2 hkk2
            gi_wp2
            go_ret
            refine .inr ⟨rfl, ys ++ q, ?_, ?_, by rw [← List.append_assoc]; exact hjx⟩
            · have := congrArg List.length Hys.out
              simp [ndsl_length] at this
              simp; omega
            · rw [List.map_append, Hys.out, nds_eq]
              obtain ⟨r, hr⟩ := hqp
              have h4 := ndsl_take t.kind t.args k hlt b
              rw [Hu.out, ← hr] at h4
              have h5 := ndsl_append t.kind (t.args.take (k + 1)) (t.args.drop (k + 1)) 0 b
              rw [List.take_append_drop, h4] at h5
              rw [h5]
              exact ⟨r ++ ndsl t.kind (t.args.drop (k + 1)) (0 + (t.args.take (k + 1)).length) b, by simp⟩
        · rw [hu] at hAl
          have Hu := Lib.hid hu
          clear hu
          rw [show b + 0 = b from by omega] at hAl
          have HAl := Lib.hid hAl
          clear hAl
          gi_wp2
          refine ⟨trivial, hdd _, (ih (m - 1) t.args[k] A3 c3' (b) S (pre ++ ys) _ (by omega) (by omega) (hr3.below (bl_new _ _)) hS hjk1 (by have := congrArg List.length Hys.out; simp [ndsl_length] at this; simp; omega) (by omega) (by omega) HAl.out (fun g hg => hX g (by have := hkk.1; have := hkp1.1; simp at hg; omega)) hyA hwA).mono ?_⟩
          rintro e W3 (⟨rfl, ⟨zs, hzs, hj3⟩, hk3⟩ | ⟨rfl, q, hq, hqp, hjx⟩)
          · have Hzs := Lib.hid hzs
            clear hzs c0 c1 c2 c3 e0 e1 e2 e3 cw3 hX1 hk2 hkk2
            gi_wp2
            go_roundw
            case rel => exact ⟨k + 1, ys ++ zs, by omega, by go_num, by rw [List.map_append, Hys.out, Hzs.out, ndsl_take _ _ _ hlt, Hu.out]; simp, by rw [← List.append_assoc]; exact hj3, hkk.trans ((KpC.alloc X wr _).trans hk3)⟩
            case measure => simp [intOf]; omega
          · clear c0 c1 c2 c3 e0 e1 e2 e3 cw3 hX1 hk2 hkk2
            gi_wp2
            go_ret
            refine .inr ⟨rfl, ys ++ q, ?_, ?_, by rw [← List.append_assoc]; exact hjx⟩
            · have := congrArg List.length Hys.out
              simp [ndsl_length] at this
              simp; omega
            · rw [List.map_append, Hys.out, nds_eq]
              obtain ⟨r, hr⟩ := hqp
              have h4 := ndsl_take t.kind t.args k hlt b
              rw [Hu.out, show b + 0 = b from by omega, ← hr] at h4
              have h5 := ndsl_append t.kind (t.args.take (k + 1)) (t.args.drop (k + 1)) 0 b
              rw [List.take_append_drop, h4] at h5
              rw [h5]
              exact ⟨r ++ ndsl t.kind (t.args.drop (k + 1)) (0 + (t.args.take (k + 1)).length) b, by simp⟩
        · rw [hu] at hAl
          have Hu := Lib.hid hu
          clear hu
          rw [show b + 0 = b from by omega] at hAl
          have HAl := Lib.hid hAl
          clear hAl
          gi_wp2
          refine ⟨trivial, hdd _, (ih (m - 1) t.args[k] A3 c3' (b) S (pre ++ ys) _ (by omega) (by omega) (hr3.below (bl_new _ _)) hS hjk1 (by have := congrArg List.length Hys.out; simp [ndsl_length] at this; simp; omega) (by omega) (by omega) HAl.out (fun g hg => hX g (by have := hkk.1; have := hkp1.1; simp at hg; omega)) hyA hwA).mono ?_⟩
          rintro e W3 (⟨rfl, ⟨zs, hzs, hj3⟩, hk3⟩ | ⟨rfl, q, hq, hqp, hjx⟩)
          · have Hzs := Lib.hid hzs
            clear hzs c0 c1 c2 c3 e0 e1 e2 e3 cw3 hX1 hk2 hkk2
            gi_wp2
            go_roundw
            case rel => exact ⟨k + 1, ys ++ zs, by omega, by go_num, by rw [List.map_append, Hys.out, Hzs.out, ndsl_take _ _ _ hlt, Hu.out]; simp, by rw [← List.append_assoc]; exact hj3, hkk.trans ((KpC.alloc X wr _).trans hk3)⟩
            case measure => simp [intOf]; omega
          · clear c0 c1 c2 c3 e0 e1 e2 e3 cw3 hX1 hk2 hkk2
            gi_wp2
            go_ret
            refine .inr ⟨rfl, ys ++ q, ?_, ?_, by rw [← List.append_assoc]; exact hjx⟩
            · have := congrArg List.length Hys.out
              simp [ndsl_length] at this
              simp; omega
            · rw [List.map_append, Hys.out, nds_eq]
              obtain ⟨r, hr⟩ := hqp
              have h4 := ndsl_take t.kind t.args k hlt b
              rw [Hu.out, show b + 0 = b from by omega, ← hr] at h4
              have h5 := ndsl_append t.kind (t.args.take (k + 1)) (t.args.drop (k + 1)) 0 b
              rw [List.take_append_drop, h4] at h5
              rw [h5]
              exact ⟨r ++ ndsl t.kind (t.args.drop (k + 1)) (0 + (t.args.take (k + 1)).length) b, by simp⟩
      · obtain rfl : k = t.args.length := by omega
        gi_wp2
        go_ret
        refine .inl ⟨rfl, ⟨ys, ?_, hjk⟩, hkp1.trans hkk⟩
        rw [Hys.out, nds_eq, List.take_length]
  · gi_wp2
    go_ret
    exact .inr ⟨rfl, [_], by simp; omega, by rw [nds_eq]; simp, hjx⟩
end Go.Proofs.Ytolooomphmcphaa
