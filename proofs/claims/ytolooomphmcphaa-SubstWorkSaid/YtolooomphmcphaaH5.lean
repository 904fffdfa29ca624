/- subst.apply: an object of a simple type is applied to arguments. -/
import Derived.Deep.DeepCutAuto
import Derived.Test.YtolooomphmcphaaH4
import Derived.Test.YtolooomphmcphaaHp
import Derived.Test.YtolooomphmcphaaK10
namespace Go.Proofs.Ytolooomphmcphaa
open Go.RowKit

theorem Rd.sub {α : Type} {d : EK α} {w : World} {S : Nat → Prop} {b o : Nat} {xs : List α} (h : Rd d w S (some ⟨b, o, none⟩) xs) (m : Nat) (hm : m < xs.length) : Rd d w S (some ⟨b, o + m * d.sz, none⟩) [xs[m]] := by
  obtain ⟨b', o', c, e, hb, hk, hc⟩ := h.at m hm
  simp only [Option.some.injEq, Addr.mk.injEq, and_true] at e
  obtain ⟨rfl, rfl⟩ := e
  exact .inr ⟨b, _, c, rfl, hb, ⟨c, [], by simp, hk, rfl⟩, hc⟩
theorem Rd.sub2 {w : World} {S : Nat → Prop} {b o : Nat} {xs : List Sm} (h : Rd smK w S (some ⟨b, o, none⟩) xs) (m : Nat) (hm : m < xs.length) : Rd smK w S (some ⟨b, o + m * 2, none⟩) [xs[m]] := h.sub m hm
theorem gr_set6 {w w1 : World} {row : Option Nat} {g : Nat} {v0 v1 v2 v3 v4 v5 : Value} (h : w.grownBy w1 row) (hg : w.heap.size ≤ g) : w.grownBy (set6 w1 g v0 v1 v2 v3 v4 v5) row := gr_set (gr_set (gr_set4 h hg) hg _) hg _
theorem gr_into {w w1 w2 : World} {row row2 : Option Nat} (h : w.grownBy w1 row) (hg : w1.grownBy w2 row2) (hr : ∀ k, row2 = some k → w.heap.size ≤ k) : w.grownBy w2 row :=
  ⟨hg.os.trans h.os, hg.tape.trans h.tape, hg.output.trans h.output, Nat.le_trans h.size hg.size, fun k hk hn => (hg.block k (Nat.lt_of_lt_of_le hk h.size) (fun he => by have := hr k he.symm; omega)).trans (h.block k hk hn)⟩
/-- what a call with a work cell leaves -/
def SubP (g : Nat) (w : World) (S : Nat → Prop) (r : Res) (e : Ending) (w' : World) : Prop := w.grownBy w' (some g) ∧
  ((r.1 = 0 ∧ (∃ A c, e = .returned (mdV r.2.2 A c (tsize r.2.2) (tdep r.2.2)) ∧ r.2.2.args.length ≤ c ∧ Rd tmK w' (fun b => (S b ∧ b < w.heap.size) ∨ w.heap.size ≤ b) A r.2.2.args) ∧ w'.heap[g]? = some (.cells #[.int .i64 r.2.1] 3 (0, 0))) ∨ (r.1 ≠ 0 ∧ e = errE r.1))
abbrev wkP (g : Nat) : Value := .pointer (some ⟨g, 0, none⟩)
def OfOK (f : Nat) : Prop := ∀ (W : Nat) (t : Tm) (ms : List Tm) (ss : List Sm) (deep g : Nat) (A Am As : Option Addr) (c cm cs : Nat) (w : World) (S S1 S2 : Nat → Prop), 262145 ≤ f + W → W ≤ 262144 → sortB t → tsize t ≤ 4096 → deep + tsize t ≤ 1000000 →
  ms.length = ss.length → ms.length < 1000000 → (∀ m ∈ ms, objB m = true ∧ smallB m = true) → t.args.length ≤ c → Rd tmK w S A t.args → Rd mdK w S1 Am ms → Rd smK w S2 As ss → ¬ S g → ¬ S1 g → ¬ S2 g → w.heap[g]? = some (.cells #[.int .i64 W] 3 (0, 0)) →
  Calls Try.prog 77 #[.agg #[wkP g, .slice Am ms.length cm, .slice As ss.length cs], tmV t A c, .int .i64 deep] w (SubP g w S1 (subT f W t ms ss deep))
abbrev Gf (f : Nat) : Nat → Tm → Tm → Sm → Res := fun W t a s => subT f W t [a] [s] 0
def applyT (f W : Nat) (m : Tm) (s : Sm) (args : List Tm) : Res := if args.length = s.args.length then appL (Gf f) W m s.args args else errT 6 W
def ApOK (f : Nat) : Prop := ∀ (W : Nat) (m : Tm) (s : Sm) (args : List Tm) (g : Nat) (A As Ax : Option Addr) (c cs cx : Nat) (w : World) (S S1 S2 : Nat → Prop), 262145 ≤ f + W → W ≤ 262144 → objB m = true → smallB m = true →
  (∀ a ∈ args, objB a = true ∧ smallB a = true) → args.length < 1000000 → m.args.length ≤ c → Rd tmK w S A m.args → s.args.length ≤ cs → Rd smK w S1 As s.args → Rd mdK w S2 Ax args → ¬ S g → ¬ S1 g → ¬ S2 g → w.heap[g]? = some (.cells #[.int .i64 W] 3 (0, 0)) →
  Calls Try.prog 52 #[wkP g, mdV m A c (tsize m) (tdep m), smV s As cs, .slice Ax args.length cx] w (SubP g w (fun b => S b ∨ S2 b) (applyT f W m s args))
theorem cl_gr {w w1 : World} {b i g : Nat} {v : Value} (h : w.cell? ⟨b, i, none⟩ = some v) (hg : w.grownBy w1 (some g)) (hne : b ≠ g) : w1.cell? ⟨b, i, none⟩ = some v := cl_grown h hg (by simpa using hne)
theorem ne_of {S : Nat → Prop} {g : Nat} (h : ¬ S g) : ∀ b, S b → b ≠ g := fun _ hb e => h (e ▸ hb)
set_option maxRecDepth 100000 in
set_option maxHeartbeats 4000000 in
theorem apply_calls {f : Nat} (H : OfOK f) : ApOK f := by
  intro W m s args g A As Ax c cs cx w S S1 S2 hf hW hmo hms hargs hal hl hr hls hr1 hr2 hS hS1 hS2 hg
  replace H := Lib.hid H
  have Hargs := Lib.hid hargs
  clear hargs
  have hgl := bk_lt hg
  obtain ⟨T, HT⟩ : ∃ T, Hid (applyT f W m s args = T) := ⟨_, Lib.hid rfl⟩
  rw [HT.out]
  have p0 := bk_alloc (bk_alloc (bk_new w (.cells (md6 m A c (tsize m) (tdep m)) 74)) (.cells (smB s As cs) 25)) (.cells #[.int .i64 0, .string ⟨#[]⟩, .int .i64 0, .slice none 0 0, .int .i64 0, .int .i64 0] 74)
  have p1 := bk_alloc (bk_at (w := w.alloc (.cells (md6 m A c (tsize m) (tdep m)) 74)) (n := w.heap.size + 1) (by simp) (.cells (smB s As cs) 25)) (.cells #[.int .i64 0, .string ⟨#[]⟩, .int .i64 0, .slice none 0 0, .int .i64 0, .int .i64 0] 74)
  have p2 := bk_at (w := (w.alloc (.cells (md6 m A c (tsize m) (tdep m)) 74)).alloc (.cells (smB s As cs) 25)) (n := w.heap.size + 1 + 1) (by simp) (.cells #[.int .i64 0, .string ⟨#[]⟩, .int .i64 0, .slice none 0 0, .int .i64 0, .int .i64 0] 74)
  have G := gr_alloc (gr_alloc (gr_alloc (gr_below (Below.refl w.heap.size w) (some g)) (.cells (md6 m A c (tsize m) (tdep m)) 74)) (.cells (smB s As cs) 25)) (.cells #[.int .i64 0, .string ⟨#[]⟩, .int .i64 0, .slice none 0 0, .int .i64 0, .int .i64 0] 74)
  have pg := bk_alloc (bk_alloc (bk_alloc hg (.cells (md6 m A c (tsize m) (tdep m)) 74)) (.cells (smB s As cs) 25)) (.cells #[.int .i64 0, .string ⟨#[]⟩, .int .i64 0, .slice none 0 0, .int .i64 0, .int .i64 0] 74)
  have hsz : w.heap.size + 3 ≤ (((w.alloc (.cells (md6 m A c (tsize m) (tdep m)) 74)).alloc (.cells (smB s As cs) 25)).alloc (.cells #[.int .i64 0, .string ⟨#[]⟩, .int .i64 0, .slice none 0 0, .int .i64 0, .int .i64 0] 74)).heap.size := by simp
  have hr0 := hr.bound
  have hr10 := hr1.bound
  have hr20 := hr2.bound
  clear hr hr1 hr2 hg
  by_cases hq : args.length = s.args.length
  · have hqb : ((args.length : Int) != (s.args.length : Int)) = false := by simp [hq]
    have HQ := Lib.hid hq
    have hT2 : T = appL (Gf f) W m s.args args := by rw [← HT.out, applyT, if_pos hq]
    have HT2 := Lib.hid hT2
    clear hT2 hq HT
    obtain ⟨a1, a2⟩ := bx2 p1
    go_enter Try.func52, Try.ntmps52
    go_wp2_with fail
    go_loopg [20] (args.length) (fun kk i w' => ∃ (j W' : Nat) (x : Tm) (A' : Option Addr) (c' : Nat), kk + j = args.length ∧ j ≤ args.length ∧ i = .int .i64 j ∧ Hid (T = appL (Gf f) W' x (s.args.drop j) (args.drop j)) ∧ Hid (objB x = true ∧ smallB x = true ∧ W ≤ W' ∧ W' ≤ 262144) ∧
      w'.heap[w.heap.size]? = some (.cells (md6 x A' c' (tsize x) (tdep x)) 74 (0, 0)) ∧ w'.heap[w.heap.size + 1]? = some (.cells (smB s As cs) 25 (0, 0)) ∧
      w'.heap[w.heap.size + 1 + 1]? = some (.cells #[.int .i64 0, .string ⟨#[]⟩, .int .i64 0, .slice none 0 0, .int .i64 0, .int .i64 0] 74 (0, 0)) ∧ w'.heap[g]? = some (.cells #[.int .i64 W'] 3 (0, 0)) ∧
      x.args.length ≤ c' ∧ Rd tmK w' (fun b => ((S b ∨ S2 b) ∧ b < w.heap.size) ∨ w.heap.size + 3 ≤ b) A' x.args ∧ w.heap.size + 3 ≤ w'.heap.size ∧ w.grownBy w' (some g))
    case atStart =>
      refine ⟨0, W, m, A, c, by omega, by omega, rfl, Lib.hid (by rw [HT2.out]; rfl), Lib.hid ⟨hmo, hms, Nat.le_refl _, hW⟩, p0, p1, p2, pg, hl, ?_, hsz, G⟩
      exact (hr0.grown G (fun b hb => ne_of hS b hb.1)).mono (fun b hb _ => .inl ⟨.inl hb.1, hb.2.lt⟩)
    case round =>
      clear p0 p1 p2 pg G hsz a1 a2 hW
      obtain ⟨j, W', x, A', c', hkk, hj, rfl, HX, Hx, p0, p1, p2, pg, hl', R0, hsz, G⟩ := hrel
      have R1 := hr10.grown G (fun b hb => ne_of hS1 b hb.1)
      have R2 := hr20.grown G (fun b hb => ne_of hS2 b hb.1)
      obtain ⟨c0, c1, c2, c3, c4, c5⟩ := bx6 p0
      by_cases hlt : j < args.length
      · obtain ⟨b, o, A2, c2', rfl, ⟨hSb, hbl⟩, e0, e1, e2, e3, e4, e5, hl2, hr2⟩ := R2.md j hlt
        have hja : args[j] ∈ args := List.getElem_mem hlt
        have hjs : j < s.args.length := by have := HQ.out; omega
        obtain ⟨b1, o1, A5, c5', rfl, ⟨hSb1, hbl1⟩, f0, f1, hl5, hr5⟩ := R1.sm j hjs
        have R1s := R1.sub2 j hjs
        clear f0 f1 hl5 hr5
        have G1 := gr_alloc G (.cells (md6 args[j] A2 c2' (tsize args[j]) (tdep args[j])) 74)
        have pg1 := bk_alloc pg (.cells (md6 args[j] A2 c2' (tsize args[j]) (tdep args[j])) 74)
        have hwr : w.heap.size + 4 ≤ (wr.alloc (.cells (md6 args[j] A2 c2' (tsize args[j]) (tdep args[j])) 74)).heap.size := by simp; omega
        have R0' := R0.below (bl_new wr (.cells (md6 args[j] A2 c2' (tsize args[j]) (tdep args[j])) 74))
        have R1' := R1s.below (bl_new wr (.cells (md6 args[j] A2 c2' (tsize args[j]) (tdep args[j])) 74))
        have R2' := hr2.below (bl_new wr (.cells (md6 args[j] A2 c2' (tsize args[j]) (tdep args[j])) 74))
        have p7 := bk_new wr (.cells (md6 args[j] A2 c2' (tsize args[j]) (tdep args[j])) 74)
        replace p0 := bk_alloc p0 (.cells (md6 args[j] A2 c2' (tsize args[j]) (tdep args[j])) 74)
        replace p1 := bk_alloc p1 (.cells (md6 args[j] A2 c2' (tsize args[j]) (tdep args[j])) 74)
        replace p2 := bk_alloc p2 (.cells (md6 args[j] A2 c2' (tsize args[j]) (tdep args[j])) 74)
        clear c0 c1 c2 c3 c4 c5
        obtain ⟨c0, c1, c2, c3, c4, c5⟩ := bx6 p0
        cases hk3 : (x.kind != 3)
        · have hxk : x.kind = 3 := by simpa using hk3
          have HL := Lib.hid (lam_obj Hx.out.1 hxk)
          have Hxk := Lib.hid hxk
          clear hxk
          have hx0 : 0 < x.args.length := by have := HL.out.1; omega
          obtain ⟨b3, o3, A6, c6', rfl, hb3, x0, x1, x2, x3, hl6, hr6⟩ := R0'.tm0 hx0
          go_upto_region 8 with (fail)
          have hj1 : IntKind.i64.wrap ((j : Int) + 1) = (j : Int) + 1 := IntWalk.i64_in _ ⟨by omega, by omega⟩
          obtain ⟨d0, d1, d2, d3, d4, d5⟩ := bx6 p7
          obtain ⟨a1, a2⟩ := bx2 p1
          have hg3 : b3 ≠ g := by
            rintro rfl
            rcases hb3 with ⟨hb3 | hb3, _⟩ | hb3
            · exact hS hb3
            · exact hS2 hb3
            · omega
          have HS : ∀ w' : World, (wr.alloc (.cells (md6 args[j] A2 c2' (tsize args[j]) (tdep args[j])) 74)).grownBy w' (some g) →
              w'.cell? ⟨w.heap.size, 3, none⟩ = some (.slice (some ⟨b3, o3, none⟩) x.args.length c') ∧ w'.cell? ⟨w.heap.size + 1, 1, none⟩ = some (.slice (some ⟨b1, o1, none⟩) s.args.length cs) ∧
              w'.cell? ⟨wr.heap.size, 0, none⟩ = some (.int .i64 args[j].kind) ∧ w'.cell? ⟨wr.heap.size, 1, none⟩ = some (.string args[j].name) ∧ w'.cell? ⟨wr.heap.size, 2, none⟩ = some (.int .i64 args[j].idx) ∧ w'.cell? ⟨wr.heap.size, 3, none⟩ = some (.slice A2 args[j].args.length c2') ∧
              w'.cell? ⟨wr.heap.size, 4, none⟩ = some (.int .i64 (tsize args[j])) ∧ w'.cell? ⟨wr.heap.size, 5, none⟩ = some (.int .i64 (tdep args[j])) ∧
              w'.cell? ⟨b3, o3, none⟩ = some (.int .i64 x.args[0].kind) ∧ w'.cell? ⟨b3, o3 + 1, none⟩ = some (.string x.args[0].name) ∧ w'.cell? ⟨b3, o3 + 2, none⟩ = some (.int .i64 x.args[0].idx) ∧ w'.cell? ⟨b3, o3 + 3, none⟩ = some (.slice A6 x.args[0].args.length c6') := fun w' h =>
            ⟨cl_gr c3 h (by omega), cl_gr a2 h (by omega), cl_gr d0 h (by omega), cl_gr d1 h (by omega), cl_gr d2 h (by omega), cl_gr d3 h (by omega), cl_gr d4 h (by omega), cl_gr d5 h (by omega), cl_gr x0 h hg3, cl_gr x1 h hg3, cl_gr x2 h hg3, cl_gr x3 h hg3⟩
          replace HS := Lib.hid HS
          refine wp_region_mixP 16 (fun w' => w'.cell? ⟨w.heap.size, 3, none⟩ = some (.slice (some ⟨b3, o3, none⟩) x.args.length c') ∧ w'.cell? ⟨w.heap.size + 1, 1, none⟩ = some (.slice (some ⟨b1, o1, none⟩) s.args.length cs) ∧
              w'.cell? ⟨wr.heap.size, 0, none⟩ = some (.int .i64 args[j].kind) ∧ w'.cell? ⟨wr.heap.size, 1, none⟩ = some (.string args[j].name) ∧ w'.cell? ⟨wr.heap.size, 2, none⟩ = some (.int .i64 args[j].idx) ∧ w'.cell? ⟨wr.heap.size, 3, none⟩ = some (.slice A2 args[j].args.length c2') ∧
              w'.cell? ⟨wr.heap.size, 4, none⟩ = some (.int .i64 (tsize args[j])) ∧ w'.cell? ⟨wr.heap.size, 5, none⟩ = some (.int .i64 (tdep args[j])) ∧
              w'.cell? ⟨b3, o3, none⟩ = some (.int .i64 x.args[0].kind) ∧ w'.cell? ⟨b3, o3 + 1, none⟩ = some (.string x.args[0].name) ∧ w'.cell? ⟨b3, o3 + 2, none⟩ = some (.int .i64 x.args[0].idx) ∧ w'.cell? ⟨b3, o3 + 3, none⟩ = some (.slice A6 x.args[0].args.length c6'))
            (fun c w' => SubP g w (fun b => S b ∨ S2 b) T (.panicked c) w')
            [(true, 0), (true, 1), (true, 3), (true, 4), (true, 5), (true, 6), (true, 7), (true, 8), (true, 10), (true, 11), (true, 12), (true, 13), (true, 14), (false, 2), (true, 9), (false, 15)] (by kernel_rfl) rfl (by kernel_rfl) (fun c a w' h1 h2 => ⟨h1, h2⟩) (HS.out _ (gr_drew (World.grownBy.refl _ _))) ?_
          clear c0 c1 c2 c3 c4 c5 d0 d1 d2 d3 d4 d5 x0 x1 x2 x3 a1 a2 e0 e1 e2 e3 e4 e5
          have hb1 : (j : Int) + 1 ≤ (cs : Int) := by omega
          have hb2 : (0 : Int) ≤ (j : Int) + 1 := by omega
          have hb3 : ¬ cs = j := by omega
          repeat (refine wpMix_soft (v := ?_) rfl rfl ?_ ?_; rotate_left; (focus (intro w' hS; go_simp; with_reducible rfl)); simp only [Act.put, List.setIfInBounds_toArray, List.set_cons_zero, List.set_cons_succ])
          -- []made{a}
          refine wpMix_hard rfl rfl ?_
          go_wp2_with fail
          have q0 := bk_alloc p0 (.cells (md6 args[j] A2 c2' (tsize args[j]) (tdep args[j])) 74)
          have q1 := bk_alloc p1 (.cells (md6 args[j] A2 c2' (tsize args[j]) (tdep args[j])) 74)
          have q2 := bk_alloc p2 (.cells (md6 args[j] A2 c2' (tsize args[j]) (tdep args[j])) 74)
          have qg := bk_alloc pg1 (.cells (md6 args[j] A2 c2' (tsize args[j]) (tdep args[j])) 74)
          have R6 := hr6.below (bl_new (wr.alloc (.cells (md6 args[j] A2 c2' (tsize args[j]) (tdep args[j])) 74)) (.cells (md6 args[j] A2 c2' (tsize args[j]) (tdep args[j])) 74))
          have R1'' := R1'.below (bl_new (wr.alloc (.cells (md6 args[j] A2 c2' (tsize args[j]) (tdep args[j])) 74)) (.cells (md6 args[j] A2 c2' (tsize args[j]) (tdep args[j])) 74))
          have R2'' : Rd mdK ((wr.alloc (.cells (md6 args[j] A2 c2' (tsize args[j]) (tdep args[j])) 74)).alloc (.cells (md6 args[j] A2 c2' (tsize args[j]) (tdep args[j])) 74)) (fun b => (S2 b ∧ Live w b) ∨ wr.heap.size ≤ b) (some ⟨wr.heap.size + 1, 0, none⟩) [args[j]] := by
            have := Rd.one (d := mdK) (e := 74) (S' := fun b => (S2 b ∧ Live w b) ∨ wr.heap.size ≤ b) (mdK_of args[j] hl2 R2') (fun b hb => .inl hb) (by simp)
            simpa using this
          have G2 := gr_alloc G1 (.cells (md6 args[j] A2 c2' (tsize args[j]) (tdep args[j])) 74)
          have GD := gr_drew (gr_alloc (World.grownBy.refl (wr.alloc (.cells (md6 args[j] A2 c2' (tsize args[j]) (tdep args[j])) 74)) (some g)) (.cells (md6 args[j] A2 c2' (tsize args[j]) (tdep args[j])) 74))
          refine mixQ_normal (HS.out _ GD) ?_
          repeat (refine wpMix_soft (v := ?_) rfl rfl ?_ ?_; rotate_left; (focus (intro w' hS; go_simp; with_reducible rfl)); simp only [Act.put, List.setIfInBounds_toArray, List.set_cons_zero, List.set_cons_succ])
          -- of
          refine wpMix_hard rfl rfl ?_
          go_wp2_with fail
          have hxa : sortB x.args[0] := .inl (objBs_get HL.out.2 0 hx0)
          have hxs : tsize x.args[0] ≤ 4096 := by
            have h1 := small_size Hx.out.2.1
            have h2 := tsize_eq x
            have h3 := tsizes_mem x.args 0 hx0
            omega
          refine (H.out W' x.args[0] [args[j]] [s.args[j]] 0 g A6 (some ⟨wr.heap.size + 1, 0, none⟩) (some ⟨b1, o1 + j * 2, none⟩) c6' 1 (cs - j) _ (fun b => ((S b ∨ S2 b) ∧ b < w.heap.size) ∨ w.heap.size + 3 ≤ b) (fun b => (S2 b ∧ Live w b) ∨ wr.heap.size ≤ b) (fun b => (S1 b ∧ Live w b))
            (by have := Hx.out; omega) (by have := Hx.out; omega) hxa hxs (by omega) rfl (by simp) (fun a ha => by rw [List.mem_singleton.1 ha]; exact Hargs.out _ hja) hl6 R6.drew ?_ ?_ ?_ ?_ ?_ qg).mono ?_
          · exact R2''.drew
          · exact R1''.drew
          · rintro (⟨h | h, _⟩ | h)
            · exact hS h
            · exact hS2 h
            · omega
          · rintro (h | h)
            · exact hS2 h.1
            · omega
          · exact fun h => hS1 h.1
          have hT3 : T = if (subT f W' x.args[0] [args[j]] [s.args[j]] 0).1 ≠ 0 then errT (subT f W' x.args[0] [args[j]] [s.args[j]] 0).1 (subT f W' x.args[0] [args[j]] [s.args[j]] 0).2.1 else appL (Gf f) (subT f W' x.args[0] [args[j]] [s.args[j]] 0).2.1 (subT f W' x.args[0] [args[j]] [s.args[j]] 0).2.2 (s.args.drop (j + 1)) (args.drop (j + 1)) := by
            rw [HX.out, List.drop_eq_getElem_cons hlt, List.drop_eq_getElem_cons hjs, appL, if_neg (fun h => h Hxk.out)]
            rw [show x.args.getD 0 nilT = x.args[0] by rw [List.getD_eq_getElem?_getD, List.getElem?_eq_getElem hx0]; rfl]
          have HT3 := Lib.hid hT3
          clear hT3
          have HOK := Lib.hid (subT_ok f W' x.args[0] [args[j]] [s.args[j]] 0 (fun a ha => by rw [List.mem_singleton.1 ha]; exact (Hargs.out _ hja).1))
          have HLE := Lib.hid (subT_le f W' x.args[0] [args[j]] [s.args[j]] 0 (by have := Hx.out; omega))
          have HMO := Lib.hid (subT_mono f W' x.args[0] [args[j]] [s.args[j]] 0)
          generalize subT f W' x.args[0] [args[j]] [s.args[j]] 0 = r at *
          rintro e w2 ⟨hG2, h⟩
          replace hG2 := gr_undrew hG2
          have G3 := G2.trans hG2
          rcases h with ⟨h0, ⟨A7, c7, rfl, hl7, R7⟩, pg2⟩ | ⟨h0, rfl⟩
          · have hgn : g < w.heap.size := hgl
            have u0 := bk_grown q0 hG2 (by simp; omega)
            have u1 := bk_grown q1 hG2 (by simp; omega)
            have u2 := bk_grown q2 hG2 (by simp; omega)
            have hs2 : w.heap.size + 5 ≤ w2.heap.size := by have := hG2.size; simp at this; omega
            go_wp2_with fail
            refine mixQ_normal (HS.out _ ((gr_alloc (World.grownBy.refl (wr.alloc (.cells (md6 args[j] A2 c2' (tsize args[j]) (tdep args[j])) 74)) (some g)) (.cells (md6 args[j] A2 c2' (tsize args[j]) (tdep args[j])) 74)).trans hG2)) ?_
            refine wpMix_done (cutQ_normal ?_)
            obtain ⟨c0, c1, c2, c3, c4, c5⟩ := bx6 u0
            obtain ⟨z0, z1, z2, z3, z4, z5⟩ : _ ∧ _ ∧ _ ∧ _ ∧ _ ∧ _ := ⟨bk_free u0 0, bk_free u0 1, bk_free u0 2, bk_free u0 3, bk_free u0 4, bk_free u0 5⟩
            go_wp2_with fail
            refine PanTo.normal ?_
            go_wp2_with fail
            go_roundg (args.length - (j + 1))
            case rel =>
              refine ⟨j + 1, r.2.1, r.2.2, A7, c7, by omega, by omega, by go_num, Lib.hid (by rw [HT3.out, if_neg (fun h => h h0)]), Lib.hid ⟨(HOK.out h0).1.1 (objBs_get HL.out.2 0 hx0), (HOK.out h0).2, by have := HMO.out; have := Hx.out; omega, HLE.out.2 h0⟩,
                set6_self u0, (set6_far (by omega)).trans u1, (set6_far (by omega)).trans u2, (set6_far (by omega)).trans pg2, hl7, ?_, by rw [set6_size]; omega, gr_set6 G3 (Nat.le_refl _)⟩
              have key : ∀ b, (((S2 b ∧ Live w b) ∨ wr.heap.size ≤ b) ∧ b < wr.heap.size + 1 + 1 ∨ wr.heap.size + 1 + 1 ≤ b) → ((S2 b ∧ b < w.heap.size) ∨ w.heap.size + 3 ≤ b) := fun b hb => by
                rcases hb with ⟨hb | hb, _⟩ | hb
                · exact .inl ⟨hb.1, hb.2.lt⟩
                · exact .inr (by omega)
                · exact .inr (by omega)
              have R8 := R7.mono (S' := fun b => (S2 b ∧ b < w.heap.size) ∨ w.heap.size + 3 ≤ b) (fun b hb _ => key b (by simpa using hb))
              exact (rd_set6 R8 (fun b hb => by omega)).mono (fun b hb _ => by rcases hb with hb | hb; exact .inl ⟨.inr hb.1, hb.2⟩; exact .inr hb)
            case measure => omega
          · refine ⟨rfl, G3, .inr ⟨?_, ?_⟩⟩
            · rw [HT3.out, if_pos h0]; exact h0
            · rw [HT3.out, if_pos h0]; rfl
        · have hxk : x.kind ≠ 3 := by simpa using hk3
          have hT3 : T = errT 6 W' := by rw [HX.out, List.drop_eq_getElem_cons hlt, List.drop_eq_getElem_cons hjs, appL, if_pos hxk]
          have HT3 := Lib.hid hT3
          clear hT3 hxk
          go_wp2_with fail
          exact ⟨rfl, G1, .inr ⟨by rw [HT3.out]; exact (by decide : (6 : Int) ≠ 0), by rw [HT3.out]; rfl⟩⟩
      · obtain rfl : j = args.length := by omega
        have hT3 : T = appL (Gf f) W' x [] [] := by rw [HX.out, List.drop_length, HQ.out, List.drop_length]
        have HT3 := Lib.hid hT3
        clear hT3
        cases hk3 : (x.kind == 3)
        · have hxk : ¬ x.kind = 3 := by simpa using hk3
          have HT4 : Hid (T = (0, W', x)) := Lib.hid (by
            rw [HT3.out, appL, if_neg hxk, chkT, if_pos]
            exact ⟨small_size Hx.out.2.1, small_dep Hx.out.2.1⟩)
          clear hxk
          obtain ⟨x0, x1, x2, x3, x4, x5⟩ := bx6 p2
          obtain ⟨z0, z1, z2, z3, z4, z5⟩ : _ ∧ _ ∧ _ ∧ _ ∧ _ ∧ _ := ⟨bk_free p2 0, bk_free p2 1, bk_free p2 2, bk_free p2 3, bk_free p2 4, bk_free p2 5⟩
          go_wp2_with fail
          refine bodyPost_ret (res_made rfl rfl (set6_self p2)) rfl ⟨gr_set6 G (by omega), .inl ?_⟩
          rw [HT4.out]
          refine ⟨rfl, ⟨A', c', rfl, hl', ?_⟩, (set6_far (by omega)).trans pg⟩
          exact (rd_set6 R0 (fun b hb => by omega)).mono (fun b hb _ => by rcases hb with hb | hb; exact .inl hb; exact .inr (by omega))
        · have hxk : x.kind = 3 := by simpa using hk3
          have HT4 : Hid (T = errT 6 W') := Lib.hid (by rw [HT3.out, appL, if_pos hxk])
          clear hxk
          go_wp2_with fail
          exact ⟨rfl, G, .inr ⟨by rw [HT4.out]; exact (by decide : (6 : Int) ≠ 0), by rw [HT4.out]; rfl⟩⟩
  · have hqb : ((args.length : Int) != (s.args.length : Int)) = true := by simp; omega
    have HT4 : Hid (T = errT 6 W) := Lib.hid (by rw [← HT.out, applyT, if_neg hq])
    clear hq HT
    obtain ⟨a1, a2⟩ := bx2 p1
    go_enter Try.func52, Try.ntmps52
    go_wp2_with fail
    exact ⟨rfl, G, .inr ⟨by rw [HT4.out]; exact (by decide : (6 : Int) ≠ 0), by rw [HT4.out]; rfl⟩⟩
end Go.Proofs.Ytolooomphmcphaa
