/- SimpleForms, walked. -/
import Derived.Test.YtolooomphmcphaaDoorT10
import Derived.Test.YtolooomphmcphaaDoorT3
import Derived.Test.YtolooomphmcphaaDoorT8
import Derived.Test.YtolooomphmcphaaDoorK6
import Derived.Test.YtolooomphmcphaaDoorK9
import Derived.Test.YtolooomphmcphaaDoorQ8
import Derived.Test.YtolooomphmcphaaDoorQ4
namespace Go.Proofs.YtolooomphmcphaaDoor
open Go.RowKit

theorem spp_use {P : Program} {f : FuncId} {args : Array Value} {w : World} {S : Nat → Prop} {N : Nat} {R : Ending → World → Prop} (h : Calls P f args w (SpP w S N))
    (k : ∀ w' x A c, x.args.length ≤ c → Rd tmK w' (fun b => S b ∨ w.heap.size ≤ b) A x.args → tsize x ≤ N + 1 → ixT 2000003 x → Below w.heap.size w w' → R (.returned (tmV x A c)) w') : Calls P f args w R :=
  h.mono (by rintro e w' ⟨x, A, c, rfl, hc, hr, hn, hi, hb⟩; exact k w' x A c hc hr hn hi hb)
mutual
theorem sameS_refl : ∀ t : Sm, sameS t t = true
  | .mk f a => by rw [sameS]; simp [sameSs_refl a]
theorem sameSs_refl : ∀ a : List Sm, sameSs a a = true
  | [] => rfl
  | t :: r => by rw [sameSs, sameS_refl t, sameSs_refl r]; rfl
end
theorem ssize_eraseR (t : Tm) : ssize (eraseR t) ≤ tsize t + 1 := by
  unfold eraseR
  split
  · have := ssize_erase t; omega
  · simp [ssize, ssizes]
theorem rd_all {w : World} {S : Nat → Prop} {A : Option Addr} {xs : List Sm} (h : Rd smK w S A xs) : Rd smK w (fun b => b < w.heap.size) A xs := h.mono fun _ _ hl => hl.lt
set_option maxRecDepth 100000 in
set_option maxHeartbeats 2000000 in
theorem simpleForms_calls (l m : List Int) (A A' : Option Addr) (c c' : Nat) (n0 n1 k0 k1 : Int) (w : World) (S S' : Nat → Prop) (hl : l.length ≤ 9223372036854775807) (hr : Rd intK w S A l) (hl' : m.length ≤ 9223372036854775807) (hr' : Rd intK w S' A' m) (gb go cN : Nat) (hN : Nms w gb go cN) :
    Giv Tryd.prog 3 #[.slice A l.length c, .slice A' m.length c', .agg #[.int .i64 n0, .int .i64 n1], .agg #[.int .i64 k0, .int .i64 k1]] w (.bool true) := by
  have q5 := bk_alloc (bk_new w (.cells #[.int .i64 n0, .int .i64 n1] 23)) (.cells #[.int .i64 k0, .int .i64 k1] 23)
  have q6 := bk_at (w := w.alloc (.cells #[.int .i64 n0, .int .i64 n1] 23)) (n := w.heap.size + 1) (by simp) (.cells #[.int .i64 k0, .int .i64 k1] 23)
  have B := bl_alloc (bl_new w (.cells #[.int .i64 n0, .int .i64 n1] 23)) (.cells #[.int .i64 k0, .int .i64 k1] 23)
  have hsz : w.heap.size + 2 ≤ ((w.alloc (.cells #[.int .i64 n0, .int .i64 n1] 23)).alloc (.cells #[.int .i64 k0, .int .i64 k1] 23)).heap.size := by simp
  have hNl := hN.lt
  go_enter Tryd.func3, Tryd.ntmps3
  go_upto_region 1 with (fail)
  generalize hw2 : ((w.alloc (.cells #[.int .i64 n0, .int .i64 n1] 23)).alloc (.cells #[.int .i64 k0, .int .i64 k1] 23)) = w2 at *
  have HS : Hid (∀ w' : World, Below w2.heap.size w2 w' → w'.cell? ⟨w.heap.size, 0, none⟩ = some (.int .i64 n0) ∧ w'.cell? ⟨w.heap.size, 1, none⟩ = some (.int .i64 n1) ∧ w'.cell? ⟨w.heap.size + 1, 0, none⟩ = some (.int .i64 k0) ∧ w'.cell? ⟨w.heap.size + 1, 1, none⟩ = some (.int .i64 k1)) := Lib.hid fun W h => ⟨(bx2 (bk_below q5 h)).1, (bx2 (bk_below q5 h)).2, (bx2 (bk_below q6 h)).1, (bx2 (bk_below q6 h)).2⟩
  go_cut [9, 10] (fun s9 s10 wc => ∃ (G H : Nat) (s r : Sm) (A1 A2 : Option Addr) (c1 c2 : Nat), s9 = .pointer (some ⟨G, 0, none⟩) ∧ s10 = .pointer (some ⟨H, 0, none⟩) ∧ wc.heap[G]? = some (.cells #[.string s.fam, .slice A1 s.args.length c1] 26 (0, 0)) ∧ wc.heap[H]? = some (.cells #[.string r.fam, .slice A2 r.args.length c2] 26 (0, 0)) ∧ wc.heap[w.heap.size + 1]? = some (.cells #[.int .i64 k0, .int .i64 k1] 23 (0, 0)) ∧ s.args.length ≤ c1 ∧ r.args.length ≤ c2 ∧ Rd smK wc (fun b => b < wc.heap.size) A1 s.args ∧ Rd smK wc (fun b => b < wc.heap.size) A2 r.args ∧ ssize s ≤ 15 ∧ ssize r ≤ 15 ∧ Below w.heap.size w wc ∧ w.heap.size + 2 ≤ wc.heap.size)
  case first =>
    refine wp_region_tree (fun w' => w'.cell? ⟨w.heap.size, 0, none⟩ = some (.int .i64 n0) ∧ w'.cell? ⟨w.heap.size, 1, none⟩ = some (.int .i64 n1) ∧ w'.cell? ⟨w.heap.size + 1, 0, none⟩ = some (.int .i64 k0) ∧ w'.cell? ⟨w.heap.size + 1, 1, none⟩ = some (.int .i64 k1)) (.soft 0 (.soft 1 (.soft 3 (.soft 4 (.three 2 (.three 5 (.two 6 (.hard 7 (.hard 8 (.hard 9 .nil))) 7 (.hard 6 (.hard 8 (.hard 9 .nil)))) 6 (.two 5 (.hard 7 (.hard 8 (.hard 9 .nil))) 7 (.hard 5 (.hard 8 (.hard 9 .nil)))) 7 (.two 5 (.hard 6 (.hard 8 (.hard 9 .nil))) 6 (.hard 5 (.hard 8 (.hard 9 .nil))))) 6 (.two 2 (.two 5 (.hard 7 (.hard 8 (.hard 9 .nil))) 7 (.hard 5 (.hard 8 (.hard 9 .nil)))) 7 (.hard 2 (.hard 5 (.hard 8 (.hard 9 .nil))))) 7 (.two 2 (.two 5 (.hard 6 (.hard 8 (.hard 9 .nil))) 6 (.hard 5 (.hard 8 (.hard 9 .nil)))) 6 (.hard 2 (.hard 5 (.hard 8 (.hard 9 .nil)))))))))) (by kernel_rfl) (by kernel_rfl) (HS.out _ (bl_drew _ _)) ?_
    repeat (refine wpTree_soft (v := ?_) rfl rfl ?_ ?_; rotate_left; (focus (intro w' hS; go_simp; with_reducible rfl)); simp only [Act.put, List.setIfInBounds_toArray, List.set_cons_zero, List.set_cons_succ])
    have HB := bl_drew w2.heap.size w2
    have hs0 := HB.size
    generalize w2.drew = W0 at *
    refine wpTree_three ?_ ?_ ?_
    · skip
      refine stepT_of rfl rfl ?_
      go_wp2_with fail
      refine SpS.use (spoilt_calls l A c n0 n1 _ S hl (hr.below (bl_self B HB))) fun W1 s A1 c1 hc1 hR1 hss hb => ?_
      replace HB := bl_self HB hb
      have hs1 := hb.size
      replace hR1 := hR1.mono (S' := fun b => W0.heap.size ≤ b ∧ b < W1.heap.size) (fun b hb hl => ⟨hb, hl.lt⟩)
      clear hb
      go_wp2_with fail
      refine treeQ_normal (HS.out _ HB) ?_
      try simp only [Act.put, List.setIfInBounds_toArray, List.set_cons_zero, List.set_cons_succ]
      refine wpTree_three ?_ ?_ ?_
      · skip
        refine stepT_of rfl rfl ?_
        go_wp2_with fail
        refine SpS.use (spoilt_calls m A' c' k0 k1 _ S' hl' (hr'.below (bl_self B HB))) fun W2 r A2 c2 hc2 hR2 hrs hb => ?_
        replace HB := bl_self HB hb
        have hs2 := hb.size
        replace hR1 := hR1.below hb
        replace hR2 := hR2.mono (S' := fun b => W1.heap.size ≤ b ∧ b < W2.heap.size) (fun b hb hl => ⟨hb, hl.lt⟩)
        clear hb
        go_wp2_with fail
        refine treeQ_normal (HS.out _ HB) ?_
        try simp only [Act.put, List.setIfInBounds_toArray, List.set_cons_zero, List.set_cons_succ]
        refine wpTree_two ?_ ?_
        · skip
          refine stepT_of rfl rfl ?_
          go_wp2_with fail
          replace HB := bl_self HB (bl_new W2 (.cells #[.string ⟨#[]⟩, .slice none 0 0] 26))
          have hs3 : W2.heap.size + 1 = (W2.alloc (.cells #[.string ⟨#[]⟩, .slice none 0 0] 26)).heap.size := by simp
          replace hR1 := hR1.below (bl_new _ (.cells #[.string ⟨#[]⟩, .slice none 0 0] 26))
          replace hR2 := hR2.below (bl_new _ (.cells #[.string ⟨#[]⟩, .slice none 0 0] 26))
          have g6 := bk_new W2 (.cells #[.string ⟨#[]⟩, .slice none 0 0] 26)
          refine treeQ_normal (HS.out _ HB) ?_
          try simp only [Act.put, List.setIfInBounds_toArray, List.set_cons_zero, List.set_cons_succ]
          generalize W2.alloc (.cells #[.string ⟨#[]⟩, .slice none 0 0] 26) = W3 at *
          refine wpTree_hard ?_
          refine stepT_of rfl rfl ?_
          go_wp2_with fail
          replace HB := bl_self HB (bl_new W3 (.cells #[.string ⟨#[]⟩, .slice none 0 0] 26))
          have hs4 : W3.heap.size + 1 = (W3.alloc (.cells #[.string ⟨#[]⟩, .slice none 0 0] 26)).heap.size := by simp
          replace g6 := bk_alloc g6 (.cells #[.string ⟨#[]⟩, .slice none 0 0] 26)
          replace hR1 := hR1.below (bl_new _ (.cells #[.string ⟨#[]⟩, .slice none 0 0] 26))
          replace hR2 := hR2.below (bl_new _ (.cells #[.string ⟨#[]⟩, .slice none 0 0] 26))
          have g7 := bk_new W3 (.cells #[.string ⟨#[]⟩, .slice none 0 0] 26)
          refine treeQ_normal (HS.out _ HB) ?_
          try simp only [Act.put, List.setIfInBounds_toArray, List.set_cons_zero, List.set_cons_succ]
          generalize W3.alloc (.cells #[.string ⟨#[]⟩, .slice none 0 0] 26) = W4 at *
          have hne : W2.heap.size ≠ W3.heap.size := by omega
          have hz6 : w2.heap.size ≤ W2.heap.size := by omega
          have hz7 : w2.heap.size ≤ W3.heap.size := by omega
          have hd6 : ∀ b, (W0.heap.size ≤ b ∧ b < W1.heap.size) → b ≠ W2.heap.size := fun b hb => by omega
          have hd7 : ∀ b, (W0.heap.size ≤ b ∧ b < W1.heap.size) → b ≠ W3.heap.size := fun b hb => by omega
          have he6 : ∀ b, (W1.heap.size ≤ b ∧ b < W2.heap.size) → b ≠ W2.heap.size := fun b hb => by omega
          have he7 : ∀ b, (W1.heap.size ≤ b ∧ b < W2.heap.size) → b ≠ W3.heap.size := fun b hb => by omega
          have hl1 : ∀ b, (W0.heap.size ≤ b ∧ b < W1.heap.size) → b < W4.heap.size := fun b hb => by omega
          have hl2 : ∀ b, (W1.heap.size ≤ b ∧ b < W2.heap.size) → b < W4.heap.size := fun b hb => by omega
          have hw4 : w.heap.size + 2 ≤ W4.heap.size := by omega
          have hq6 : w.heap.size + 1 < w2.heap.size := bk_lt q6
          have hw6 : w.heap.size + 1 ≠ W2.heap.size := by omega
          have hw7 : w.heap.size + 1 ≠ W3.heap.size := by omega
          replace hne := Lib.hid hne
          replace hd6 := Lib.hid hd6
          replace hd7 := Lib.hid hd7
          replace he6 := Lib.hid he6
          replace he7 := Lib.hid he7
          replace hl1 := Lib.hid hl1
          replace hl2 := Lib.hid hl2
          replace hw6 := Lib.hid hw6
          replace hw7 := Lib.hid hw7
          clear hs0 hs1 hs2 hs3 hs4
          have p6 := bk_below q6 HB
          refine wpTree_hard ?_
          refine stepT_of rfl rfl ?_
          obtain ⟨x0, x1⟩ := bx2 g6
          have z0 := bk_free g6 0
          have z1 := bk_free g6 1
          go_wp2_with fail
          have HB5 := bl_set2 (v0 := .string s.fam) (v1 := .slice A1 s.args.length c1) HB hz6
          have r6 := set2_self (v0 := .string s.fam) (v1 := .slice A1 s.args.length c1) g6
          have r7 := (set2_far (v0 := .string s.fam) (v1 := .slice A1 s.args.length c1) (fun h => hne.out h.symm)).trans g7
          have rk := (set2_far (v0 := .string s.fam) (v1 := .slice A1 s.args.length c1) hw6.out).trans p6
          refine treeQ_normal (HS.out _ HB5) ?_
          clear x0 x1 z0 z1
          refine wpTree_hard ?_
          refine stepT_of rfl rfl ?_
          obtain ⟨x0, x1⟩ := bx2 r7
          have z0 := bk_free r7 0
          have z1 := bk_free r7 1
          go_wp2_with fail
          refine treeQ_normal (HS.out _ (bl_set2 HB5 hz7)) ?_
          refine wpTree_done (NoPanic.normal ?_)
          go_wp2_with fail
          go_meet
          exact ⟨_, _, s, r, A1, A2, c1, c2, rfl, rfl, (set2_far hne.out).trans r6, set2_self r7, (set2_far hw7.out).trans rk, hc1, hc2, rd_all ((hR1.set2 hd6.out).set2 hd7.out), rd_all ((hR2.set2 he6.out).set2 he7.out), hss, hrs, bl_set2 (bl_set2 (bl_self B HB) (by omega)) (by omega), by simpa using hw4⟩
        · skip
          refine stepT_of rfl rfl ?_
          go_wp2_with fail
          replace HB := bl_self HB (bl_new W2 (.cells #[.string ⟨#[]⟩, .slice none 0 0] 26))
          have hs3 : W2.heap.size + 1 = (W2.alloc (.cells #[.string ⟨#[]⟩, .slice none 0 0] 26)).heap.size := by simp
          replace hR1 := hR1.below (bl_new _ (.cells #[.string ⟨#[]⟩, .slice none 0 0] 26))
          replace hR2 := hR2.below (bl_new _ (.cells #[.string ⟨#[]⟩, .slice none 0 0] 26))
          have g7 := bk_new W2 (.cells #[.string ⟨#[]⟩, .slice none 0 0] 26)
          refine treeQ_normal (HS.out _ HB) ?_
          try simp only [Act.put, List.setIfInBounds_toArray, List.set_cons_zero, List.set_cons_succ]
          generalize W2.alloc (.cells #[.string ⟨#[]⟩, .slice none 0 0] 26) = W3 at *
          refine wpTree_hard ?_
          refine stepT_of rfl rfl ?_
          go_wp2_with fail
          replace HB := bl_self HB (bl_new W3 (.cells #[.string ⟨#[]⟩, .slice none 0 0] 26))
          have hs4 : W3.heap.size + 1 = (W3.alloc (.cells #[.string ⟨#[]⟩, .slice none 0 0] 26)).heap.size := by simp
          replace g7 := bk_alloc g7 (.cells #[.string ⟨#[]⟩, .slice none 0 0] 26)
          replace hR1 := hR1.below (bl_new _ (.cells #[.string ⟨#[]⟩, .slice none 0 0] 26))
          replace hR2 := hR2.below (bl_new _ (.cells #[.string ⟨#[]⟩, .slice none 0 0] 26))
          have g6 := bk_new W3 (.cells #[.string ⟨#[]⟩, .slice none 0 0] 26)
          refine treeQ_normal (HS.out _ HB) ?_
          try simp only [Act.put, List.setIfInBounds_toArray, List.set_cons_zero, List.set_cons_succ]
          generalize W3.alloc (.cells #[.string ⟨#[]⟩, .slice none 0 0] 26) = W4 at *
          have hne : W3.heap.size ≠ W2.heap.size := by omega
          have hz6 : w2.heap.size ≤ W3.heap.size := by omega
          have hz7 : w2.heap.size ≤ W2.heap.size := by omega
          have hd6 : ∀ b, (W0.heap.size ≤ b ∧ b < W1.heap.size) → b ≠ W3.heap.size := fun b hb => by omega
          have hd7 : ∀ b, (W0.heap.size ≤ b ∧ b < W1.heap.size) → b ≠ W2.heap.size := fun b hb => by omega
          have he6 : ∀ b, (W1.heap.size ≤ b ∧ b < W2.heap.size) → b ≠ W3.heap.size := fun b hb => by omega
          have he7 : ∀ b, (W1.heap.size ≤ b ∧ b < W2.heap.size) → b ≠ W2.heap.size := fun b hb => by omega
          have hl1 : ∀ b, (W0.heap.size ≤ b ∧ b < W1.heap.size) → b < W4.heap.size := fun b hb => by omega
          have hl2 : ∀ b, (W1.heap.size ≤ b ∧ b < W2.heap.size) → b < W4.heap.size := fun b hb => by omega
          have hw4 : w.heap.size + 2 ≤ W4.heap.size := by omega
          have hq6 : w.heap.size + 1 < w2.heap.size := bk_lt q6
          have hw6 : w.heap.size + 1 ≠ W3.heap.size := by omega
          have hw7 : w.heap.size + 1 ≠ W2.heap.size := by omega
          replace hne := Lib.hid hne
          replace hd6 := Lib.hid hd6
          replace hd7 := Lib.hid hd7
          replace he6 := Lib.hid he6
          replace he7 := Lib.hid he7
          replace hl1 := Lib.hid hl1
          replace hl2 := Lib.hid hl2
          replace hw6 := Lib.hid hw6
          replace hw7 := Lib.hid hw7
          clear hs0 hs1 hs2 hs3 hs4
          have p6 := bk_below q6 HB
          refine wpTree_hard ?_
          refine stepT_of rfl rfl ?_
          obtain ⟨x0, x1⟩ := bx2 g6
          have z0 := bk_free g6 0
          have z1 := bk_free g6 1
          go_wp2_with fail
          have HB5 := bl_set2 (v0 := .string s.fam) (v1 := .slice A1 s.args.length c1) HB hz6
          have r6 := set2_self (v0 := .string s.fam) (v1 := .slice A1 s.args.length c1) g6
          have r7 := (set2_far (v0 := .string s.fam) (v1 := .slice A1 s.args.length c1) (fun h => hne.out h.symm)).trans g7
          have rk := (set2_far (v0 := .string s.fam) (v1 := .slice A1 s.args.length c1) hw6.out).trans p6
          refine treeQ_normal (HS.out _ HB5) ?_
          clear x0 x1 z0 z1
          refine wpTree_hard ?_
          refine stepT_of rfl rfl ?_
          obtain ⟨x0, x1⟩ := bx2 r7
          have z0 := bk_free r7 0
          have z1 := bk_free r7 1
          go_wp2_with fail
          refine treeQ_normal (HS.out _ (bl_set2 HB5 hz7)) ?_
          refine wpTree_done (NoPanic.normal ?_)
          go_wp2_with fail
          go_meet
          exact ⟨_, _, s, r, A1, A2, c1, c2, rfl, rfl, (set2_far hne.out).trans r6, set2_self r7, (set2_far hw7.out).trans rk, hc1, hc2, rd_all ((hR1.set2 hd6.out).set2 hd7.out), rd_all ((hR2.set2 he6.out).set2 he7.out), hss, hrs, bl_set2 (bl_set2 (bl_self B HB) (by omega)) (by omega), by simpa using hw4⟩
      · skip
        refine stepT_of rfl rfl ?_
        go_wp2_with fail
        replace HB := bl_self HB (bl_new W1 (.cells #[.string ⟨#[]⟩, .slice none 0 0] 26))
        have hs2 : W1.heap.size + 1 = (W1.alloc (.cells #[.string ⟨#[]⟩, .slice none 0 0] 26)).heap.size := by simp
        replace hR1 := hR1.below (bl_new _ (.cells #[.string ⟨#[]⟩, .slice none 0 0] 26))
        have g6 := bk_new W1 (.cells #[.string ⟨#[]⟩, .slice none 0 0] 26)
        refine treeQ_normal (HS.out _ HB) ?_
        try simp only [Act.put, List.setIfInBounds_toArray, List.set_cons_zero, List.set_cons_succ]
        generalize W1.alloc (.cells #[.string ⟨#[]⟩, .slice none 0 0] 26) = W2 at *
        refine wpTree_two ?_ ?_
        · skip
          refine stepT_of rfl rfl ?_
          go_wp2_with fail
          refine SpS.use (spoilt_calls m A' c' k0 k1 _ S' hl' (hr'.below (bl_self B HB))) fun W3 r A2 c2 hc2 hR2 hrs hb => ?_
          replace HB := bl_self HB hb
          have hs3 := hb.size
          replace g6 := bk_below g6 hb
          replace hR1 := hR1.below hb
          replace hR2 := hR2.mono (S' := fun b => W2.heap.size ≤ b ∧ b < W3.heap.size) (fun b hb hl => ⟨hb, hl.lt⟩)
          clear hb
          go_wp2_with fail
          refine treeQ_normal (HS.out _ HB) ?_
          try simp only [Act.put, List.setIfInBounds_toArray, List.set_cons_zero, List.set_cons_succ]
          refine wpTree_hard ?_
          refine stepT_of rfl rfl ?_
          go_wp2_with fail
          replace HB := bl_self HB (bl_new W3 (.cells #[.string ⟨#[]⟩, .slice none 0 0] 26))
          have hs4 : W3.heap.size + 1 = (W3.alloc (.cells #[.string ⟨#[]⟩, .slice none 0 0] 26)).heap.size := by simp
          replace g6 := bk_alloc g6 (.cells #[.string ⟨#[]⟩, .slice none 0 0] 26)
          replace hR1 := hR1.below (bl_new _ (.cells #[.string ⟨#[]⟩, .slice none 0 0] 26))
          replace hR2 := hR2.below (bl_new _ (.cells #[.string ⟨#[]⟩, .slice none 0 0] 26))
          have g7 := bk_new W3 (.cells #[.string ⟨#[]⟩, .slice none 0 0] 26)
          refine treeQ_normal (HS.out _ HB) ?_
          try simp only [Act.put, List.setIfInBounds_toArray, List.set_cons_zero, List.set_cons_succ]
          generalize W3.alloc (.cells #[.string ⟨#[]⟩, .slice none 0 0] 26) = W4 at *
          have hne : W1.heap.size ≠ W3.heap.size := by omega
          have hz6 : w2.heap.size ≤ W1.heap.size := by omega
          have hz7 : w2.heap.size ≤ W3.heap.size := by omega
          have hd6 : ∀ b, (W0.heap.size ≤ b ∧ b < W1.heap.size) → b ≠ W1.heap.size := fun b hb => by omega
          have hd7 : ∀ b, (W0.heap.size ≤ b ∧ b < W1.heap.size) → b ≠ W3.heap.size := fun b hb => by omega
          have he6 : ∀ b, (W2.heap.size ≤ b ∧ b < W3.heap.size) → b ≠ W1.heap.size := fun b hb => by omega
          have he7 : ∀ b, (W2.heap.size ≤ b ∧ b < W3.heap.size) → b ≠ W3.heap.size := fun b hb => by omega
          have hl1 : ∀ b, (W0.heap.size ≤ b ∧ b < W1.heap.size) → b < W4.heap.size := fun b hb => by omega
          have hl2 : ∀ b, (W2.heap.size ≤ b ∧ b < W3.heap.size) → b < W4.heap.size := fun b hb => by omega
          have hw4 : w.heap.size + 2 ≤ W4.heap.size := by omega
          have hq6 : w.heap.size + 1 < w2.heap.size := bk_lt q6
          have hw6 : w.heap.size + 1 ≠ W1.heap.size := by omega
          have hw7 : w.heap.size + 1 ≠ W3.heap.size := by omega
          replace hne := Lib.hid hne
          replace hd6 := Lib.hid hd6
          replace hd7 := Lib.hid hd7
          replace he6 := Lib.hid he6
          replace he7 := Lib.hid he7
          replace hl1 := Lib.hid hl1
          replace hl2 := Lib.hid hl2
          replace hw6 := Lib.hid hw6
          replace hw7 := Lib.hid hw7
          clear hs0 hs1 hs2 hs3 hs4
          have p6 := bk_below q6 HB
          refine wpTree_hard ?_
          refine stepT_of rfl rfl ?_
          obtain ⟨x0, x1⟩ := bx2 g6
          have z0 := bk_free g6 0
          have z1 := bk_free g6 1
          go_wp2_with fail
          have HB5 := bl_set2 (v0 := .string s.fam) (v1 := .slice A1 s.args.length c1) HB hz6
          have r6 := set2_self (v0 := .string s.fam) (v1 := .slice A1 s.args.length c1) g6
          have r7 := (set2_far (v0 := .string s.fam) (v1 := .slice A1 s.args.length c1) (fun h => hne.out h.symm)).trans g7
          have rk := (set2_far (v0 := .string s.fam) (v1 := .slice A1 s.args.length c1) hw6.out).trans p6
          refine treeQ_normal (HS.out _ HB5) ?_
          clear x0 x1 z0 z1
          refine wpTree_hard ?_
          refine stepT_of rfl rfl ?_
          obtain ⟨x0, x1⟩ := bx2 r7
          have z0 := bk_free r7 0
          have z1 := bk_free r7 1
          go_wp2_with fail
          refine treeQ_normal (HS.out _ (bl_set2 HB5 hz7)) ?_
          refine wpTree_done (NoPanic.normal ?_)
          go_wp2_with fail
          go_meet
          exact ⟨_, _, s, r, A1, A2, c1, c2, rfl, rfl, (set2_far hne.out).trans r6, set2_self r7, (set2_far hw7.out).trans rk, hc1, hc2, rd_all ((hR1.set2 hd6.out).set2 hd7.out), rd_all ((hR2.set2 he6.out).set2 he7.out), hss, hrs, bl_set2 (bl_set2 (bl_self B HB) (by omega)) (by omega), by simpa using hw4⟩
        · skip
          refine stepT_of rfl rfl ?_
          go_wp2_with fail
          replace HB := bl_self HB (bl_new W2 (.cells #[.string ⟨#[]⟩, .slice none 0 0] 26))
          have hs3 : W2.heap.size + 1 = (W2.alloc (.cells #[.string ⟨#[]⟩, .slice none 0 0] 26)).heap.size := by simp
          replace g6 := bk_alloc g6 (.cells #[.string ⟨#[]⟩, .slice none 0 0] 26)
          replace hR1 := hR1.below (bl_new _ (.cells #[.string ⟨#[]⟩, .slice none 0 0] 26))
          have g7 := bk_new W2 (.cells #[.string ⟨#[]⟩, .slice none 0 0] 26)
          refine treeQ_normal (HS.out _ HB) ?_
          try simp only [Act.put, List.setIfInBounds_toArray, List.set_cons_zero, List.set_cons_succ]
          generalize W2.alloc (.cells #[.string ⟨#[]⟩, .slice none 0 0] 26) = W3 at *
          refine wpTree_hard ?_
          refine stepT_of rfl rfl ?_
          go_wp2_with fail
          refine SpS.use (spoilt_calls m A' c' k0 k1 _ S' hl' (hr'.below (bl_self B HB))) fun W4 r A2 c2 hc2 hR2 hrs hb => ?_
          replace HB := bl_self HB hb
          have hs4 := hb.size
          replace g6 := bk_below g6 hb
          replace g7 := bk_below g7 hb
          replace hR1 := hR1.below hb
          replace hR2 := hR2.mono (S' := fun b => W3.heap.size ≤ b ∧ b < W4.heap.size) (fun b hb hl => ⟨hb, hl.lt⟩)
          clear hb
          go_wp2_with fail
          refine treeQ_normal (HS.out _ HB) ?_
          try simp only [Act.put, List.setIfInBounds_toArray, List.set_cons_zero, List.set_cons_succ]
          have hne : W1.heap.size ≠ W2.heap.size := by omega
          have hz6 : w2.heap.size ≤ W1.heap.size := by omega
          have hz7 : w2.heap.size ≤ W2.heap.size := by omega
          have hd6 : ∀ b, (W0.heap.size ≤ b ∧ b < W1.heap.size) → b ≠ W1.heap.size := fun b hb => by omega
          have hd7 : ∀ b, (W0.heap.size ≤ b ∧ b < W1.heap.size) → b ≠ W2.heap.size := fun b hb => by omega
          have he6 : ∀ b, (W3.heap.size ≤ b ∧ b < W4.heap.size) → b ≠ W1.heap.size := fun b hb => by omega
          have he7 : ∀ b, (W3.heap.size ≤ b ∧ b < W4.heap.size) → b ≠ W2.heap.size := fun b hb => by omega
          have hl1 : ∀ b, (W0.heap.size ≤ b ∧ b < W1.heap.size) → b < W4.heap.size := fun b hb => by omega
          have hl2 : ∀ b, (W3.heap.size ≤ b ∧ b < W4.heap.size) → b < W4.heap.size := fun b hb => by omega
          have hw4 : w.heap.size + 2 ≤ W4.heap.size := by omega
          have hq6 : w.heap.size + 1 < w2.heap.size := bk_lt q6
          have hw6 : w.heap.size + 1 ≠ W1.heap.size := by omega
          have hw7 : w.heap.size + 1 ≠ W2.heap.size := by omega
          replace hne := Lib.hid hne
          replace hd6 := Lib.hid hd6
          replace hd7 := Lib.hid hd7
          replace he6 := Lib.hid he6
          replace he7 := Lib.hid he7
          replace hl1 := Lib.hid hl1
          replace hl2 := Lib.hid hl2
          replace hw6 := Lib.hid hw6
          replace hw7 := Lib.hid hw7
          clear hs0 hs1 hs2 hs3 hs4
          have p6 := bk_below q6 HB
          refine wpTree_hard ?_
          refine stepT_of rfl rfl ?_
          obtain ⟨x0, x1⟩ := bx2 g6
          have z0 := bk_free g6 0
          have z1 := bk_free g6 1
          go_wp2_with fail
          have HB5 := bl_set2 (v0 := .string s.fam) (v1 := .slice A1 s.args.length c1) HB hz6
          have r6 := set2_self (v0 := .string s.fam) (v1 := .slice A1 s.args.length c1) g6
          have r7 := (set2_far (v0 := .string s.fam) (v1 := .slice A1 s.args.length c1) (fun h => hne.out h.symm)).trans g7
          have rk := (set2_far (v0 := .string s.fam) (v1 := .slice A1 s.args.length c1) hw6.out).trans p6
          refine treeQ_normal (HS.out _ HB5) ?_
          clear x0 x1 z0 z1
          refine wpTree_hard ?_
          refine stepT_of rfl rfl ?_
          obtain ⟨x0, x1⟩ := bx2 r7
          have z0 := bk_free r7 0
          have z1 := bk_free r7 1
          go_wp2_with fail
          refine treeQ_normal (HS.out _ (bl_set2 HB5 hz7)) ?_
          refine wpTree_done (NoPanic.normal ?_)
          go_wp2_with fail
          go_meet
          exact ⟨_, _, s, r, A1, A2, c1, c2, rfl, rfl, (set2_far hne.out).trans r6, set2_self r7, (set2_far hw7.out).trans rk, hc1, hc2, rd_all ((hR1.set2 hd6.out).set2 hd7.out), rd_all ((hR2.set2 he6.out).set2 he7.out), hss, hrs, bl_set2 (bl_set2 (bl_self B HB) (by omega)) (by omega), by simpa using hw4⟩
      · skip
        refine stepT_of rfl rfl ?_
        go_wp2_with fail
        replace HB := bl_self HB (bl_new W1 (.cells #[.string ⟨#[]⟩, .slice none 0 0] 26))
        have hs2 : W1.heap.size + 1 = (W1.alloc (.cells #[.string ⟨#[]⟩, .slice none 0 0] 26)).heap.size := by simp
        replace hR1 := hR1.below (bl_new _ (.cells #[.string ⟨#[]⟩, .slice none 0 0] 26))
        have g7 := bk_new W1 (.cells #[.string ⟨#[]⟩, .slice none 0 0] 26)
        refine treeQ_normal (HS.out _ HB) ?_
        try simp only [Act.put, List.setIfInBounds_toArray, List.set_cons_zero, List.set_cons_succ]
        generalize W1.alloc (.cells #[.string ⟨#[]⟩, .slice none 0 0] 26) = W2 at *
        refine wpTree_two ?_ ?_
        · skip
          refine stepT_of rfl rfl ?_
          go_wp2_with fail
          refine SpS.use (spoilt_calls m A' c' k0 k1 _ S' hl' (hr'.below (bl_self B HB))) fun W3 r A2 c2 hc2 hR2 hrs hb => ?_
          replace HB := bl_self HB hb
          have hs3 := hb.size
          replace g7 := bk_below g7 hb
          replace hR1 := hR1.below hb
          replace hR2 := hR2.mono (S' := fun b => W2.heap.size ≤ b ∧ b < W3.heap.size) (fun b hb hl => ⟨hb, hl.lt⟩)
          clear hb
          go_wp2_with fail
          refine treeQ_normal (HS.out _ HB) ?_
          try simp only [Act.put, List.setIfInBounds_toArray, List.set_cons_zero, List.set_cons_succ]
          refine wpTree_hard ?_
          refine stepT_of rfl rfl ?_
          go_wp2_with fail
          replace HB := bl_self HB (bl_new W3 (.cells #[.string ⟨#[]⟩, .slice none 0 0] 26))
          have hs4 : W3.heap.size + 1 = (W3.alloc (.cells #[.string ⟨#[]⟩, .slice none 0 0] 26)).heap.size := by simp
          replace g7 := bk_alloc g7 (.cells #[.string ⟨#[]⟩, .slice none 0 0] 26)
          replace hR1 := hR1.below (bl_new _ (.cells #[.string ⟨#[]⟩, .slice none 0 0] 26))
          replace hR2 := hR2.below (bl_new _ (.cells #[.string ⟨#[]⟩, .slice none 0 0] 26))
          have g6 := bk_new W3 (.cells #[.string ⟨#[]⟩, .slice none 0 0] 26)
          refine treeQ_normal (HS.out _ HB) ?_
          try simp only [Act.put, List.setIfInBounds_toArray, List.set_cons_zero, List.set_cons_succ]
          generalize W3.alloc (.cells #[.string ⟨#[]⟩, .slice none 0 0] 26) = W4 at *
          have hne : W3.heap.size ≠ W1.heap.size := by omega
          have hz6 : w2.heap.size ≤ W3.heap.size := by omega
          have hz7 : w2.heap.size ≤ W1.heap.size := by omega
          have hd6 : ∀ b, (W0.heap.size ≤ b ∧ b < W1.heap.size) → b ≠ W3.heap.size := fun b hb => by omega
          have hd7 : ∀ b, (W0.heap.size ≤ b ∧ b < W1.heap.size) → b ≠ W1.heap.size := fun b hb => by omega
          have he6 : ∀ b, (W2.heap.size ≤ b ∧ b < W3.heap.size) → b ≠ W3.heap.size := fun b hb => by omega
          have he7 : ∀ b, (W2.heap.size ≤ b ∧ b < W3.heap.size) → b ≠ W1.heap.size := fun b hb => by omega
          have hl1 : ∀ b, (W0.heap.size ≤ b ∧ b < W1.heap.size) → b < W4.heap.size := fun b hb => by omega
          have hl2 : ∀ b, (W2.heap.size ≤ b ∧ b < W3.heap.size) → b < W4.heap.size := fun b hb => by omega
          have hw4 : w.heap.size + 2 ≤ W4.heap.size := by omega
          have hq6 : w.heap.size + 1 < w2.heap.size := bk_lt q6
          have hw6 : w.heap.size + 1 ≠ W3.heap.size := by omega
          have hw7 : w.heap.size + 1 ≠ W1.heap.size := by omega
          replace hne := Lib.hid hne
          replace hd6 := Lib.hid hd6
          replace hd7 := Lib.hid hd7
          replace he6 := Lib.hid he6
          replace he7 := Lib.hid he7
          replace hl1 := Lib.hid hl1
          replace hl2 := Lib.hid hl2
          replace hw6 := Lib.hid hw6
          replace hw7 := Lib.hid hw7
          clear hs0 hs1 hs2 hs3 hs4
          have p6 := bk_below q6 HB
          refine wpTree_hard ?_
          refine stepT_of rfl rfl ?_
          obtain ⟨x0, x1⟩ := bx2 g6
          have z0 := bk_free g6 0
          have z1 := bk_free g6 1
          go_wp2_with fail
          have HB5 := bl_set2 (v0 := .string s.fam) (v1 := .slice A1 s.args.length c1) HB hz6
          have r6 := set2_self (v0 := .string s.fam) (v1 := .slice A1 s.args.length c1) g6
          have r7 := (set2_far (v0 := .string s.fam) (v1 := .slice A1 s.args.length c1) (fun h => hne.out h.symm)).trans g7
          have rk := (set2_far (v0 := .string s.fam) (v1 := .slice A1 s.args.length c1) hw6.out).trans p6
          refine treeQ_normal (HS.out _ HB5) ?_
          clear x0 x1 z0 z1
          refine wpTree_hard ?_
          refine stepT_of rfl rfl ?_
          obtain ⟨x0, x1⟩ := bx2 r7
          have z0 := bk_free r7 0
          have z1 := bk_free r7 1
          go_wp2_with fail
          refine treeQ_normal (HS.out _ (bl_set2 HB5 hz7)) ?_
          refine wpTree_done (NoPanic.normal ?_)
          go_wp2_with fail
          go_meet
          exact ⟨_, _, s, r, A1, A2, c1, c2, rfl, rfl, (set2_far hne.out).trans r6, set2_self r7, (set2_far hw7.out).trans rk, hc1, hc2, rd_all ((hR1.set2 hd6.out).set2 hd7.out), rd_all ((hR2.set2 he6.out).set2 he7.out), hss, hrs, bl_set2 (bl_set2 (bl_self B HB) (by omega)) (by omega), by simpa using hw4⟩
        · skip
          refine stepT_of rfl rfl ?_
          go_wp2_with fail
          replace HB := bl_self HB (bl_new W2 (.cells #[.string ⟨#[]⟩, .slice none 0 0] 26))
          have hs3 : W2.heap.size + 1 = (W2.alloc (.cells #[.string ⟨#[]⟩, .slice none 0 0] 26)).heap.size := by simp
          replace g7 := bk_alloc g7 (.cells #[.string ⟨#[]⟩, .slice none 0 0] 26)
          replace hR1 := hR1.below (bl_new _ (.cells #[.string ⟨#[]⟩, .slice none 0 0] 26))
          have g6 := bk_new W2 (.cells #[.string ⟨#[]⟩, .slice none 0 0] 26)
          refine treeQ_normal (HS.out _ HB) ?_
          try simp only [Act.put, List.setIfInBounds_toArray, List.set_cons_zero, List.set_cons_succ]
          generalize W2.alloc (.cells #[.string ⟨#[]⟩, .slice none 0 0] 26) = W3 at *
          refine wpTree_hard ?_
          refine stepT_of rfl rfl ?_
          go_wp2_with fail
          refine SpS.use (spoilt_calls m A' c' k0 k1 _ S' hl' (hr'.below (bl_self B HB))) fun W4 r A2 c2 hc2 hR2 hrs hb => ?_
          replace HB := bl_self HB hb
          have hs4 := hb.size
          replace g6 := bk_below g6 hb
          replace g7 := bk_below g7 hb
          replace hR1 := hR1.below hb
          replace hR2 := hR2.mono (S' := fun b => W3.heap.size ≤ b ∧ b < W4.heap.size) (fun b hb hl => ⟨hb, hl.lt⟩)
          clear hb
          go_wp2_with fail
          refine treeQ_normal (HS.out _ HB) ?_
          try simp only [Act.put, List.setIfInBounds_toArray, List.set_cons_zero, List.set_cons_succ]
          have hne : W2.heap.size ≠ W1.heap.size := by omega
          have hz6 : w2.heap.size ≤ W2.heap.size := by omega
          have hz7 : w2.heap.size ≤ W1.heap.size := by omega
          have hd6 : ∀ b, (W0.heap.size ≤ b ∧ b < W1.heap.size) → b ≠ W2.heap.size := fun b hb => by omega
          have hd7 : ∀ b, (W0.heap.size ≤ b ∧ b < W1.heap.size) → b ≠ W1.heap.size := fun b hb => by omega
          have he6 : ∀ b, (W3.heap.size ≤ b ∧ b < W4.heap.size) → b ≠ W2.heap.size := fun b hb => by omega
          have he7 : ∀ b, (W3.heap.size ≤ b ∧ b < W4.heap.size) → b ≠ W1.heap.size := fun b hb => by omega
          have hl1 : ∀ b, (W0.heap.size ≤ b ∧ b < W1.heap.size) → b < W4.heap.size := fun b hb => by omega
          have hl2 : ∀ b, (W3.heap.size ≤ b ∧ b < W4.heap.size) → b < W4.heap.size := fun b hb => by omega
          have hw4 : w.heap.size + 2 ≤ W4.heap.size := by omega
          have hq6 : w.heap.size + 1 < w2.heap.size := bk_lt q6
          have hw6 : w.heap.size + 1 ≠ W2.heap.size := by omega
          have hw7 : w.heap.size + 1 ≠ W1.heap.size := by omega
          replace hne := Lib.hid hne
          replace hd6 := Lib.hid hd6
          replace hd7 := Lib.hid hd7
          replace he6 := Lib.hid he6
          replace he7 := Lib.hid he7
          replace hl1 := Lib.hid hl1
          replace hl2 := Lib.hid hl2
          replace hw6 := Lib.hid hw6
          replace hw7 := Lib.hid hw7
          clear hs0 hs1 hs2 hs3 hs4
          have p6 := bk_below q6 HB
          refine wpTree_hard ?_
          refine stepT_of rfl rfl ?_
          obtain ⟨x0, x1⟩ := bx2 g6
          have z0 := bk_free g6 0
          have z1 := bk_free g6 1
          go_wp2_with fail
          have HB5 := bl_set2 (v0 := .string s.fam) (v1 := .slice A1 s.args.length c1) HB hz6
          have r6 := set2_self (v0 := .string s.fam) (v1 := .slice A1 s.args.length c1) g6
          have r7 := (set2_far (v0 := .string s.fam) (v1 := .slice A1 s.args.length c1) (fun h => hne.out h.symm)).trans g7
          have rk := (set2_far (v0 := .string s.fam) (v1 := .slice A1 s.args.length c1) hw6.out).trans p6
          refine treeQ_normal (HS.out _ HB5) ?_
          clear x0 x1 z0 z1
          refine wpTree_hard ?_
          refine stepT_of rfl rfl ?_
          obtain ⟨x0, x1⟩ := bx2 r7
          have z0 := bk_free r7 0
          have z1 := bk_free r7 1
          go_wp2_with fail
          refine treeQ_normal (HS.out _ (bl_set2 HB5 hz7)) ?_
          refine wpTree_done (NoPanic.normal ?_)
          go_wp2_with fail
          go_meet
          exact ⟨_, _, s, r, A1, A2, c1, c2, rfl, rfl, (set2_far hne.out).trans r6, set2_self r7, (set2_far hw7.out).trans rk, hc1, hc2, rd_all ((hR1.set2 hd6.out).set2 hd7.out), rd_all ((hR2.set2 he6.out).set2 he7.out), hss, hrs, bl_set2 (bl_set2 (bl_self B HB) (by omega)) (by omega), by simpa using hw4⟩
    · skip
      refine stepT_of rfl rfl ?_
      go_wp2_with fail
      replace HB := bl_self HB (bl_new W0 (.cells #[.string ⟨#[]⟩, .slice none 0 0] 26))
      have hs1 : W0.heap.size + 1 = (W0.alloc (.cells #[.string ⟨#[]⟩, .slice none 0 0] 26)).heap.size := by simp
      have g6 := bk_new W0 (.cells #[.string ⟨#[]⟩, .slice none 0 0] 26)
      refine treeQ_normal (HS.out _ HB) ?_
      try simp only [Act.put, List.setIfInBounds_toArray, List.set_cons_zero, List.set_cons_succ]
      generalize W0.alloc (.cells #[.string ⟨#[]⟩, .slice none 0 0] 26) = W1 at *
      refine wpTree_two ?_ ?_
      · skip
        refine stepT_of rfl rfl ?_
        go_wp2_with fail
        refine SpS.use (spoilt_calls l A c n0 n1 _ S hl (hr.below (bl_self B HB))) fun W2 s A1 c1 hc1 hR1 hss hb => ?_
        replace HB := bl_self HB hb
        have hs2 := hb.size
        replace g6 := bk_below g6 hb
        replace hR1 := hR1.mono (S' := fun b => W1.heap.size ≤ b ∧ b < W2.heap.size) (fun b hb hl => ⟨hb, hl.lt⟩)
        clear hb
        go_wp2_with fail
        refine treeQ_normal (HS.out _ HB) ?_
        try simp only [Act.put, List.setIfInBounds_toArray, List.set_cons_zero, List.set_cons_succ]
        refine wpTree_two ?_ ?_
        · skip
          refine stepT_of rfl rfl ?_
          go_wp2_with fail
          refine SpS.use (spoilt_calls m A' c' k0 k1 _ S' hl' (hr'.below (bl_self B HB))) fun W3 r A2 c2 hc2 hR2 hrs hb => ?_
          replace HB := bl_self HB hb
          have hs3 := hb.size
          replace g6 := bk_below g6 hb
          replace hR1 := hR1.below hb
          replace hR2 := hR2.mono (S' := fun b => W2.heap.size ≤ b ∧ b < W3.heap.size) (fun b hb hl => ⟨hb, hl.lt⟩)
          clear hb
          go_wp2_with fail
          refine treeQ_normal (HS.out _ HB) ?_
          try simp only [Act.put, List.setIfInBounds_toArray, List.set_cons_zero, List.set_cons_succ]
          refine wpTree_hard ?_
          refine stepT_of rfl rfl ?_
          go_wp2_with fail
          replace HB := bl_self HB (bl_new W3 (.cells #[.string ⟨#[]⟩, .slice none 0 0] 26))
          have hs4 : W3.heap.size + 1 = (W3.alloc (.cells #[.string ⟨#[]⟩, .slice none 0 0] 26)).heap.size := by simp
          replace g6 := bk_alloc g6 (.cells #[.string ⟨#[]⟩, .slice none 0 0] 26)
          replace hR1 := hR1.below (bl_new _ (.cells #[.string ⟨#[]⟩, .slice none 0 0] 26))
          replace hR2 := hR2.below (bl_new _ (.cells #[.string ⟨#[]⟩, .slice none 0 0] 26))
          have g7 := bk_new W3 (.cells #[.string ⟨#[]⟩, .slice none 0 0] 26)
          refine treeQ_normal (HS.out _ HB) ?_
          try simp only [Act.put, List.setIfInBounds_toArray, List.set_cons_zero, List.set_cons_succ]
          generalize W3.alloc (.cells #[.string ⟨#[]⟩, .slice none 0 0] 26) = W4 at *
          have hne : W0.heap.size ≠ W3.heap.size := by omega
          have hz6 : w2.heap.size ≤ W0.heap.size := by omega
          have hz7 : w2.heap.size ≤ W3.heap.size := by omega
          have hd6 : ∀ b, (W1.heap.size ≤ b ∧ b < W2.heap.size) → b ≠ W0.heap.size := fun b hb => by omega
          have hd7 : ∀ b, (W1.heap.size ≤ b ∧ b < W2.heap.size) → b ≠ W3.heap.size := fun b hb => by omega
          have he6 : ∀ b, (W2.heap.size ≤ b ∧ b < W3.heap.size) → b ≠ W0.heap.size := fun b hb => by omega
          have he7 : ∀ b, (W2.heap.size ≤ b ∧ b < W3.heap.size) → b ≠ W3.heap.size := fun b hb => by omega
          have hl1 : ∀ b, (W1.heap.size ≤ b ∧ b < W2.heap.size) → b < W4.heap.size := fun b hb => by omega
          have hl2 : ∀ b, (W2.heap.size ≤ b ∧ b < W3.heap.size) → b < W4.heap.size := fun b hb => by omega
          have hw4 : w.heap.size + 2 ≤ W4.heap.size := by omega
          have hq6 : w.heap.size + 1 < w2.heap.size := bk_lt q6
          have hw6 : w.heap.size + 1 ≠ W0.heap.size := by omega
          have hw7 : w.heap.size + 1 ≠ W3.heap.size := by omega
          replace hne := Lib.hid hne
          replace hd6 := Lib.hid hd6
          replace hd7 := Lib.hid hd7
          replace he6 := Lib.hid he6
          replace he7 := Lib.hid he7
          replace hl1 := Lib.hid hl1
          replace hl2 := Lib.hid hl2
          replace hw6 := Lib.hid hw6
          replace hw7 := Lib.hid hw7
          clear hs0 hs1 hs2 hs3 hs4
          have p6 := bk_below q6 HB
          refine wpTree_hard ?_
          refine stepT_of rfl rfl ?_
          obtain ⟨x0, x1⟩ := bx2 g6
          have z0 := bk_free g6 0
          have z1 := bk_free g6 1
          go_wp2_with fail
          have HB5 := bl_set2 (v0 := .string s.fam) (v1 := .slice A1 s.args.length c1) HB hz6
          have r6 := set2_self (v0 := .string s.fam) (v1 := .slice A1 s.args.length c1) g6
          have r7 := (set2_far (v0 := .string s.fam) (v1 := .slice A1 s.args.length c1) (fun h => hne.out h.symm)).trans g7
          have rk := (set2_far (v0 := .string s.fam) (v1 := .slice A1 s.args.length c1) hw6.out).trans p6
          refine treeQ_normal (HS.out _ HB5) ?_
          clear x0 x1 z0 z1
          refine wpTree_hard ?_
          refine stepT_of rfl rfl ?_
          obtain ⟨x0, x1⟩ := bx2 r7
          have z0 := bk_free r7 0
          have z1 := bk_free r7 1
          go_wp2_with fail
          refine treeQ_normal (HS.out _ (bl_set2 HB5 hz7)) ?_
          refine wpTree_done (NoPanic.normal ?_)
          go_wp2_with fail
          go_meet
          exact ⟨_, _, s, r, A1, A2, c1, c2, rfl, rfl, (set2_far hne.out).trans r6, set2_self r7, (set2_far hw7.out).trans rk, hc1, hc2, rd_all ((hR1.set2 hd6.out).set2 hd7.out), rd_all ((hR2.set2 he6.out).set2 he7.out), hss, hrs, bl_set2 (bl_set2 (bl_self B HB) (by omega)) (by omega), by simpa using hw4⟩
        · skip
          refine stepT_of rfl rfl ?_
          go_wp2_with fail
          replace HB := bl_self HB (bl_new W2 (.cells #[.string ⟨#[]⟩, .slice none 0 0] 26))
          have hs3 : W2.heap.size + 1 = (W2.alloc (.cells #[.string ⟨#[]⟩, .slice none 0 0] 26)).heap.size := by simp
          replace g6 := bk_alloc g6 (.cells #[.string ⟨#[]⟩, .slice none 0 0] 26)
          replace hR1 := hR1.below (bl_new _ (.cells #[.string ⟨#[]⟩, .slice none 0 0] 26))
          have g7 := bk_new W2 (.cells #[.string ⟨#[]⟩, .slice none 0 0] 26)
          refine treeQ_normal (HS.out _ HB) ?_
          try simp only [Act.put, List.setIfInBounds_toArray, List.set_cons_zero, List.set_cons_succ]
          generalize W2.alloc (.cells #[.string ⟨#[]⟩, .slice none 0 0] 26) = W3 at *
          refine wpTree_hard ?_
          refine stepT_of rfl rfl ?_
          go_wp2_with fail
          refine SpS.use (spoilt_calls m A' c' k0 k1 _ S' hl' (hr'.below (bl_self B HB))) fun W4 r A2 c2 hc2 hR2 hrs hb => ?_
          replace HB := bl_self HB hb
          have hs4 := hb.size
          replace g6 := bk_below g6 hb
          replace g7 := bk_below g7 hb
          replace hR1 := hR1.below hb
          replace hR2 := hR2.mono (S' := fun b => W3.heap.size ≤ b ∧ b < W4.heap.size) (fun b hb hl => ⟨hb, hl.lt⟩)
          clear hb
          go_wp2_with fail
          refine treeQ_normal (HS.out _ HB) ?_
          try simp only [Act.put, List.setIfInBounds_toArray, List.set_cons_zero, List.set_cons_succ]
          have hne : W0.heap.size ≠ W2.heap.size := by omega
          have hz6 : w2.heap.size ≤ W0.heap.size := by omega
          have hz7 : w2.heap.size ≤ W2.heap.size := by omega
          have hd6 : ∀ b, (W1.heap.size ≤ b ∧ b < W2.heap.size) → b ≠ W0.heap.size := fun b hb => by omega
          have hd7 : ∀ b, (W1.heap.size ≤ b ∧ b < W2.heap.size) → b ≠ W2.heap.size := fun b hb => by omega
          have he6 : ∀ b, (W3.heap.size ≤ b ∧ b < W4.heap.size) → b ≠ W0.heap.size := fun b hb => by omega
          have he7 : ∀ b, (W3.heap.size ≤ b ∧ b < W4.heap.size) → b ≠ W2.heap.size := fun b hb => by omega
          have hl1 : ∀ b, (W1.heap.size ≤ b ∧ b < W2.heap.size) → b < W4.heap.size := fun b hb => by omega
          have hl2 : ∀ b, (W3.heap.size ≤ b ∧ b < W4.heap.size) → b < W4.heap.size := fun b hb => by omega
          have hw4 : w.heap.size + 2 ≤ W4.heap.size := by omega
          have hq6 : w.heap.size + 1 < w2.heap.size := bk_lt q6
          have hw6 : w.heap.size + 1 ≠ W0.heap.size := by omega
          have hw7 : w.heap.size + 1 ≠ W2.heap.size := by omega
          replace hne := Lib.hid hne
          replace hd6 := Lib.hid hd6
          replace hd7 := Lib.hid hd7
          replace he6 := Lib.hid he6
          replace he7 := Lib.hid he7
          replace hl1 := Lib.hid hl1
          replace hl2 := Lib.hid hl2
          replace hw6 := Lib.hid hw6
          replace hw7 := Lib.hid hw7
          clear hs0 hs1 hs2 hs3 hs4
          have p6 := bk_below q6 HB
          refine wpTree_hard ?_
          refine stepT_of rfl rfl ?_
          obtain ⟨x0, x1⟩ := bx2 g6
          have z0 := bk_free g6 0
          have z1 := bk_free g6 1
          go_wp2_with fail
          have HB5 := bl_set2 (v0 := .string s.fam) (v1 := .slice A1 s.args.length c1) HB hz6
          have r6 := set2_self (v0 := .string s.fam) (v1 := .slice A1 s.args.length c1) g6
          have r7 := (set2_far (v0 := .string s.fam) (v1 := .slice A1 s.args.length c1) (fun h => hne.out h.symm)).trans g7
          have rk := (set2_far (v0 := .string s.fam) (v1 := .slice A1 s.args.length c1) hw6.out).trans p6
          refine treeQ_normal (HS.out _ HB5) ?_
          clear x0 x1 z0 z1
          refine wpTree_hard ?_
          refine stepT_of rfl rfl ?_
          obtain ⟨x0, x1⟩ := bx2 r7
          have z0 := bk_free r7 0
          have z1 := bk_free r7 1
          go_wp2_with fail
          refine treeQ_normal (HS.out _ (bl_set2 HB5 hz7)) ?_
          refine wpTree_done (NoPanic.normal ?_)
          go_wp2_with fail
          go_meet
          exact ⟨_, _, s, r, A1, A2, c1, c2, rfl, rfl, (set2_far hne.out).trans r6, set2_self r7, (set2_far hw7.out).trans rk, hc1, hc2, rd_all ((hR1.set2 hd6.out).set2 hd7.out), rd_all ((hR2.set2 he6.out).set2 he7.out), hss, hrs, bl_set2 (bl_set2 (bl_self B HB) (by omega)) (by omega), by simpa using hw4⟩
      · skip
        refine stepT_of rfl rfl ?_
        go_wp2_with fail
        replace HB := bl_self HB (bl_new W1 (.cells #[.string ⟨#[]⟩, .slice none 0 0] 26))
        have hs2 : W1.heap.size + 1 = (W1.alloc (.cells #[.string ⟨#[]⟩, .slice none 0 0] 26)).heap.size := by simp
        replace g6 := bk_alloc g6 (.cells #[.string ⟨#[]⟩, .slice none 0 0] 26)
        have g7 := bk_new W1 (.cells #[.string ⟨#[]⟩, .slice none 0 0] 26)
        refine treeQ_normal (HS.out _ HB) ?_
        try simp only [Act.put, List.setIfInBounds_toArray, List.set_cons_zero, List.set_cons_succ]
        generalize W1.alloc (.cells #[.string ⟨#[]⟩, .slice none 0 0] 26) = W2 at *
        refine wpTree_hard ?_
        refine stepT_of rfl rfl ?_
        go_wp2_with fail
        refine SpS.use (spoilt_calls l A c n0 n1 _ S hl (hr.below (bl_self B HB))) fun W3 s A1 c1 hc1 hR1 hss hb => ?_
        replace HB := bl_self HB hb
        have hs3 := hb.size
        replace g6 := bk_below g6 hb
        replace g7 := bk_below g7 hb
        replace hR1 := hR1.mono (S' := fun b => W2.heap.size ≤ b ∧ b < W3.heap.size) (fun b hb hl => ⟨hb, hl.lt⟩)
        clear hb
        go_wp2_with fail
        refine treeQ_normal (HS.out _ HB) ?_
        try simp only [Act.put, List.setIfInBounds_toArray, List.set_cons_zero, List.set_cons_succ]
        refine wpTree_hard ?_
        refine stepT_of rfl rfl ?_
        go_wp2_with fail
        refine SpS.use (spoilt_calls m A' c' k0 k1 _ S' hl' (hr'.below (bl_self B HB))) fun W4 r A2 c2 hc2 hR2 hrs hb => ?_
        replace HB := bl_self HB hb
        have hs4 := hb.size
        replace g6 := bk_below g6 hb
        replace g7 := bk_below g7 hb
        replace hR1 := hR1.below hb
        replace hR2 := hR2.mono (S' := fun b => W3.heap.size ≤ b ∧ b < W4.heap.size) (fun b hb hl => ⟨hb, hl.lt⟩)
        clear hb
        go_wp2_with fail
        refine treeQ_normal (HS.out _ HB) ?_
        try simp only [Act.put, List.setIfInBounds_toArray, List.set_cons_zero, List.set_cons_succ]
        have hne : W0.heap.size ≠ W1.heap.size := by omega
        have hz6 : w2.heap.size ≤ W0.heap.size := by omega
        have hz7 : w2.heap.size ≤ W1.heap.size := by omega
        have hd6 : ∀ b, (W2.heap.size ≤ b ∧ b < W3.heap.size) → b ≠ W0.heap.size := fun b hb => by omega
        have hd7 : ∀ b, (W2.heap.size ≤ b ∧ b < W3.heap.size) → b ≠ W1.heap.size := fun b hb => by omega
        have he6 : ∀ b, (W3.heap.size ≤ b ∧ b < W4.heap.size) → b ≠ W0.heap.size := fun b hb => by omega
        have he7 : ∀ b, (W3.heap.size ≤ b ∧ b < W4.heap.size) → b ≠ W1.heap.size := fun b hb => by omega
        have hl1 : ∀ b, (W2.heap.size ≤ b ∧ b < W3.heap.size) → b < W4.heap.size := fun b hb => by omega
        have hl2 : ∀ b, (W3.heap.size ≤ b ∧ b < W4.heap.size) → b < W4.heap.size := fun b hb => by omega
        have hw4 : w.heap.size + 2 ≤ W4.heap.size := by omega
        have hq6 : w.heap.size + 1 < w2.heap.size := bk_lt q6
        have hw6 : w.heap.size + 1 ≠ W0.heap.size := by omega
        have hw7 : w.heap.size + 1 ≠ W1.heap.size := by omega
        replace hne := Lib.hid hne
        replace hd6 := Lib.hid hd6
        replace hd7 := Lib.hid hd7
        replace he6 := Lib.hid he6
        replace he7 := Lib.hid he7
        replace hl1 := Lib.hid hl1
        replace hl2 := Lib.hid hl2
        replace hw6 := Lib.hid hw6
        replace hw7 := Lib.hid hw7
        clear hs0 hs1 hs2 hs3 hs4
        have p6 := bk_below q6 HB
        refine wpTree_hard ?_
        refine stepT_of rfl rfl ?_
        obtain ⟨x0, x1⟩ := bx2 g6
        have z0 := bk_free g6 0
        have z1 := bk_free g6 1
        go_wp2_with fail
        have HB5 := bl_set2 (v0 := .string s.fam) (v1 := .slice A1 s.args.length c1) HB hz6
        have r6 := set2_self (v0 := .string s.fam) (v1 := .slice A1 s.args.length c1) g6
        have r7 := (set2_far (v0 := .string s.fam) (v1 := .slice A1 s.args.length c1) (fun h => hne.out h.symm)).trans g7
        have rk := (set2_far (v0 := .string s.fam) (v1 := .slice A1 s.args.length c1) hw6.out).trans p6
        refine treeQ_normal (HS.out _ HB5) ?_
        clear x0 x1 z0 z1
        refine wpTree_hard ?_
        refine stepT_of rfl rfl ?_
        obtain ⟨x0, x1⟩ := bx2 r7
        have z0 := bk_free r7 0
        have z1 := bk_free r7 1
        go_wp2_with fail
        refine treeQ_normal (HS.out _ (bl_set2 HB5 hz7)) ?_
        refine wpTree_done (NoPanic.normal ?_)
        go_wp2_with fail
        go_meet
        exact ⟨_, _, s, r, A1, A2, c1, c2, rfl, rfl, (set2_far hne.out).trans r6, set2_self r7, (set2_far hw7.out).trans rk, hc1, hc2, rd_all ((hR1.set2 hd6.out).set2 hd7.out), rd_all ((hR2.set2 he6.out).set2 he7.out), hss, hrs, bl_set2 (bl_set2 (bl_self B HB) (by omega)) (by omega), by simpa using hw4⟩
    · skip
      refine stepT_of rfl rfl ?_
      go_wp2_with fail
      replace HB := bl_self HB (bl_new W0 (.cells #[.string ⟨#[]⟩, .slice none 0 0] 26))
      have hs1 : W0.heap.size + 1 = (W0.alloc (.cells #[.string ⟨#[]⟩, .slice none 0 0] 26)).heap.size := by simp
      have g7 := bk_new W0 (.cells #[.string ⟨#[]⟩, .slice none 0 0] 26)
      refine treeQ_normal (HS.out _ HB) ?_
      try simp only [Act.put, List.setIfInBounds_toArray, List.set_cons_zero, List.set_cons_succ]
      generalize W0.alloc (.cells #[.string ⟨#[]⟩, .slice none 0 0] 26) = W1 at *
      refine wpTree_two ?_ ?_
      · skip
        refine stepT_of rfl rfl ?_
        go_wp2_with fail
        refine SpS.use (spoilt_calls l A c n0 n1 _ S hl (hr.below (bl_self B HB))) fun W2 s A1 c1 hc1 hR1 hss hb => ?_
        replace HB := bl_self HB hb
        have hs2 := hb.size
        replace g7 := bk_below g7 hb
        replace hR1 := hR1.mono (S' := fun b => W1.heap.size ≤ b ∧ b < W2.heap.size) (fun b hb hl => ⟨hb, hl.lt⟩)
        clear hb
        go_wp2_with fail
        refine treeQ_normal (HS.out _ HB) ?_
        try simp only [Act.put, List.setIfInBounds_toArray, List.set_cons_zero, List.set_cons_succ]
        refine wpTree_two ?_ ?_
        · skip
          refine stepT_of rfl rfl ?_
          go_wp2_with fail
          refine SpS.use (spoilt_calls m A' c' k0 k1 _ S' hl' (hr'.below (bl_self B HB))) fun W3 r A2 c2 hc2 hR2 hrs hb => ?_
          replace HB := bl_self HB hb
          have hs3 := hb.size
          replace g7 := bk_below g7 hb
          replace hR1 := hR1.below hb
          replace hR2 := hR2.mono (S' := fun b => W2.heap.size ≤ b ∧ b < W3.heap.size) (fun b hb hl => ⟨hb, hl.lt⟩)
          clear hb
          go_wp2_with fail
          refine treeQ_normal (HS.out _ HB) ?_
          try simp only [Act.put, List.setIfInBounds_toArray, List.set_cons_zero, List.set_cons_succ]
          refine wpTree_hard ?_
          refine stepT_of rfl rfl ?_
          go_wp2_with fail
          replace HB := bl_self HB (bl_new W3 (.cells #[.string ⟨#[]⟩, .slice none 0 0] 26))
          have hs4 : W3.heap.size + 1 = (W3.alloc (.cells #[.string ⟨#[]⟩, .slice none 0 0] 26)).heap.size := by simp
          replace g7 := bk_alloc g7 (.cells #[.string ⟨#[]⟩, .slice none 0 0] 26)
          replace hR1 := hR1.below (bl_new _ (.cells #[.string ⟨#[]⟩, .slice none 0 0] 26))
          replace hR2 := hR2.below (bl_new _ (.cells #[.string ⟨#[]⟩, .slice none 0 0] 26))
          have g6 := bk_new W3 (.cells #[.string ⟨#[]⟩, .slice none 0 0] 26)
          refine treeQ_normal (HS.out _ HB) ?_
          try simp only [Act.put, List.setIfInBounds_toArray, List.set_cons_zero, List.set_cons_succ]
          generalize W3.alloc (.cells #[.string ⟨#[]⟩, .slice none 0 0] 26) = W4 at *
          have hne : W3.heap.size ≠ W0.heap.size := by omega
          have hz6 : w2.heap.size ≤ W3.heap.size := by omega
          have hz7 : w2.heap.size ≤ W0.heap.size := by omega
          have hd6 : ∀ b, (W1.heap.size ≤ b ∧ b < W2.heap.size) → b ≠ W3.heap.size := fun b hb => by omega
          have hd7 : ∀ b, (W1.heap.size ≤ b ∧ b < W2.heap.size) → b ≠ W0.heap.size := fun b hb => by omega
          have he6 : ∀ b, (W2.heap.size ≤ b ∧ b < W3.heap.size) → b ≠ W3.heap.size := fun b hb => by omega
          have he7 : ∀ b, (W2.heap.size ≤ b ∧ b < W3.heap.size) → b ≠ W0.heap.size := fun b hb => by omega
          have hl1 : ∀ b, (W1.heap.size ≤ b ∧ b < W2.heap.size) → b < W4.heap.size := fun b hb => by omega
          have hl2 : ∀ b, (W2.heap.size ≤ b ∧ b < W3.heap.size) → b < W4.heap.size := fun b hb => by omega
          have hw4 : w.heap.size + 2 ≤ W4.heap.size := by omega
          have hq6 : w.heap.size + 1 < w2.heap.size := bk_lt q6
          have hw6 : w.heap.size + 1 ≠ W3.heap.size := by omega
          have hw7 : w.heap.size + 1 ≠ W0.heap.size := by omega
          replace hne := Lib.hid hne
          replace hd6 := Lib.hid hd6
          replace hd7 := Lib.hid hd7
          replace he6 := Lib.hid he6
          replace he7 := Lib.hid he7
          replace hl1 := Lib.hid hl1
          replace hl2 := Lib.hid hl2
          replace hw6 := Lib.hid hw6
          replace hw7 := Lib.hid hw7
          clear hs0 hs1 hs2 hs3 hs4
          have p6 := bk_below q6 HB
          refine wpTree_hard ?_
          refine stepT_of rfl rfl ?_
          obtain ⟨x0, x1⟩ := bx2 g6
          have z0 := bk_free g6 0
          have z1 := bk_free g6 1
          go_wp2_with fail
          have HB5 := bl_set2 (v0 := .string s.fam) (v1 := .slice A1 s.args.length c1) HB hz6
          have r6 := set2_self (v0 := .string s.fam) (v1 := .slice A1 s.args.length c1) g6
          have r7 := (set2_far (v0 := .string s.fam) (v1 := .slice A1 s.args.length c1) (fun h => hne.out h.symm)).trans g7
          have rk := (set2_far (v0 := .string s.fam) (v1 := .slice A1 s.args.length c1) hw6.out).trans p6
          refine treeQ_normal (HS.out _ HB5) ?_
          clear x0 x1 z0 z1
          refine wpTree_hard ?_
          refine stepT_of rfl rfl ?_
          obtain ⟨x0, x1⟩ := bx2 r7
          have z0 := bk_free r7 0
          have z1 := bk_free r7 1
          go_wp2_with fail
          refine treeQ_normal (HS.out _ (bl_set2 HB5 hz7)) ?_
          refine wpTree_done (NoPanic.normal ?_)
          go_wp2_with fail
          go_meet
          exact ⟨_, _, s, r, A1, A2, c1, c2, rfl, rfl, (set2_far hne.out).trans r6, set2_self r7, (set2_far hw7.out).trans rk, hc1, hc2, rd_all ((hR1.set2 hd6.out).set2 hd7.out), rd_all ((hR2.set2 he6.out).set2 he7.out), hss, hrs, bl_set2 (bl_set2 (bl_self B HB) (by omega)) (by omega), by simpa using hw4⟩
        · skip
          refine stepT_of rfl rfl ?_
          go_wp2_with fail
          replace HB := bl_self HB (bl_new W2 (.cells #[.string ⟨#[]⟩, .slice none 0 0] 26))
          have hs3 : W2.heap.size + 1 = (W2.alloc (.cells #[.string ⟨#[]⟩, .slice none 0 0] 26)).heap.size := by simp
          replace g7 := bk_alloc g7 (.cells #[.string ⟨#[]⟩, .slice none 0 0] 26)
          replace hR1 := hR1.below (bl_new _ (.cells #[.string ⟨#[]⟩, .slice none 0 0] 26))
          have g6 := bk_new W2 (.cells #[.string ⟨#[]⟩, .slice none 0 0] 26)
          refine treeQ_normal (HS.out _ HB) ?_
          try simp only [Act.put, List.setIfInBounds_toArray, List.set_cons_zero, List.set_cons_succ]
          generalize W2.alloc (.cells #[.string ⟨#[]⟩, .slice none 0 0] 26) = W3 at *
          refine wpTree_hard ?_
          refine stepT_of rfl rfl ?_
          go_wp2_with fail
          refine SpS.use (spoilt_calls m A' c' k0 k1 _ S' hl' (hr'.below (bl_self B HB))) fun W4 r A2 c2 hc2 hR2 hrs hb => ?_
          replace HB := bl_self HB hb
          have hs4 := hb.size
          replace g6 := bk_below g6 hb
          replace g7 := bk_below g7 hb
          replace hR1 := hR1.below hb
          replace hR2 := hR2.mono (S' := fun b => W3.heap.size ≤ b ∧ b < W4.heap.size) (fun b hb hl => ⟨hb, hl.lt⟩)
          clear hb
          go_wp2_with fail
          refine treeQ_normal (HS.out _ HB) ?_
          try simp only [Act.put, List.setIfInBounds_toArray, List.set_cons_zero, List.set_cons_succ]
          have hne : W2.heap.size ≠ W0.heap.size := by omega
          have hz6 : w2.heap.size ≤ W2.heap.size := by omega
          have hz7 : w2.heap.size ≤ W0.heap.size := by omega
          have hd6 : ∀ b, (W1.heap.size ≤ b ∧ b < W2.heap.size) → b ≠ W2.heap.size := fun b hb => by omega
          have hd7 : ∀ b, (W1.heap.size ≤ b ∧ b < W2.heap.size) → b ≠ W0.heap.size := fun b hb => by omega
          have he6 : ∀ b, (W3.heap.size ≤ b ∧ b < W4.heap.size) → b ≠ W2.heap.size := fun b hb => by omega
          have he7 : ∀ b, (W3.heap.size ≤ b ∧ b < W4.heap.size) → b ≠ W0.heap.size := fun b hb => by omega
          have hl1 : ∀ b, (W1.heap.size ≤ b ∧ b < W2.heap.size) → b < W4.heap.size := fun b hb => by omega
          have hl2 : ∀ b, (W3.heap.size ≤ b ∧ b < W4.heap.size) → b < W4.heap.size := fun b hb => by omega
          have hw4 : w.heap.size + 2 ≤ W4.heap.size := by omega
          have hq6 : w.heap.size + 1 < w2.heap.size := bk_lt q6
          have hw6 : w.heap.size + 1 ≠ W2.heap.size := by omega
          have hw7 : w.heap.size + 1 ≠ W0.heap.size := by omega
          replace hne := Lib.hid hne
          replace hd6 := Lib.hid hd6
          replace hd7 := Lib.hid hd7
          replace he6 := Lib.hid he6
          replace he7 := Lib.hid he7
          replace hl1 := Lib.hid hl1
          replace hl2 := Lib.hid hl2
          replace hw6 := Lib.hid hw6
          replace hw7 := Lib.hid hw7
          clear hs0 hs1 hs2 hs3 hs4
          have p6 := bk_below q6 HB
          refine wpTree_hard ?_
          refine stepT_of rfl rfl ?_
          obtain ⟨x0, x1⟩ := bx2 g6
          have z0 := bk_free g6 0
          have z1 := bk_free g6 1
          go_wp2_with fail
          have HB5 := bl_set2 (v0 := .string s.fam) (v1 := .slice A1 s.args.length c1) HB hz6
          have r6 := set2_self (v0 := .string s.fam) (v1 := .slice A1 s.args.length c1) g6
          have r7 := (set2_far (v0 := .string s.fam) (v1 := .slice A1 s.args.length c1) (fun h => hne.out h.symm)).trans g7
          have rk := (set2_far (v0 := .string s.fam) (v1 := .slice A1 s.args.length c1) hw6.out).trans p6
          refine treeQ_normal (HS.out _ HB5) ?_
          clear x0 x1 z0 z1
          refine wpTree_hard ?_
          refine stepT_of rfl rfl ?_
          obtain ⟨x0, x1⟩ := bx2 r7
          have z0 := bk_free r7 0
          have z1 := bk_free r7 1
          go_wp2_with fail
          refine treeQ_normal (HS.out _ (bl_set2 HB5 hz7)) ?_
          refine wpTree_done (NoPanic.normal ?_)
          go_wp2_with fail
          go_meet
          exact ⟨_, _, s, r, A1, A2, c1, c2, rfl, rfl, (set2_far hne.out).trans r6, set2_self r7, (set2_far hw7.out).trans rk, hc1, hc2, rd_all ((hR1.set2 hd6.out).set2 hd7.out), rd_all ((hR2.set2 he6.out).set2 he7.out), hss, hrs, bl_set2 (bl_set2 (bl_self B HB) (by omega)) (by omega), by simpa using hw4⟩
      · skip
        refine stepT_of rfl rfl ?_
        go_wp2_with fail
        replace HB := bl_self HB (bl_new W1 (.cells #[.string ⟨#[]⟩, .slice none 0 0] 26))
        have hs2 : W1.heap.size + 1 = (W1.alloc (.cells #[.string ⟨#[]⟩, .slice none 0 0] 26)).heap.size := by simp
        replace g7 := bk_alloc g7 (.cells #[.string ⟨#[]⟩, .slice none 0 0] 26)
        have g6 := bk_new W1 (.cells #[.string ⟨#[]⟩, .slice none 0 0] 26)
        refine treeQ_normal (HS.out _ HB) ?_
        try simp only [Act.put, List.setIfInBounds_toArray, List.set_cons_zero, List.set_cons_succ]
        generalize W1.alloc (.cells #[.string ⟨#[]⟩, .slice none 0 0] 26) = W2 at *
        refine wpTree_hard ?_
        refine stepT_of rfl rfl ?_
        go_wp2_with fail
        refine SpS.use (spoilt_calls l A c n0 n1 _ S hl (hr.below (bl_self B HB))) fun W3 s A1 c1 hc1 hR1 hss hb => ?_
        replace HB := bl_self HB hb
        have hs3 := hb.size
        replace g6 := bk_below g6 hb
        replace g7 := bk_below g7 hb
        replace hR1 := hR1.mono (S' := fun b => W2.heap.size ≤ b ∧ b < W3.heap.size) (fun b hb hl => ⟨hb, hl.lt⟩)
        clear hb
        go_wp2_with fail
        refine treeQ_normal (HS.out _ HB) ?_
        try simp only [Act.put, List.setIfInBounds_toArray, List.set_cons_zero, List.set_cons_succ]
        refine wpTree_hard ?_
        refine stepT_of rfl rfl ?_
        go_wp2_with fail
        refine SpS.use (spoilt_calls m A' c' k0 k1 _ S' hl' (hr'.below (bl_self B HB))) fun W4 r A2 c2 hc2 hR2 hrs hb => ?_
        replace HB := bl_self HB hb
        have hs4 := hb.size
        replace g6 := bk_below g6 hb
        replace g7 := bk_below g7 hb
        replace hR1 := hR1.below hb
        replace hR2 := hR2.mono (S' := fun b => W3.heap.size ≤ b ∧ b < W4.heap.size) (fun b hb hl => ⟨hb, hl.lt⟩)
        clear hb
        go_wp2_with fail
        refine treeQ_normal (HS.out _ HB) ?_
        try simp only [Act.put, List.setIfInBounds_toArray, List.set_cons_zero, List.set_cons_succ]
        have hne : W1.heap.size ≠ W0.heap.size := by omega
        have hz6 : w2.heap.size ≤ W1.heap.size := by omega
        have hz7 : w2.heap.size ≤ W0.heap.size := by omega
        have hd6 : ∀ b, (W2.heap.size ≤ b ∧ b < W3.heap.size) → b ≠ W1.heap.size := fun b hb => by omega
        have hd7 : ∀ b, (W2.heap.size ≤ b ∧ b < W3.heap.size) → b ≠ W0.heap.size := fun b hb => by omega
        have he6 : ∀ b, (W3.heap.size ≤ b ∧ b < W4.heap.size) → b ≠ W1.heap.size := fun b hb => by omega
        have he7 : ∀ b, (W3.heap.size ≤ b ∧ b < W4.heap.size) → b ≠ W0.heap.size := fun b hb => by omega
        have hl1 : ∀ b, (W2.heap.size ≤ b ∧ b < W3.heap.size) → b < W4.heap.size := fun b hb => by omega
        have hl2 : ∀ b, (W3.heap.size ≤ b ∧ b < W4.heap.size) → b < W4.heap.size := fun b hb => by omega
        have hw4 : w.heap.size + 2 ≤ W4.heap.size := by omega
        have hq6 : w.heap.size + 1 < w2.heap.size := bk_lt q6
        have hw6 : w.heap.size + 1 ≠ W1.heap.size := by omega
        have hw7 : w.heap.size + 1 ≠ W0.heap.size := by omega
        replace hne := Lib.hid hne
        replace hd6 := Lib.hid hd6
        replace hd7 := Lib.hid hd7
        replace he6 := Lib.hid he6
        replace he7 := Lib.hid he7
        replace hl1 := Lib.hid hl1
        replace hl2 := Lib.hid hl2
        replace hw6 := Lib.hid hw6
        replace hw7 := Lib.hid hw7
        clear hs0 hs1 hs2 hs3 hs4
        have p6 := bk_below q6 HB
        refine wpTree_hard ?_
        refine stepT_of rfl rfl ?_
        obtain ⟨x0, x1⟩ := bx2 g6
        have z0 := bk_free g6 0
        have z1 := bk_free g6 1
        go_wp2_with fail
        have HB5 := bl_set2 (v0 := .string s.fam) (v1 := .slice A1 s.args.length c1) HB hz6
        have r6 := set2_self (v0 := .string s.fam) (v1 := .slice A1 s.args.length c1) g6
        have r7 := (set2_far (v0 := .string s.fam) (v1 := .slice A1 s.args.length c1) (fun h => hne.out h.symm)).trans g7
        have rk := (set2_far (v0 := .string s.fam) (v1 := .slice A1 s.args.length c1) hw6.out).trans p6
        refine treeQ_normal (HS.out _ HB5) ?_
        clear x0 x1 z0 z1
        refine wpTree_hard ?_
        refine stepT_of rfl rfl ?_
        obtain ⟨x0, x1⟩ := bx2 r7
        have z0 := bk_free r7 0
        have z1 := bk_free r7 1
        go_wp2_with fail
        refine treeQ_normal (HS.out _ (bl_set2 HB5 hz7)) ?_
        refine wpTree_done (NoPanic.normal ?_)
        go_wp2_with fail
        go_meet
        exact ⟨_, _, s, r, A1, A2, c1, c2, rfl, rfl, (set2_far hne.out).trans r6, set2_self r7, (set2_far hw7.out).trans rk, hc1, hc2, rd_all ((hR1.set2 hd6.out).set2 hd7.out), rd_all ((hR2.set2 he6.out).set2 he7.out), hss, hrs, bl_set2 (bl_set2 (bl_self B HB) (by omega)) (by omega), by simpa using hw4⟩
  case rest =>
  clear q5 q6 B HS hsz
  obtain ⟨G, H, s, r, A1, A2, c1, c2, rfl, rfl, q9, q10, q6, hc1, hc2, hR1, hR2, hss, hrs, B, hsz⟩ := hcut
  have hTT := tape_fresh (w := wc) c' hl' (hr'.below B)
  have hGl := bk_lt q9
  have hHl := bk_lt q10
  go_wp2_with fail
  refine (mkA_calls 4 3 1 _ m _ _ gb go cN (by omega) (by omega) (by omega) (by omega) (by omega) (by omega) (by omega) (by have := hNl.2; omega) ((hN.below B).below (bl_new _ _)) hTT).use fun w3 t A3 c3 T1 hc3 hR3 hts hti hT1 hG1 => ?_
  replace q6 := bk_grown (bk_alloc q6 (.cells #[.slice A' m.length c', .int .i64 0] 34)) hG1 (by simp; omega)
  replace q9 := bk_grown (bk_alloc q9 (.cells #[.slice A' m.length c', .int .i64 0] 34)) hG1 (by simp; omega)
  replace q10 := bk_grown (bk_alloc q10 (.cells #[.slice A' m.length c', .int .i64 0] 34)) hG1 (by simp; omega)
  replace hR1 := (hR1.below (bl_new _ (.cells #[.slice A' m.length c', .int .i64 0] 34))).grown hG1 (fun b hb => by omega)
  replace hR2 := (hR2.below (bl_new _ (.cells #[.slice A' m.length c', .int .i64 0] 34))).grown hG1 (fun b hb => by omega)
  replace B := bl_newrow (bl_alloc B (.cells #[.slice A' m.length c', .int .i64 0] 34)) hG1 (by omega)
  have hs3 : wc.heap.size + 1 ≤ w3.heap.size := by have := hG1.size; simp at this; omega
  replace hR3 := hR3.mono (S' := fun b => b ≠ w3.heap.size) (fun b _ hl => by have := hl.lt; omega)
  clear hTT hT1 hG1
  have hG3 : Hid (G ≠ w3.heap.size) := Lib.hid (by omega)
  have hH3 : Hid (H ≠ w3.heap.size) := Lib.hid (by omega)
  have hwk : Hid (∀ b, b < wc.heap.size → b ≠ w3.heap.size) := Lib.hid (fun b hb => by omega)
  have hwm : Hid (w.heap.size ≤ w3.heap.size) := Lib.hid (by omega)
  clear hs3 hGl hHl hsz
  have q11 := bk_new w3 (.cells #[.int .i64 t.kind, .string t.name, .int .i64 t.idx, .slice A3 t.args.length c3] 30); replace q6 := bk_alloc q6 (.cells #[.int .i64 t.kind, .string t.name, .int .i64 t.idx, .slice A3 t.args.length c3] 30); replace q9 := bk_alloc q9 (.cells #[.int .i64 t.kind, .string t.name, .int .i64 t.idx, .slice A3 t.args.length c3] 30); replace q10 := bk_alloc q10 (.cells #[.int .i64 t.kind, .string t.name, .int .i64 t.idx, .slice A3 t.args.length c3] 30); replace B := bl_alloc B (.cells #[.int .i64 t.kind, .string t.name, .int .i64 t.idx, .slice A3 t.args.length c3] 30); replace hR1 := hR1.below (bl_new w3 (.cells #[.int .i64 t.kind, .string t.name, .int .i64 t.idx, .slice A3 t.args.length c3] 30)); replace hR2 := hR2.below (bl_new w3 (.cells #[.int .i64 t.kind, .string t.name, .int .i64 t.idx, .slice A3 t.args.length c3] 30)); replace hR3 := hR3.below (bl_new w3 (.cells #[.int .i64 t.kind, .string t.name, .int .i64 t.idx, .slice A3 t.args.length c3] 30))
  obtain ⟨a0, a1⟩ := bx2 q6
  go_wp2_with fail
  refine (cut_same _ _ _ (by omega) (by omega)).mono ?_
  rintro e w' ⟨rfl, hw⟩
  replace hw := hw.symm
  subst hw
  generalize cutN k0 5 = kk
  generalize w3.alloc (.cells #[.int .i64 t.kind, .string t.name, .int .i64 t.idx, .slice A3 t.args.length c3] 30) = w4 at *
  go_upto_if 30 with (fail)
  go_cut [] (fun wd => ∃ (x : Tm) (Ax : Option Addr) (cx : Nat), wd.heap[w3.heap.size]? = some (.cells #[.int .i64 x.kind, .string x.name, .int .i64 x.idx, .slice Ax x.args.length cx] 30 (0, 0)) ∧ x.args.length ≤ cx ∧ Rd tmK wd (fun b => b ≠ w3.heap.size) Ax x.args ∧ tsize x ≤ 1000 ∧ ixT 2000003 x ∧ wd.heap[G]? = some (.cells #[.string s.fam, .slice A1 s.args.length c1] 26 (0, 0)) ∧ wd.heap[H]? = some (.cells #[.string r.fam, .slice A2 r.args.length c2] 26 (0, 0)) ∧ Rd smK wd (fun b => b < wc.heap.size) A1 s.args ∧ Rd smK wd (fun b => b < wc.heap.size) A2 r.args ∧ Below w.heap.size w wd)
  case first =>
    cases hkk : (kk == 1)
    · go_wp2_with fail
      go_meet
      exact ⟨t, A3, c3, q11, hc3, hR3, by omega, ixT_mono (by omega) t hti, q9, q10, hR1, hR2, B⟩
    · obtain ⟨d0, d1, d2, d3⟩ := bx4 q11
      have hlt := bk_lt q11
      go_wp2_with fail
      refine spp_use (spoil_calls (tsize t + 1) t _ _ A3 c3 _ _ (by omega) (by omega) hti hc3 hR3) fun w7 y A7 c7 hc7 hY hys hyi hb7 => ?_
      have p11 := bk_below q11 hb7
      have p9 := bk_below q9 hb7
      have p10 := bk_below q10 hb7
      have pB := bl_self B hb7
      have pR1 := hR1.below hb7
      have pR2 := hR2.below hb7
      clear d0 d1 d2 d3
      replace hY : Rd tmK w7 (fun b => b ≠ w3.heap.size) A7 y.args := hY.mono fun b hb _ => by rcases hb with hb | hb; exact hb; exact fun he => absurd (Nat.lt_of_lt_of_le hlt hb) (by rw [he]; exact Nat.lt_irrefl _)
      obtain ⟨d0, d1, d2, d3⟩ := bx4 p11
      have z0 := bk_free p11 0
      have z1 := bk_free p11 1
      have z2 := bk_free p11 2
      have z3 := bk_free p11 3
      go_wp2_with fail
      go_meet
      exact ⟨y, A7, c7, set4_self p11, hc7, hY.set4 (fun b hb => hb), by omega, hyi, (set4_far hG3.out).trans p9, (set4_far hH3.out).trans p10, pR1.set4 hwk.out, pR2.set4 hwk.out, bl_set4 pB hwm.out⟩
  case rest =>
  clear q6 q9 q10 q11 hR1 hR2 hR3 B a0 a1 hti hts
  obtain ⟨x, Ax, cx, q11, hcx, hRx, hxs, hxi, q9, q10, hR1, hR2, B⟩ := hcut
  have hys := ssize_eraseR x
  obtain ⟨e, HE⟩ : ∃ e, Hid (eraseE x = e) := ⟨_, Lib.hid rfl⟩
  obtain ⟨y, HY⟩ : ∃ y, Hid (eraseR x = y) := ⟨_, Lib.hid rfl⟩
  rw [HY.out] at hys
  have hee : (e == e) = true := by simp
  obtain ⟨f1, H1⟩ : ∃ f, Hid (swfE s = f) := ⟨_, Lib.hid rfl⟩
  have hff : (f1 == f1) = true := by simp
  obtain ⟨z, HZ⟩ : ∃ z : Int, Hid ((ssize s : Int) = z) := ⟨_, Lib.hid rfl⟩
  have hzz : (z == z) = true := by simp
  obtain ⟨o, HO⟩ : ∃ o : Int, Hid ((if swfE s = 0 then (sord s : Int) else 0) = o) := ⟨_, Lib.hid rfl⟩
  have hoo : (o == o) = true := by simp
  obtain ⟨b1, HB1⟩ : ∃ b, Hid (sameS s r = b) := ⟨_, Lib.hid rfl⟩
  have hbb : (b1 == b1) = true := by simp
  obtain ⟨b2, HB2⟩ : ∃ b, Hid ((objB x && smallB x && (unlam x).1 == s.args.length) = b) := ⟨_, Lib.hid rfl⟩
  have hbc : (b2 == b2) = true := by simp
  have hbt : (true == true) = true := rfl
  obtain ⟨d0, d1, d2, d3⟩ := bx4 q11
  go_wp2_with fail
  refine (erase2_calls x Ax cx _ _ (by omega) hRx).use fun w5 A4 c4 hc4 hE hb5 => ?_
  rw [HY.out] at hc4 hE ⊢
  rw [HE.out]
  clear d0 d1 d2 d3
  replace hE := hE.mono (S' := fun _ => True) (fun _ _ _ => trivial)
  replace q9 := bk_below q9 hb5; replace q10 := bk_below q10 hb5; replace q11 := bk_below q11 hb5; replace B := bl_self B hb5; replace hR1 := hR1.below hb5; replace hR2 := hR2.below hb5; replace hRx := hRx.below hb5; clear hb5
  have q12 := bk_new w5 (.cells #[.string y.fam, .slice A4 y.args.length c4] 26); replace q9 := bk_alloc q9 (.cells #[.string y.fam, .slice A4 y.args.length c4] 26); replace q10 := bk_alloc q10 (.cells #[.string y.fam, .slice A4 y.args.length c4] 26); replace q11 := bk_alloc q11 (.cells #[.string y.fam, .slice A4 y.args.length c4] 26); replace B := bl_alloc B (.cells #[.string y.fam, .slice A4 y.args.length c4] 26); replace hR1 := hR1.below (bl_new w5 (.cells #[.string y.fam, .slice A4 y.args.length c4] 26)); replace hR2 := hR2.below (bl_new w5 (.cells #[.string y.fam, .slice A4 y.args.length c4] 26)); replace hRx := hRx.below (bl_new w5 (.cells #[.string y.fam, .slice A4 y.args.length c4] 26)); replace hE := hE.below (bl_new w5 (.cells #[.string y.fam, .slice A4 y.args.length c4] 26))
  obtain ⟨d0, d1, d2, d3⟩ := bx4 q11
  go_wp2_with fail
  refine (qErase_calls x Ax cx _ _ (by omega) hRx).use fun w6 A5 c5 hc5 hF hb6 => ?_
  rw [HY.out] at hc5 hF ⊢
  rw [HE.out]
  clear d0 d1 d2 d3
  replace hF := hF.mono (S' := fun _ => True) (fun _ _ _ => trivial)
  replace q9 := bk_below q9 hb6; replace q10 := bk_below q10 hb6; replace q11 := bk_below q11 hb6; replace q12 := bk_below q12 hb6; replace B := bl_self B hb6; replace hR1 := hR1.below hb6; replace hR2 := hR2.below hb6; replace hRx := hRx.below hb6; replace hE := hE.below hb6; clear hb6
  have q14 := bk_new w6 (.cells #[.string y.fam, .slice A5 y.args.length c5] 26); replace q9 := bk_alloc q9 (.cells #[.string y.fam, .slice A5 y.args.length c5] 26); replace q10 := bk_alloc q10 (.cells #[.string y.fam, .slice A5 y.args.length c5] 26); replace q11 := bk_alloc q11 (.cells #[.string y.fam, .slice A5 y.args.length c5] 26); replace q12 := bk_alloc q12 (.cells #[.string y.fam, .slice A5 y.args.length c5] 26); replace B := bl_alloc B (.cells #[.string y.fam, .slice A5 y.args.length c5] 26); replace hR1 := hR1.below (bl_new w6 (.cells #[.string y.fam, .slice A5 y.args.length c5] 26)); replace hR2 := hR2.below (bl_new w6 (.cells #[.string y.fam, .slice A5 y.args.length c5] 26)); replace hRx := hRx.below (bl_new w6 (.cells #[.string y.fam, .slice A5 y.args.length c5] 26)); replace hE := hE.below (bl_new w6 (.cells #[.string y.fam, .slice A5 y.args.length c5] 26)); replace hF := hF.below (bl_new w6 (.cells #[.string y.fam, .slice A5 y.args.length c5] 26))
  have HS7 : Hid (∀ w' : World, w'.heap[G]? = some (.cells #[.string s.fam, .slice A1 s.args.length c1] 26 (0, 0)) → w'.cell? ⟨G, 0, none⟩ = some (.string s.fam) ∧ w'.cell? ⟨G, 1, none⟩ = some (.slice A1 s.args.length c1)) := Lib.hid fun w' h => bx2 h
  have HS8 : Hid (∀ w' : World, w'.heap[G]? = some (.cells #[.string s.fam, .slice A1 s.args.length c1] 26 (0, 0)) → w'.heap[H]? = some (.cells #[.string r.fam, .slice A2 r.args.length c2] 26 (0, 0)) → (w'.cell? ⟨G, 0, none⟩ = some (.string s.fam) ∧ w'.cell? ⟨G, 1, none⟩ = some (.slice A1 s.args.length c1)) ∧ (w'.cell? ⟨H, 0, none⟩ = some (.string r.fam) ∧ w'.cell? ⟨H, 1, none⟩ = some (.slice A2 r.args.length c2))) := Lib.hid fun w' h h' => ⟨bx2 h, bx2 h'⟩
  have HS9 : Hid (∀ w' : World, w'.heap[G]? = some (.cells #[.string s.fam, .slice A1 s.args.length c1] 26 (0, 0)) → w'.heap[w5.heap.size]? = some (.cells #[.string y.fam, .slice A4 y.args.length c4] 26 (0, 0)) → w'.heap[w6.heap.size]? = some (.cells #[.string y.fam, .slice A5 y.args.length c5] 26 (0, 0)) → w'.heap[w3.heap.size]? = some (.cells #[.int .i64 x.kind, .string x.name, .int .i64 x.idx, .slice Ax x.args.length cx] 30 (0, 0)) → (w'.cell? ⟨G, 0, none⟩ = some (.string s.fam) ∧ w'.cell? ⟨G, 1, none⟩ = some (.slice A1 s.args.length c1)) ∧ (w'.cell? ⟨w5.heap.size, 0, none⟩ = some (.string y.fam) ∧ w'.cell? ⟨w5.heap.size, 1, none⟩ = some (.slice A4 y.args.length c4)) ∧ (w'.cell? ⟨w6.heap.size, 0, none⟩ = some (.string y.fam) ∧ w'.cell? ⟨w6.heap.size, 1, none⟩ = some (.slice A5 y.args.length c5)) ∧ (w'.cell? ⟨w3.heap.size, 0, none⟩ = some (.int .i64 x.kind) ∧ w'.cell? ⟨w3.heap.size, 1, none⟩ = some (.string x.name) ∧ w'.cell? ⟨w3.heap.size, 2, none⟩ = some (.int .i64 x.idx) ∧ w'.cell? ⟨w3.heap.size, 3, none⟩ = some (.slice Ax x.args.length cx))) := Lib.hid fun w' h h1 h2 h3 => ⟨bx2 h, bx2 h1, bx2 h2, bx4 h3⟩
  go_wp2_with fail
  refine wp_region_mg (fun w' : World => w'.cell? ⟨G, 0, none⟩ = some (.string s.fam) ∧ w'.cell? ⟨G, 1, none⟩ = some (.slice A1 s.args.length c1)) [(true, 0), (true, 2), (false, 1), (false, 3), (true, 4), (true, 5), (true, 6), (true, 8), (false, 7), (false, 9), (true, 10), (true, 11), (true, 12), (true, 13), (true, 15), (false, 14), (false, 16), (true, 17), (true, 18), (true, 19)] (by kernel_rfl) (by kernel_rfl) (HS7.out _ q9) ?_
  repeat (first | (refine wpMg_soft (v := ?_) rfl rfl ?_ ?_; rotate_left; (focus (intro w' hS; go_simp; with_reducible rfl)); simp only [Act.put, List.setIfInBounds_toArray, List.set_cons_zero, List.set_cons_succ]) | (refine wpMg_off rfl rfl ?_; simp only [Act.put, List.setIfInBounds_toArray, List.set_cons_zero, List.set_cons_succ]))
  refine wpMg_hard rfl rfl ?_
  simp only [bare]
  go_wp2_with fail
  refine (sWellFormed_calls s A1 c1 _ _ (by omega) (Rd.drew hR1)).use fun v1 hv1 => ?_
  rw [H1.out]
  replace hv1 := bl_undrew hv1
  replace q9 := bk_below q9 hv1; replace q10 := bk_below q10 hv1; replace q11 := bk_below q11 hv1; replace q12 := bk_below q12 hv1; replace q14 := bk_below q14 hv1; replace B := bl_self B hv1; replace hR1 := hR1.below hv1; replace hR2 := hR2.below hv1; replace hRx := hRx.below hv1; replace hE := hE.below hv1; replace hF := hF.below hv1; clear hv1
  go_wp2_with fail
  refine mgQ_normal (HS7.out _ q9) ?_
  repeat (first | (refine wpMg_soft (v := ?_) rfl rfl ?_ ?_; rotate_left; (focus (intro w' hS; go_simp; with_reducible rfl)); simp only [Act.put, List.setIfInBounds_toArray, List.set_cons_zero, List.set_cons_succ]) | (refine wpMg_off rfl rfl ?_; simp only [Act.put, List.setIfInBounds_toArray, List.set_cons_zero, List.set_cons_succ]))
  refine wpMg_hard rfl rfl ?_
  simp only [bare]
  go_wp2_with fail
  refine (qWellFormed_calls s A1 c1 _ _ (by omega) hR1).use fun v2 hv2 => ?_
  rw [H1.out]
  replace q9 := bk_below q9 hv2; replace q10 := bk_below q10 hv2; replace q11 := bk_below q11 hv2; replace q12 := bk_below q12 hv2; replace q14 := bk_below q14 hv2; replace B := bl_self B hv2; replace hR1 := hR1.below hv2; replace hR2 := hR2.below hv2; replace hRx := hRx.below hv2; replace hE := hE.below hv2; replace hF := hF.below hv2; clear hv2
  go_wp2_with fail
  refine mgQ_normal (HS7.out _ q9) ?_
  repeat (first | (refine wpMg_soft (v := ?_) rfl rfl ?_ ?_; rotate_left; (focus (intro w' hS; go_simp; with_reducible rfl)); simp only [Act.put, List.setIfInBounds_toArray, List.set_cons_zero, List.set_cons_succ]) | (refine wpMg_off rfl rfl ?_; simp only [Act.put, List.setIfInBounds_toArray, List.set_cons_zero, List.set_cons_succ]))
  refine wpMg_hard rfl rfl ?_
  simp only [bare]
  go_wp2_with fail
  refine (sSize_calls (ssize s + 1) s A1 c1 _ _ (by omega) (by omega) hR1).use fun v3 hv3 => ?_
  rw [HZ.out]
  replace q9 := bk_below q9 hv3; replace q10 := bk_below q10 hv3; replace q11 := bk_below q11 hv3; replace q12 := bk_below q12 hv3; replace q14 := bk_below q14 hv3; replace B := bl_self B hv3; replace hR1 := hR1.below hv3; replace hR2 := hR2.below hv3; replace hRx := hRx.below hv3; replace hE := hE.below hv3; replace hF := hF.below hv3; clear hv3
  go_wp2_with fail
  refine mgQ_normal (HS7.out _ q9) ?_
  repeat (first | (refine wpMg_soft (v := ?_) rfl rfl ?_ ?_; rotate_left; (focus (intro w' hS; go_simp; with_reducible rfl)); simp only [Act.put, List.setIfInBounds_toArray, List.set_cons_zero, List.set_cons_succ]) | (refine wpMg_off rfl rfl ?_; simp only [Act.put, List.setIfInBounds_toArray, List.set_cons_zero, List.set_cons_succ]))
  refine wpMg_hard rfl rfl ?_
  simp only [bare]
  go_wp2_with fail
  refine (qSize_calls (ssize s + 1) s A1 c1 _ _ (by omega) (by omega) hR1).use fun v4 hv4 => ?_
  rw [HZ.out]
  replace q9 := bk_below q9 hv4; replace q10 := bk_below q10 hv4; replace q11 := bk_below q11 hv4; replace q12 := bk_below q12 hv4; replace q14 := bk_below q14 hv4; replace B := bl_self B hv4; replace hR1 := hR1.below hv4; replace hR2 := hR2.below hv4; replace hRx := hRx.below hv4; replace hE := hE.below hv4; replace hF := hF.below hv4; clear hv4
  go_wp2_with fail
  refine mgQ_normal (HS7.out _ q9) ?_
  repeat (first | (refine wpMg_soft (v := ?_) rfl rfl ?_ ?_; rotate_left; (focus (intro w' hS; go_simp; with_reducible rfl)); simp only [Act.put, List.setIfInBounds_toArray, List.set_cons_zero, List.set_cons_succ]) | (refine wpMg_off rfl rfl ?_; simp only [Act.put, List.setIfInBounds_toArray, List.set_cons_zero, List.set_cons_succ]))
  refine wpMg_hard rfl rfl ?_
  simp only [bare]
  go_wp2_with fail
  refine (sOrder_calls s A1 c1 _ _ (by omega) hR1).use fun v5 hv5 => ?_
  rw [HO.out]
  replace q9 := bk_below q9 hv5; replace q10 := bk_below q10 hv5; replace q11 := bk_below q11 hv5; replace q12 := bk_below q12 hv5; replace q14 := bk_below q14 hv5; replace B := bl_self B hv5; replace hR1 := hR1.below hv5; replace hR2 := hR2.below hv5; replace hRx := hRx.below hv5; replace hE := hE.below hv5; replace hF := hF.below hv5; clear hv5
  go_wp2_with fail
  refine mgQ_normal (HS7.out _ q9) ?_
  repeat (first | (refine wpMg_soft (v := ?_) rfl rfl ?_ ?_; rotate_left; (focus (intro w' hS; go_simp; with_reducible rfl)); simp only [Act.put, List.setIfInBounds_toArray, List.set_cons_zero, List.set_cons_succ]) | (refine wpMg_off rfl rfl ?_; simp only [Act.put, List.setIfInBounds_toArray, List.set_cons_zero, List.set_cons_succ]))
  refine wpMg_hard rfl rfl ?_
  simp only [bare]
  go_wp2_with fail
  refine (qOrder_calls s A1 c1 _ _ (by omega) hR1).use fun v6 hv6 => ?_
  rw [HO.out]
  replace q9 := bk_below q9 hv6; replace q10 := bk_below q10 hv6; replace q11 := bk_below q11 hv6; replace q12 := bk_below q12 hv6; replace q14 := bk_below q14 hv6; replace B := bl_self B hv6; replace hR1 := hR1.below hv6; replace hR2 := hR2.below hv6; replace hRx := hRx.below hv6; replace hE := hE.below hv6; replace hF := hF.below hv6; clear hv6
  go_wp2_with fail
  refine mgQ_normal (HS7.out _ q9) ?_
  repeat (first | (refine wpMg_soft (v := ?_) rfl rfl ?_ ?_; rotate_left; (focus (intro w' hS; go_simp; with_reducible rfl)); simp only [Act.put, List.setIfInBounds_toArray, List.set_cons_zero, List.set_cons_succ]) | (refine wpMg_off rfl rfl ?_; simp only [Act.put, List.setIfInBounds_toArray, List.set_cons_zero, List.set_cons_succ]))
  refine wpMg_done (NoPanic.normal ?_)
  go_wp2_with fail
  refine wp_region_mg (fun w' : World => (w'.cell? ⟨G, 0, none⟩ = some (.string s.fam) ∧ w'.cell? ⟨G, 1, none⟩ = some (.slice A1 s.args.length c1)) ∧ (w'.cell? ⟨H, 0, none⟩ = some (.string r.fam) ∧ w'.cell? ⟨H, 1, none⟩ = some (.slice A2 r.args.length c2))) [(true, 0), (true, 1), (true, 2), (true, 3), (true, 5), (true, 6), (false, 4), (false, 7), (true, 8), (true, 9), (true, 10), (true, 11), (true, 12), (false, 13), (true, 14), (true, 15)] (by kernel_rfl) (by kernel_rfl) (HS8.out _ q9 q10) ?_
  repeat (first | (refine wpMg_soft (v := ?_) rfl rfl ?_ ?_; rotate_left; (focus (intro w' hS; go_simp; with_reducible rfl)); simp only [Act.put, List.setIfInBounds_toArray, List.set_cons_zero, List.set_cons_succ]) | (refine wpMg_off rfl rfl ?_; simp only [Act.put, List.setIfInBounds_toArray, List.set_cons_zero, List.set_cons_succ]))
  refine wpMg_hard rfl rfl ?_
  simp only [bare]
  go_wp2_with fail
  refine (sSame_calls (ssize s + 1) s r A1 A2 c1 c2 _ _ _ (by omega) (by omega) (by omega) (Rd.drew hR1) (Rd.drew hR2)).use fun v7 hv7 => ?_
  rw [HB1.out]
  replace hv7 := bl_undrew hv7
  replace q9 := bk_below q9 hv7; replace q10 := bk_below q10 hv7; replace q11 := bk_below q11 hv7; replace q12 := bk_below q12 hv7; replace q14 := bk_below q14 hv7; replace B := bl_self B hv7; replace hR1 := hR1.below hv7; replace hR2 := hR2.below hv7; replace hRx := hRx.below hv7; replace hE := hE.below hv7; replace hF := hF.below hv7; clear hv7
  go_wp2_with fail
  refine mgQ_normal (HS8.out _ q9 q10) ?_
  repeat (first | (refine wpMg_soft (v := ?_) rfl rfl ?_ ?_; rotate_left; (focus (intro w' hS; go_simp; with_reducible rfl)); simp only [Act.put, List.setIfInBounds_toArray, List.set_cons_zero, List.set_cons_succ]) | (refine wpMg_off rfl rfl ?_; simp only [Act.put, List.setIfInBounds_toArray, List.set_cons_zero, List.set_cons_succ]))
  refine wpMg_hard rfl rfl ?_
  simp only [bare]
  go_wp2_with fail
  refine (qSame_calls (ssize s + 1) s r A1 A2 c1 c2 _ _ _ (by omega) (by omega) (by omega) hR1 hR2).use fun v8 hv8 => ?_
  rw [HB1.out]
  replace q9 := bk_below q9 hv8; replace q10 := bk_below q10 hv8; replace q11 := bk_below q11 hv8; replace q12 := bk_below q12 hv8; replace q14 := bk_below q14 hv8; replace B := bl_self B hv8; replace hR1 := hR1.below hv8; replace hR2 := hR2.below hv8; replace hRx := hRx.below hv8; replace hE := hE.below hv8; replace hF := hF.below hv8; clear hv8
  go_wp2_with fail
  refine mgQ_normal (HS8.out _ q9 q10) ?_
  repeat (first | (refine wpMg_soft (v := ?_) rfl rfl ?_ ?_; rotate_left; (focus (intro w' hS; go_simp; with_reducible rfl)); simp only [Act.put, List.setIfInBounds_toArray, List.set_cons_zero, List.set_cons_succ]) | (refine wpMg_off rfl rfl ?_; simp only [Act.put, List.setIfInBounds_toArray, List.set_cons_zero, List.set_cons_succ]))
  refine wpMg_hard rfl rfl ?_
  simp only [bare]
  go_wp2_with fail
  refine (sSame_calls (ssize s + 1) s s A1 A1 c1 c1 _ _ _ (by omega) (by omega) (by omega) hR1 hR1).use fun v9 hv9 => ?_
  rw [sameS_refl s]
  replace q9 := bk_below q9 hv9; replace q10 := bk_below q10 hv9; replace q11 := bk_below q11 hv9; replace q12 := bk_below q12 hv9; replace q14 := bk_below q14 hv9; replace B := bl_self B hv9; replace hR1 := hR1.below hv9; replace hR2 := hR2.below hv9; replace hRx := hRx.below hv9; replace hE := hE.below hv9; replace hF := hF.below hv9; clear hv9
  go_wp2_with fail
  refine mgQ_normal (HS8.out _ q9 q10) ?_
  repeat (first | (refine wpMg_soft (v := ?_) rfl rfl ?_ ?_; rotate_left; (focus (intro w' hS; go_simp; with_reducible rfl)); simp only [Act.put, List.setIfInBounds_toArray, List.set_cons_zero, List.set_cons_succ]) | (refine wpMg_off rfl rfl ?_; simp only [Act.put, List.setIfInBounds_toArray, List.set_cons_zero, List.set_cons_succ]))
  refine wpMg_done (NoPanic.normal ?_)
  go_wp2_with fail
  refine wp_region_mg (fun w' : World => (w'.cell? ⟨G, 0, none⟩ = some (.string s.fam) ∧ w'.cell? ⟨G, 1, none⟩ = some (.slice A1 s.args.length c1)) ∧ (w'.cell? ⟨w5.heap.size, 0, none⟩ = some (.string y.fam) ∧ w'.cell? ⟨w5.heap.size, 1, none⟩ = some (.slice A4 y.args.length c4)) ∧ (w'.cell? ⟨w6.heap.size, 0, none⟩ = some (.string y.fam) ∧ w'.cell? ⟨w6.heap.size, 1, none⟩ = some (.slice A5 y.args.length c5)) ∧ (w'.cell? ⟨w3.heap.size, 0, none⟩ = some (.int .i64 x.kind) ∧ w'.cell? ⟨w3.heap.size, 1, none⟩ = some (.string x.name) ∧ w'.cell? ⟨w3.heap.size, 2, none⟩ = some (.int .i64 x.idx) ∧ w'.cell? ⟨w3.heap.size, 3, none⟩ = some (.slice Ax x.args.length cx))) [(true, 0), (true, 1), (true, 2), (true, 3), (true, 4), (true, 5), (true, 6), (true, 7), (true, 8), (false, 9), (true, 10), (true, 11), (true, 12), (true, 13), (true, 15), (true, 16), (false, 14), (false, 17), (true, 18), (true, 19), (true, 20), (false, 21), (true, 22), (true, 23)] (by kernel_rfl) (by kernel_rfl) (HS9.out _ q9 q12 q14 q11) ?_
  repeat (first | (refine wpMg_soft (v := ?_) rfl rfl ?_ ?_; rotate_left; (focus (intro w' hS; go_simp; with_reducible rfl)); simp only [Act.put, List.setIfInBounds_toArray, List.set_cons_zero, List.set_cons_succ]) | (refine wpMg_off rfl rfl ?_; simp only [Act.put, List.setIfInBounds_toArray, List.set_cons_zero, List.set_cons_succ]))
  refine wpMg_hard rfl rfl ?_
  simp only [bare]
  go_wp2_with fail
  refine (qSame_calls (ssize y + 1) y y A4 A5 c4 c5 _ _ _ (by omega) (by omega) (by omega) (Rd.drew hE) (Rd.drew hF)).use fun v10 hv10 => ?_
  rw [sameS_refl y]
  replace hv10 := bl_undrew hv10
  replace q9 := bk_below q9 hv10; replace q10 := bk_below q10 hv10; replace q11 := bk_below q11 hv10; replace q12 := bk_below q12 hv10; replace q14 := bk_below q14 hv10; replace B := bl_self B hv10; replace hR1 := hR1.below hv10; replace hR2 := hR2.below hv10; replace hRx := hRx.below hv10; replace hE := hE.below hv10; replace hF := hF.below hv10; clear hv10
  go_wp2_with fail
  refine mgQ_normal (HS9.out _ q9 q12 q14 q11) ?_
  repeat (first | (refine wpMg_soft (v := ?_) rfl rfl ?_ ?_; rotate_left; (focus (intro w' hS; go_simp; with_reducible rfl)); simp only [Act.put, List.setIfInBounds_toArray, List.set_cons_zero, List.set_cons_succ]) | (refine wpMg_off rfl rfl ?_; simp only [Act.put, List.setIfInBounds_toArray, List.set_cons_zero, List.set_cons_succ]))
  refine wpMg_hard rfl rfl ?_
  simp only [bare]
  go_wp2_with fail
  refine (fits_calls x s Ax A1 cx c1 _ _ (fun _ => True) (by omega) (by omega) hRx).use fun v11 hv11 => ?_
  rw [HB2.out]
  replace q9 := bk_below q9 hv11; replace q10 := bk_below q10 hv11; replace q11 := bk_below q11 hv11; replace q12 := bk_below q12 hv11; replace q14 := bk_below q14 hv11; replace B := bl_self B hv11; replace hR1 := hR1.below hv11; replace hR2 := hR2.below hv11; replace hRx := hRx.below hv11; replace hE := hE.below hv11; replace hF := hF.below hv11; clear hv11
  go_wp2_with fail
  refine mgQ_normal (HS9.out _ q9 q12 q14 q11) ?_
  repeat (first | (refine wpMg_soft (v := ?_) rfl rfl ?_ ?_; rotate_left; (focus (intro w' hS; go_simp; with_reducible rfl)); simp only [Act.put, List.setIfInBounds_toArray, List.set_cons_zero, List.set_cons_succ]) | (refine wpMg_off rfl rfl ?_; simp only [Act.put, List.setIfInBounds_toArray, List.set_cons_zero, List.set_cons_succ]))
  refine wpMg_hard rfl rfl ?_
  simp only [bare]
  go_wp2_with fail
  refine (qFits_calls x s Ax A1 cx c1 _ _ (fun _ => True) (by omega) (by omega) hRx).use fun v12 hv12 => ?_
  rw [HB2.out]
  replace q9 := bk_below q9 hv12; replace q10 := bk_below q10 hv12; replace q11 := bk_below q11 hv12; replace q12 := bk_below q12 hv12; replace q14 := bk_below q14 hv12; replace B := bl_self B hv12; replace hR1 := hR1.below hv12; replace hR2 := hR2.below hv12; replace hRx := hRx.below hv12; replace hE := hE.below hv12; replace hF := hF.below hv12; clear hv12
  go_wp2_with fail
  refine mgQ_normal (HS9.out _ q9 q12 q14 q11) ?_
  repeat (first | (refine wpMg_soft (v := ?_) rfl rfl ?_ ?_; rotate_left; (focus (intro w' hS; go_simp; with_reducible rfl)); simp only [Act.put, List.setIfInBounds_toArray, List.set_cons_zero, List.set_cons_succ]) | (refine wpMg_off rfl rfl ?_; simp only [Act.put, List.setIfInBounds_toArray, List.set_cons_zero, List.set_cons_succ]))
  refine wpMg_hard rfl rfl ?_
  simp only [bare]
  go_wp2_with fail
  refine (awake_calls _).use fun v13 hv13 => ?_
  replace q9 := bk_below q9 hv13; replace q10 := bk_below q10 hv13; replace q11 := bk_below q11 hv13; replace q12 := bk_below q12 hv13; replace q14 := bk_below q14 hv13; replace B := bl_self B hv13; replace hR1 := hR1.below hv13; replace hR2 := hR2.below hv13; replace hRx := hRx.below hv13; replace hE := hE.below hv13; replace hF := hF.below hv13; clear hv13
  go_wp2_with fail
  refine mgQ_normal (HS9.out _ q9 q12 q14 q11) ?_
  repeat (first | (refine wpMg_soft (v := ?_) rfl rfl ?_ ?_; rotate_left; (focus (intro w' hS; go_simp; with_reducible rfl)); simp only [Act.put, List.setIfInBounds_toArray, List.set_cons_zero, List.set_cons_succ]) | (refine wpMg_off rfl rfl ?_; simp only [Act.put, List.setIfInBounds_toArray, List.set_cons_zero, List.set_cons_succ]))
  refine wpMg_done (NoPanic.normal ?_)
  go_wp2_with fail
  go_ret
  exact ⟨rfl, B⟩
end Go.Proofs.YtolooomphmcphaaDoor
