/- lfchecklaw07.spoilt: some simple type of a bounded size. -/
import Derived.Test.YtolooomphmcphaaDoorL1
import Derived.Test.YtolooomphmcphaaDoorT2b
import Derived.Test.YtolooomphmcphaaDoorT9
namespace Go.Proofs.YtolooomphmcphaaDoor
open Go.RowKit

theorem tape_fresh {w : World} {S : Nat → Prop} {A : Option Addr} {l : List Int} (c : Nat) (hl : l.length ≤ 9223372036854775807) (hr : Rd intK w S A l) :
    Tape (w.alloc (.cells #[.slice A l.length c, .int .i64 0] 34)) w.heap.size (fun b => S b ∧ b < w.heap.size) l :=
  ⟨fun h => absurd h.2 (by omega), A, c, l, 0, bk_new w _, Nat.zero_le _, hl, rfl, (hr.bound.below (bl_new w _)).mono fun b hb _ => ⟨hb.1, hb.2.lt⟩⟩
theorem bl_newrow {w w1 w2 : World} {g : Nat} (h : Below w.heap.size w w1) (k : w1.grownBy w2 (some g)) (hg : w.heap.size ≤ g) : Below w.heap.size w w2 := bl_grown h k (fun b hb => by cases hb; exact hg)
/-- the family of the first of a slice of simple types is turned -/
theorem Own.fam0 {e : TypeId} {B g n c : Nat} {w : World} {S : Nat → Prop} {x : Sm} {r : List Sm} (h : Own smK e B w S (.slice (some ⟨g, 0, none⟩) n c) (x :: r)) (nm : ByteArray) : Own smK e B (w.setCell ⟨g, 0, none⟩ (.string nm)) S (.slice (some ⟨g, 0, none⟩) n c) (.mk nm x.args :: r) := by
  obtain ⟨cs, h1, h2⟩ := h
  have h0 := h1.1
  rcases h1.2 with ⟨e1, _⟩ | ⟨g', cap, cur, e1, hb, hg, hnc, hcm, hcs, ht⟩
  · cases e1
  · cases e1
    obtain ⟨c0, c1, rfl, hx, hr⟩ := h2
    obtain ⟨A, k, rfl, hk, hR⟩ := smK_open hx
    have key : ∀ b, (S b ∧ Live w b ∧ Value.ownBlock (.slice (some ⟨g, 0, none⟩) (x :: r).length c) ≠ some b) → (w.setCell ⟨g, 0, none⟩ (.string nm)).heap[b]? = w.heap[b]? := fun b hb => Below.heap_setCell _ _ _ b (fun he => hb.2.2 (by simp only [] at he; rw [he]; rfl))
    have key2 : ∀ b, (S b ∧ Live w b ∧ Value.ownBlock (.slice (some ⟨g, 0, none⟩) (x :: r).length c) ≠ some b) → (S b ∧ Live (w.setCell ⟨g, 0, none⟩ (.string nm)) b ∧ Value.ownBlock (.slice (some ⟨g, 0, none⟩) (x :: r).length c) ≠ some b) := fun b hb => by
      refine ⟨hb.1, ?_, hb.2.2⟩
      obtain ⟨cc, t, f, hh⟩ := hb.2.1
      exact ⟨cc, t, f, (key b hb).trans hh⟩
    refine ⟨[.string nm, .slice A x.args.length k] ++ c1, ⟨by simpa using h0, .inr ⟨g, c, _, rfl, hb, bk_set hg 0 _, hnc, hcm, by simpa using hcs, ?_⟩⟩, ⟨_, c1, rfl, smK_mk hk (hR.move (fun b hb _ => key b hb) (fun b hb _ => key2 b hb)), hr.imp fun y d hd => smK.move (fun b hb _ => key b hb) (fun b hb _ => key2 b hb) hd⟩⟩
    simp only [Array.toList_setIfInBounds, List.length_cons] at ht ⊢
    rw [List.take_set, ht]
    rfl
theorem Own.sm0 {e : TypeId} {B n c : Nat} {w : World} {S : Nat → Prop} {A : Option Addr} {xs : List Sm} (h : Own smK e B w S (.slice A n c) xs) (hx : 0 < xs.length) : ∃ g nm, A = some ⟨g, 0, none⟩ ∧ B ≤ g ∧ g < w.heap.size ∧ (∀ i, w.frozen? ⟨g, i, none⟩ = false) ∧ w.cell? ⟨g, 0, none⟩ = some (.string nm) := by
  obtain ⟨cs, h1, h2⟩ := h
  rcases h1.2 with ⟨e1, h3⟩ | ⟨g, cap, cur, e1, hb, hg, hc, hm', hs, ht⟩
  · omega
  · cases e1
    obtain ⟨x, r, rfl⟩ : ∃ x r, xs = x :: r := by cases xs; simp at hx; exact ⟨_, _, rfl⟩
    obtain ⟨c0, c1, rfl, hx, hr⟩ := h2
    obtain ⟨A, k, rfl, hk, hR⟩ := smK_open hx
    have := h1.cells (g := g) rfl 0 _ rfl
    rw [add0] at this
    exact ⟨g, _, rfl, hb, bk_lt hg, fun i => bk_free hg i, this⟩
theorem cut_natS (x : Int) (n : Nat) (hn : 0 < n) : ∃ j : Nat, cutN x n = j ∧ j < n := by
  have h0 := cutN_nonneg x (n := (n : Int)) (by omega)
  have h1 := cutN_lt x (n := (n : Int)) (by omega)
  exact ⟨(cutN x n).toNat, by omega, by omega⟩
theorem Own.alloc_free {α : Type} {d : EK α} {e : TypeId} {B n c g : Nat} {w : World} {S : Nat → Prop} {A : Option Addr} {xs : List α} (h : Own d e B w S (.slice A n c) xs) (o : Obj) (hA : A = some ⟨g, 0, none⟩) : (w.alloc o).frozen? ⟨g, 0, none⟩ = false := by
  obtain ⟨cs, h1, h2⟩ := h.alloc o
  subst hA
  rcases h1.2 with ⟨e1, h3⟩ | ⟨g', cap, cur, e1, hb, hg, hc, hm', hs, ht⟩
  · cases e1
  · cases e1
    exact bk_free hg 0
def SpS (w : World) (e : Ending) (w' : World) : Prop :=
  ∃ s A c, e = .returned (smV s A c) ∧ s.args.length ≤ c ∧ Rd smK w' (fun b => w.heap.size ≤ b) A s.args ∧ ssize s ≤ 15 ∧ Below w.heap.size w w'
theorem SpS.use {P : Program} {f : FuncId} {args : Array Value} {w : World} {R : Ending → World → Prop} (h : Calls P f args w (SpS w))
    (k : ∀ w' s A c, s.args.length ≤ c → Rd smK w' (fun b => w.heap.size ≤ b) A s.args → ssize s ≤ 15 → Below w.heap.size w w' → R (.returned (smV s A c)) w') : Calls P f args w R :=
  h.mono (by rintro e w' ⟨s, A, c, rfl, hc, hr, hs, hb⟩; exact k w' s A c hc hr hs hb)
set_option maxRecDepth 100000 in
set_option maxHeartbeats 1000000 in
theorem spoilt_calls (l : List Int) (A : Option Addr) (c : Nat) (n0 n1 : Int) (w : World) (S : Nat → Prop) (hl : l.length ≤ 9223372036854775807) (hr : Rd intK w S A l) :
    Calls Tryd.prog 7 #[.slice A l.length c, .agg #[.int .i64 n0, .int .i64 n1]] w (SpS w) := by
  have q3 := bk_alloc (bk_alloc (bk_new w (.cells #[.int .i64 n0, .int .i64 n1] 23)) (.cells #[.string ⟨#[]⟩, .slice none 0 0] 26)) (.cells #[.slice A l.length c, .int .i64 0] 34)
  have q4 := bk_alloc (bk_at (w := w.alloc (.cells #[.int .i64 n0, .int .i64 n1] 23)) (n := w.heap.size + 1) (by simp) (.cells #[.string ⟨#[]⟩, .slice none 0 0] 26)) (.cells #[.slice A l.length c, .int .i64 0] 34)
  have B := bl_alloc (bl_alloc (bl_new w (.cells #[.int .i64 n0, .int .i64 n1] 23)) (.cells #[.string ⟨#[]⟩, .slice none 0 0] 26)) (.cells #[.slice A l.length c, .int .i64 0] 34)
  have hT := tape_fresh (w := (w.alloc (.cells #[.int .i64 n0, .int .i64 n1] 23)).alloc (.cells #[.string ⟨#[]⟩, .slice none 0 0] 26)) c hl (hr.below (bl_alloc (bl_new w (.cells #[.int .i64 n0, .int .i64 n1] 23)) (.cells #[.string ⟨#[]⟩, .slice none 0 0] 26)))
  rw [show ((w.alloc (.cells #[.int .i64 n0, .int .i64 n1] 23)).alloc (.cells #[.string ⟨#[]⟩, .slice none 0 0] 26)).heap.size = w.heap.size + 1 + 1 by simp] at hT
  have HM := Lib.hid (mkSo_calls 2 _ l _ _ (by omega) hT)
  have hss := mkS_size 3 l
  generalize (mkS 3 l) = p at hss HM
  obtain ⟨s, T'⟩ := p
  simp only at hss
  clear hT
  go_enter Tryd.func7, Tryd.ntmps7
  go_wp2_with fail
  refine Calls.mono HM.out ?_
  clear HM
  rintro e w1 ⟨A1, c1, rfl, hO, -, hG⟩
  replace q3 := bk_grown q3 hG (by first | (simp; done) | (simp; omega))
  replace q4 := bk_grown q4 hG (by first | (simp; done) | (simp; omega))
  replace B := bl_newrow B hG (by omega)
  have hs1 : w.heap.size + 3 ≤ w1.heap.size := by have := hG.size; simp at this; omega
  replace hO : Own smK 26 (w.heap.size + 3) w1 (fun b => w.heap.size + 3 ≤ b) (.slice A1 s.args.length c1) s.args := by simpa using hO
  clear hG
  have q5 := bk_new w1 (.cells #[.string s.fam, .slice A1 s.args.length c1] 26)
  replace q3 := bk_alloc q3 (.cells #[.string s.fam, .slice A1 s.args.length c1] 26)
  replace q4 := bk_alloc q4 (.cells #[.string s.fam, .slice A1 s.args.length c1] 26)
  replace B := bl_alloc B (.cells #[.string s.fam, .slice A1 s.args.length c1] 26)
  have hgb : ∀ g, Value.ownBlock (.slice A1 s.args.length c1) = some g → w.heap.size + 3 ≤ g ∧ g < w1.heap.size := hO.block
  replace hO := (hO.mono (S' := fun b => w.heap.size + 3 ≤ b ∧ b < w1.heap.size) (fun b hb hl => ⟨hb, hl.lt⟩)).alloc (.cells #[.string s.fam, .slice A1 s.args.length c1] 26)
  have hsw : w1.heap.size + 1 ≤ (w1.alloc (.cells #[.string s.fam, .slice A1 s.args.length c1] 26)).heap.size := by simp
  replace hsw := Lib.hid hsw
  generalize hw2 : w1.alloc (.cells #[.string s.fam, .slice A1 s.args.length c1] 26) = w2 at *
  obtain ⟨a0, a1⟩ := bx2 q3
  go_wp2_with fail
  refine (cut_same _ _ _ (by omega) (by omega)).mono ?_
  rintro e w' ⟨rfl, hw⟩
  replace hw := hw.symm
  subst hw
  generalize cutN n0 4 = k0
  cases ha : decide (0 < k0)
  · obtain ⟨b0, b1⟩ := bx2 q5
    obtain ⟨U, HU⟩ : ∃ U, Hid ((decide (0 < s.args.length) && (cutN n1 2 == 0)) = U) := ⟨_, Lib.hid rfl⟩
    go_upto_region 4 with (fail)
    go_cut [24] (fun s24 w' => s24 = .bool U ∧ w2 = w')
    case first =>
      cases a1' : decide (0 < s.args.length)
      · go_wp2_with fail
        go_meet
        exact ⟨by rw [← HU.out, a1']; rfl, rfl⟩
      · go_wp2_with fail
        refine (cut_same _ _ _ (by omega) (by omega)).mono ?_
        rintro e w' ⟨rfl, hw⟩
        replace hw := hw.symm
        subst hw
        replace HU : Hid ((true && (cutN n1 2 == 0)) = U) := Lib.hid (by rw [← HU.out, a1'])
        generalize cutN n1 2 = k at *
        cases a2 : (k == 0)
        all_goals
          go_wp2_with fail
          go_meet
          exact ⟨by rw [← HU.out, a2]; rfl, rfl⟩
    case rest =>
    obtain ⟨rfl, rfl⟩ := hcut
    cases hU : U
    · clear hU HU
      have q6 := bk_new w2 (.cells #[.string ⟨#[]⟩, .string ⟨#[64, 120]⟩, .string ⟨#[95]⟩, .string ⟨#[116, 121, 112, 101]⟩] 9)
      have p3 := bk_alloc q3 (.cells #[.string ⟨#[]⟩, .string ⟨#[64, 120]⟩, .string ⟨#[95]⟩, .string ⟨#[116, 121, 112, 101]⟩] 9)
      have p4 := bk_alloc q4 (.cells #[.string ⟨#[]⟩, .string ⟨#[64, 120]⟩, .string ⟨#[95]⟩, .string ⟨#[116, 121, 112, 101]⟩] 9)
      have p5 := bk_alloc q5 (.cells #[.string ⟨#[]⟩, .string ⟨#[64, 120]⟩, .string ⟨#[95]⟩, .string ⟨#[116, 121, 112, 101]⟩] 9)
      have pB := bl_alloc B (.cells #[.string ⟨#[]⟩, .string ⟨#[64, 120]⟩, .string ⟨#[95]⟩, .string ⟨#[116, 121, 112, 101]⟩] 9)
      have pO := hO.alloc (.cells #[.string ⟨#[]⟩, .string ⟨#[64, 120]⟩, .string ⟨#[95]⟩, .string ⟨#[116, 121, 112, 101]⟩] 9)
      obtain ⟨e0, e1⟩ := bx2 p3
      go_wp2_with fail
      refine (cut_same _ _ _ (by omega) (by omega)).mono ?_
      rintro e w' ⟨rfl, hw⟩
      replace hw := hw.symm
      subst hw
      obtain ⟨j, hj, hjn⟩ := cut_natS (wrap64 (n1.tdiv 2)) 4 (by omega)
      rw [show ((4 : Nat) : Int) = 4 from rfl] at hj
      rw [hj]
      clear hj
      have hv : ∃ v : ByteArray, #[Value.string ⟨#[]⟩, .string ⟨#[64, 120]⟩, .string ⟨#[95]⟩, .string ⟨#[116, 121, 112, 101]⟩][j]? = some (.string v) := by
        rcases j with _ | _ | _ | _ | j
        · exact ⟨_, rfl⟩
        · exact ⟨_, rfl⟩
        · exact ⟨_, rfl⟩
        · exact ⟨_, rfl⟩
        · omega
      obtain ⟨v, hv⟩ := hv
      have cj := bk_cell q6 j hv
      clear hv q6
      obtain ⟨d0, d1⟩ := bx2 p5
      have y0 := bk_free p5 0
      have hne : w.heap.size + 1 ≠ w1.heap.size := by omega
      have r4 := bk_far (p := ⟨w1.heap.size, 0, none⟩) p4 hne (.string v)
      have r5 := bk_set p5 0 (.string v)
      obtain ⟨x0, x1⟩ := bx2 r4
      have z0 := bk_free r4 0
      have z1 := bk_free r4 1
      obtain ⟨hc1, hR1⟩ := pO.readx (S' := fun b => w.heap.size + 3 ≤ b ∧ b < w1.heap.size) (fun b hb he => ⟨hb, (hgb b he).2⟩) (fun b hb => hb)
      go_wp2_with fail
      refine bodyPost_ret (res_simple rfl rfl (set2_self r4)) rfl ⟨.mk v s.args, A1, c1, rfl, hc1, ((hR1.setc (p := ⟨w1.heap.size, 0, none⟩) (fun b hb => by show b ≠ w1.heap.size; omega) (.string v)).set2 (fun b hb => by omega)).mono (fun b hb _ => by omega), ?_, bl_set2 (bl_set pB (by show w.heap.size ≤ w1.heap.size; omega) _) (by omega)⟩
      have := ssize_eq s
      simp only [ssize]
      omega
    · have hl0 : 0 < s.args.length := by
        have hU2 : (decide (0 < s.args.length) && (cutN n1 2 == 0)) = true := by rw [HU.out, hU]
        exact of_decide_eq_true ((Bool.and_eq_true _ _).mp hU2).1
      clear hU HU
      obtain ⟨g, nm0, rfl, hgB, hgl, hgf, hgc⟩ := hO.sm0 hl0
      have hg1 := (hgb g rfl).2
      obtain ⟨x, r, hxr⟩ : ∃ x r, s.args = x :: r := by cases h : s.args; (rw [h] at hl0; simp at hl0); exact ⟨_, _, rfl⟩
      have HS : Hid (∀ w' : World, Below w2.heap.size w2 w' → w'.cell? ⟨w1.heap.size, 1, none⟩ = some (.slice (some ⟨g, 0, none⟩) s.args.length c1) ∧ w'.cell? ⟨w.heap.size, 1, none⟩ = some (.int .i64 n1)) := Lib.hid fun W h => ⟨cl_below b1 h, cl_below a1 h⟩
      go_upto_region 5 with (fail)
      go_cut [] (fun w' => ∃ nm, w'.heap[w.heap.size + 1]? = some (.cells #[.string ⟨#[]⟩, .slice none 0 0] 26 (0, 0)) ∧ w'.heap[w1.heap.size]? = some (.cells #[.string s.fam, .slice (some ⟨g, 0, none⟩) s.args.length c1] 26 (0, 0)) ∧ Own smK 26 (w.heap.size + 3) w' (fun b => w.heap.size + 3 ≤ b ∧ b < w1.heap.size) (.slice (some ⟨g, 0, none⟩) s.args.length c1) (.mk nm x.args :: r) ∧ Below w.heap.size w w')
      case first =>
        refine wp_region_fork (fun w' => w'.cell? ⟨w1.heap.size, 1, none⟩ = some (.slice (some ⟨g, 0, none⟩) s.args.length c1) ∧ w'.cell? ⟨w.heap.size, 1, none⟩ = some (.int .i64 n1))
          [(true, 0), (true, 1), (true, 3), (true, 4), (true, 5)] [(false, 2), (false, 6), (true, 7), (false, 8), (true, 9), (true, 10), (false, 11)] [(false, 6), (false, 2), (true, 7), (false, 8), (true, 9), (true, 10), (false, 11)] (by kernel_rfl) (by kernel_rfl) (HS.out _ (bl_drew _ _)) ?_
        repeat (refine wpMix_soft (v := ?_) rfl rfl ?_ ?_; rotate_left; (focus (intro w' hS; go_simp; with_reducible rfl)); simp only [Act.put, List.setIfInBounds_toArray, List.set_cons_zero, List.set_cons_succ])
        obtain ⟨j, hj, hjn⟩ := cut_natS (wrap64 (n1.tdiv 2)) 3 (by omega)
        rw [show ((3 : Nat) : Int) = 3 from rfl] at hj
        have HJ := Lib.hid hj
        clear hj
        have hv : ∃ v : ByteArray, #[Value.string ⟨#[]⟩, .string ⟨#[97, 32, 98]⟩, .string ⟨#[45, 62]⟩][j]? = some (.string v) := by
          rcases j with _ | _ | _ | j
          · exact ⟨_, rfl⟩
          · exact ⟨_, rfl⟩
          · exact ⟨_, rfl⟩
          · omega
        obtain ⟨v, hv⟩ := hv

        have q6 := bk_new w2 (.cells #[.string ⟨#[]⟩, .string ⟨#[97, 32, 98]⟩, .string ⟨#[45, 62]⟩] 9)
        have cj := bk_cell q6 j hv
        have d0 := cl_below hgc (bl_new w2 (.cells #[.string ⟨#[]⟩, .string ⟨#[97, 32, 98]⟩, .string ⟨#[45, 62]⟩] 9))
        have hfz : (w2.alloc (.cells #[.string ⟨#[]⟩, .string ⟨#[97, 32, 98]⟩, .string ⟨#[45, 62]⟩] 9)).frozen? ⟨g, 0, none⟩ = false := hO.alloc_free (.cells #[.string ⟨#[]⟩, .string ⟨#[97, 32, 98]⟩, .string ⟨#[45, 62]⟩] 9) rfl
        have hj3 : (j : Int) < 3 := by omega
        have hOx : Own smK 26 (w.heap.size + 3) w2 (fun b => w.heap.size + 3 ≤ b ∧ b < w1.heap.size) (.slice (some ⟨g, 0, none⟩) s.args.length c1) (x :: r) := by rw [← hxr]; exact hO
        have R3 := bk_alloc (bk_far (p := ⟨g, 0, none⟩) q3 (by show w.heap.size ≠ g; omega) (.string v)) (.cells #[.string ⟨#[]⟩, .string ⟨#[97, 32, 98]⟩, .string ⟨#[45, 62]⟩] 9)
        have R4 := bk_alloc (bk_far (p := ⟨g, 0, none⟩) q4 (by show w.heap.size + 1 ≠ g; omega) (.string v)) (.cells #[.string ⟨#[]⟩, .string ⟨#[97, 32, 98]⟩, .string ⟨#[45, 62]⟩] 9)
        have R5 := bk_alloc (bk_far (p := ⟨g, 0, none⟩) q5 (by show w1.heap.size ≠ g; omega) (.string v)) (.cells #[.string ⟨#[]⟩, .string ⟨#[97, 32, 98]⟩, .string ⟨#[45, 62]⟩] 9)
        have RO := ((hOx.fam0 v).alloc (.cells #[.string ⟨#[]⟩, .string ⟨#[97, 32, 98]⟩, .string ⟨#[45, 62]⟩] 9)).drew
        have RB := bl_self (bl_alloc (bl_set (p := ⟨g, 0, none⟩) B (by show w.heap.size ≤ g; omega) (.string v)) (.cells #[.string ⟨#[]⟩, .string ⟨#[97, 32, 98]⟩, .string ⟨#[45, 62]⟩] 9)) (bl_drew _ _)
        refine forkQ_normal ?_ ?_
        · refine wpMix_hard rfl rfl ?_
          go_wp2_with fail
          refine mixQ_normal (HS.out _ (bl_self (bl_new w2 (.cells #[.string ⟨#[]⟩, .string ⟨#[97, 32, 98]⟩, .string ⟨#[45, 62]⟩] 9)) (bl_drew _ _))) ?_
          refine wpMix_hard rfl rfl ?_
          go_wp2_with fail
          refine (cut_same _ _ _ (by omega) (by omega)).mono ?_
          rintro e w' ⟨rfl, hw⟩
          replace hw := hw.symm
          subst hw
          rw [HJ.out]
          go_wp2_with fail
          refine mixQ_normal (HS.out _ (bl_self (bl_new w2 (.cells #[.string ⟨#[]⟩, .string ⟨#[97, 32, 98]⟩, .string ⟨#[45, 62]⟩] 9)) (bl_drew _ _))) ?_
          try simp only [Act.put, List.setIfInBounds_toArray, List.set_cons_zero, List.set_cons_succ]
          repeat (refine wpMix_soft (v := ?_) rfl rfl ?_ ?_; rotate_left; (focus (intro w' hS; go_simp; with_reducible rfl)); simp only [Act.put, List.setIfInBounds_toArray, List.set_cons_zero, List.set_cons_succ])
          refine wpMix_hard rfl rfl ?_
          go_wp2_with fail
          refine mixQ_normal (HS.out _ (bl_self (bl_new w2 (.cells #[.string ⟨#[]⟩, .string ⟨#[97, 32, 98]⟩, .string ⟨#[45, 62]⟩] 9)) (bl_drew _ _))) ?_
          try simp only [Act.put, List.setIfInBounds_toArray, List.set_cons_zero, List.set_cons_succ]
          repeat (refine wpMix_soft (v := ?_) rfl rfl ?_ ?_; rotate_left; (focus (intro w' hS; go_simp; with_reducible rfl)); simp only [Act.put, List.setIfInBounds_toArray, List.set_cons_zero, List.set_cons_succ])
          refine wpMix_hard rfl rfl ?_
          go_wp2_with fail
          refine mixQ_normal ⟨(bx2 R5).2, (bx2 R3).2⟩ ?_
          refine wpMix_done (NoPanic.normal ?_)
          go_wp2_with fail
          go_meet
          exact ⟨v, R4, R5, RO, RB⟩
        · refine wpMix_hard rfl rfl ?_
          go_wp2_with fail
          refine (cut_same _ _ _ (by omega) (by omega)).mono ?_
          rintro e w' ⟨rfl, hw⟩
          replace hw := hw.symm
          subst hw
          rw [HJ.out]
          go_wp2_with fail
          refine mixQ_normal (HS.out _ (bl_drew _ _)) ?_
          refine wpMix_hard rfl rfl ?_
          go_wp2_with fail
          refine mixQ_normal (HS.out _ (bl_self (bl_new w2 (.cells #[.string ⟨#[]⟩, .string ⟨#[97, 32, 98]⟩, .string ⟨#[45, 62]⟩] 9)) (bl_drew _ _))) ?_
          try simp only [Act.put, List.setIfInBounds_toArray, List.set_cons_zero, List.set_cons_succ]
          repeat (refine wpMix_soft (v := ?_) rfl rfl ?_ ?_; rotate_left; (focus (intro w' hS; go_simp; with_reducible rfl)); simp only [Act.put, List.setIfInBounds_toArray, List.set_cons_zero, List.set_cons_succ])
          refine wpMix_hard rfl rfl ?_
          go_wp2_with fail
          refine mixQ_normal (HS.out _ (bl_self (bl_new w2 (.cells #[.string ⟨#[]⟩, .string ⟨#[97, 32, 98]⟩, .string ⟨#[45, 62]⟩] 9)) (bl_drew _ _))) ?_
          try simp only [Act.put, List.setIfInBounds_toArray, List.set_cons_zero, List.set_cons_succ]
          repeat (refine wpMix_soft (v := ?_) rfl rfl ?_ ?_; rotate_left; (focus (intro w' hS; go_simp; with_reducible rfl)); simp only [Act.put, List.setIfInBounds_toArray, List.set_cons_zero, List.set_cons_succ])
          refine wpMix_hard rfl rfl ?_
          go_wp2_with fail
          refine mixQ_normal ⟨(bx2 R5).2, (bx2 R3).2⟩ ?_
          refine wpMix_done (NoPanic.normal ?_)
          go_wp2_with fail
          go_meet
          exact ⟨v, R4, R5, RO, RB⟩
      case rest =>
      clear q4 q5 b0 b1 a0 a1 q3 hgc B hO
      obtain ⟨nm, q4, q5, hO, B⟩ := hcut
      obtain ⟨x0, x1⟩ := bx2 q4
      obtain ⟨b0, b1⟩ := bx2 q5
      have z0 := bk_free q4 0
      have z1 := bk_free q4 1
      have hlx : s.args.length = (Sm.mk nm x.args :: r).length := by rw [hxr]; rfl
      obtain ⟨hc1, hR1⟩ := hO.readx (S' := fun b => w.heap.size + 3 ≤ b) (fun b hb _ => hb) (fun b hb => hb.1)
      have hsx := ssize_eq s
      rw [hxr] at hsx
      go_wp2_with fail
      refine bodyPost_ret (res_simple rfl rfl (set2_self q4)) rfl ⟨.mk s.fam (.mk nm x.args :: r), some ⟨g, 0, none⟩, c1, rfl, hc1, (hR1.set2 (fun b hb => by omega)).mono (fun b hb _ => by omega), ?_, bl_set2 B (by omega)⟩
      have := ssize_eq x
      simp only [ssize, ssizes] at hsx ⊢
      omega
  · obtain ⟨hc1, hR1⟩ := hO.readx (S' := fun b => w.heap.size + 3 ≤ b) (fun b hb _ => hb) (fun b hb => hb.1)
    obtain ⟨x0, x1⟩ := bx2 q4
    obtain ⟨b0, b1⟩ := bx2 q5
    have z0 := bk_free q4 0
    have z1 := bk_free q4 1
    go_wp2_with fail
    refine bodyPost_ret (res_simple rfl rfl (set2_self q4)) rfl ⟨s, A1, c1, rfl, hc1, (hR1.set2 (fun b hb => by omega)).mono (fun b hb _ => by omega), hss, bl_set2 B (by omega)⟩
end Go.Proofs.YtolooomphmcphaaDoor
