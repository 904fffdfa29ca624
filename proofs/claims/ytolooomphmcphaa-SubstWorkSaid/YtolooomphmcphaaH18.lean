/- Shows what lfchecklaw08.SubstWork answers for every number: true. -/
import Derived.Test.YtolooomphmcphaaH16
import Derived.Test.YtolooomphmcphaaH17
import Derived.Test.YtolooomphmcphaaT1
import Derived.Test.YtolooomphmcphaaR6
namespace Go.Proofs.Ytolooomphmcphaa
open Go.RowKit

mutual
theorem sameT_self : ∀ t : Tm, sameT t t = true
  | .mk k s i a => by simp [sameT, Tm.kind, Tm.idx, Tm.name, Tm.args, sameTs_self a]
theorem sameTs_self : ∀ a : List Tm, sameTs a a = true
  | [] => rfl
  | t :: r => by simp [sameTs, sameT_self t, sameTs_self r]
end
theorem xs_small : ∀ k < 42, tsize (xsT k) < 1000000000 := by decide +kernel
theorem many_small (k : Nat) (h : k < 42) : tsize (manyR (xsT k) [dbT] [fS]).2 < 1000000000 := by
  have h1 := forms_steps k h
  rw [manyR, if_neg (fun hh => hh h1), if_neg (fun hh => hh rfl), db_obj, if_pos rfl]
  have h2 := sub_steps k 262145 0 (by omega) (by omega)
  by_cases hk : 11 < k
  · have h3 := h2.2 hk
    show tsize (runT (subT 262145 0 (xsT k) [dbT] [fS] 0)) < _
    rw [runT, if_neg (by rw [h3]; decide)]
    decide
  · have h3 := h2.1 (by omega)
    have h4 := dT_small (show k ≤ 11 by omega)
    show tsize (runT (subT 262145 0 (xsT k) [dbT] [fS] 0)) < _
    rw [h3, runT, if_pos rfl]
    show tsize (dT k) < _
    omega
set_option maxRecDepth 100000 in
set_option maxHeartbeats 4000000 in
theorem substWork_calls (x : Int) (w : World) : Giv Try.prog 6 #[.int .i64 x] w (.bool true) := by
  obtain ⟨n, hn⟩ : ∃ n : Nat, (n : Int) = cutN x 40 := ⟨(cutN x 40).toNat, Int.toNat_of_nonneg (cutN_nonneg x (by decide))⟩
  have hn1 : n < 40 := by have := cutN_lt x (n := 40) (by decide); omega
  have hC := cut_same x 40 w (by decide) (by decide)
  rw [← hn] at hC
  have HC := Lib.hid hC
  clear hC hn
  go_enter Try.func6, Try.ntmps6
  go_wp2_with (go_at_call 8; refine HC.out.mono ?_; rintro e w1 ⟨rfl, rfl⟩)
  clear HC
  have hA := Rd.one (d := smK) (e := 25) (S' := fun b => b ≠ w1.heap.size + 1 + 1 + 1) (w := w1.alloc (.cells #[.string ⟨#[110, 97, 116]⟩, .slice none 0 0] 25)) (smK_of natS (c := 0) (A := none) (Nat.le_refl _) (Rd.nil smK _ (fun b => b ≠ w1.heap.size + 1 + 1 + 1) _)) (fun _ h => h) (by simp)
  have hA1 := (hA.below (bl_new _ (.cells #[.string ⟨#[110, 97, 116]⟩, .slice (some ⟨w1.heap.size + 1, 0, none⟩) 1 1] 25))).below (bl_new _ (.cells #[.int .i64 4, .string ⟨#[99]⟩, .int .i64 0, .slice none 0 0] 33))
  simp only [World.size_alloc] at hA1
  clear hA
  go_loopw [7] (fun i w' => ∃ (j : Nat) (A : Option Addr) (c : Nat), j ≤ n + 2 ∧ i = .int .i64 j ∧ w'.heap[w1.heap.size + 1 + 1]? = some (.cells #[.string ⟨#[110, 97, 116]⟩, .slice (some ⟨w1.heap.size + 1, 0, none⟩) 1 1] 25 (0, 0)) ∧
      Rd smK w' (fun b => b ≠ w1.heap.size + 1 + 1 + 1) (some ⟨w1.heap.size + 1, 0, none⟩) [natS] ∧ w'.heap[w1.heap.size + 1 + 1 + 1]? = some (.cells (tmB (xsT j) A c) 33 (0, 0)) ∧ (xsT j).args.length ≤ c ∧ Rd tmK w' (fun b => b ≠ w1.heap.size + 1 + 1 + 1) A (xsT j).args ∧ Below w1.heap.size w1 w') (fun i _ => n + 2 - (intOf i).toNat)
  case atStart =>
    refine ⟨0, none, 0, by omega, rfl, ?_, hA1, bk_at (by simp) _, Nat.le_refl _, Rd.nil _ _ _ _, bl_alloc (bl_alloc (bl_alloc (bl_new w1 _) _) _) _⟩
    exact bk_alloc (bk_at (by simp) _) _
  case round =>
    clear hA1
    obtain ⟨j, A, c, hj, rfl, p5, RS, p6, hc, RX, B⟩ := hrel
    have lg5 := Lib.hid (bk_lt p5)
    have lg6 := Lib.hid (bk_lt p6)
    by_cases hlt : j < n + 2
    · have H1 : Hid ((j : Int) < 2 + (n : Int)) := Lib.hid (by omega)
      have q5 := bk_alloc p5 (.cells (tmB (xsT j) A c) 33)
      have q6 := bk_alloc p6 (.cells (tmB (xsT j) A c) 33)
      obtain ⟨y0, y1, y2, y3⟩ := bx4 p6
      obtain ⟨x0, x1, x2, x3⟩ := bx4 q6
      have z0 := bk_free q6 0
      have z1 := bk_free q6 1
      have z2 := bk_free q6 2
      have z3 := bk_free q6 3
      have y4 := bk_free p6 0
      have y5 := bk_free p6 1
      have y6 := bk_free p6 2
      have y7 := bk_free p6 3
      have hRz := Rd.one (e := 33) (S' := fun b => b ≠ w1.heap.size + 1 + 1 + 1) (tmK_of (xsT j) hc RX) (fun _ h => h) (by have := lg6.out; omega)
      replace RS := RS.below (bl_new wr (.cells (tmB (xsT j) A c) 33))
      have hb1 := H1.out
      go_wp2_with fail
      go_roundw
      case rel => exact ⟨j + 1, some ⟨wr.heap.size, 0, none⟩, 1, by omega, by go_num, (set4_far (by omega)).trans q5, RS.set4 (fun b hb => hb), set4_self q6, Nat.le_refl _, hRz.set4 (fun b hb => hb), bl_set4 (bl_alloc B _) (by omega)⟩
      case measure => simp [intOf]; omega
    · obtain rfl : j = n + 2 := by omega
      have hbn : ¬ (((n + 2 : Nat) : Int) < 2 + (n : Int)) := by omega
      have hk : n + 2 < 42 := by omega
      obtain ⟨w2, rfl⟩ : ∃ w2, w2 = wr := ⟨_, rfl⟩
      have s1 := xs_small (n + 2) hk
      have s2 := many_small (n + 2) hk
      have hL := work_law (n + 2) hk
      have RB := Rd.two (w := w2.alloc (.cells #[.int .i64 5, .string ⟨#[]⟩, .int .i64 0, .slice none 0 0] 33)) (d := tmK) (e := 33) (S' := fun _ => True) (tmK_of v0T (c := 0) (A := none) (Nat.le_refl _) (Rd.nil tmK _ (fun _ => True) _)) (tmK_of v0T (c := 0) (A := none) (Nat.le_refl _) (Rd.nil tmK _ (fun _ => True) _)) (fun _ _ => trivial) trivial
      have RM := Rd.one (d := tmK) (e := 33) (S' := fun _ => True) (tmK_of bdT (c := 2) (Nat.le_refl _) RB) (fun _ _ => trivial) trivial
      simp only [World.size_alloc] at RM
      go_upto_region 10 with (fail)
      go_cut [9] (fun s9 wc => ∃ g a : Nat, s9 = .pointer (some ⟨g, 0, none⟩) ∧ wc.heap[g]? = some (.cells (tmB dbT (some ⟨a, 0, none⟩) 1) 33 (0, 0)) ∧ Rd tmK wc (fun _ => True) (some ⟨a, 0, none⟩) dbT.args ∧ Below w2.heap.size w2 wc)
      case first =>
        go_wp2_with fail
        go_meet
        refine ⟨_, w2.heap.size + 1 + 1, rfl, bk_at (by simp) _, RM.below (bl_new _ _), ?_⟩
        exact bl_alloc (bl_alloc (bl_alloc (bl_new w2 _) _) _) _
      case rest =>
      obtain ⟨g, a, rfl, p9, RD, B2⟩ := hcut
      clear RB RM
      replace B := bl_self B B2
      replace p5 := bk_below p5 B2
      replace p6 := bk_below p6 B2
      replace RS := RS.below B2
      replace RX := RX.below B2
      clear B2 lg5 lg6
      obtain ⟨R, HR⟩ : ∃ R, Hid (manyR (xsT (n + 2)) [dbT] [fS] = R) := ⟨_, Lib.hid rfl⟩
      rw [HR.out] at s2 hL
      have h1 := subst_calls (xsT (n + 2)) dbT fS A (some ⟨a, 0, none⟩) (some ⟨w1.heap.size + 1, 0, none⟩) c 1 1 wc _ _ _ s1 (by decide +kernel) (by decide +kernel) hc RX (Nat.le_refl _) RD (Nat.le_refl _) RS
      rw [HR.out] at h1
      have H1 := Lib.hid h1
      clear h1
      obtain ⟨x0, x1⟩ := bx2 p5
      obtain ⟨y0, y1, y2, y3⟩ := bx4 p6
      obtain ⟨z0, z1, z2, z3⟩ := bx4 p9
      go_upto_region 12 with (go_at_call 19; refine H1.out.use fun w3 A1 c1 hc1 hR1 hb1 => ?_)
      clear H1 x0 x1 y0 y1 y2 y3 z0 z1 z2 z3
      replace B := bl_self B hb1
      replace p5 := bk_below p5 hb1
      replace p6 := bk_below p6 hb1
      replace p9 := bk_below p9 hb1
      replace RS := RS.below hb1
      replace RX := RX.below hb1
      replace RD := RD.below hb1
      clear hb1
      have p10 := bk_new w3 (.cells (tmB R.2 A1 c1) 33); replace p5 := bk_alloc p5 (.cells (tmB R.2 A1 c1) 33); replace p6 := bk_alloc p6 (.cells (tmB R.2 A1 c1) 33); replace p9 := bk_alloc p9 (.cells (tmB R.2 A1 c1) 33); replace B := bl_alloc B (.cells (tmB R.2 A1 c1) 33); replace RS := RS.below (bl_new w3 (.cells (tmB R.2 A1 c1) 33)); replace RX := RX.below (bl_new w3 (.cells (tmB R.2 A1 c1) 33)); replace RD := RD.below (bl_new w3 (.cells (tmB R.2 A1 c1) 33)); replace hR1 := hR1.below (bl_new w3 (.cells (tmB R.2 A1 c1) 33))
      generalize w3.alloc (.cells (tmB R.2 A1 c1) 33) = w4 at *
      have h2 := refSubst_calls (xsT (n + 2)) dbT fS A (some ⟨a, 0, none⟩) (some ⟨w1.heap.size + 1, 0, none⟩) c 1 1 w4 _ _ _ s1 (by decide +kernel) (by decide +kernel) hc RX (Nat.le_refl _) RD (Nat.le_refl _) RS
      rw [HR.out] at h2
      have H2 := Lib.hid h2
      clear h2
      obtain ⟨x0, x1⟩ := bx2 p5
      obtain ⟨y0, y1, y2, y3⟩ := bx4 p6
      obtain ⟨z0, z1, z2, z3⟩ := bx4 p9
      go_upto_region 13 with (go_at_call 20; refine H2.out.use fun w5 A2 c2 hc2 hR2 hb2 => ?_)
      clear H2 x0 x1 y0 y1 y2 y3 z0 z1 z2 z3
      clear RS RX RD p5 p6 p9
      replace B := bl_self B hb2
      replace p10 := bk_below p10 hb2
      replace hR1 := hR1.below hb2
      clear hb2
      have p12 := bk_new w5 (.cells (tmB R.2 A2 c2) 33); replace p10 := bk_alloc p10 (.cells (tmB R.2 A2 c2) 33); replace B := bl_alloc B (.cells (tmB R.2 A2 c2) 33); replace hR1 := hR1.below (bl_new w5 (.cells (tmB R.2 A2 c2) 33)); replace hR2 := hR2.below (bl_new w5 (.cells (tmB R.2 A2 c2) 33))
      generalize w5.alloc (.cells (tmB R.2 A2 c2) 33) = w6 at *
      have h3 := refSame_calls (tsize R.2 + 1) R.2 R.2 A1 A2 c1 c2 w6 (fun _ => True) (Nat.lt_succ_self _) s2 s2 (hR1.mono fun _ _ _ => trivial) (hR2.mono fun _ _ _ => trivial)
      rw [sameT_self] at h3
      have H3 := Lib.hid h3
      clear h3 hR1 hR2
      obtain ⟨x0, x1, x2, x3⟩ := bx4 p10
      obtain ⟨y0, y1, y2, y3⟩ := bx4 p12
      have hd : ((R.1 == 2) == decide ((11 : Int) < 2 + (n : Int))) = true := by
        rw [hL, beq_iff_eq, decide_eq_decide]
        omega
      clear hL hbn hlt hj HR s1 s2
      go_wp2_with (first | (go_at_call 12; refine H3.out.mono ?_; rintro e w7 ⟨rfl, hb7⟩) | (go_at_call 18; refine (awake8_calls _).mono ?_; rintro e w8 ⟨rfl, hb8⟩))
      go_ret
      exact ⟨rfl, bl_self (bl_self B hb7) hb8⟩
end Go.Proofs.Ytolooomphmcphaa
