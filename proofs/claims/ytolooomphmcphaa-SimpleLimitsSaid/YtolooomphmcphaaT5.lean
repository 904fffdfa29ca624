/- SimpleLimits, walked. -/
import Derived.Test.YtolooomphmcphaaL2
namespace Go.Proofs.Ytolooomphmcphaa
open Go.RowKit

theorem chain_fam : ∀ m, (chainT m).fam = natB
  | 0 => rfl
  | _ + 1 => rfl
set_option maxRecDepth 100000 in
set_option maxHeartbeats 4000000 in
theorem simpleLimits_calls (b : Int) (w : World) : Giv Try.prog 4 #[.int .i64 b] w (.bool true) := by
  obtain ⟨n, Hn⟩ : ∃ n, Hid (cutN b 4 = n) := ⟨_, Lib.hid rfl⟩
  have hn0 : 0 ≤ n := Hn.out ▸ cutN_nonneg b (n := 4) (by omega)
  have hn4 : n < 4 := Hn.out ▸ cutN_lt b (n := 4) (by omega)
  obtain ⟨N, HN⟩ : ∃ N : Nat, Hid ((N : Int) = n) := ⟨n.toNat, Lib.hid (by omega)⟩
  have hN4 : N < 4 := by have := HN.out; omega
  have H1 := chain_wf N hN4
  have H2 := many_eta N hN4
  have hw1 : IntKind.i64.wrap (128 + n) = 128 + n := IntWalk.i64_in _ ⟨by omega, by omega⟩
  have hw2 : IntKind.i64.wrap (128 + n - 1) = 128 + n - 1 := IntWalk.i64_in _ ⟨by omega, by omega⟩
  have hw3 : IntKind.i64.wrap (3854 + n) = 3854 + n := IntWalk.i64_in _ ⟨by omega, by omega⟩
  have q4 := bk_new w (.cells #[.string ⟨#[110, 97, 116]⟩, .slice none 0 0] 25)
  have B := bl_new w (.cells #[.string ⟨#[110, 97, 116]⟩, .slice none 0 0] 25)
  obtain ⟨e, He⟩ : ∃ e : Int, Hid (e = if N > 1 then 2 else 0) := ⟨_, Lib.hid rfl⟩
  rw [← He.out] at H1 H2
  replace H1 := Lib.hid H1
  replace H2 := Lib.hid H2
  have he2 : (e == 2) = decide (1 < n) := by have := HN.out; rw [He.out]; by_cases h : N > 1; (rw [if_pos h, decide_eq_true (by omega)]; rfl); (rw [if_neg h, decide_eq_false (by omega)]; rfl)
  have he0 : (e == 0) = !decide (1 < n) := by have := HN.out; rw [He.out]; by_cases h : N > 1; (rw [if_pos h, decide_eq_true (by omega)]; rfl); (rw [if_neg h, decide_eq_false (by omega)]; rfl)
  cases hcn : decide (1 < n)
  all_goals
    rw [hcn] at he2 he0
    simp only [Bool.not_true, Bool.not_false] at he0
    go_enter Try.func4, Try.ntmps4
    go_wp2_with fail
    refine (cut_same b 4 _ (by omega) (by omega)).mono ?_
    rintro e' w0 ⟨rfl, hw⟩
    replace hw := hw.symm
    subst hw
    rw [Hn.out]
    go_wp2_with fail
    go_loopw [5] (fun i w' => ∃ (m : Nat) (A : Option Addr) (c : Nat), m ≤ 126 + N ∧ i = .int .i64 ((m : Int) + 1) ∧ w'.heap[w.heap.size]? = some (.cells #[.string ⟨#[110, 97, 116]⟩, .slice A (chainT m).args.length c] 25 (0, 0)) ∧
      (chainT m).args.length ≤ c ∧ Rd smK w' (fun b => w.heap.size < b) A (chainT m).args ∧ Below w.heap.size w w') (fun i _ => 200 - (intOf i).toNat)
    case atStart => exact ⟨0, none, 0, by omega, rfl, q4, Nat.le_refl _, Rd.nil _ _ _ _, B⟩
    case round =>
      clear q4 B
      obtain ⟨m, A, c, hm, rfl, q4, hc, hR, B⟩ := hrel
      have hmw : IntKind.i64.wrap ((m : Int) + 1 + 1) = (m : Int) + 1 + 1 := IntWalk.i64_in _ ⟨by omega, by omega⟩
      obtain ⟨c0, c1⟩ := bx2 q4
      have z0 := bk_free q4 0
      have z1 := bk_free q4 1
      by_cases hlt : m < 126 + N
      · have ht : decide ((m : Int) + 1 < 128 + n - 1) = true := decide_eq_true (by have := HN.out; omega)
        have p4 := bk_alloc q4 (.cells #[.string ⟨#[110, 97, 116]⟩, .slice A (chainT m).args.length c] 25)
        have p5 := bk_new wr (.cells #[.string ⟨#[110, 97, 116]⟩, .slice A (chainT m).args.length c] 25)
        obtain ⟨d0, d1⟩ := bx2 p4
        have y0 := bk_free p4 0
        have y1 := bk_free p4 1
        have hs := B.size
        have hgl := bk_lt q4
        have hK := smK_of (chainT m) hc (hR.set2 (g := w.heap.size) (v0 := .string ⟨#[110, 97, 116]⟩) (v1 := .slice (some ⟨wr.heap.size, 0, none⟩) 1 1) (fun b hb => by omega))
        rw [chain_fam] at hK
        have hR' := Rd.one (e := 25) (S' := fun b => w.heap.size < b) hK (fun _ h => h) (by simpa using hgl)
        rw [set2_size] at hR'
        go_wp2_with fail
        go_roundw
        case rel => exact ⟨m + 1, _, 1, by omega, by go_num, bk_alloc (set2_self q4) _, Nat.le_refl _, hR', bl_alloc (bl_set2 B (Nat.le_refl _)) _⟩
        case measure => simp [intOf]; omega
      · have Hm : Hid (m = 126 + N) := Lib.hid (by omega)
        have ht : decide ((m : Int) + 1 < 128 + n - 1) = false := decide_eq_false (by have := HN.out; omega)
        clear hmw z0 z1 hm
        obtain ⟨w1, rfl⟩ : ∃ w1 : World, w1 = wr := ⟨_, rfl⟩
        have hs0 := bk_lt q4
        replace hR := (hR.bound.below (bl_new w1 (.cells #[.string ⟨#[110, 97, 116]⟩, .slice none 0 0] 25))).mono (S' := fun b => w.heap.size < b ∧ b < w1.heap.size) (fun b hb _ => ⟨hb.1, hb.2.lt⟩)
        have q7 := bk_new w1 (.cells #[.string ⟨#[110, 97, 116]⟩, .slice none 0 0] 25); replace q4 := bk_alloc q4 (.cells #[.string ⟨#[110, 97, 116]⟩, .slice none 0 0] 25); replace B := bl_alloc B (.cells #[.string ⟨#[110, 97, 116]⟩, .slice none 0 0] 25)
        go_wp2_with fail
        go_loopw [8] (fun i w' => ∃ (k : Nat) (v : Value), k ≤ 120 ∧ i = .int .i64 (k : Int) ∧ w'.heap[w.heap.size]? = some (.cells #[.string ⟨#[110, 97, 116]⟩, .slice A (chainT m).args.length c] 25 (0, 0)) ∧
          w'.heap[w1.heap.size]? = some (.cells #[.string ⟨#[110, 97, 116]⟩, v] 25 (0, 0)) ∧ Own smK 25 (w1.heap.size + 1) w' (fun _ => False) v (List.replicate k natT) ∧
          Rd smK w' (fun b => w.heap.size < b ∧ b < w1.heap.size) A (chainT m).args ∧ w1.heap.size + 1 ≤ w'.heap.size ∧ Below w.heap.size w w') (fun i _ => 200 - (intOf i).toNat)
        case atStart => exact ⟨0, _, by omega, rfl, q4, q7, Own.nil _ _ _ _ _, hR, by simp, B⟩
        case round =>
          clear q4 q7 B hR c0 c1
          obtain ⟨k, v, hk, rfl, q4, q7, hO, hR, hs7, B⟩ := hrel
          by_cases hlt2 : k < 120
          · have ht2 : decide ((k : Int) < 120) = true := decide_eq_true (by omega)
            have hkw : IntKind.i64.wrap ((k : Int) + 1) = (k : Int) + 1 := IntWalk.i64_in _ ⟨by omega, by omega⟩
            obtain ⟨c0, c1⟩ := bx2 q7
            have hobl := hO.block
            have hO1 := hO.alloc (.cells #[.string ⟨#[110, 97, 116]⟩, .slice none 0 0] 25)
            have hb1 := bk_new wr (.cells #[.string ⟨#[110, 97, 116]⟩, .slice none 0 0] 25)
            have hk1 : smK.K (wr.alloc (.cells #[.string ⟨#[110, 97, 116]⟩, .slice none 0 0] 25)) (fun b => False ∧ Live (wr.alloc (.cells #[.string ⟨#[110, 97, 116]⟩, .slice none 0 0] 25)) b ∧ v.ownBlock ≠ some b) natT [.string ⟨#[110, 97, 116]⟩, .slice none 0 0] := smK_of natT (Nat.le_refl _) (Rd.nil _ _ _ _)
            have hlen : (List.replicate k natT).length < 1000000000 := by simp; omega
            have hB1 : w1.heap.size + 1 ≤ (wr.alloc (.cells #[.string ⟨#[110, 97, 116]⟩, .slice none 0 0] 25)).heap.size := by simp; omega
            have hne : ∀ j, j ≤ w1.heap.size → some j ≠ v.ownBlock := fun j hj he => by have := (hobl j he.symm).1; omega
            have p4 := bk_alloc q4 (.cells #[.string ⟨#[110, 97, 116]⟩, .slice none 0 0] 25)
            have p7 := bk_alloc q7 (.cells #[.string ⟨#[110, 97, 116]⟩, .slice none 0 0] 25)
            have B' := bl_alloc B (.cells #[.string ⟨#[110, 97, 116]⟩, .slice none 0 0] 25)
            have hR' := hR.below (bl_new wr (.cells #[.string ⟨#[110, 97, 116]⟩, .slice none 0 0] 25))
            go_wp2_with (at_builtin; refine wp_snoc (d := smK) (v := v) rfl (.tmp 35) (.tmp 37) _ rfl (e := 25) (bytes := 40) (z := .agg #[.string ⟨#[]⟩, .slice none 0 0]) (by kernel_rfl) (by kernel_rfl) (by rfl) (by decide) rfl hO1 hlen hB1 rfl hb1 hk1 ?_; intro g cap w5 hO5 hgrow hcap hlt5 hBg; have r7 := bk_grown p7 hgrow (hne _ (Nat.le_refl _)); obtain ⟨d0, d1⟩ := bx2 r7; have y1 := bk_free r7 1)
            go_roundw
            case rel =>
              have hs5 : wr.heap.size + 1 ≤ w5.heap.size := by simpa using hgrow.size
              refine ⟨k + 1, _, by omega, by go_num, bk_far (bk_grown p4 hgrow (hne _ (by omega))) (by show w.heap.size ≠ w1.heap.size; omega) _, bk_set r7 1 _, ?_, ?_, by rw [World.size_setCell]; omega, bl_set (bl_grown B' hgrow (fun j hj => by have := (hobl j hj).1; omega)) (by show w.heap.size ≤ w1.heap.size; omega) _⟩
              · have := hO5.store (p := ⟨w1.heap.size, 1, none⟩) (fun h => h) (by show w1.heap.size < w1.heap.size + 1; omega) (.slice (some ⟨g, 0, none⟩) ((List.replicate k natT).length + 1) cap)
                rw [← List.replicate_succ', List.length_replicate] at this
                exact this
              · exact (hR'.move (fun b hb hl => hgrow.block b hl.lt (hne b (by omega))) (fun _ h _ => h)).setc (p := ⟨w1.heap.size, 1, none⟩) (fun b hb => by show b ≠ w1.heap.size; omega) _
            case measure => simp [intOf]; omega
          · obtain ⟨K, rfl⟩ : ∃ K : Nat, K = k := ⟨_, rfl⟩
            have HK : Hid (K = 120) := Lib.hid (by omega)
            have ht2 : decide ((K : Int) < 120) = false := decide_eq_false (by omega)
            obtain ⟨w2, rfl⟩ : ∃ w2 : World, w2 = wr := ⟨_, rfl⟩
            obtain ⟨A7, c7, rfl, hc7, hR7⟩ := hO.read (S' := fun b => w1.heap.size < b) (fun b hb => hb) (fun b hb => hb.elim)
            rw [List.length_replicate] at q7 hc7
            replace hR := hR.below (bl_new w2 (.cells #[.int .i64 4, .string ⟨#[99]⟩, .int .i64 0, .slice none 0 0] 33))
            replace hR7 := (hR7.bound.below (bl_new w2 (.cells #[.int .i64 4, .string ⟨#[99]⟩, .int .i64 0, .slice none 0 0] 33))).mono (S' := fun b => w1.heap.size < b ∧ b < w2.heap.size) (fun b hb _ => ⟨hb.1, hb.2.lt⟩)
            have hs2 : w1.heap.size < w2.heap.size := by omega
            have q9 := bk_new w2 (.cells #[.int .i64 4, .string ⟨#[99]⟩, .int .i64 0, .slice none 0 0] 33); replace q4 := bk_alloc q4 (.cells #[.int .i64 4, .string ⟨#[99]⟩, .int .i64 0, .slice none 0 0] 33); replace q7 := bk_alloc q7 (.cells #[.int .i64 4, .string ⟨#[99]⟩, .int .i64 0, .slice none 0 0] 33); replace B := bl_alloc B (.cells #[.int .i64 4, .string ⟨#[99]⟩, .int .i64 0, .slice none 0 0] 33)
            clear hO
            go_wp2_with fail
            go_loopw [10] (fun i w' => ∃ (k : Nat) (v : Value), k ≤ 3854 + N ∧ i = .int .i64 (k : Int) ∧ w'.heap[w.heap.size]? = some (.cells #[.string ⟨#[110, 97, 116]⟩, .slice A (chainT m).args.length c] 25 (0, 0)) ∧ w'.heap[w1.heap.size]? = some (.cells #[.string ⟨#[110, 97, 116]⟩, .slice A7 K c7] 25 (0, 0)) ∧
              w'.heap[w2.heap.size]? = some (.cells #[.int .i64 4, .string ⟨#[99]⟩, .int .i64 0, v] 33 (0, 0)) ∧ Own tmK 33 (w2.heap.size + 1) w' (fun _ => False) v (List.replicate k zT) ∧
              Rd smK w' (fun b => w.heap.size < b ∧ b < w1.heap.size) A (chainT m).args ∧ Rd smK w' (fun b => w1.heap.size < b ∧ b < w2.heap.size) A7 (List.replicate K natT) ∧ w2.heap.size + 1 ≤ w'.heap.size ∧ Below w.heap.size w w') (fun i _ => 4000 - (intOf i).toNat)
            case atStart => exact ⟨0, _, by omega, rfl, q4, q7, q9, Own.nil _ _ _ _ _, hR, hR7, by simp, B⟩
            case round =>
              clear q4 q7 q9 B hR hR7 hk
              obtain ⟨k, v, hk, rfl, q4, q7, q9, hO, hR, hR7, hs9, B⟩ := hrel
              by_cases hlt3 : k < 3854 + N
              · have ht3 : decide ((k : Int) < 3854 + n) = true := decide_eq_true (by have := HN.out; omega)
                have hkw : IntKind.i64.wrap ((k : Int) + 1) = (k : Int) + 1 := IntWalk.i64_in _ ⟨by omega, by omega⟩
                obtain ⟨c0, c1, c2, c3⟩ := bx4 q9
                have hobl := hO.block
                have hO1 := hO.alloc (.cells #[.int .i64 4, .string ⟨#[122]⟩, .int .i64 0, .slice none 0 0] 33)
                have hb1 := bk_new wr (.cells #[.int .i64 4, .string ⟨#[122]⟩, .int .i64 0, .slice none 0 0] 33)
                have hk1 : tmK.K (wr.alloc (.cells #[.int .i64 4, .string ⟨#[122]⟩, .int .i64 0, .slice none 0 0] 33)) (fun b => False ∧ Live (wr.alloc (.cells #[.int .i64 4, .string ⟨#[122]⟩, .int .i64 0, .slice none 0 0] 33)) b ∧ v.ownBlock ≠ some b) zT [.int .i64 4, .string ⟨#[122]⟩, .int .i64 0, .slice none 0 0] := tmK_of zT (Nat.le_refl _) (Rd.nil _ _ _ _)
                have hlen : (List.replicate k zT).length < 1000000000 := by simp; omega
                have hB1 : w2.heap.size + 1 ≤ (wr.alloc (.cells #[.int .i64 4, .string ⟨#[122]⟩, .int .i64 0, .slice none 0 0] 33)).heap.size := by simp; omega
                have hne : ∀ j, j ≤ w2.heap.size → some j ≠ v.ownBlock := fun j hj he => by have := (hobl j he.symm).1; omega
                have p4 := bk_alloc q4 (.cells #[.int .i64 4, .string ⟨#[122]⟩, .int .i64 0, .slice none 0 0] 33)
                have p7 := bk_alloc q7 (.cells #[.int .i64 4, .string ⟨#[122]⟩, .int .i64 0, .slice none 0 0] 33)
                have p9 := bk_alloc q9 (.cells #[.int .i64 4, .string ⟨#[122]⟩, .int .i64 0, .slice none 0 0] 33)
                have B' := bl_alloc B (.cells #[.int .i64 4, .string ⟨#[122]⟩, .int .i64 0, .slice none 0 0] 33)
                have hR' := hR.below (bl_new wr (.cells #[.int .i64 4, .string ⟨#[122]⟩, .int .i64 0, .slice none 0 0] 33))
                have hR7' := hR7.below (bl_new wr (.cells #[.int .i64 4, .string ⟨#[122]⟩, .int .i64 0, .slice none 0 0] 33))
                go_wp2_with (at_builtin; refine wp_snoc (d := tmK) (v := v) rfl (.tmp 48) (.tmp 50) _ rfl (e := 33) (bytes := 56) (z := .agg #[.int .i64 0, .string ⟨#[]⟩, .int .i64 0, .slice none 0 0]) (by kernel_rfl) (by kernel_rfl) (by rfl) (by decide) rfl hO1 hlen hB1 rfl hb1 hk1 ?_; intro g cap w5 hO5 hgrow hcap hlt5 hBg; have r9 := bk_grown p9 hgrow (hne _ (Nat.le_refl _)); obtain ⟨d0, d1, d2, d3⟩ := bx4 r9; have y3 := bk_free r9 3)
                go_roundw
                case rel =>
                  have hs5 : wr.heap.size + 1 ≤ w5.heap.size := by simpa using hgrow.size
                  refine ⟨k + 1, _, by omega, by go_num, bk_far (bk_grown p4 hgrow (hne _ (by omega))) (by show w.heap.size ≠ w2.heap.size; omega) _, bk_far (bk_grown p7 hgrow (hne _ (by omega))) (by show w1.heap.size ≠ w2.heap.size; omega) _, bk_set r9 3 _, ?_, ?_, ?_, by rw [World.size_setCell]; omega, bl_set (bl_grown B' hgrow (fun j hj => by have := (hobl j hj).1; omega)) (by show w.heap.size ≤ w2.heap.size; omega) _⟩
                  · have := hO5.store (p := ⟨w2.heap.size, 3, none⟩) (fun h => h) (by show w2.heap.size < w2.heap.size + 1; omega) (.slice (some ⟨g, 0, none⟩) ((List.replicate k zT).length + 1) cap)
                    rw [← List.replicate_succ', List.length_replicate] at this
                    exact this
                  · exact (hR'.move (fun b hb hl => hgrow.block b hl.lt (hne b (by omega))) (fun _ h _ => h)).setc (p := ⟨w2.heap.size, 3, none⟩) (fun b hb => by show b ≠ w2.heap.size; omega) _
                  · exact (hR7'.move (fun b hb hl => hgrow.block b hl.lt (hne b (by omega))) (fun _ h _ => h)).setc (p := ⟨w2.heap.size, 3, none⟩) (fun b hb => by show b ≠ w2.heap.size; omega) _
                case measure => simp [intOf]; omega
              · have Hk : Hid (k = 3854 + N) := Lib.hid (by omega)
                have ht3 : decide ((k : Int) < 3854 + n) = false := decide_eq_false (by have := HN.out; omega)
                obtain ⟨A9, c9, rfl, hc9, hR9⟩ := hO.read (S' := fun b => w2.heap.size < b) (fun b hb => hb) (fun b hb => hb.elim)
                rw [List.length_replicate] at q9 hc9
                obtain ⟨w3, rfl⟩ : ∃ w3 : World, w3 = wr := ⟨_, rfl⟩
                have HE := eta_calls (manyT N) wideT A9 A7 c9 c7 w3 _ _ (by rw [many_size]; omega) (by decide +kernel) (obj_ix _ (many_obj N)) (by show (List.replicate (3854 + N) zT).length ≤ c9; rw [List.length_replicate, ← Hk.out]; exact hc9) (show Rd tmK w3 _ A9 (List.replicate (3854 + N) zT) from Hk.out ▸ hR9) (show Rd smK w3 _ A7 (List.replicate 120 natT) from HK.out ▸ hR7)
                rw [tmV_many, show smV wideT A7 c7 = .agg #[.string ⟨#[110, 97, 116]⟩, .slice A7 K c7] by rw [HK.out]; rfl, ← Hk.out] at HE
                replace HE := Lib.hid HE
                have HWF : Hid (∀ (W : World) (S : Nat → Prop), Rd smK W S A (chainT m).args → Giv Try.prog 15 #[.agg #[.string ⟨#[110, 97, 116]⟩, .slice A (chainT m).args.length c]] W (.int .i64 e)) := Lib.hid fun W S h => by
                  have h1 := sWellFormed_calls (chainT m) A c S W (by rw [chain_size, Hm.out]; omega) h
                  rw [show smV (chainT m) A c = .agg #[.string ⟨#[110, 97, 116]⟩, .slice A (chainT m).args.length c] by rw [smV, chain_fam], show swfE (chainT m) = e by rw [Hm.out, H1.out]] at h1
                  exact h1
                obtain ⟨y0, y1, y2, y3⟩ := bx4 q9
                obtain ⟨d0, d1⟩ := bx2 q7
                clear hR9 hR7 hO
                go_wp2_with fail
                refine HE.out.use fun w4 A5 c5 hc5 hX hb4 => ?_
                rw [H2.out]
                obtain ⟨x, Hx⟩ : ∃ x, Hid (etaT (manyT N) wideT = x) := ⟨_, Lib.hid rfl⟩
                rw [Hx.out]
                clear y0 y1 y2 y3 d0 d1 hX hc5
                replace q4 := bk_below q4 hb4; replace B := bl_self B hb4; replace hR := hR.below hb4; clear hb4
                have q11 := bk_new w4 (.cells #[.int .i64 x.kind, .string x.name, .int .i64 x.idx, .slice A5 x.args.length c5] 33); replace q4 := bk_alloc q4 (.cells #[.int .i64 x.kind, .string x.name, .int .i64 x.idx, .slice A5 x.args.length c5] 33); replace B := bl_alloc B (.cells #[.int .i64 x.kind, .string x.name, .int .i64 x.idx, .slice A5 x.args.length c5] 33); replace hR := hR.below (bl_new w4 (.cells #[.int .i64 x.kind, .string x.name, .int .i64 x.idx, .slice A5 x.args.length c5] 33))
                obtain ⟨d0, d1⟩ := bx2 q4
                go_wp2_with fail
                refine (HWF.out _ _ hR).use fun w5 hb5 => ?_
                clear d0 d1
                replace q4 := bk_below q4 hb5; replace B := bl_self B hb5; clear hb5
                go_wp2_with fail
                refine (awake_calls _).use fun w6 hb6 => ?_
                replace q4 := bk_below q4 hb6; replace B := bl_self B hb6; clear hb6
                go_wp2_with fail
                go_ret
                exact ⟨rfl, B⟩
end Go.Proofs.Ytolooomphmcphaa
