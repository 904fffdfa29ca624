/- lfcheckref08: the machine's substitute. -/
import Derived.Test.YtolooomphmcphaaH13
import Derived.Test.YtolooomphmcphaaH6
import Derived.Test.YtolooomphmcphaaGt
namespace Go.Proofs.Ytolooomphmcphaa
open Go.RowKit

theorem undI_N (k : Int) (j : Nat) : ((undI k j : Nat) : Int) = underN k j := by
  unfold undI underN
  by_cases h : k = 3 ∨ k = 2 ∧ j = 1
  · rw [if_pos h, if_pos (by omega)]; rfl
  · rw [if_neg h, if_neg (by omega)]; rfl
set_option maxRecDepth 100000 in
set_option maxHeartbeats 4000000 in
theorem substitute_calls : ∀ f, RsOK f := by
  intro f
  induction f with
  | zero => intro W t ms ss deep g A Am As c cm cs w S S1 S2 hf hW; omega
  | succ f ih =>
  intro W t ms ss deep g A Am As c cm cs w S S1 S2 hf hW hso hts hde hmss hml hms hl hr hr1 hr2 hS hS1 hS2 hg
  have HAp := Lib.hid (applied_calls ih)
  replace ih := Lib.hid ih
  have Hms := Lib.hid hms
  have Hmss := Lib.hid hmss
  have Hso := Lib.hid hso
  have hla := len_le_tsizes t.args
  have hte := tsize_eq t
  clear hms hso
  have hgl := bk_lt hg
  obtain ⟨T, HT⟩ : ∃ T, Hid (subT (f + 1) W t ms ss deep = T) := ⟨_, Lib.hid rfl⟩
  rw [HT.out]
  have hr0 := hr.bound
  have hr10 := hr1.bound
  have hr20 := hr2.bound
  clear hr hr1 hr2
  have hww : IntKind.i64.wrap ((W : Int) + 1) = (W : Int) + 1 := IntWalk.i64_in _ ⟨by omega, by omega⟩
  obtain ⟨K, HK⟩ : ∃ K, Hid (ms.length = K) := ⟨_, Lib.hid rfl⟩
  have HK2 : Hid (ss.length = K) := Lib.hid (by rw [← hmss, HK.out])
  rw [HK.out, HK2.out]
  clear hmss
  have HF : Hid (∀ m ∈ ms, objB m = true) := Lib.hid fun m h => (Hms.out m h).1
  obtain ⟨V, HV⟩ : ∃ V : Nat, Hid (V = W + 1) := ⟨_, Lib.hid rfl⟩
  replace hf := Lib.hid hf
  replace hW := Lib.hid hW
  have ZT : ∀ (w' : World), w'.heap[w.heap.size + 1]? = some (.cells #[.int .i64 0, .string ⟨#[]⟩, .int .i64 0, .slice none 0 0] 33 (0, 0)) → w.grownBy w' (some g) → ∀ (e : Int) (W' : Nat), e ≠ 0 → w'.heap[g]? = some (.cells #[.int .i64 W', .int .i64 e] 83 (0, 0)) →
      RefP g w (fun _ => False) (errT e W') (.returned (tmV zeroT none 0)) (set4 w' (w.heap.size + 1) (.int .i64 0) (.string ⟨#[]⟩) (.int .i64 0) (.slice none 0 0)) := fun w' _ h2 e W' he h4 => by
    refine ⟨gr_set4 h2 (by omega), ⟨none, 0, ?_, ?_, ?_⟩, (set4_far (by omega)).trans h4⟩
    · rw [errT_ref _ _ he]
    · rw [errT_ref _ _ he]; exact Nat.le_refl _
    · rw [errT_ref _ _ he]; exact Rd.nil _ _ _ _
  have p0 := bk_alloc (bk_new w (.cells (tmB t A c) 33)) (.cells #[.int .i64 0, .string ⟨#[]⟩, .int .i64 0, .slice none 0 0] 33)
  have p1 := bk_at (w := w.alloc (.cells (tmB t A c) 33)) (n := w.heap.size + 1) (by simp) (.cells #[.int .i64 0, .string ⟨#[]⟩, .int .i64 0, .slice none 0 0] 33)
  have B := bl_alloc (bl_new w (.cells (tmB t A c) 33)) (.cells #[.int .i64 0, .string ⟨#[]⟩, .int .i64 0, .slice none 0 0] 33)
  have pg := bk_alloc (bk_alloc hg (.cells (tmB t A c) 33)) (.cells #[.int .i64 0, .string ⟨#[]⟩, .int .i64 0, .slice none 0 0] 33)
  have hsz : w.heap.size + 2 ≤ ((w.alloc (.cells (tmB t A c) 33)).alloc (.cells #[.int .i64 0, .string ⟨#[]⟩, .int .i64 0, .slice none 0 0] 33)).heap.size := by simp
  have G := gr_below B (some g)
  obtain ⟨y0, y1⟩ := bxm pg
  have z0 := bk_free pg 0
  replace hgl := Lib.hid hgl
  go_enter Try.func79, Try.ntmps79
  go_upto_region 3 with (fail)
  go_cut [] (fun wc => wc.heap[w.heap.size]? = some (.cells (tmB t A c) 33 (0, 0)) ∧ wc.heap[w.heap.size + 1]? = some (.cells #[.int .i64 0, .string ⟨#[]⟩, .int .i64 0, .slice none 0 0] 33 (0, 0)) ∧
      wc.heap[g]? = some (.cells #[.int .i64 (V : Int), .int .i64 0] 83 (0, 0)) ∧ w.heap.size + 2 ≤ wc.heap.size ∧ w.grownBy wc (some g))
  case first =>
    go_wp2_with fail
    go_meet
    replace hgl := hgl.out
    refine ⟨bk_far p0 (by show w.heap.size ≠ g; omega) _, bk_far p1 (by show w.heap.size + 1 ≠ g; omega) _, ?_, by rw [World.size_setCell]; exact hsz, gr_row G rfl _⟩
    have := bk_set pg 0 (.int .i64 ((W : Int) + 1))
    rw [HV.out]
    simpa using this
  case rest =>
  clear p0 p1 pg hsz G B y0 y1 z0 hg
  replace hgl := hgl.out
  obtain ⟨p0, p1, pg, hsz, G⟩ := hcut
  obtain ⟨y0, y1⟩ := bxm pg
  have z1 := bk_free pg 1
  obtain ⟨x0, x1, x2, x3⟩ := bx4 p1
  obtain ⟨v0, v1, v2, v3⟩ : _ ∧ _ ∧ _ ∧ _ := ⟨bk_free p1 0, bk_free p1 1, bk_free p1 2, bk_free p1 3⟩
  by_cases hW1 : 262144 < V
  · have hd : decide ((262144 : Int) < (V : Int)) = true := by simp; omega
    have HT2 : Hid (T = errT 2 V) := Lib.hid (by rw [← HT.out, subT_eq, ← HV.out, if_pos hW1])
    have q1 := bk_far p1 (p := ⟨g, 1, none⟩) (by show w.heap.size + 1 ≠ g; omega) (.int .i64 2)
    clear HT hW1
    go_wp2_with fail
    refine bodyPost_ret (res_term rfl rfl (set4_self q1)) rfl ?_
    rw [HT2.out]
    exact ZT _ q1 (gr_row G rfl _) 2 V (by decide) (bk_set pg 1 _)
  have hd : decide ((262144 : Int) < (V : Int)) = false := by simp; omega
  obtain ⟨L, HL⟩ : ∃ L, Hid (subL (Ff f ms ss) t.kind deep V 0 t.args = L) := ⟨_, Lib.hid rfl⟩
  have HT2 : Hid (T = if L.1 ≠ 0 then errT L.1 L.2.1 else nodeT (Gf f) L.2.1 t L.2.2 ms ss deep) := Lib.hid (by rw [← HT.out, subT_eq, ← HV.out, if_neg hW1, HL.out])
  clear HT
  obtain ⟨c0, c1, c2, c3⟩ := bx4 p0
  have HV2 : Hid (V ≤ 262144) := Lib.hid (by omega)
  have p2 := bk_new wc (.cells #[.int .i64 t.kind, .string t.name, .int .i64 t.idx, .slice none 0 0] 33)
  clear hW1
  obtain ⟨N, HN⟩ : ∃ N, Hid (wc.heap.size = N) := ⟨_, Lib.hid rfl⟩
  have hNw : w.heap.size + 2 ≤ N := by rw [← HN.out]; exact hsz
  rw [HN.out] at p2
  go_upto_region 7 with (fail)
  go_cut [11] (fun s11 wd => s11 = .pointer (some ⟨N, 0, none⟩) ∧ wd.heap[w.heap.size]? = some (.cells (tmB t A c) 33 (0, 0)) ∧ wd.heap[w.heap.size + 1]? = some (.cells #[.int .i64 0, .string ⟨#[]⟩, .int .i64 0, .slice none 0 0] 33 (0, 0)) ∧
      wd.heap[N]? = some (.cells #[.int .i64 t.kind, .string t.name, .int .i64 t.idx, .slice none 0 0] 33 (0, 0)) ∧
      wd.heap[g]? = some (.cells #[.int .i64 (V : Int), .int .i64 0] 83 (0, 0)) ∧ N + 1 ≤ wd.heap.size ∧ w.grownBy wd (some g))
  case first =>
    go_wp2_with fail
    go_meet
    exact ⟨by rw [HN.out], bk_alloc p0 _, bk_alloc p1 _, p2, bk_alloc pg _, by simp [HN.out], gr_alloc G _⟩
  case rest =>
  clear p0 p1 pg p2 G y0 y1 z1 x0 x1 x2 x3 v0 v1 v2 v3 c0 c1 c2 c3 hsz HN
  obtain ⟨rfl, p0, p1, p2, pg, hsz2, G⟩ := hcut
  have hO0 : Own tmK 33 (N + 1) wc (fun b => N + 1 ≤ b) (.slice none 0 0) ([] : List Tm) := Own.nil _ _ _ _ _
  go_wp2_with fail
  go_loopg [12] (t.args.length) (fun kk i w' => ∃ (j W' : Nat) (e : Int) (v : Value) (xs : List Tm), kk + j = t.args.length ∧ j ≤ t.args.length ∧ i = .int .i64 j ∧ Hid (e = 0 → LoopL (Ff f ms ss) t.kind deep V t.args j W' xs) ∧ Hid (e ≠ 0 → L.1 = e ∧ L.2.1 = W') ∧ Hid (xs.length = j) ∧
      w'.heap[w.heap.size]? = some (.cells (tmB t A c) 33 (0, 0)) ∧ w'.heap[w.heap.size + 1]? = some (.cells #[.int .i64 0, .string ⟨#[]⟩, .int .i64 0, .slice none 0 0] 33 (0, 0)) ∧
      w'.heap[N]? = some (.cells #[.int .i64 t.kind, .string t.name, .int .i64 t.idx, v] 33 (0, 0)) ∧ w'.heap[g]? = some (.cells #[.int .i64 W', .int .i64 e] 83 (0, 0)) ∧
      Own tmK 33 (N + 1) w' (fun b => N + 1 ≤ b) v xs ∧ N + 1 ≤ w'.heap.size ∧ w.grownBy w' (some g))
  case atStart =>
    exact ⟨0, V, 0, .slice none 0 0, [], by omega, by omega, rfl, Lib.hid (fun _ => LoopL.start _ _ _ _ _ HV2.out), Lib.hid (fun h => absurd rfl h), Lib.hid rfl, p0, p1, p2, pg, hO0, hsz2, G⟩
  case round =>
    clear p0 p1 p2 pg hO0 hsz2 G
    obtain ⟨j, W', e, v, xs, hkk, hj, rfl, HX, HY, Hxl, p0, p1, p2, pg, hO, hsz2, G⟩ := hrel
    obtain ⟨c0, c1, c2, c3⟩ := bx4 p0
    obtain ⟨y0, y1⟩ := bxm pg
    by_cases he : e = 0
    · subst he
      have HX2 := Lib.hid (HX.out rfl)
      clear HX HY
      by_cases hlt : j < t.args.length
      · skip
        obtain ⟨b, o, A', c', rfl, ⟨hSb, hbl⟩, e0, e1, e2, e3, hl', hr'⟩ := (hr0.grown G (fun b hb => ne_of hS b hb.1)).tm j hlt
        have hm1 := tsizes_mem t.args j hlt
        have hgb : b ≠ g := fun h => hS (h ▸ hSb)
        have hbl2 := hbl.lt
        have R1 := hr10.grown G (fun b hb => ne_of hS1 b hb.1)
        have R2 := hr20.grown G (fun b hb => ne_of hS2 b hb.1)
        have hobl := hO.block
        obtain ⟨d0, d1, d2, d3⟩ := bx4 p2
        obtain ⟨u, Hu⟩ : ∃ u : Nat, Hid (undI t.kind j = u) := ⟨_, Lib.hid rfl⟩
        have hu1 : u ≤ 1 := by rw [← Hu.out]; unfold undI; split <;> omega
        have HU : ∀ W0, Giv Try.prog 31 #[.agg #[.int .i64 t.kind, .string t.name, .int .i64 t.idx, .slice (some ⟨b, o, none⟩) t.args.length c], .int .i64 j] W0 (.int .i64 (u : Int)) := fun W0 => by
          rw [← Hu.out, undI_N]
          exact under_calls t (some ⟨b, o, none⟩) c j W0
        have HS : ∀ w' : World, wr.grownBy w' (some g) →
          w'.cell? ⟨w.heap.size, 0, none⟩ = some (.int .i64 t.kind) ∧ w'.cell? ⟨w.heap.size, 1, none⟩ = some (.string t.name) ∧ w'.cell? ⟨w.heap.size, 2, none⟩ = some (.int .i64 t.idx) ∧ w'.cell? ⟨w.heap.size, 3, none⟩ = some (.slice (some ⟨b, o, none⟩) t.args.length c) ∧
          w'.cell? ⟨N, 3, none⟩ = some v ∧ w'.cell? ⟨b, o + j * 4, none⟩ = some (.int .i64 t.args[j].kind) ∧ w'.cell? ⟨b, o + j * 4 + 1, none⟩ = some (.string t.args[j].name) ∧
          w'.cell? ⟨b, o + j * 4 + 2, none⟩ = some (.int .i64 t.args[j].idx) ∧ w'.cell? ⟨b, o + j * 4 + 3, none⟩ = some (.slice A' t.args[j].args.length c') := fun w' h => ⟨cl_gr c0 h (by omega), cl_gr c1 h (by omega), cl_gr c2 h (by omega), cl_gr c3 h (by omega), cl_gr d3 h (by omega), cl_gr e0 h hgb, cl_gr e1 h hgb, cl_gr e2 h hgb, cl_gr e3 h hgb⟩
        replace HS := Lib.hid HS
        have HS2 : Hid (∀ w' : World, w'.heap[w.heap.size]? = some (.cells (tmB t (some ⟨b, o, none⟩) c) 33 (0, 0)) → w'.heap[N]? = some (.cells #[.int .i64 t.kind, .string t.name, .int .i64 t.idx, v] 33 (0, 0)) → w'.heap[b]? = wr.heap[b]? →
          w'.cell? ⟨w.heap.size, 0, none⟩ = some (.int .i64 t.kind) ∧ w'.cell? ⟨w.heap.size, 1, none⟩ = some (.string t.name) ∧ w'.cell? ⟨w.heap.size, 2, none⟩ = some (.int .i64 t.idx) ∧ w'.cell? ⟨w.heap.size, 3, none⟩ = some (.slice (some ⟨b, o, none⟩) t.args.length c) ∧
          w'.cell? ⟨N, 3, none⟩ = some v ∧ w'.cell? ⟨b, o + j * 4, none⟩ = some (.int .i64 t.args[j].kind) ∧ w'.cell? ⟨b, o + j * 4 + 1, none⟩ = some (.string t.args[j].name) ∧
          w'.cell? ⟨b, o + j * 4 + 2, none⟩ = some (.int .i64 t.args[j].idx) ∧ w'.cell? ⟨b, o + j * 4 + 3, none⟩ = some (.slice A' t.args[j].args.length c')) := Lib.hid (fun w' h1 h2 h3 => ⟨(bx4 h1).1, (bx4 h1).2.1, (bx4 h1).2.2.1, (bx4 h1).2.2.2, (bx4 h2).2.2.2, cl_block e0 h3, cl_block e1 h3, cl_block e2 h3, cl_block e3 h3⟩)
        have hdu : IntKind.i64.wrap ((deep : Int) + (u : Int)) = (deep : Int) + (u : Int) := IntWalk.i64_in _ ⟨by omega, by omega⟩
        obtain ⟨z, Hz⟩ : ∃ z, Hid (subT f W' t.args[j] ms ss (deep + undI t.kind j) = z) := ⟨_, Lib.hid rfl⟩
        have HI : ∀ (Wd : World) (S' : Nat → Prop), Rd tmK Wd S' A' t.args[j].args → ¬ S' g → Rd tmK Wd (fun b => S1 b ∧ Live w b) Am ms → Rd smK Wd (fun b => S2 b ∧ Live w b) As ss → Wd.heap[g]? = some (.cells #[.int .i64 W', .int .i64 0] 83 (0, 0)) →
            Calls Try.prog 79 #[wkP g, .agg #[.int .i64 t.args[j].kind, .string t.args[j].name, .int .i64 t.args[j].idx, .slice A' t.args[j].args.length c'], .slice Am K cm, .slice As K cs, .int .i64 ((deep : Int) + (u : Int))] Wd (RefP g Wd (fun _ => False) z) := by
          intro Wd S' h1 h2 h3 h4 h5
          have := ih.out W' t.args[j] ms ss (deep + undI t.kind j) g A' Am As c' cm cs Wd S' (fun b => S1 b ∧ Live w b) (fun b => S2 b ∧ Live w b) (by have := HX2.out.2.1; have := hf.out; have := HV.out; omega) HX2.out.2.2.1 ((sort_args Hso.out).2 j hlt) (by omega) (by have := Hu.out; omega)
            (by rw [HK.out, HK2.out]) (by rw [HK.out]; have := HK.out; omega) Hms.out hl' h1 h3 h4 h2 (fun h => hS1 h.1) (fun h => hS2 h.1) h5
          rw [HK.out, HK2.out, Hz.out, Hu.out, Int.natCast_add] at this
          exact this
        replace HI := Lib.hid HI
        have hne : ∀ k, k ≤ N → some k ≠ v.ownBlock := fun k hk he => by have := (hobl k he.symm).1; omega
        have hgN : g < N := by omega
        go_wp2_with fail
        refine wp_region_mixN 19 (fun w' => w'.cell? ⟨w.heap.size, 0, none⟩ = some (.int .i64 t.kind) ∧ w'.cell? ⟨w.heap.size, 1, none⟩ = some (.string t.name) ∧ w'.cell? ⟨w.heap.size, 2, none⟩ = some (.int .i64 t.idx) ∧ w'.cell? ⟨w.heap.size, 3, none⟩ = some (.slice (some ⟨b, o, none⟩) t.args.length c) ∧
          w'.cell? ⟨N, 3, none⟩ = some v ∧ w'.cell? ⟨b, o + j * 4, none⟩ = some (.int .i64 t.args[j].kind) ∧ w'.cell? ⟨b, o + j * 4 + 1, none⟩ = some (.string t.args[j].name) ∧
          w'.cell? ⟨b, o + j * 4 + 2, none⟩ = some (.int .i64 t.args[j].idx) ∧ w'.cell? ⟨b, o + j * 4 + 3, none⟩ = some (.slice A' t.args[j].args.length c'))
          [(true, 0), (true, 1), (true, 2), (true, 3), (true, 4), (true, 5), (true, 6), (true, 7), (true, 8), (true, 9), (true, 10), (true, 11), (true, 12), (false, 13), (true, 14), (false, 15), (false, 16), (false, 17), (true, 18)] (by kernel_rfl) rfl (by kernel_rfl) (HS.out _ (gr_drew (World.grownBy.refl _ _))) ?_
        clear c0 c1 c2 c3 d0 d1 d2 d3 e0 e1 e2 e3 y0 y1
        repeat (refine wpMix_soft (v := ?_) rfl rfl ?_ ?_; rotate_left; (focus (intro w' hS; go_simp; with_reducible rfl)); simp only [Act.put, List.setIfInBounds_toArray, List.set_cons_zero, List.set_cons_succ])
        -- Under
        refine wpMix_hard rfl rfl ?_
        go_wp2_with fail
        refine (HU _).use fun w1 hb1 => ?_
        replace hb1 := bl_undrew hb1
        have GA := gr_below hb1 (some g)
        have hs1 := hb1.size
        go_wp2_with fail
        refine mixQ_normal (HS.out _ GA) ?_
        repeat (refine wpMix_soft (v := ?_) rfl rfl ?_ ?_; rotate_left; (focus (intro w' hS; go_simp; with_reducible rfl)); simp only [Act.put, List.setIfInBounds_toArray, List.set_cons_zero, List.set_cons_succ])
        -- substitute
        refine wpMix_hard rfl rfl ?_
        go_wp2_with fail
        refine (HI.out _ _ (hr'.below hb1) (fun h => hS h.1) (R1.below hb1) (R2.below hb1) (bk_below pg hb1)).mono ?_
        have HMO : Hid (W' ≤ z.2.1) := Lib.hid (by have := subT_mono f W' t.args[j] ms ss (deep + undI t.kind j); rw [Hz.out] at this; omega)
        have HLE : Hid (z.1 = 0 → z.2.1 ≤ 262144) := Lib.hid (fun h => by have := (subT_le f W' t.args[j] ms ss (deep + undI t.kind j) HX2.out.2.2.1).2; rw [Hz.out] at this; exact this h)
        have Hz2 : Hid (Ff f ms ss W' t.args[j] (deep + undI t.kind j) = z) := Lib.hid Hz.out
        have HN1 : Hid (z.1 ≠ 0 → L.1 = z.1 ∧ L.2.1 = z.2.1) := Lib.hid (fun h => by
          have := HX2.out.err hlt (by rw [Hz2.out]; exact h)
          rw [HL.out, Hz2.out] at this
          exact this)
        have HN2 : Hid (z.1 = 0 → LoopL (Ff f ms ss) t.kind deep V t.args (j + 1) z.2.1 (xs ++ [z.2.2])) := Lib.hid (fun h => by
          have := HX2.out.next hlt (by rw [Hz2.out]; exact h) (by rw [Hz2.out]; exact HMO.out) (by rw [Hz2.out]; exact HLE.out h)
          rw [Hz2.out] at this
          exact this)
        rintro e1 w2 ⟨hG2, ⟨A7, c7, rfl, hl7, R7⟩, pg2⟩
        replace GA := GA.trans hG2
        have hs2 := hG2.size
        obtain ⟨y, Hy⟩ : ∃ y, Hid (refT z = y) := ⟨_, Lib.hid rfl⟩
        rw [Hy.out] at hl7 R7 ⊢
        replace R7 := R7.mono (S' := fun b => wr.heap.size ≤ b) (fun b hb _ => by rcases hb with hb | hb; exact hb.1.elim; exact Nat.le_trans hs1 hb)
        go_wp2_with fail
        refine mixQ_normal (HS.out _ GA) ?_
        -- buildSlice
        refine wpMix_hard rfl rfl ?_
        go_wp2_with fail
        have G3 := G.trans GA
        have u0 := bk_grown p0 GA (by simp; omega)
        have u1 := bk_grown p1 GA (by simp; omega)
        have u2 := bk_grown p2 GA (by simp; omega)
        have hO1 := hO.grown GA (fun y hy => by omega) (by omega)
        have hbk : w2.heap[b]? = wr.heap[b]? := GA.block b (Nat.lt_of_lt_of_le hbl2 G.size) (by simpa using hgb)
        have hbw2 : b < w2.heap.size := Nat.lt_of_lt_of_le (Nat.lt_of_lt_of_le hbl2 G.size) GA.size
        replace u0 := bk_alloc u0 (.cells (tmB y A7 c7) 33)
        replace u1 := bk_alloc u1 (.cells (tmB y A7 c7) 33)
        replace u2 := bk_alloc u2 (.cells (tmB y A7 c7) 33)
        replace pg2 := bk_alloc pg2 (.cells (tmB y A7 c7) 33)
        have hbk2 : (w2.alloc (.cells (tmB y A7 c7) 33)).heap[b]? = wr.heap[b]? := (Below.heap_alloc w2 _ b hbw2).trans hbk
        replace G3 := gr_alloc G3 (.cells (tmB y A7 c7) 33)
        replace hO1 := hO1.alloc (.cells (tmB y A7 c7) 33)
        have hb1' := bk_new w2 (.cells (tmB y A7 c7) 33)
        have hk1 : tmK.K (w2.alloc (.cells (tmB y A7 c7) 33)) (fun b => (N + 1 ≤ b) ∧ Live (w2.alloc (.cells (tmB y A7 c7) 33)) b ∧ v.ownBlock ≠ some b) y [.int .i64 y.kind, .string y.name, .int .i64 y.idx, .slice A7 y.args.length c7] := by
          refine EK.mono (EK.below (tmK_of y hl7 R7) (bl_new _ _)) (fun b hb hl => ⟨by omega, hl, fun he => ?_⟩)
          have := (hobl b he).2
          omega
        refine mixQ_normal (HS2.out _ u0 u2 hbk2) ?_
        -- append
        refine wpMix_hard rfl rfl ?_
        refine wp_snoc (d := tmK) rfl (.tmp 59) (.tmp 74) _ rfl (e := 33) (bytes := 56) (z := .agg #[.int .i64 0, .string ⟨#[]⟩, .int .i64 0, .slice none 0 0]) (by kernel_rfl) (by kernel_rfl) (by rfl) (by decide) rfl hO1 (by have := Hxl.out; omega) (by simp; omega) rfl hb1' hk1 ?_
        intro ga cap w5 hO5 hgrow hcap hlt5 hBg
        have hbw3 : b < (w2.alloc (.cells (tmB y A7 c7) 33)).heap.size := by simp; omega
        have hbN : b ≤ N := by omega
        have hbk3 : w5.heap[b]? = wr.heap[b]? := (hgrow.block b hbw3 (hne b hbN)).trans hbk2
        replace u0 := bk_grown u0 hgrow (hne _ (by omega))
        replace u1 := bk_grown u1 hgrow (hne _ (by omega))
        replace u2 := bk_grown u2 hgrow (hne _ (Nat.le_refl _))
        replace pg2 := bk_grown pg2 hgrow (hne _ (by omega))
        replace G3 := gr_into G3 hgrow (fun k hk => by have := (hobl k hk).1; omega)
        have hs5 := hgrow.size
        refine mixQ_normal (HS2.out _ u0 u2 hbk3) ?_
        simp only [Act.put, List.setIfInBounds_toArray, List.set_cons_zero, List.set_cons_succ]
        repeat (refine wpMix_soft (v := ?_) rfl rfl ?_ ?_; rotate_left; (focus (intro w' hS; go_simp; with_reducible rfl)); simp only [Act.put, List.setIfInBounds_toArray, List.set_cons_zero, List.set_cons_succ])
        refine wpMix_done (cutQ_normal ?_)
        obtain ⟨d0, d1, d2, d3⟩ := bx4 u2
        have z3 := bk_free u2 3
        go_wp2_with fail
        refine NoPanic.normal ?_
        go_wp2_with fail
        go_roundg (t.args.length - (j + 1))
        case rel =>
          refine ⟨j + 1, z.2.1, z.1, _, xs ++ [y], by omega, by omega, by go_num, Lib.hid (fun h0 => ?_), HN1, Lib.hid (by have := Hxl.out; simp; omega), bk_far u0 (by show w.heap.size ≠ N; omega) _, bk_far u1 (by show w.heap.size + 1 ≠ N; omega) _, bk_set u2 3 _, bk_far pg2 (by show g ≠ N; omega) _, ?_, by rw [World.size_setCell]; simp at hs5; omega, gr_set G3 (by show w.heap.size ≤ N; omega) _⟩
          · have hy : y = z.2.2 := by rw [← Hy.out, refT, if_pos h0]
            rw [hy]
            exact HN2.out h0
          · exact hO5.store (p := ⟨N, 3, none⟩) (by show ¬ N + 1 ≤ N; omega) (by show N < N + 1; omega) _
        case measure => omega
      · obtain rfl : j = t.args.length := by omega
        have HLv : Hid (L = (0, W', xs)) := Lib.hid (by rw [← HL.out]; exact HX2.out.done)
        have HT3 : Hid (T = nodeT (Gf f) W' t xs ms ss deep) := Lib.hid (by rw [HT2.out, HLv.out]; rfl)
        have HXX := Lib.hid (subL_ok (F := Ff f ms ss) (fun W a d h => subT_ok f W a ms ss d HF.out h) t.kind deep t.args V 0 (by rw [HL.out, HLv.out]))
        rw [HL.out, HLv.out] at HXX
        have HVW : Hid (V ≤ W' ∧ W' ≤ 262144) := Lib.hid ⟨HX2.out.2.1, HX2.out.2.2.1⟩
        clear HT2
        obtain ⟨Ax, cx, rfl, hcx, RX⟩ := hO.read (S' := fun b => N + 1 ≤ b) (fun b hb => hb) (fun b hb => hb)
        have hx1 : tsizes xs < 100000000 := by
          have h1 := HXX.out.1.len
          have h2 : ∀ (l : List Tm), (∀ x ∈ l, smallB x = true) → tsizes l ≤ 4096 * l.length := by
            intro l
            induction l with
            | nil => intro _; simp [tsizes]
            | cons y l ih =>
              intro h
              have a := small_size (h y (List.mem_cons_self ..))
              have b := ih (fun x hx => h x (List.mem_cons_of_mem _ hx))
              simp only [tsizes, List.length_cons]
              omega
          have h3 := h2 xs HXX.out.2
          simp only at h1
          omega
        have hxl : xs.length < 1000000 := by have := Hxl.out; omega
        obtain ⟨d0, d1, d2, d3⟩ := bx4 p2
        cases k5 : (t.kind == 5)
        · skip
          have HTn : Hid (T = chkT W' (.mk t.kind t.name t.idx xs)) := Lib.hid (by
            rw [HT3.out, nodeT, if_pos]
            left
            simpa using k5)
          have hC := refChecked_calls W' (.mk t.kind t.name t.idx xs) Ax cx g wr _ (by rw [tsize]; omega) hcx RX (fun h => by omega) pg
          rw [show chkT W' (.mk t.kind t.name t.idx xs) = T from HTn.out.symm] at hC
          have HC := Lib.hid hC
          clear hC
          go_wp2_with fail
          refine HC.out.mono ?_
          rintro e1 w2 ⟨hG2, ⟨A7, c7, rfl, hl7, R7⟩, pg2⟩
          have hs2 := hG2.size
          replace G := G.trans hG2
          replace p1 := bk_grown p1 hG2 (by simp; omega)
          obtain ⟨x0, x1, x2, x3⟩ := bx4 p1
          obtain ⟨v0, v1, v2, v3⟩ : _ ∧ _ ∧ _ ∧ _ := ⟨bk_free p1 0, bk_free p1 1, bk_free p1 2, bk_free p1 3⟩
          go_wp2_with fail
          refine bodyPost_ret (res_term rfl rfl (set4_self p1)) rfl ⟨gr_set4 G (by omega), ⟨A7, c7, rfl, hl7, ?_⟩, (set4_far (by omega)).trans pg2⟩
          exact (R7.set4 (fun b hb => by omega)).mono (fun b hb _ => .inr (by omega))
        · by_cases hI : t.idx < deep
          · skip
            have hgq : decide ((deep : Int) ≤ t.idx) = false := by simp; omega
            have HTn : Hid (T = chkT W' (.mk t.kind t.name t.idx xs)) := Lib.hid (by rw [HT3.out, nodeT, if_pos (.inr hI)])
            clear hI
            have hC := refChecked_calls W' (.mk t.kind t.name t.idx xs) Ax cx g wr _ (by rw [tsize]; omega) hcx RX (fun h => by omega) pg
            rw [show chkT W' (.mk t.kind t.name t.idx xs) = T from HTn.out.symm] at hC
            have HC := Lib.hid hC
            clear hC
            go_wp2_with fail
            refine HC.out.mono ?_
            rintro e1 w2 ⟨hG2, ⟨A7, c7, rfl, hl7, R7⟩, pg2⟩
            have hs2 := hG2.size
            replace G := G.trans hG2
            replace p1 := bk_grown p1 hG2 (by simp; omega)
            obtain ⟨x0, x1, x2, x3⟩ := bx4 p1
            obtain ⟨v0, v1, v2, v3⟩ : _ ∧ _ ∧ _ ∧ _ := ⟨bk_free p1 0, bk_free p1 1, bk_free p1 2, bk_free p1 3⟩
            go_wp2_with fail
            refine bodyPost_ret (res_term rfl rfl (set4_self p1)) rfl ⟨gr_set4 G (by omega), ⟨A7, c7, rfl, hl7, ?_⟩, (set4_far (by omega)).trans pg2⟩
            exact (R7.set4 (fun b hb => by omega)).mono (fun b hb _ => .inr (by omega))
          · have hgq : decide ((deep : Int) ≤ t.idx) = true := by simp; omega
            have Hk5 : Hid (t.kind = 5) := Lib.hid (by simpa using k5)
            obtain ⟨n, Hn⟩ : ∃ n : Nat, Hid (t.idx - (deep : Int) = (n : Int)) := ⟨(t.idx - (deep : Int)).toNat, Lib.hid (by omega)⟩
            have hwi : IntKind.i64.wrap (t.idx - (deep : Int)) = (n : Int) := by
              rw [← Hn.out]
              exact IntWalk.i64_in _ ⟨by have := (sort_args Hso.out).1; omega, by have := (sort_args Hso.out).1; omega⟩
            have HTq : Hid (T = if n < K then (if shOk deep 0 0 (ms.getD n nilT) then applyT f W' (mv deep 0 (ms.getD n nilT)) (ss.getD n (.mk ⟨#[]⟩ [])) xs else errT 5 W') else chkT W' (.mk t.kind t.name (t.idx - K) xs)) := Lib.hid (by
              rw [HT3.out, nodeT, if_neg (by have := Hk5.out; omega), Hn.out, HK.out]
              rfl)
            clear hI
            by_cases hn : n < K
            · have hnb : decide (n < K) = true := by simpa using hn
              have hn1 : n < ms.length := by rw [HK.out]; exact hn
              have hn2 : n < ss.length := by rw [HK2.out]; exact hn
              have hHT : T = if shOk deep 0 0 ms[n] then applyT f W' (mv deep 0 ms[n]) ss[n] xs else errT 5 W' := by
                rw [HTq.out, if_pos hn, List.getD_eq_getElem?_getD, List.getElem?_eq_getElem hn1, List.getD_eq_getElem?_getD, List.getElem?_eq_getElem hn2]
                rfl
              have HTm := Lib.hid hHT
              clear hHT HTq
              have Hmo := Lib.hid (Hms.out _ (List.getElem_mem hn1))
              have hmz := small_size Hmo.out.2
              obtain ⟨x, Hx⟩ : ∃ x, Hid (mv deep 0 ms[n] = x) := ⟨_, Lib.hid rfl⟩
              have hxz : tsize x = tsize ms[n] := by rw [← Hx.out, mv_size]
              have hgr : decide ((1048576 : Int) < grT x) = !shOk deep 0 0 ms[n] := by
                have h1 := grT_le 1048576 (by decide) x
                rw [← Hx.out, vLe_mv (deep : Int) (by omega) ms[n] 0 (Int.le_refl _) Hmo.out.1, Hx.out] at h1
                rw [← h1]
                by_cases h : grT x ≤ 1048576
                · rw [decide_eq_true h, decide_eq_false (by omega)]; rfl
                · rw [decide_eq_false h, decide_eq_true (by omega)]; rfl
              have R1 := hr10.grown G (fun b hb => ne_of hS1 b hb.1)
              have R2 := hr20.grown G (fun b hb => ne_of hS2 b hb.1)
              obtain ⟨b, o, A', c', rfl, ⟨hSb, hbl⟩, e0, e1, e2, e3, hl', hr'⟩ := R1.tm n hn1
              obtain ⟨b2, o2, A2', c2', rfl, ⟨hSb2, hbl2⟩, f0, f1, hl2', hr2'⟩ := R2.sm n hn2
              have hbl2 := hbl2.lt
              have hgb2 : b2 ≠ g := fun h => hS2 (h ▸ hSb2)
              have hn0 : (0 : Int) ≤ (n : Int) := by omega
              go_wp2_with fail
              refine (refMove_calls (tsize ms[n] + 1) ms[n] A' c' (deep : Int) 0 _ _ (Nat.lt_succ_self _) (by omega) (obj_ix _ Hmo.out.1) (by omega) (by omega) (Int.le_refl _) (by omega) hr').use fun w5 A9 c9 hc9 hR9 hb5 => ?_
              rw [Hx.out] at hc9 hR9 ⊢
              have hs5 := hb5.size
              clear c0 c1 c2 c3 d0 d1 d2 d3 y0 y1 e0 e1 e2 e3
              replace hR9 := hR9.mono (S' := fun b => wr.heap.size ≤ b) (fun b hb _ => by rcases hb with hb | hb; exact hb.elim; exact hb)
              replace f0 := cl_below f0 hb5
              replace f1 := cl_below f1 hb5
              replace hr2' := hr2'.below hb5
              replace RX := RX.below hb5
              replace p1 := bk_below p1 hb5
              replace p2 := bk_below p2 hb5
              replace pg := bk_below pg hb5
              replace G := gr_next G hb5
              obtain ⟨p, Hp⟩ : ∃ p, Hid (w5.heap.size = p) := ⟨_, Lib.hid rfl⟩
              have hpN : N + 1 ≤ p := by rw [← Hp.out]; omega
              have q0 := bk_at Hp.out (.cells (tmB x A9 c9) 33)
              replace f0 := cl_below f0 (bl_new w5 (.cells (tmB x A9 c9) 33))
              replace f1 := cl_below f1 (bl_new w5 (.cells (tmB x A9 c9) 33))
              replace hr2' := hr2'.below (bl_new w5 (.cells (tmB x A9 c9) 33))
              replace RX := RX.below (bl_new w5 (.cells (tmB x A9 c9) 33))
              replace hR9 := hR9.below (bl_new w5 (.cells (tmB x A9 c9) 33))
              replace p1 := bk_alloc p1 (.cells (tmB x A9 c9) 33)
              replace p2 := bk_alloc p2 (.cells (tmB x A9 c9) 33)
              replace pg := bk_alloc pg (.cells (tmB x A9 c9) 33)
              replace G := gr_alloc G (.cells (tmB x A9 c9) 33)
              obtain ⟨c0, c1, c2, c3⟩ := bx4 q0
              rw [← Hp.out] at c0 c1 c2 c3
              go_upto_region 18 with (fail)
              rw [Hp.out]
              rw [Hp.out] at c0 c1 c2 c3
              have hpl : p < (w5.alloc (.cells (tmB x A9 c9) 33)).heap.size := by simp [Hp.out]
              have hpw : w5.heap.size ≤ p := by rw [Hp.out]; exact Nat.le_refl _
              have hgpos : ∀ b, wr.heap.size ≤ b → b ≠ g := fun b hb => by omega
              generalize (w5.alloc (.cells #[.int .i64 x.kind, .string x.name, .int .i64 x.idx, .slice A9 x.args.length c9] 33)) = w6 at *
              go_wp2_with fail
              refine (greatest_calls (tsize x + 1) x A9 c9 _ _ (Nat.lt_succ_self _) (by omega) hR9).use fun w7 hb7 => ?_
              have hs7 := hb7.size
              clear c0 c1 c2 c3
              replace f0 := cl_below f0 hb7
              replace f1 := cl_below f1 hb7
              replace hr2' := hr2'.below hb7
              replace RX := RX.below hb7
              replace hR9 := hR9.below hb7
              replace p1 := bk_below p1 hb7
              replace p2 := bk_below p2 hb7
              replace pg := bk_below pg hb7
              replace q0 := bk_below q0 hb7
              replace G := gr_next G hb7
              cases hs : shOk deep 0 0 ms[n]
              · rw [hs] at hgr
                have hgr' : decide ((1048576 : Int) < grT x) = true := hgr
                have HTe : Hid (T = errT 5 W') := Lib.hid (by rw [HTm.out, hs]; rfl)
                have z1 := bk_free pg 1
                obtain ⟨y0, y1⟩ := bxm pg
                have q1 := bk_far p1 (p := ⟨g, 1, none⟩) (by show w.heap.size + 1 ≠ g; omega) (.int .i64 5)
                obtain ⟨x0, x1, x2, x3⟩ := bx4 p1
                obtain ⟨v0, v1, v2, v3⟩ : _ ∧ _ ∧ _ ∧ _ := ⟨bk_free p1 0, bk_free p1 1, bk_free p1 2, bk_free p1 3⟩
                clear hs hgr
                go_wp2_with fail
                refine bodyPost_ret (res_term rfl rfl (set4_self q1)) rfl ?_
                rw [HTe.out]
                exact ZT _ q1 (gr_row G rfl _) 5 W' (by decide) (bk_set pg 1 _)
              · rw [hs] at hgr
                have hgr' : decide ((1048576 : Int) < grT x) = false := hgr
                have HTe : Hid (T = applyT f W' x ss[n] xs) := Lib.hid (by rw [HTm.out, hs, if_pos rfl, Hx.out])
                have Hs := Lib.hid hs
                clear hs hgr
                obtain ⟨c0, c1, c2, c3⟩ := bx4 q0
                obtain ⟨d0, d1, d2, d3⟩ := bx4 p2
                have hpg : p ≠ g := by omega
                have hNg : N ≠ g := by omega
                have HS : ∀ w' : World, w7.grownBy w' (some g) →
                  w'.cell? ⟨p, 0, none⟩ = some (.int .i64 x.kind) ∧ w'.cell? ⟨p, 1, none⟩ = some (.string x.name) ∧ w'.cell? ⟨p, 2, none⟩ = some (.int .i64 x.idx) ∧ w'.cell? ⟨p, 3, none⟩ = some (.slice A9 x.args.length c9) ∧
                w'.cell? ⟨b2, o2 + n * 2, none⟩ = some (.string ss[n].fam) ∧ w'.cell? ⟨b2, o2 + n * 2 + 1, none⟩ = some (.slice A2' ss[n].args.length c2') ∧ w'.cell? ⟨N, 3, none⟩ = some (.slice Ax xs.length cx) := fun w' h => ⟨cl_gr c0 h hpg, cl_gr c1 h hpg, cl_gr c2 h hpg, cl_gr c3 h hpg, cl_gr f0 h hgb2, cl_gr f1 h hgb2, cl_gr d3 h hNg⟩
                replace HS := Lib.hid HS
                go_upto_region 21 with (fail)
                refine wp_region_mixN 9 (fun w' => w'.cell? ⟨p, 0, none⟩ = some (.int .i64 x.kind) ∧ w'.cell? ⟨p, 1, none⟩ = some (.string x.name) ∧ w'.cell? ⟨p, 2, none⟩ = some (.int .i64 x.idx) ∧ w'.cell? ⟨p, 3, none⟩ = some (.slice A9 x.args.length c9) ∧
                w'.cell? ⟨b2, o2 + n * 2, none⟩ = some (.string ss[n].fam) ∧ w'.cell? ⟨b2, o2 + n * 2 + 1, none⟩ = some (.slice A2' ss[n].args.length c2') ∧ w'.cell? ⟨N, 3, none⟩ = some (.slice Ax xs.length cx))
                  [(true, 0), (true, 1), (true, 2), (true, 3), (true, 4), (true, 5), (true, 6), (true, 7), (false, 8)] (by kernel_rfl) rfl (by kernel_rfl) (HS.out _ (gr_drew (World.grownBy.refl _ _))) ?_
                clear c0 c1 c2 c3 d0 d1 d2 d3 f0 f1
                repeat (refine wpMix_soft (v := ?_) rfl rfl ?_ ?_; rotate_left; (focus (intro w' hS; go_simp; with_reducible rfl)); simp only [Act.put, List.setIfInBounds_toArray, List.set_cons_zero, List.set_cons_succ])
                refine wpMix_hard rfl rfl ?_
                go_wp2_with fail
                have Hxo : objB x = true := by rw [← Hx.out]; exact mv_obj _ (by omega) _ 0 (Int.le_refl _) Hmo.out.1 Hs.out
                have Hsx : smallB x = true := by
                  have h1 := Hmo.out.2
                  simp only [smallB] at h1 ⊢
                  rw [← Hx.out, mv_size, mv_dep]
                  exact h1
                have Hxa : ∀ a ∈ xs, objB a = true ∧ smallB a = true := fun a ha => ⟨by
                  have h1 := HXX.out.1.obj (by
                    rcases Hso.out with h | h | h
                    · exact (var_obj h Hk5.out).1
                    · rw [typB_eq, atomB, Hk5.out] at h; simp at h
                    · rw [kndB_eq, Hk5.out] at h; simp at h)
                  rw [objBs_iff] at h1
                  exact List.all_eq_true.1 h1 a ha, HXX.out.2 a ha⟩
                have hA1 := HAp.out W' x ss[n] xs g A9 A2' Ax c9 c2' cx w7.drew _ _ _ (by have := hf.out; have := HV.out; have := HVW.out; omega) HVW.out.2 Hxo Hsx Hxa hxl hc9 hR9.drew hl2' hr2'.drew hcx RX.drew
                have hA2 := hA1 (fun h => by omega) (fun h => hS2 h.1) (fun h => by omega) pg
                rw [← HTe.out] at hA2
                refine hA2.mono ?_
                rintro e1 w8 ⟨hG8, ⟨A7, c7, rfl, hl7, R7⟩, pg8⟩
                replace hG8 := gr_undrew hG8
                have hs8 := hG8.size
                replace G := G.trans hG8
                replace p1 := bk_grown p1 hG8 (by simp; omega)
                go_wp2_with fail
                refine mixQ_normal (HS.out _ hG8) ?_
                refine wpMix_done (cutQ_normal ?_)
                obtain ⟨x0, x1, x2, x3⟩ := bx4 p1
                obtain ⟨v0, v1, v2, v3⟩ : _ ∧ _ ∧ _ ∧ _ := ⟨bk_free p1 0, bk_free p1 1, bk_free p1 2, bk_free p1 3⟩
                go_wp2_with fail
                refine NoPanic.normal ?_
                go_wp2_with fail
                refine bodyPost_ret (res_term rfl rfl (set4_self p1)) rfl ⟨gr_set4 G (by omega), ⟨A7, c7, rfl, hl7, ?_⟩, (set4_far (by omega)).trans pg8⟩
                have key : ∀ b, ((wr.heap.size ≤ b ∧ b < w7.drew.heap.size) ∨ w7.drew.heap.size ≤ b) → wr.heap.size ≤ b := fun b hb => by
                  have : w7.drew.heap.size = w7.heap.size := rfl
                  omega
                have R8 := R7.mono (S' := fun b => wr.heap.size ≤ b) (fun b hb _ => key b hb)
                exact (R8.set4 (fun b hb => by omega)).mono (fun b hb _ => .inr (by omega))
            · skip
              have hnb : decide (n < K) = false := by simpa using hn
              have HTn : Hid (T = chkT W' (.mk t.kind t.name (t.idx - K) xs)) := Lib.hid (by rw [HTq.out, if_neg hn])
              have hwk : IntKind.i64.wrap (t.idx - (K : Int)) = t.idx - (K : Int) := IntWalk.i64_in _ ⟨by have := (sort_args Hso.out).1; have := HK.out; omega, by have := (sort_args Hso.out).1; omega⟩
              have z2 := bk_free p2 2
              clear HTq
              go_upto_region 23 with (fail)
              replace p2 := bk_set p2 2 (.int .i64 (t.idx - (K : Int)))
              replace p1 := bk_far p1 (p := ⟨N, 2, none⟩) (by show w.heap.size + 1 ≠ N; omega) (.int .i64 (t.idx - (K : Int)))
              replace pg := bk_far pg (p := ⟨N, 2, none⟩) (by show g ≠ N; omega) (.int .i64 (t.idx - (K : Int)))
              replace RX := RX.setc (p := ⟨N, 2, none⟩) (fun b hb => by show b ≠ N; omega) (.int .i64 (t.idx - (K : Int)))
              replace G := gr_set G (p := ⟨N, 2, none⟩) (by show w.heap.size ≤ N; omega) (.int .i64 (t.idx - (K : Int)))
              replace hsz2 : N + 1 ≤ (wr.setCell ⟨N, 2, none⟩ (.int .i64 (t.idx - (K : Int)))).heap.size := by rw [World.size_setCell]; exact hsz2
              clear c0 c1 c2 c3 d0 d1 d2 d3 y0 y1 z2 hO p0
              generalize wr.setCell ⟨N, 2, none⟩ (.int .i64 (t.idx - (K : Int))) = w4 at *
              obtain ⟨d0, d1, d2, d3⟩ := bx4 p2
              have hC := refChecked_calls W' (.mk t.kind t.name (t.idx - K) xs) Ax cx g w4 _ (by rw [tsize]; omega) hcx RX (fun h => by omega) pg
              rw [show chkT W' (.mk t.kind t.name (t.idx - K) xs) = T from HTn.out.symm] at hC
              have HC := Lib.hid hC
              clear hC
              go_wp2_with fail
              refine HC.out.mono ?_
              rintro e1 w2 ⟨hG2, ⟨A7, c7, rfl, hl7, R7⟩, pg2⟩
              have hs2 := hG2.size
              replace G := G.trans hG2
              replace p1 := bk_grown p1 hG2 (by simp; omega)
              obtain ⟨x0, x1, x2, x3⟩ := bx4 p1
              obtain ⟨v0, v1, v2, v3⟩ : _ ∧ _ ∧ _ ∧ _ := ⟨bk_free p1 0, bk_free p1 1, bk_free p1 2, bk_free p1 3⟩
              go_wp2_with fail
              refine bodyPost_ret (res_term rfl rfl (set4_self p1)) rfl ⟨gr_set4 G (by omega), ⟨A7, c7, rfl, hl7, ?_⟩, (set4_far (by omega)).trans pg2⟩
              exact (R7.set4 (fun b hb => by omega)).mono (fun b hb _ => .inr (by omega))
    · skip
      have heb : (e == 0) = false := by simpa using he
      have heb2 : (e != 0) = true := by simpa using he
      have HEE := Lib.hid (HY.out he)
      have He := Lib.hid he
      have HTe : Hid (T = errT e W') := Lib.hid (by rw [HT2.out, HEE.out.1, if_pos He.out, HEE.out.2])
      clear he HX HY HT2
      have Hp1 := Lib.hid p1
      obtain ⟨x0, x1, x2, x3⟩ := bx4 p1
      obtain ⟨v0, v1, v2, v3⟩ : _ ∧ _ ∧ _ ∧ _ := ⟨bk_free p1 0, bk_free p1 1, bk_free p1 2, bk_free p1 3⟩
      by_cases hlt : j < t.args.length
      · go_wp2_with fail
        refine bodyPost_ret (res_term rfl rfl (set4_self Hp1.out)) rfl ?_
        rw [HTe.out]
        exact ZT _ Hp1.out G e W' He.out pg
      · go_wp2_with fail
        refine bodyPost_ret (res_term rfl rfl (set4_self Hp1.out)) rfl ?_
        rw [HTe.out]
        exact ZT _ Hp1.out G e W' He.out pg
end Go.Proofs.Ytolooomphmcphaa
