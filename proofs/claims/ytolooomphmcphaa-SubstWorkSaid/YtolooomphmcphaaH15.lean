/- lfcheckref08.Many, Subst. -/
import Derived.Test.YtolooomphmcphaaH14
import Derived.Test.YtolooomphmcphaaH9
namespace Go.Proofs.Ytolooomphmcphaa
open Go.RowKit

set_option maxRecDepth 100000 in
set_option maxHeartbeats 4000000 in
theorem refMany_calls (t : Tm) (ms : List Tm) (ss : List Sm) (A Am As : Option Addr) (c cm cs : Nat) (w : World) (S S1 S2 : Nat → Prop) (ht : tsize t < 1000000000) (hms : ∀ m ∈ ms, tsize m < 1000000000) (hss : ∀ s ∈ ss, ssize s < 1000000000) (hml : ms.length < 1000000) (hsl : ss.length < 1000000)
    (hl : t.args.length ≤ c) (hr : Rd tmK w S A t.args) (hr1 : Rd tmK w S1 Am ms) (hr2 : Rd smK w S2 As ss) :
    GivP Try.prog 45 #[tmV t A c, .slice Am ms.length cm, .slice As ss.length cs] w (fun _ => False) (manyR t ms ss).2 (.int .i64 (manyR t ms ss).1) := by
  obtain ⟨R, HR0⟩ : ∃ R, Hid (manyR t ms ss = R) := ⟨_, Lib.hid rfl⟩
  rw [HR0.out]
  have hr0 := hr.bound
  have hr10 := hr1.bound
  have hr20 := hr2.bound
  clear hr hr1 hr2
  have HF : Hid (∀ x ∈ t :: ms, tsize x < 1000000000) := Lib.hid (fun x hx => by rcases List.mem_cons.1 hx with rfl | hx; exact ht; exact hms x hx)
  have Hss := Lib.hid hss
  clear hms hss
  obtain ⟨K, HK⟩ : ∃ K, Hid (ms.length = K) := ⟨_, Lib.hid rfl⟩
  obtain ⟨K2, HK2⟩ : ∃ K2, Hid (ss.length = K2) := ⟨_, Lib.hid rfl⟩
  have hobx := fun (W : World) (h : Below w.heap.size w W) => objects_calls ms Am cm W _ (by omega) (fun x hx => HF.out x (List.mem_cons_of_mem _ hx)) (hr10.below h)
  have hsim := fun (W : World) (h : Below w.heap.size w W) => simples_calls ss As cs W _ (by omega) Hss.out (hr20.below h)
  simp only [HK.out, HK2.out] at hobx hsim
  have HOB := Lib.hid hobx
  have HSI := Lib.hid hsim
  clear hobx hsim
  rw [HK.out, HK2.out]
  have p3 := bk_alloc (bk_new w (.cells (tmB t A c) 33)) (.cells #[.int .i64 0, .string ⟨#[]⟩, .int .i64 0, .slice none 0 0] 33)
  have p6 := bk_at (w := w.alloc (.cells (tmB t A c) 33)) (n := w.heap.size + 1) (by simp) (.cells #[.int .i64 0, .string ⟨#[]⟩, .int .i64 0, .slice none 0 0] 33)
  have B := bl_alloc (bl_new w (.cells (tmB t A c) 33)) (.cells #[.int .i64 0, .string ⟨#[]⟩, .int .i64 0, .slice none 0 0] 33)
  have hsz : w.heap.size + 2 ≤ ((w.alloc (.cells (tmB t A c) 33)).alloc (.cells #[.int .i64 0, .string ⟨#[]⟩, .int .i64 0, .slice none 0 0] 33)).heap.size := by simp
  have hr01 := hr0.below B
  have hO := Own.one (d := tmK) (e := 33) (B := w.heap.size + 2) (S' := fun b => S b ∧ Live w b) (tmK_of t hl hr01) hsz (fun _ h => h)
  simp only [World.size_alloc] at hO
  have hR1 := (hr10.below B).below (bl_new _ (.cells (tmB t A c) 33))
  have hlx : ([t] : List Tm).length < 1000000000 := by simp
  have hly : ms.length < 1000000000 := by omega
  have hB0 : w.heap.size + 2 ≤ (((w.alloc (.cells (tmB t A c) 33)).alloc (.cells #[.int .i64 0, .string ⟨#[]⟩, .int .i64 0, .slice none 0 0] 33)).alloc (.cells (tmB t A c) 33)).heap.size := by simp
  have hdis : ∀ b, (S1 b ∧ Live w b) → Value.ownBlock (.slice (some ⟨w.heap.size + 1 + 1, 0, none⟩) 1 1) ≠ some b := fun b hb he => by
    have := hb.2.lt
    simp [Value.ownBlock] at he
    omega
  go_enter Try.func45, Try.ntmps45
  go_wp2_with (at_builtin; go_loud (refine wp_ext (d := tmK) (v := .slice (some ⟨w.heap.size + 1 + 1, 0, none⟩) 1 1) rfl (.tmp 14) (.tmp 15) _ rfl (e := 33) (bytes := 56) (z := .agg #[.int .i64 0, .string ⟨#[]⟩, .int .i64 0, .slice none 0 0]) (by kernel_rfl) (by kernel_rfl) (by rfl) (by decide) rfl hO hlx hly hB0 (show _ = Value.slice Am ms.length cm by rw [HK.out]; rfl) hR1 hdis ?_; intro v' w5 hO5 hgrow hat))
  have hne : ∀ k, k < w.heap.size + 2 → some k ≠ Value.ownBlock (.slice (some ⟨w.heap.size + 1 + 1, 0, none⟩) 1 1) := fun k hk he => by simp [Value.ownBlock] at he; omega
  replace p3 := bk_grown (bk_alloc p3 (.cells (tmB t A c) 33)) hgrow (hne _ (by omega))
  replace p6 := bk_grown (bk_alloc p6 (.cells (tmB t A c) 33)) hgrow (hne _ (by omega))
  replace B := bl_grown (bl_alloc B (.cells (tmB t A c) 33)) hgrow (fun k hk => by simp [Value.ownBlock] at hk; omega)
  have hs5 := hgrow.size
  simp only [World.size_alloc] at hs5
  obtain ⟨A8, c8, rfl, hc8, R8⟩ := hO5.read (S' := fun _ => True) (fun _ _ => trivial) (fun _ _ => trivial)
  refine (formed_calls ([t] ++ ms) A8 c8 w5 _ (by simp; omega) (fun x hx => HF.out x (by simpa using hx)) R8).use fun w6 hb6 => ?_
  obtain ⟨E, HE⟩ : ∃ E, Hid (wfsE (t :: ms) = E) := ⟨_, Lib.hid rfl⟩
  rw [show wfsE ([t] ++ ms) = E from HE.out]
  have hs6 := hb6.size
  clear hO hR1 hr01 hO5 hB0
  replace p3 := bk_below p3 hb6; replace p6 := bk_below p6 hb6; replace B := bl_self B hb6; clear hb6
  obtain ⟨x0, x1, x2, x3⟩ := bx4 p6
  obtain ⟨v0, v1, v2, v3⟩ : _ ∧ _ ∧ _ ∧ _ := ⟨bk_free p6 0, bk_free p6 1, bk_free p6 2, bk_free p6 3⟩
  by_cases h0 : E = 0
  · subst h0
    go_wp2_with fail
    refine (HSI.out _ B).use fun w7 hb7 => ?_
    obtain ⟨E2, HE2⟩ : ∃ E2, Hid (swfsE ss = E2) := ⟨_, Lib.hid rfl⟩
    rw [HE2.out]
    have HFE : Hid (formsE (t :: ms) ss = E2) := Lib.hid (by rw [formsE, HE.out, if_neg (fun h => h rfl), HE2.out])
    have hs7 := hb7.size
    clear x0 x1 x2 x3 v0 v1 v2 v3
    replace p3 := bk_below p3 hb7; replace p6 := bk_below p6 hb7; replace B := bl_self B hb7; clear hb7
    obtain ⟨x0, x1, x2, x3⟩ := bx4 p6
    obtain ⟨v0, v1, v2, v3⟩ : _ ∧ _ ∧ _ ∧ _ := ⟨bk_free p6 0, bk_free p6 1, bk_free p6 2, bk_free p6 3⟩
    by_cases h1 : E2 = 0
    · subst h1
      have Hwf := Lib.hid (forms_zero HFE.out)
      by_cases hk : ms.length = ss.length
      · have hkb : ((K : Int) != (K2 : Int)) = false := by have := HK.out; have := HK2.out; simp; omega
        have Hk := Lib.hid hk
        clear hk
        go_wp2_with fail
        refine (HOB.out _ B).use fun w8 hb8 => ?_
        have hs8 := hb8.size
        clear x0 x1 x2 x3 v0 v1 v2 v3
        replace p3 := bk_below p3 hb8; replace p6 := bk_below p6 hb8; replace B := bl_self B hb8; clear hb8
        obtain ⟨x0, x1, x2, x3⟩ := bx4 p6
        obtain ⟨v0, v1, v2, v3⟩ : _ ∧ _ ∧ _ ∧ _ := ⟨bk_free p6 0, bk_free p6 1, bk_free p6 2, bk_free p6 3⟩
        cases ho : ms.all objoB
        · have HR : Hid (R = (32, zeroT)) := Lib.hid (by rw [← HR0.out, manyR, if_neg (fun h => h HFE.out), if_neg (fun h => h Hk.out), ho]; rfl)
          rw [show objsE ms = 32 by rw [objsE, ho]; rfl]
          clear ho
          go_wp2_with fail
          exact bodyPost_ret (res_pair rfl rfl rfl (set4_self p6)) rfl ⟨none, 0, by rw [HR.out]; rfl, by rw [HR.out]; exact Nat.le_refl _, by rw [HR.out]; exact Rd.nil _ _ _ _, bl_set4 B (by omega)⟩
        · obtain ⟨T, HT⟩ : ∃ T, Hid (subT 262145 0 t ms ss 0 = T) := ⟨_, Lib.hid rfl⟩
          have HR : Hid (R = (T.1, refT T)) := Lib.hid (by rw [← HR0.out, manyR, if_neg (fun h => h HFE.out), if_neg (fun h => h Hk.out), ho, HT.out]; rfl)
          rw [show objsE ms = 0 by rw [objsE, ho]; rfl]
          have Hms : Hid (∀ m ∈ ms, objB m = true ∧ smallB m = true) := Lib.hid (fun m hm => by
            have := List.all_eq_true.1 ho m hm
            simpa [objoB] using this)
          have pg := bk_new w8 (.cells #[.int .i64 0, .int .i64 0] 83)
          have B1 := bl_alloc B (.cells #[.int .i64 0, .int .i64 0] 83)
          have q3 := bk_alloc p3 (.cells #[.int .i64 0, .int .i64 0] 83)
          have q6 := bk_alloc p6 (.cells #[.int .i64 0, .int .i64 0] 83)
          have hX : ∀ b, Live w b → b ≠ w8.heap.size := fun b hb => by have := hb.lt; omega
          have hwt := wf_sort (Hwf.out t (List.mem_cons_self ..))
          have hwz := small_size hwt.2
          have HX := substitute_calls 262145 0 t ms ss 0 w8.heap.size A Am As c cm cs _ _ _ _ (by omega) (by omega) hwt.1 hwz (by omega) Hk.out hml Hms.out hl (hr0.below B1) (hr10.below B1) (hr20.below B1) (fun h => hX _ h.2 rfl) (fun h => hX _ h.2 rfl) (fun h => hX _ h.2 rfl) pg
          rw [HT.out, HK.out, HK2.out] at HX
          have HX2 := Lib.hid HX
          clear ho HX
          clear x0 x1 x2 x3 v0 v1 v2 v3
          obtain ⟨c0, c1, c2, c3⟩ := bx4 q3
          go_wp2_with fail
          refine HX2.out.mono ?_
          rintro e1 w9 ⟨hG9, ⟨A7, c7, rfl, hl7, R7⟩, pg9⟩
          have hs9 := hG9.size
          simp only [World.size_alloc] at hs9
          replace q6 := bk_grown q6 hG9 (by simp; omega)
          replace B1 := bl_grown B1 hG9 (fun k hk => by simp at hk; omega)
          clear c0 c1 c2 c3
          obtain ⟨y, Hy⟩ : ∃ y, Hid (refT T = y) := ⟨_, Lib.hid rfl⟩
          rw [Hy.out] at hl7 R7 ⊢
          have R9 := (R7.mono (S' := fun b => w.heap.size + 2 ≤ b) (fun b hb _ => by rcases hb with hb | hb; exact hb.1.elim; (simp only [World.size_alloc] at hb; omega))).below (bl_new w9 (.cells (tmB y A7 c7) 33))
          have r12 := bk_new w9 (.cells (tmB y A7 c7) 33)
          replace q6 := bk_alloc q6 (.cells (tmB y A7 c7) 33)
          replace pg9 := bk_alloc pg9 (.cells (tmB y A7 c7) 33)
          replace B1 := bl_alloc B1 (.cells (tmB y A7 c7) 33)
          go_upto_region 14 with (fail)
          have HS : ∀ w' : World, w'.heap[w9.heap.size]? = some (.cells (tmB y A7 c7) 33 (0, 0)) → w'.heap[w8.heap.size]? = some (.cells #[.int .i64 T.2.1, .int .i64 T.1] 83 (0, 0)) →
              w'.cell? ⟨w9.heap.size, 0, none⟩ = some (.int .i64 y.kind) ∧ w'.cell? ⟨w9.heap.size, 1, none⟩ = some (.string y.name) ∧ w'.cell? ⟨w9.heap.size, 2, none⟩ = some (.int .i64 y.idx) ∧ w'.cell? ⟨w9.heap.size, 3, none⟩ = some (.slice A7 y.args.length c7) ∧ w'.cell? ⟨w8.heap.size, 1, none⟩ = some (.int .i64 T.1) :=
            fun w' h1 h2 => ⟨(bx4 h1).1, (bx4 h1).2.1, (bx4 h1).2.2.1, (bx4 h1).2.2.2, (bxm h2).2⟩
          replace HS := Lib.hid HS
          refine wp_region_mixedN (fun w' => w'.cell? ⟨w9.heap.size, 0, none⟩ = some (.int .i64 y.kind) ∧ w'.cell? ⟨w9.heap.size, 1, none⟩ = some (.string y.name) ∧ w'.cell? ⟨w9.heap.size, 2, none⟩ = some (.int .i64 y.idx) ∧ w'.cell? ⟨w9.heap.size, 3, none⟩ = some (.slice A7 y.args.length c7) ∧ w'.cell? ⟨w8.heap.size, 1, none⟩ = some (.int .i64 T.1))
            [(true, 0), (true, 1), (true, 2), (true, 3), (true, 4), (false, 5), (true, 6)] (by kernel_rfl) (by kernel_rfl) (HS.out _ r12 pg9) ?_
          repeat (refine wpMix_soft (v := ?_) rfl rfl ?_ ?_; rotate_left; (focus (intro w' hS; go_simp; with_reducible rfl)); simp only [Act.put, List.setIfInBounds_toArray, List.set_cons_zero, List.set_cons_succ])
          refine wpMix_hard rfl rfl ?_
          obtain ⟨x0, x1, x2, x3⟩ := bx4 q6
          obtain ⟨v0, v1, v2, v3⟩ : _ ∧ _ ∧ _ ∧ _ := ⟨bk_free q6 0, bk_free q6 1, bk_free q6 2, bk_free q6 3⟩
          go_wp2_with fail
          refine mixQ_normal (HS.out _ ((set4_far (by omega)).trans r12) ((set4_far (by omega)).trans pg9)) ?_
          repeat (refine wpMix_soft (v := ?_) rfl rfl ?_ ?_; rotate_left; (focus (intro w' hS; go_simp; with_reducible rfl)); simp only [Act.put, List.setIfInBounds_toArray, List.set_cons_zero, List.set_cons_succ])
          refine wpMix_done (NoPanic.normal ?_)
          go_wp2_with fail
          refine bodyPost_ret (res_pair rfl rfl rfl (set4_self q6)) rfl ⟨A7, c7, by rw [HR.out, Hy.out]; rfl, by rw [HR.out, Hy.out]; exact hl7, ?_, bl_self (bl_set4 B1 (by omega)) (bl_drew _ _)⟩
          rw [HR.out, Hy.out]
          exact (R9.set4 (fun b hb => by omega)).drew.mono (fun b hb _ => Or.inr (by omega))
      · have hkb : ((K : Int) != (K2 : Int)) = true := by have := HK.out; have := HK2.out; simp; omega
        have HR : Hid (R = (33, zeroT)) := Lib.hid (by rw [← HR0.out, manyR, if_neg (fun h => h HFE.out), if_pos hk])
        clear hk
        go_wp2_with fail
        exact bodyPost_ret (res_pair rfl rfl rfl (set4_self p6)) rfl ⟨none, 0, by rw [HR.out]; rfl, by rw [HR.out]; exact Nat.le_refl _, by rw [HR.out]; exact Rd.nil _ _ _ _, bl_set4 B (by omega)⟩
    · have h1b : (E2 != 0) = true := by simpa using h1
      have HR : Hid (R = (E2, zeroT)) := Lib.hid (by rw [← HR0.out, manyR, HFE.out, if_pos h1])
      clear h1
      go_wp2_with fail
      exact bodyPost_ret (res_pair rfl rfl rfl (set4_self p6)) rfl ⟨none, 0, by rw [HR.out]; rfl, by rw [HR.out]; exact Nat.le_refl _, by rw [HR.out]; exact Rd.nil _ _ _ _, bl_set4 B (by omega)⟩
  · have h0b : (E != 0) = true := by simpa using h0
    have HR : Hid (R = (E, zeroT)) := Lib.hid (by
      have h2 : formsE (t :: ms) ss = E := by rw [formsE, HE.out, if_pos h0]
      rw [← HR0.out, manyR, h2, if_pos h0])
    clear h0
    go_wp2_with fail
    exact bodyPost_ret (res_pair rfl rfl rfl (set4_self p6)) rfl ⟨none, 0, by rw [HR.out]; rfl, by rw [HR.out]; exact Nat.le_refl _, by rw [HR.out]; exact Rd.nil _ _ _ _, bl_set4 B (by omega)⟩
end Go.Proofs.Ytolooomphmcphaa
