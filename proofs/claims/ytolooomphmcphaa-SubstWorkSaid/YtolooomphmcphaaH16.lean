/- lfcheckref08.Subst, Apply. -/
import Derived.Test.YtolooomphmcphaaH15
import Derived.Test.YtolooomphmcphaaH11
namespace Go.Proofs.Ytolooomphmcphaa
open Go.RowKit

set_option maxRecDepth 100000 in
set_option maxHeartbeats 1000000 in
theorem refSubst_calls (t m : Tm) (s : Sm) (A A2 As : Option Addr) (c c2 cs : Nat) (w : World) (S S1 S2 : Nat → Prop) (ht : tsize t < 1000000000) (hm : tsize m < 1000000000) (hss : ssize s < 1000000000)
    (hl : t.args.length ≤ c) (hr : Rd tmK w S A t.args) (hl1 : m.args.length ≤ c2) (hr1 : Rd tmK w S1 A2 m.args) (hls : s.args.length ≤ cs) (hr2 : Rd smK w S2 As s.args) :
    GivP Try.prog 20 #[tmV t A c, tmV m A2 c2, smV s As cs] w (fun _ => False) (manyR t [m] [s]).2 (.int .i64 (manyR t [m] [s]).1) := by
  obtain ⟨R, HR⟩ : ∃ R, Hid (manyR t [m] [s] = R) := ⟨_, Lib.hid rfl⟩
  rw [HR.out]
  have hr0 := hr.bound
  have hr10 := hr1.bound
  have hr20 := hr2.bound
  clear hr hr1 hr2
  have B := bl_alloc (bl_alloc (bl_alloc (bl_new w (.cells (tmB t A c) 33)) (.cells (tmB m A2 c2) 33)) (.cells (smB s As cs) 25)) (.cells #[.int .i64 0, .string ⟨#[]⟩, .int .i64 0, .slice none 0 0] 33)
  have p6 := bk_at (w := ((w.alloc (.cells (tmB t A c) 33)).alloc (.cells (tmB m A2 c2) 33)).alloc (.cells (smB s As cs) 25)) (n := w.heap.size + 1 + 1 + 1) (by simp) (.cells #[.int .i64 0, .string ⟨#[]⟩, .int .i64 0, .slice none 0 0] 33)
  have hm1 := Rd.one (d := tmK) (e := 33) (S' := fun b => (S1 b ∧ Live w b) ∨ w.heap.size + 4 ≤ b) (tmK_of m hl1 (hr10.below B)) (fun b hb => .inl hb) (by simp)
  have hs1 := Rd.one (d := smK) (e := 25) (S' := fun b => (S2 b ∧ Live w b) ∨ w.heap.size + 4 ≤ b) (smK_of s hls ((hr20.below B).below (bl_new _ (.cells (tmB m A2 c2) 33)))) (fun b hb => .inl hb) (by simp)
  simp only [World.size_alloc] at hm1 hs1
  go_enter Try.func20, Try.ntmps20
  go_wp2_with fail
  refine (refMany_calls t [m] [s] A (some ⟨w.heap.size + 1 + 1 + 1 + 1, 0, none⟩) (some ⟨w.heap.size + 1 + 1 + 1 + 1 + 1, 0, none⟩) c 1 1 _ _ _ _ ht (by simpa using hm) (by simpa using hss) (by simp) (by simp) hl (((hr0.below B).below (bl_new _ _)).below (bl_new _ _)) (hm1.below (bl_new _ _)) hs1).use fun w5 A9 c9 hc9 hR9 hb5 => ?_
  rw [HR.out] at hc9 hR9 ⊢
  have hs5 := hb5.size
  simp only [World.size_alloc] at hs5
  replace p6 := bk_below (bk_alloc (bk_alloc p6 _) _) hb5
  replace B := bl_self (bl_alloc (bl_alloc B _) _) hb5
  obtain ⟨x0, x1, x2, x3⟩ := bx4 p6
  have z0 := bk_free p6 0
  have z1 := bk_free p6 1
  have z2 := bk_free p6 2
  have z3 := bk_free p6 3
  go_wp2_with fail
  refine bodyPost_ret (res_pair rfl rfl rfl (set4_self p6)) rfl ⟨A9, c9, rfl, hc9, ?_, bl_set4 B (by omega)⟩
  have R8 := hR9.mono (S' := fun b => w.heap.size + 4 ≤ b) (fun b hb _ => by
    simp only [World.size_alloc] at hb
    rcases hb with hb | hb
    · exact hb.elim
    · omega)
  exact (R8.set4 (fun b hb => by omega)).mono (fun b hb _ => .inr (by omega))
set_option maxRecDepth 100000 in
set_option maxHeartbeats 4000000 in
theorem refApply_calls (m : Tm) (s : Sm) (args : List Tm) (A As Ax : Option Addr) (c cs cx : Nat) (w : World) (S S1 S2 : Nat → Prop) (hm : tsize m < 1000000000) (hargs : ∀ a ∈ args, tsize a < 1000000000) (hs : ssize s < 1000000000) (hal : args.length < 1000000)
    (hl : m.args.length ≤ c) (hr : Rd tmK w S A m.args) (hls : s.args.length ≤ cs) (hr1 : Rd smK w S1 As s.args) (hlx0 : args.length ≤ cx) (hr2 : Rd tmK w S2 Ax args) :
    GivP Try.prog 22 #[tmV m A c, smV s As cs, .slice Ax args.length cx] w S (applyR m s args).2 (.int .i64 (applyR m s args).1) := by
  obtain ⟨R, HR0⟩ : ∃ R, Hid (applyR m s args = R) := ⟨_, Lib.hid rfl⟩
  rw [HR0.out]
  have hr0 := hr.bound
  have hr10 := hr1.bound
  have hr20 := hr2.bound
  clear hr hr1 hr2
  have HF : Hid (∀ x ∈ m :: args, tsize x < 1000000000) := Lib.hid (fun x hx => by rcases List.mem_cons.1 hx with rfl | hx; exact hm; exact hargs x hx)
  clear hargs
  obtain ⟨K, HK⟩ : ∃ K, Hid (args.length = K) := ⟨_, Lib.hid rfl⟩
  rw [HK.out]
  have p3 := bk_alloc (bk_alloc (bk_new w (.cells (tmB m A c) 33)) (.cells (smB s As cs) 25)) (.cells #[.int .i64 0, .string ⟨#[]⟩, .int .i64 0, .slice none 0 0] 33)
  have p4 := bk_alloc (bk_at (w := w.alloc (.cells (tmB m A c) 33)) (n := w.heap.size + 1) (by simp) (.cells (smB s As cs) 25)) (.cells #[.int .i64 0, .string ⟨#[]⟩, .int .i64 0, .slice none 0 0] 33)
  have p6 := bk_at (w := (w.alloc (.cells (tmB m A c) 33)).alloc (.cells (smB s As cs) 25)) (n := w.heap.size + 1 + 1) (by simp) (.cells #[.int .i64 0, .string ⟨#[]⟩, .int .i64 0, .slice none 0 0] 33)
  have B := bl_alloc (bl_alloc (bl_new w (.cells (tmB m A c) 33)) (.cells (smB s As cs) 25)) (.cells #[.int .i64 0, .string ⟨#[]⟩, .int .i64 0, .slice none 0 0] 33)
  have hsz : w.heap.size + 3 ≤ (((w.alloc (.cells (tmB m A c) 33)).alloc (.cells (smB s As cs) 25)).alloc (.cells #[.int .i64 0, .string ⟨#[]⟩, .int .i64 0, .slice none 0 0] 33)).heap.size := by simp
  have hO := Own.one (d := tmK) (e := 33) (B := w.heap.size + 3) (S' := fun b => S b ∧ Live w b) (tmK_of m hl (hr0.below B)) hsz (fun _ h => h)
  simp only [World.size_alloc] at hO
  have hR1 := (hr20.below B).below (bl_new _ (.cells (tmB m A c) 33))
  have hlx : ([m] : List Tm).length < 1000000000 := by simp
  have hly : args.length < 1000000000 := by omega
  have hB0 : w.heap.size + 3 ≤ ((((w.alloc (.cells (tmB m A c) 33)).alloc (.cells (smB s As cs) 25)).alloc (.cells #[.int .i64 0, .string ⟨#[]⟩, .int .i64 0, .slice none 0 0] 33)).alloc (.cells (tmB m A c) 33)).heap.size := by simp
  have hdis : ∀ b, (S2 b ∧ Live w b) → Value.ownBlock (.slice (some ⟨w.heap.size + 1 + 1 + 1, 0, none⟩) 1 1) ≠ some b := fun b hb he => by
    have := hb.2.lt
    simp [Value.ownBlock] at he
    omega
  go_enter Try.func22, Try.ntmps22
  go_upto_region 2 with (first | (at_builtin; go_loud (refine wp_ext (d := tmK) (v := .slice (some ⟨w.heap.size + 1 + 1 + 1, 0, none⟩) 1 1) rfl (.tmp 14) (.tmp 15) _ rfl (e := 33) (bytes := 56) (z := .agg #[.int .i64 0, .string ⟨#[]⟩, .int .i64 0, .slice none 0 0]) (by kernel_rfl) (by kernel_rfl) (by rfl) (by decide) rfl hO hlx hly hB0 (show _ = Value.slice Ax args.length cx by rw [HK.out]; rfl) hR1 hdis ?_; intro v' w5 hO5 hgrow hat; obtain ⟨A8, c8, rfl, hc8, R8⟩ := hO5.read (S' := fun _ => True) (fun _ _ => trivial) (fun _ _ => trivial))) | (go_at_call 53; refine (formed_calls ([m] ++ args) A8 c8 w5 _ (by simp; omega) (fun x hx => HF.out x (by simpa using hx)) R8).use fun w6 hb6 => ?_))
  have hne : ∀ k, k < w.heap.size + 3 → some k ≠ Value.ownBlock (.slice (some ⟨w.heap.size + 1 + 1 + 1, 0, none⟩) 1 1) := fun k hk he => by simp [Value.ownBlock] at he; omega
  replace p3 := bk_grown (bk_alloc p3 (.cells (tmB m A c) 33)) hgrow (hne _ (by omega))
  replace p4 := bk_grown (bk_alloc p4 (.cells (tmB m A c) 33)) hgrow (hne _ (by omega))
  replace p6 := bk_grown (bk_alloc p6 (.cells (tmB m A c) 33)) hgrow (hne _ (by omega))
  replace B := bl_grown (bl_alloc B (.cells (tmB m A c) 33)) hgrow (fun k hk => by simp [Value.ownBlock] at hk; omega)
  have hs5 := hgrow.size
  simp only [World.size_alloc] at hs5
  have hs6 := hb6.size
  replace p3 := bk_below p3 hb6; replace p4 := bk_below p4 hb6; replace p6 := bk_below p6 hb6; replace B := bl_self B hb6; clear hb6
  obtain ⟨E, HE⟩ : ∃ E, Hid (wfsE (m :: args) = E) := ⟨_, Lib.hid rfl⟩
  rw [HE.out]
  obtain ⟨x0, x1, x2, x3⟩ := bx4 p6
  obtain ⟨v0, v1, v2, v3⟩ : _ ∧ _ ∧ _ ∧ _ := ⟨bk_free p6 0, bk_free p6 1, bk_free p6 2, bk_free p6 3⟩
  clear hO hR1 hO5 hB0 hlx hne hdis hgrow hat hc8 R8
  by_cases h0 : E = 0
  · subst h0
    obtain ⟨a0, a1⟩ := bx2 p4
    have HQ := Lib.hid (qWellFormed_calls s As cs _ w6 hs (hr10.below B))
    go_wp2_with fail
    refine HQ.out.use fun w7 hb7 => ?_
    obtain ⟨E2, HE2⟩ : ∃ E2, Hid (swfE s = E2) := ⟨_, Lib.hid rfl⟩
    rw [HE2.out]
    have HFE : Hid (formsE (m :: args) [s] = E2) := Lib.hid (by
      rw [formsE, HE.out, if_neg (fun h => h rfl), swfsE, List.map_cons, List.map_nil, firstE, HE2.out]
      split
      · rfl
      · rename_i h; rw [firstE]; omega)
    have hs7 := hb7.size
    clear x0 x1 x2 x3 v0 v1 v2 v3 a0 a1
    replace p3 := bk_below p3 hb7; replace p4 := bk_below p4 hb7; replace p6 := bk_below p6 hb7; replace B := bl_self B hb7; clear hb7
    obtain ⟨x0, x1, x2, x3⟩ := bx4 p6
    obtain ⟨v0, v1, v2, v3⟩ : _ ∧ _ ∧ _ ∧ _ := ⟨bk_free p6 0, bk_free p6 1, bk_free p6 2, bk_free p6 3⟩
    by_cases h1 : E2 = 0
    · subst h1
      have Hwf := Lib.hid (forms_zero HFE.out)
      have hO := Own.one (d := tmK) (e := 33) (B := w7.heap.size) (S' := fun b => S b ∧ Live w b) (tmK_of m hl (hr0.below B)) (Nat.le_refl _) (fun _ h => h)
      have hR1 := (hr20.below B).below (bl_new _ (.cells (tmB m A c) 33))
      have hlx : ([m] : List Tm).length < 1000000000 := by simp
      have hB0 : w7.heap.size ≤ (w7.alloc (.cells (tmB m A c) 33)).heap.size := by simp
      have hdis : ∀ b, (S2 b ∧ Live w b) → Value.ownBlock (.slice (some ⟨w7.heap.size, 0, none⟩) 1 1) ≠ some b := fun b hb he => by
        have := hb.2.lt
        simp [Value.ownBlock] at he
        omega
      have HOB := Lib.hid (fun (W : World) (A8 : Option Addr) (c8 : Nat) (h : Rd tmK W (fun _ => True) A8 ([m] ++ args)) => objects_calls ([m] ++ args) A8 c8 W _ (by simp; omega) (fun x hx => HF.out x (by simpa using hx)) h)
      obtain ⟨c0, c1, c2, c3⟩ := bx4 p3
      go_upto_region 8 with (first | (at_builtin; go_loud (refine wp_ext (d := tmK) (v := .slice (some ⟨w7.heap.size, 0, none⟩) 1 1) rfl (.tmp 29) (.tmp 30) _ rfl (e := 33) (bytes := 56) (z := .agg #[.int .i64 0, .string ⟨#[]⟩, .int .i64 0, .slice none 0 0]) (by kernel_rfl) (by kernel_rfl) (by rfl) (by decide) rfl hO hlx hly hB0 (show _ = Value.slice Ax args.length cx by rw [HK.out]; rfl) hR1 hdis ?_; intro v' w8 hO5 hgrow hat; obtain ⟨A8', c8', rfl, hc8, R8⟩ := hO5.read (S' := fun _ => True) (fun _ _ => trivial) (fun _ _ => trivial))) | (go_at_call 55; refine (HOB.out _ _ _ R8).use fun w9 hb9 => ?_))
      have hne : ∀ k, k < w7.heap.size → some k ≠ Value.ownBlock (.slice (some ⟨w7.heap.size, 0, none⟩) 1 1) := fun k hk he => by simp [Value.ownBlock] at he; omega
      replace p3 := bk_grown (bk_alloc p3 (.cells (tmB m A c) 33)) hgrow (hne _ (by omega))
      replace p4 := bk_grown (bk_alloc p4 (.cells (tmB m A c) 33)) hgrow (hne _ (by omega))
      replace p6 := bk_grown (bk_alloc p6 (.cells (tmB m A c) 33)) hgrow (hne _ (by omega))
      replace B := bl_grown (bl_alloc B (.cells (tmB m A c) 33)) hgrow (fun k hk => by simp [Value.ownBlock] at hk; omega)
      have hs8 := hgrow.size
      simp only [World.size_alloc] at hs8
      have hs9 := hb9.size
      clear hO hR1 hO5 hB0 hlx hne hdis hgrow hat hc8 R8 HOB c0 c1 c2 c3 x0 x1 x2 x3 v0 v1 v2 v3
      replace p3 := bk_below p3 hb9; replace p4 := bk_below p4 hb9; replace p6 := bk_below p6 hb9; replace B := bl_self B hb9; clear hb9
      obtain ⟨x0, x1, x2, x3⟩ := bx4 p6
      obtain ⟨v0, v1, v2, v3⟩ : _ ∧ _ ∧ _ ∧ _ := ⟨bk_free p6 0, bk_free p6 1, bk_free p6 2, bk_free p6 3⟩
      cases ho : (m :: args).all objoB
      · have HR : Hid (R = (32, zeroT)) := Lib.hid (by rw [← HR0.out, applyR, if_neg (fun h => h HFE.out), ho]; rfl)
        rw [show objsE (m :: args) = 32 by rw [objsE, ho]; rfl]
        clear ho
        go_wp2_with fail
        exact bodyPost_ret (res_pair rfl rfl rfl (set4_self p6)) rfl ⟨none, 0, by rw [HR.out]; rfl, by rw [HR.out]; exact Nat.le_refl _, by rw [HR.out]; exact Rd.nil _ _ _ _, bl_set4 B (by omega)⟩
      · obtain ⟨T, HT⟩ : ∃ T, Hid (applyT 262145 0 m s args = T) := ⟨_, Lib.hid rfl⟩
        have HR : Hid (R = (T.1, refT T)) := Lib.hid (by rw [← HR0.out, applyR, if_neg (fun h => h HFE.out), ho, HT.out]; rfl)
        rw [show objsE (m :: args) = 0 by rw [objsE, ho]; rfl]
        have Hms : Hid (∀ x ∈ m :: args, objB x = true ∧ smallB x = true) := Lib.hid (fun x hx => by
          have := List.all_eq_true.1 ho x hx
          simpa [objoB] using this)
        have pg := bk_new w9 (.cells #[.int .i64 0, .int .i64 0] 83)
        have B1 := bl_alloc B (.cells #[.int .i64 0, .int .i64 0] 83)
        have q3 := bk_alloc p3 (.cells #[.int .i64 0, .int .i64 0] 83)
        have q4 := bk_alloc p4 (.cells #[.int .i64 0, .int .i64 0] 83)
        have q6 := bk_alloc p6 (.cells #[.int .i64 0, .int .i64 0] 83)
        have hX : ∀ b, Live w b → b ≠ w9.heap.size := fun b hb => by have := hb.lt; omega
        have HA0 : RaOK 262145 := applied_calls (substitute_calls 262145)
        have HX := HA0 0 m s args w9.heap.size A As Ax c cs cx _ _ _ _ (by omega) (by omega) (Hms.out m (List.mem_cons_self ..)).1 (Hms.out m (List.mem_cons_self ..)).2 (fun a ha => Hms.out a (List.mem_cons_of_mem _ ha)) hal hl (hr0.below B1) hls (hr10.below B1) hlx0 (hr20.below B1) (fun h => hX _ h.2 rfl) (fun h => hX _ h.2 rfl) (fun h => hX _ h.2 rfl) pg
        rw [HT.out, HK.out] at HX
        have HX2 := Lib.hid HX
        clear ho HX HA0
        clear x0 x1 x2 x3 v0 v1 v2 v3
        obtain ⟨c0, c1, c2, c3⟩ := bx4 q3
        obtain ⟨a0, a1⟩ := bx2 q4
        go_wp2_with fail
        refine HX2.out.mono ?_
        rintro e1 w10 ⟨hG9, ⟨A7, c7, rfl, hl7, R7⟩, pg9⟩
        have hs10 := hG9.size
        simp only [World.size_alloc] at hs10
        replace q6 := bk_grown q6 hG9 (by simp; omega)
        replace B1 := bl_grown B1 hG9 (fun k hk => by simp at hk; omega)
        clear c0 c1 c2 c3 a0 a1
        obtain ⟨y, Hy⟩ : ∃ y, Hid (refT T = y) := ⟨_, Lib.hid rfl⟩
        rw [Hy.out] at hl7 R7 ⊢
        have R9 := (R7.mono (S' := fun b => (S b ∧ b < w.heap.size) ∨ w.heap.size + 3 ≤ b) (fun b hb _ => by rcases hb with hb | hb; exact Or.inl ⟨hb.1.1, hb.1.2.lt⟩; exact Or.inr (by simp only [World.size_alloc] at hb; omega))).below (bl_new w10 (.cells (tmB y A7 c7) 33))
        have r12 := bk_new w10 (.cells (tmB y A7 c7) 33)
        replace q6 := bk_alloc q6 (.cells (tmB y A7 c7) 33)
        replace pg9 := bk_alloc pg9 (.cells (tmB y A7 c7) 33)
        replace B1 := bl_alloc B1 (.cells (tmB y A7 c7) 33)
        go_upto_region 12 with (fail)
        have HS : ∀ w' : World, w'.heap[w10.heap.size]? = some (.cells (tmB y A7 c7) 33 (0, 0)) → w'.heap[w9.heap.size]? = some (.cells #[.int .i64 T.2.1, .int .i64 T.1] 83 (0, 0)) →
            w'.cell? ⟨w10.heap.size, 0, none⟩ = some (.int .i64 y.kind) ∧ w'.cell? ⟨w10.heap.size, 1, none⟩ = some (.string y.name) ∧ w'.cell? ⟨w10.heap.size, 2, none⟩ = some (.int .i64 y.idx) ∧ w'.cell? ⟨w10.heap.size, 3, none⟩ = some (.slice A7 y.args.length c7) ∧ w'.cell? ⟨w9.heap.size, 1, none⟩ = some (.int .i64 T.1) :=
          fun w' h1 h2 => ⟨(bx4 h1).1, (bx4 h1).2.1, (bx4 h1).2.2.1, (bx4 h1).2.2.2, (bxm h2).2⟩
        replace HS := Lib.hid HS
        refine wp_region_mixedN (fun w' => w'.cell? ⟨w10.heap.size, 0, none⟩ = some (.int .i64 y.kind) ∧ w'.cell? ⟨w10.heap.size, 1, none⟩ = some (.string y.name) ∧ w'.cell? ⟨w10.heap.size, 2, none⟩ = some (.int .i64 y.idx) ∧ w'.cell? ⟨w10.heap.size, 3, none⟩ = some (.slice A7 y.args.length c7) ∧ w'.cell? ⟨w9.heap.size, 1, none⟩ = some (.int .i64 T.1))
          [(true, 0), (true, 1), (true, 2), (true, 3), (true, 4), (false, 5), (true, 6)] (by kernel_rfl) (by kernel_rfl) (HS.out _ r12 pg9) ?_
        repeat (refine wpMix_soft (v := ?_) rfl rfl ?_ ?_; rotate_left; (focus (intro w' hS; go_simp; with_reducible rfl)); simp only [Act.put, List.setIfInBounds_toArray, List.set_cons_zero, List.set_cons_succ])
        refine wpMix_hard rfl rfl ?_
        obtain ⟨x0, x1, x2, x3⟩ := bx4 q6
        obtain ⟨v0, v1, v2, v3⟩ : _ ∧ _ ∧ _ ∧ _ := ⟨bk_free q6 0, bk_free q6 1, bk_free q6 2, bk_free q6 3⟩
        go_wp2_with fail
        refine mixQ_normal (HS.out _ ((set4_far (by omega)).trans r12) ((set4_far (by omega)).trans pg9)) ?_
        repeat (refine wpMix_soft (v := ?_) rfl rfl ?_ ?_; rotate_left; (focus (intro w' hS; go_simp; with_reducible rfl)); simp only [Act.put, List.setIfInBounds_toArray, List.set_cons_zero, List.set_cons_succ])
        refine wpMix_done (NoPanic.normal ?_)
        go_wp2_with fail
        refine bodyPost_ret (res_pair rfl rfl rfl (set4_self q6)) rfl ⟨A7, c7, by rw [HR.out, Hy.out]; rfl, by rw [HR.out, Hy.out]; exact hl7, ?_, bl_self (bl_set4 B1 (by omega)) (bl_drew _ _)⟩
        rw [HR.out, Hy.out]
        exact (R9.set4 (fun b hb => by omega)).drew.mono (fun b hb _ => by rcases hb with hb | hb; exact Or.inl hb.1; exact Or.inr (by omega))
    · have h1b : (E2 != 0) = true := by simpa using h1
      have HR : Hid (R = (E2, zeroT)) := Lib.hid (by rw [← HR0.out, applyR, HFE.out, if_pos h1])
      clear h1
      go_wp2_with fail
      exact bodyPost_ret (res_pair rfl rfl rfl (set4_self p6)) rfl ⟨none, 0, by rw [HR.out]; rfl, by rw [HR.out]; exact Nat.le_refl _, by rw [HR.out]; exact Rd.nil _ _ _ _, bl_set4 B (by omega)⟩
  · have h0b : (E != 0) = true := by simpa using h0
    have HR : Hid (R = (E, zeroT)) := Lib.hid (by
      have h2 : formsE (m :: args) [s] = E := by rw [formsE, HE.out, if_pos h0]
      rw [← HR0.out, applyR, h2, if_pos h0])
    clear h0
    go_wp2_with fail
    exact bodyPost_ret (res_pair rfl rfl rfl (set4_self p6)) rfl ⟨none, 0, by rw [HR.out]; rfl, by rw [HR.out]; exact Nat.le_refl _, by rw [HR.out]; exact Rd.nil _ _ _ _, bl_set4 B (by omega)⟩
end Go.Proofs.Ytolooomphmcphaa
