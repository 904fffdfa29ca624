/- subst.Apply, Instantiate. -/
import Derived.Test.YtolooomphmcphaaH10
import Derived.Test.YtolooomphmcphaaE3
namespace Go.Proofs.Ytolooomphmcphaa
open Go.RowKit

def applyR (m : Tm) (s : Sm) (args : List Tm) : Int × Tm :=
  if formsE (m :: args) [s] ≠ 0 then (formsE (m :: args) [s], zeroT) else
  if (m :: args).all objoB then ((applyT 262145 0 m s args).1, runT (applyT 262145 0 m s args)) else (32, zeroT)
set_option maxRecDepth 100000 in
set_option maxHeartbeats 4000000 in
theorem apply2_calls (m : Tm) (s : Sm) (args : List Tm) (A As Ax : Option Addr) (c cs cx : Nat) (w : World) (S S1 S2 : Nat → Prop) (hm : tsize m < 1000000000) (hargs : ∀ a ∈ args, tsize a < 1000000000) (hs : ssize s < 1000000000) (hal : args.length < 1000000)
    (hl : m.args.length ≤ c) (hr : Rd tmK w S A m.args) (hls : s.args.length ≤ cs) (hr1 : Rd smK w S1 As s.args) (hr2 : Rd tmK w S2 Ax args) :
    GivP Try.prog 21 #[tmV m A c, smV s As cs, .slice Ax args.length cx] w (fun b => S b ∨ S2 b) (applyR m s args).2 (.int .i64 (applyR m s args).1) := by
  obtain ⟨R, HR0⟩ : ∃ R, Hid (applyR m s args = R) := ⟨_, Lib.hid rfl⟩
  rw [HR0.out]
  have hr0 := hr.bound
  have hr10 := hr1.bound
  have hr20 := hr2.bound
  clear hr hr1 hr2
  have HF : Hid (∀ x ∈ m :: args, tsize x < 1000000000) := Lib.hid (fun x hx => by rcases List.mem_cons.1 hx with rfl | hx; exact hm; exact hargs x hx)
  clear hargs
  have hmf : ∀ (fn : Fn) (first cap : Array Value) (w : World), (Instr.makeFunc fn first cap).run Try.prog w = .ok (.func fn first cap) w := fun _ _ _ _ => rfl
  obtain ⟨K, HK⟩ : ∃ K, Hid (args.length = K) := ⟨_, Lib.hid rfl⟩
  rw [HK.out]
  have p3 := bk_alloc (bk_alloc (bk_alloc (bk_new w (.cells (tmB m A c) 33)) (.cells (smB s As cs) 25)) (.cells #[.slice Ax K cx] 31)) (.cells #[.int .i64 0, .string ⟨#[]⟩, .int .i64 0, .slice none 0 0] 33)
  have p4 := bk_alloc (bk_alloc (bk_at (w := w.alloc (.cells (tmB m A c) 33)) (n := w.heap.size + 1) (by simp) (.cells (smB s As cs) 25)) (.cells #[.slice Ax K cx] 31)) (.cells #[.int .i64 0, .string ⟨#[]⟩, .int .i64 0, .slice none 0 0] 33)
  have p5 := bk_alloc (bk_at (w := (w.alloc (.cells (tmB m A c) 33)).alloc (.cells (smB s As cs) 25)) (n := w.heap.size + 1 + 1) (by simp) (.cells #[.slice Ax K cx] 31)) (.cells #[.int .i64 0, .string ⟨#[]⟩, .int .i64 0, .slice none 0 0] 33)
  have p6 := bk_at (w := ((w.alloc (.cells (tmB m A c) 33)).alloc (.cells (smB s As cs) 25)).alloc (.cells #[.slice Ax K cx] 31)) (n := w.heap.size + 1 + 1 + 1) (by simp) (.cells #[.int .i64 0, .string ⟨#[]⟩, .int .i64 0, .slice none 0 0] 33)
  have B := bl_alloc (bl_alloc (bl_alloc (bl_new w (.cells (tmB m A c) 33)) (.cells (smB s As cs) 25)) (.cells #[.slice Ax K cx] 31)) (.cells #[.int .i64 0, .string ⟨#[]⟩, .int .i64 0, .slice none 0 0] 33)
  have hsz : w.heap.size + 4 ≤ ((((w.alloc (.cells (tmB m A c) 33)).alloc (.cells (smB s As cs) 25)).alloc (.cells #[.slice Ax K cx] 31)).alloc (.cells #[.int .i64 0, .string ⟨#[]⟩, .int .i64 0, .slice none 0 0] 33)).heap.size := by simp
  have hr01 := hr0.below B
  have hO := Own.one (d := tmK) (e := 33) (B := w.heap.size + 4) (S' := fun b => S b ∧ Live w b) (tmK_of m hl hr01) hsz (fun _ h => h)
  simp only [World.size_alloc] at hO
  have hR1 := (hr20.below B).below (bl_new _ (.cells (tmB m A c) 33))
  have x5 := bx1 (bk_alloc p5 (.cells (tmB m A c) 33))
  have hlx : ([m] : List Tm).length < 1000000000 := by simp
  have hly : args.length < 1000000000 := by omega
  have hB0 : w.heap.size + 4 ≤ (((((w.alloc (.cells (tmB m A c) 33)).alloc (.cells (smB s As cs) 25)).alloc (.cells #[.slice Ax K cx] 31)).alloc (.cells #[.int .i64 0, .string ⟨#[]⟩, .int .i64 0, .slice none 0 0] 33)).alloc (.cells (tmB m A c) 33)).heap.size := by simp
  have hdis : ∀ b, (S2 b ∧ Live w b) → Value.ownBlock (.slice (some ⟨w.heap.size + 1 + 1 + 1 + 1, 0, none⟩) 1 1) ≠ some b := fun b hb he => by
    have := hb.2.lt
    simp [Value.ownBlock] at he
    omega
  go_enter Try.func21, Try.ntmps21
  go_upto_region 2 with (at_builtin; go_loud (refine wp_ext (d := tmK) (v := .slice (some ⟨w.heap.size + 1 + 1 + 1 + 1, 0, none⟩) 1 1) rfl (.tmp 11) (.tmp 12) _ rfl (e := 33) (bytes := 56) (z := .agg #[.int .i64 0, .string ⟨#[]⟩, .int .i64 0, .slice none 0 0]) (by kernel_rfl) (by kernel_rfl) (by rfl) (by decide) rfl hO hlx hly hB0 (show _ = Value.slice Ax args.length cx by rw [HK.out]; rfl) hR1 hdis ?_; intro v' w5 hO5 hgrow hat))
  have hne : ∀ k, k < w.heap.size + 4 → some k ≠ Value.ownBlock (.slice (some ⟨w.heap.size + 1 + 1 + 1 + 1, 0, none⟩) 1 1) := fun k hk he => by simp [Value.ownBlock] at he; omega
  replace p3 := bk_grown (bk_alloc p3 (.cells (tmB m A c) 33)) hgrow (hne _ (by omega))
  replace p4 := bk_grown (bk_alloc p4 (.cells (tmB m A c) 33)) hgrow (hne _ (by omega))
  replace p5 := bk_grown (bk_alloc p5 (.cells (tmB m A c) 33)) hgrow (hne _ (by omega))
  replace p6 := bk_grown (bk_alloc p6 (.cells (tmB m A c) 33)) hgrow (hne _ (by omega))
  replace B := bl_grown (bl_alloc B (.cells (tmB m A c) 33)) hgrow (fun k hk => by simp [Value.ownBlock] at hk; omega)
  have hs5 := hgrow.size
  simp only [World.size_alloc] at hs5
  obtain ⟨A8, c8, rfl, hc8, R8⟩ := hO5.read (S' := fun _ => True) (fun _ _ => trivial) (fun _ _ => trivial)
  have Hal : Hid (([m] ++ args).length = args.length + 1) := Lib.hid rfl
  have R81 := R8.below (bl_new w5 (.cells (smB s As cs) 25))
  have RS := Rd.one (d := smK) (e := 25) (S' := fun _ => True) (smK_of s hls (hr10.below B)) (fun _ _ => trivial) trivial
  have hFo := forms_calls ([m] ++ args) [s] A8 (some ⟨w5.heap.size, 0, none⟩) c8 1 _ _ _ (by simp; omega) (by simp) (fun x hx => HF.out x (by simpa using hx)) (fun x hx => by rw [List.mem_singleton.1 hx]; exact hs) R81 RS
  have HFo := Lib.hid hFo
  obtain ⟨E, HE⟩ : ∃ E, Hid (formsE (m :: args) [s] = E) := ⟨_, Lib.hid rfl⟩
  have hcn := fun (W : World) (h : Below w5.heap.size w5 W) => containsNot_calls ([m] ++ args) A8 c8 W (fun _ => True) (by simp; omega) (fun x hx => HF.out x (by simpa using hx)) (R8.below h)
  have HCN := Lib.hid hcn
  clear hFo hcn hO5 hO hR1 hr01 x5 R81 RS hB0
  obtain ⟨x0, x1⟩ := bx2 p4
  go_wp2_with fail
  refine HFo.out.use fun w6 hb6 => ?_
  rw [show formsE ([m] ++ args) [s] = E from HE.out]
  have B6 := bl_self (bl_new w5 (.cells (smB s As cs) 25)) hb6
  have hs6 := B6.size
  clear hb6 x0 x1
  replace B := bl_self B B6
  replace p3 := bk_below p3 B6
  replace p4 := bk_below p4 B6
  replace p5 := bk_below p5 B6
  replace p6 := bk_below p6 B6
  obtain ⟨x0, x1, x2, x3⟩ := bx4 p6
  have z0 := bk_free p6 0
  have z1 := bk_free p6 1
  have z2 := bk_free p6 2
  have z3 := bk_free p6 3
  by_cases h0 : E = 0
  · have H0 : Hid (formsE (m :: args) [s] = 0) := Lib.hid (by rw [HE.out, h0])
    subst h0
    have Hwf := Lib.hid (forms_zero H0.out)
    cases ho : ([m] ++ args).all objoB
    · have HR : Hid (R = (32, zeroT)) := Lib.hid (by rw [← HR0.out, applyR, if_neg (fun h => h H0.out), show (m :: args).all objoB = false from ho]; rfl)
      have Ho := Lib.hid ho
      clear ho
      go_wp2_with fail
      refine (HCN.out w6 B6).use fun w7 hb7 => ?_
      rw [Ho.out]
      clear x0 x1 x2 x3 z0 z1 z2 z3
      replace p6 := bk_below p6 hb7; replace B := bl_self B hb7; clear hb7
      obtain ⟨x0, x1, x2, x3⟩ := bx4 p6
      have z0 := bk_free p6 0
      have z1 := bk_free p6 1
      have z2 := bk_free p6 2
      have z3 := bk_free p6 3
      go_wp2_with fail
      exact bodyPost_ret (res_pair rfl rfl rfl (set4_self p6)) rfl ⟨none, 0, by rw [HR.out]; rfl, by rw [HR.out]; exact Nat.le_refl _, by rw [HR.out]; exact Rd.nil _ _ _ _, bl_set4 B (by omega)⟩
    · obtain ⟨T, HT⟩ : ∃ T, Hid (applyT 262145 0 m s args = T) := ⟨_, Lib.hid rfl⟩
      have HR : Hid (R = (T.1, runT T)) := Lib.hid (by rw [← HR0.out, applyR, if_neg (fun h => h H0.out), show (m :: args).all objoB = true from ho, HT.out]; rfl)
      have Ho := Lib.hid ho
      clear ho
      have Hms : Hid (∀ x ∈ m :: args, objB x = true ∧ smallB x = true) := Lib.hid (fun x hx => by
        have := List.all_eq_true.1 Ho.out x (by simpa using hx)
        simpa [objoB] using this)
      go_wp2_with fail
      refine (HCN.out w6 B6).use fun w7 hb7 => ?_
      rw [Ho.out]
      clear x0 x1 x2 x3 z0 z1 z2 z3
      have hs7 := hb7.size
      replace p3 := bk_below p3 hb7; replace p4 := bk_below p4 hb7; replace p5 := bk_below p5 hb7; replace p6 := bk_below p6 hb7; replace B := bl_self B hb7; clear hb7
      go_wp2_with fail
      refine (srun_calls 50 #[ptr (w.heap.size + 1 + 1), ptr w.heap.size, ptr (w.heap.size + 1)] T w7 (fun b => (S b ∧ Live w b) ∨ (S2 b ∧ Live w b)) (fun a w => by go_simp) (fun b hb => by rcases hb with hb | hb <;> (have := hb.2.lt; omega)) ?_).use fun w8 A9 c9 hc9 hR9 hb8 => ?_
      · intro w1 g hb1 hg hw1
        have h1 := apply1_calls 262145 (Nat.le_refl _) m s args A As Ax c cs cx g (w.heap.size + 1 + 1) w.heap.size (w.heap.size + 1) w1 (fun b => S b ∧ Live w b) (fun b => S1 b ∧ Live w b) (fun b => S2 b ∧ Live w b) (Hms.out m (List.mem_cons_self ..)).1 (Hms.out m (List.mem_cons_self ..)).2
          (fun a ha => Hms.out a (List.mem_cons_of_mem _ ha)) hal hl ((hr0.below B).below hb1) hls ((hr10.below B).below hb1) ((hr20.below B).below hb1)
        have h2 := h1 (fun h => by have := h.2.lt; omega) (fun h => by have := h.2.lt; omega) (fun h => by have := h.2.lt; omega) hw1 (by rw [HK.out]; exact bk_below p5 hb1) (bk_below p3 hb1) (bk_below p4 hb1) (by omega) (by omega) (by omega)
        rw [HT.out] at h2
        exact h2
      have hs8 := hb8.size
      replace p6 := bk_below p6 hb8; replace B := bl_self B hb8; clear hb8
      obtain ⟨x0, x1, x2, x3⟩ := bx4 p6
      have z0 := bk_free p6 0
      have z1 := bk_free p6 1
      have z2 := bk_free p6 2
      have z3 := bk_free p6 3
      obtain ⟨X, HX⟩ : ∃ X, Hid (runT T = X) := ⟨_, Lib.hid rfl⟩
      rw [HX.out] at hc9 hR9 ⊢
      go_wp2_with fail
      refine bodyPost_ret (res_pair rfl rfl rfl (set4_self p6)) rfl ⟨A9, c9, by rw [HR.out, HX.out]; rfl, by rw [HR.out, HX.out]; exact hc9, ?_, bl_set4 B (by omega)⟩
      rw [HR.out, HX.out]
      exact (hR9.set4 (fun b hb => by rcases hb with (hb | hb) | hb; (have := hb.2.lt; omega); (have := hb.2.lt; omega); omega)).mono (fun b hb _ => by rcases hb with (hb | hb) | hb; exact .inl (.inl hb.1); exact .inl (.inr hb.1); exact .inr (by omega))
  · have h0b : (E != 0) = true := by simpa using h0
    have HR : Hid (R = (E, zeroT)) := Lib.hid (by rw [← HR0.out, applyR, HE.out, if_pos h0])
    clear h0
    go_wp2_with fail
    exact bodyPost_ret (res_pair rfl rfl rfl (set4_self p6)) rfl ⟨none, 0, by rw [HR.out]; rfl, by rw [HR.out]; exact Nat.le_refl _, by rw [HR.out]; exact Rd.nil _ _ _ _, bl_set4 B (by omega)⟩
def instR (pi m : Tm) : Int × Tm :=
  if formsE [pi, m] [] ≠ 0 then (formsE [pi, m] [], zeroT) else
  if pi.kind ≠ 2 then (33, zeroT) else
  if objoB m then manyR (pi.args.getD 1 zeroT) [m] [eraseT (pi.args.getD 0 zeroT)] else (32, zeroT)
theorem pi_parts {t : Tm} (h : wfE t = 0) (hk : t.kind = 2) : t.args.length = 2 ∧ ∀ (h0 : 0 < t.args.length), typB t.args[0] = true ∧ wfE t.args[0] = 0 := by
  obtain ⟨hs, hm⟩ := wf_sort h
  have hno : objB t = false := by rw [objB_eq]; simp [atomB, hk]
  have key : typBs t.args = true ∧ t.args.length = 2 ∨ kndBl t.args = true ∧ t.args.length = 2 := by
    rcases hs with h1 | h1 | h1
    · rw [hno] at h1; cases h1
    · rw [typB_eq] at h1
      simp [atomB, hk] at h1
      exact .inl ⟨h1.2, bound_len (n := 2) h1.1⟩
    · rw [kndB_eq] at h1
      simp [hk] at h1
      exact .inr ⟨h1.2, bound_len (n := 2) h1.1⟩
  have hl : t.args.length = 2 := by rcases key with h | h <;> exact h.2
  refine ⟨hl, fun h0 => ?_⟩
  have ht : typB t.args[0] = true := by
    rcases key with h | h
    · exact typBs_get h.1 0 h0
    · rw [kndBl_two hl h0 (by omega), Bool.and_eq_true] at h
      exact h.1.1
  refine ⟨ht, sort_wf (.inr (.inl ht)) ?_⟩
  have h1 := tsizes_mem t.args 0 h0
  have h2 := tsize_eq t
  have h3 := small_size hm
  have h4 := small_dep hm
  have h5 := tdep_eq t
  have h6 := tdeps_take t.args 0 h0
  have h7 := tdeps_append (t.args.take 1) (t.args.drop 1)
  rw [List.take_append_drop] at h7
  rw [Nat.zero_add] at h6
  simp only [smallB, Bool.and_eq_true, decide_eq_true_eq]
  omega
set_option maxRecDepth 100000 in
set_option maxHeartbeats 4000000 in
theorem inst_calls (t m : Tm) (A A2 : Option Addr) (c c2 : Nat) (w : World) (S S1 : Nat → Prop) (ht : tsize t < 100000000) (hm : tsize m < 1000000000) (hl : t.args.length ≤ c) (hr : Rd tmK w S A t.args) (hl1 : m.args.length ≤ c2) (hr1 : Rd tmK w S1 A2 m.args) :
    GivP Try.prog 43 #[tmV t A c, tmV m A2 c2] w S1 (instR t m).2 (.int .i64 (instR t m).1) := by
  obtain ⟨R, HR0⟩ : ∃ R, Hid (instR t m = R) := ⟨_, Lib.hid rfl⟩
  rw [HR0.out]
  have hr0 := hr.bound
  have hr10 := hr1.bound
  clear hr hr1
  have p2 := bk_alloc (bk_alloc (bk_new w (.cells (tmB t A c) 33)) (.cells (tmB m A2 c2) 33)) (.cells #[.int .i64 0, .string ⟨#[]⟩, .int .i64 0, .slice none 0 0] 33)
  have p3 := bk_alloc (bk_at (w := w.alloc (.cells (tmB t A c) 33)) (n := w.heap.size + 1) (by simp) (.cells (tmB m A2 c2) 33)) (.cells #[.int .i64 0, .string ⟨#[]⟩, .int .i64 0, .slice none 0 0] 33)
  have p4 := bk_at (w := (w.alloc (.cells (tmB t A c) 33)).alloc (.cells (tmB m A2 c2) 33)) (n := w.heap.size + 1 + 1) (by simp) (.cells #[.int .i64 0, .string ⟨#[]⟩, .int .i64 0, .slice none 0 0] 33)
  have B := bl_alloc (bl_alloc (bl_new w (.cells (tmB t A c) 33)) (.cells (tmB m A2 c2) 33)) (.cells #[.int .i64 0, .string ⟨#[]⟩, .int .i64 0, .slice none 0 0] 33)
  have RT := Rd.two (d := tmK) (e := 33) (S' := fun _ => True) (EK.mono (tmK_of t hl (hr0.below B)) (S' := fun _ => True) (fun _ _ _ => trivial)) (EK.mono (tmK_of m hl1 (hr10.below B)) (S' := fun _ => True) (fun _ _ _ => trivial)) (fun _ _ => trivial) trivial
  simp only [World.size_alloc] at RT
  obtain ⟨E, HE⟩ : ∃ E, Hid (formsE [t, m] [] = E) := ⟨_, Lib.hid rfl⟩
  have HFo := Lib.hid (forms_calls [t, m] [] _ none 2 0 _ _ (fun _ => False) (by simp) (by simp) (fun x hx => by simp at hx; rcases hx with rfl | rfl <;> omega) (fun x hx => by cases hx) RT (Rd.nil _ _ _ _))
  clear RT
  go_enter Try.func43, Try.ntmps43
  go_wp2_with fail
  refine HFo.out.use fun w6 hb6 => ?_
  rw [HE.out]
  have B6 := bl_self (bl_new _ (.cells #[.int .i64 t.kind, .string t.name, .int .i64 t.idx, .slice A t.args.length c, .int .i64 m.kind, .string m.name, .int .i64 m.idx, .slice A2 m.args.length c2] 33)) hb6
  have hs6 := B6.size
  simp only [World.size_alloc] at hs6
  clear hb6
  replace B := bl_self B B6
  replace p2 := bk_below p2 B6
  replace p3 := bk_below p3 B6
  replace p4 := bk_below p4 B6
  obtain ⟨x0, x1, x2, x3⟩ := bx4 p4
  have z0 := bk_free p4 0
  have z1 := bk_free p4 1
  have z2 := bk_free p4 2
  have z3 := bk_free p4 3
  by_cases h0 : E = 0
  · have H0 : Hid (formsE [t, m] [] = 0) := Lib.hid (by rw [HE.out, h0])
    subst h0
    have Hwf := Lib.hid (forms_zero H0.out)
    obtain ⟨c0, c1, c2', c3⟩ := bx4 p2
    cases hk : (t.kind != 2)
    · have Hk : Hid (t.kind = 2) := Lib.hid (by simpa using hk)
      have HPi := Lib.hid (pi_parts (Hwf.out t (by simp)) Hk.out)
      have HNO := Lib.hid (fun (W : World) (h : Below w.heap.size w W) => notObject_calls m A2 c2 W (fun b => S1 b ∧ Live w b) hm (hr10.below h))
      obtain ⟨y0, y1, y2, y3⟩ := bx4 p3
      cases ho : objoB m
      · have HR : Hid (R = (32, zeroT)) := Lib.hid (by rw [← HR0.out, instR, if_neg (fun h => h H0.out), if_neg (fun h => h Hk.out), ho]; rfl)
        have Ho := Lib.hid ho
        clear ho
        go_wp2_with fail
        refine (HNO.out _ B).use fun w7 hb7 => ?_
        rw [Ho.out]
        clear x0 x1 x2 x3 z0 z1 z2 z3
        replace p4 := bk_below p4 hb7; replace B := bl_self B hb7; clear hb7
        obtain ⟨x0, x1, x2, x3⟩ := bx4 p4
        have z0 := bk_free p4 0
        have z1 := bk_free p4 1
        have z2 := bk_free p4 2
        have z3 := bk_free p4 3
        go_wp2_with fail
        exact bodyPost_ret (res_pair rfl rfl rfl (set4_self p4)) rfl ⟨none, 0, by rw [HR.out]; rfl, by rw [HR.out]; exact Nat.le_refl _, by rw [HR.out]; exact Rd.nil _ _ _ _, bl_set4 B (by omega)⟩
      · have Ho := Lib.hid ho
        clear ho
        have hx0 : 0 < t.args.length := by have := HPi.out.1; omega
        have hx1 : 1 < t.args.length := by have := HPi.out.1; omega
        have Ht0 := Lib.hid (HPi.out.2 hx0)
        have HR : Hid (R = manyR t.args[1] [m] [eraseT t.args[0]]) := Lib.hid (by
          rw [← HR0.out, instR, if_neg (fun h => h H0.out), if_neg (fun h => h Hk.out), Ho.out, if_pos rfl, List.getD_eq_getElem?_getD, List.getElem?_eq_getElem hx1, List.getD_eq_getElem?_getD, List.getElem?_eq_getElem hx0]
          rfl)
        have hm0 := tsizes_mem t.args 0 hx0
        have hm1 := tsizes_mem t.args 1 hx1
        have hte := tsize_eq t
        go_wp2_with fail
        refine (HNO.out _ B).use fun w7 hb7 => ?_
        rw [Ho.out]
        clear x0 x1 x2 x3 z0 z1 z2 z3 c0 c1 c2' c3 y0 y1 y2 y3
        have hs7 := hb7.size
        replace p2 := bk_below p2 hb7; replace p3 := bk_below p3 hb7; replace p4 := bk_below p4 hb7; replace B := bl_self B hb7; clear hb7
        obtain ⟨c0, c1, c2', c3⟩ := bx4 p2
        obtain ⟨b, o, A5, c5, rfl, ⟨hSb, hbl⟩, f0, f1, f2, f3, hl5, hr5⟩ := (hr0.below B).tm0 hx0
        clear hk
        go_wp2_with fail
        refine (erase2_calls t.args[0] A5 c5 w7 _ (by omega) hr5).use fun w8 A9 c9 hc9 hR9 hb8 => ?_
        rw [show eraseE t.args[0] = 0 by rw [eraseE, if_pos Ht0.out.2, tkB, Ht0.out.1]; rfl]
        have HX : Hid (eraseR t.args[0] = eraseT t.args[0]) := Lib.hid (by rw [eraseR, if_pos ⟨Ht0.out.2, by rw [tkB, Ht0.out.1]; rfl⟩])
        rw [HX.out] at hc9 hR9 ⊢
        obtain ⟨x, Hx⟩ : ∃ x, Hid (eraseT t.args[0] = x) := ⟨_, Lib.hid rfl⟩
        have hxs := ssize_erase t.args[0]
        rw [Hx.out] at hc9 hR9 hxs ⊢
        clear c0 c1 c2' c3 f0 f1 f2 f3 hl5 hr5
        have hs8 := hb8.size
        replace p2 := bk_below p2 hb8; replace p3 := bk_below p3 hb8; replace p4 := bk_below p4 hb8; replace B := bl_self B hb8; clear hb8
        have p7 := bk_new w8 (.cells (smB x A9 c9) 25); replace p2 := bk_alloc p2 (.cells (smB x A9 c9) 25); replace p3 := bk_alloc p3 (.cells (smB x A9 c9) 25); replace p4 := bk_alloc p4 (.cells (smB x A9 c9) 25); replace B := bl_alloc B (.cells (smB x A9 c9) 25); replace hR9 := hR9.below (bl_new w8 (.cells (smB x A9 c9) 25))
        obtain ⟨A6, c6, _, f0, f1, f2, f3, hl6, hr6⟩ := (hr0.below B).tmb1 hx1
        have hr61 := hr10.below B
        have hbw := hbl.lt
        have hx1i : (1 : Int) < (t.args.length : Int) := by omega
        have HS : ∀ w' : World, w'.heap[w8.heap.size]? = some (.cells (smB x A9 c9) 25 (0, 0)) → w'.heap[w.heap.size]? = some (.cells (tmB t (some ⟨b, o, none⟩) c) 33 (0, 0)) → w'.heap[w.heap.size + 1]? = some (.cells (tmB m A2 c2) 33 (0, 0)) →
            w'.heap[b]? = (w8.alloc (.cells (smB x A9 c9) 25)).heap[b]? →
            w'.cell? ⟨w.heap.size, 3, none⟩ = some (.slice (some ⟨b, o, none⟩) t.args.length c) ∧ w'.cell? ⟨w.heap.size + 1, 0, none⟩ = some (.int .i64 m.kind) ∧ w'.cell? ⟨w.heap.size + 1, 1, none⟩ = some (.string m.name) ∧ w'.cell? ⟨w.heap.size + 1, 2, none⟩ = some (.int .i64 m.idx) ∧ w'.cell? ⟨w.heap.size + 1, 3, none⟩ = some (.slice A2 m.args.length c2) ∧
            w'.cell? ⟨w8.heap.size, 0, none⟩ = some (.string x.fam) ∧ w'.cell? ⟨w8.heap.size, 1, none⟩ = some (.slice A9 x.args.length c9) ∧ w'.cell? ⟨b, o + 4, none⟩ = some (.int .i64 t.args[1].kind) ∧ w'.cell? ⟨b, o + 4 + 1, none⟩ = some (.string t.args[1].name) ∧ w'.cell? ⟨b, o + 4 + 2, none⟩ = some (.int .i64 t.args[1].idx) ∧ w'.cell? ⟨b, o + 4 + 3, none⟩ = some (.slice A6 t.args[1].args.length c6) := fun w' h1 h2 h3 h4 => ⟨(bx4 h2).2.2.2, (bx4 h3).1, (bx4 h3).2.1, (bx4 h3).2.2.1, (bx4 h3).2.2.2, (bx2 h1).1, (bx2 h1).2, cl_block f0 h4, cl_block f1 h4, cl_block f2 h4, cl_block f3 h4⟩
        replace HS := Lib.hid HS
        have hb8' : b < (w8.alloc (.cells (smB x A9 c9) 25)).heap.size := by simp; omega
        go_upto_region 11 with (fail)
        refine wp_region_mixedN (fun w' => w'.cell? ⟨w.heap.size, 3, none⟩ = some (.slice (some ⟨b, o, none⟩) t.args.length c) ∧ w'.cell? ⟨w.heap.size + 1, 0, none⟩ = some (.int .i64 m.kind) ∧ w'.cell? ⟨w.heap.size + 1, 1, none⟩ = some (.string m.name) ∧ w'.cell? ⟨w.heap.size + 1, 2, none⟩ = some (.int .i64 m.idx) ∧ w'.cell? ⟨w.heap.size + 1, 3, none⟩ = some (.slice A2 m.args.length c2) ∧
            w'.cell? ⟨w8.heap.size, 0, none⟩ = some (.string x.fam) ∧ w'.cell? ⟨w8.heap.size, 1, none⟩ = some (.slice A9 x.args.length c9) ∧ w'.cell? ⟨b, o + 4, none⟩ = some (.int .i64 t.args[1].kind) ∧ w'.cell? ⟨b, o + 4 + 1, none⟩ = some (.string t.args[1].name) ∧ w'.cell? ⟨b, o + 4 + 2, none⟩ = some (.int .i64 t.args[1].idx) ∧ w'.cell? ⟨b, o + 4 + 3, none⟩ = some (.slice A6 t.args[1].args.length c6))
          [(true, 0), (true, 1), (true, 2), (true, 3), (true, 4), (true, 5), (false, 6), (true, 7), (true, 8), (false, 9), (true, 10)] (by kernel_rfl) (by kernel_rfl) (HS.out _ p7 p2 p3 rfl) ?_
        clear f0 f1 f2 f3
        repeat (refine wpMix_soft (v := ?_) rfl rfl ?_ ?_; rotate_left; (focus (intro w' hS; go_simp; with_reducible rfl)); simp only [Act.put, List.setIfInBounds_toArray, List.set_cons_zero, List.set_cons_succ])
        -- Subst
        refine wpMix_hard rfl rfl ?_
        go_wp2_with fail
        refine (subst_calls t.args[1] m x A6 A2 A9 c6 c2 c9 _ _ _ _ (by omega) hm (by omega) hl6 hr6.drew hl1 hr61.drew hc9 hR9.drew).use fun w10 Aa ca hca hRa hb10 => ?_
        rw [show manyR t.args[1] [m] [x] = R by rw [HR.out, Hx.out]] at hca hRa ⊢
        replace hb10 := bl_undrew hb10
        have hs10 := hb10.size
        simp only [World.size_alloc] at hs10
        have hbb := hb10.block b hb8'
        replace p2 := bk_below p2 hb10; replace p3 := bk_below p3 hb10; replace p4 := bk_below p4 hb10; replace p7 := bk_below p7 hb10; replace B := bl_self B hb10; clear hb10
        go_wp2_with fail
        refine mixQ_normal (HS.out _ p7 p2 p3 hbb) ?_
        repeat (refine wpMix_soft (v := ?_) rfl rfl ?_ ?_; rotate_left; (focus (intro w' hS; go_simp; with_reducible rfl)); simp only [Act.put, List.setIfInBounds_toArray, List.set_cons_zero, List.set_cons_succ])
        -- the store
        refine wpMix_hard rfl rfl ?_
        obtain ⟨x0, x1, x2, x3⟩ := bx4 p4
        have z0 := bk_free p4 0
        have z1 := bk_free p4 1
        have z2 := bk_free p4 2
        have z3 := bk_free p4 3
        go_wp2_with fail
        refine mixQ_normal (HS.out _ ((set4_far (by omega)).trans p7) ((set4_far (by omega)).trans p2) ((set4_far (by omega)).trans p3) ((set4_far (by omega)).trans hbb)) ?_
        repeat (refine wpMix_soft (v := ?_) rfl rfl ?_ ?_; rotate_left; (focus (intro w' hS; go_simp; with_reducible rfl)); simp only [Act.put, List.setIfInBounds_toArray, List.set_cons_zero, List.set_cons_succ])
        refine wpMix_done (NoPanic.normal ?_)
        go_wp2_with fail
        refine bodyPost_ret (res_pair rfl rfl rfl (set4_self p4)) rfl ⟨Aa, ca, rfl, hca, ?_, bl_set4 B (by omega)⟩
        have hRb := hRa.mono (S' := fun b => (S1 b ∧ b < w.heap.size) ∨ w.heap.size + 3 ≤ b) (fun b hb _ => by
          rcases hb with hb | hb
          · exact .inl ⟨hb.1, hb.2.lt⟩
          · have : (w8.alloc (.cells (smB x A9 c9) 25)).heap.size ≤ b := hb
            simp only [World.size_alloc] at this
            exact .inr (by omega))
        exact (hRb.set4 (fun b hb => by omega)).mono (fun b hb _ => by rcases hb with hb | hb; exact .inl hb.1; exact .inr (by omega))
    · have HR : Hid (R = (33, zeroT)) := Lib.hid (by rw [← HR0.out, instR, if_neg (fun h => h H0.out), if_pos (by simpa using hk)])
      go_wp2_with fail
      exact bodyPost_ret (res_pair rfl rfl rfl (set4_self p4)) rfl ⟨none, 0, by rw [HR.out]; rfl, by rw [HR.out]; exact Nat.le_refl _, by rw [HR.out]; exact Rd.nil _ _ _ _, bl_set4 B (by omega)⟩
  · have h0b : (E != 0) = true := by simpa using h0
    have HR : Hid (R = (E, zeroT)) := Lib.hid (by rw [← HR0.out, instR, HE.out, if_pos h0])
    clear h0
    go_wp2_with fail
    exact bodyPost_ret (res_pair rfl rfl rfl (set4_self p4)) rfl ⟨none, 0, by rw [HR.out]; rfl, by rw [HR.out]; exact Nat.le_refl _, by rw [HR.out]; exact Rd.nil _ _ _ _, bl_set4 B (by omega)⟩
end Go.Proofs.Ytolooomphmcphaa
