/- lfcheckref08: the machine's Applied. -/
import Derived.Test.YtolooomphmcphaaH12
namespace Go.Proofs.Ytolooomphmcphaa
open Go.RowKit

def RsOK (f : Nat) : Prop := ∀ (W : Nat) (t : Tm) (ms : List Tm) (ss : List Sm) (deep g : Nat) (A Am As : Option Addr) (c cm cs : Nat) (w : World) (S S1 S2 : Nat → Prop), 262145 ≤ f + W → W ≤ 262144 → sortB t → tsize t ≤ 4096 → deep + tsize t ≤ 1000000 →
  ms.length = ss.length → ms.length < 1000000 → (∀ m ∈ ms, objB m = true ∧ smallB m = true) → t.args.length ≤ c → Rd tmK w S A t.args → Rd tmK w S1 Am ms → Rd smK w S2 As ss → ¬ S g → ¬ S1 g → ¬ S2 g → w.heap[g]? = some (.cells #[.int .i64 W, .int .i64 0] 83 (0, 0)) →
  Calls Try.prog 79 #[wkP g, tmV t A c, .slice Am ms.length cm, .slice As ss.length cs, .int .i64 deep] w (RefP g w (fun _ => False) (subT f W t ms ss deep))
def RaOK (f : Nat) : Prop := ∀ (W : Nat) (m : Tm) (s : Sm) (args : List Tm) (g : Nat) (A As Ax : Option Addr) (c cs cx : Nat) (w : World) (S S1 S2 : Nat → Prop), 262145 ≤ f + W → W ≤ 262144 → objB m = true → smallB m = true →
  (∀ a ∈ args, objB a = true ∧ smallB a = true) → args.length < 1000000 → m.args.length ≤ c → Rd tmK w S A m.args → s.args.length ≤ cs → Rd smK w S1 As s.args → args.length ≤ cx → Rd tmK w S2 Ax args → ¬ S g → ¬ S1 g → ¬ S2 g → w.heap[g]? = some (.cells #[.int .i64 W, .int .i64 0] 83 (0, 0)) →
  Calls Try.prog 56 #[wkP g, tmV m A c, smV s As cs, .slice Ax args.length cx] w (RefP g w S (applyT f W m s args))
theorem Rd.tail {α : Type} {d : EK α} {w : World} {S : Nat → Prop} {b o : Nat} {x : α} {r : List α} (h : Rd d w S (some ⟨b, o, none⟩) (x :: r)) : Rd d w S (some ⟨b, o + d.sz, none⟩) r := by
  rcases h with h | ⟨b', o', cs, e, hb, ⟨c, c', rfl, hx, hr⟩, hm⟩
  · cases h
  · simp only [Option.some.injEq, Addr.mk.injEq, and_true] at e
    obtain ⟨rfl, rfl⟩ := e
    refine .inr ⟨b, _, c', rfl, hb, hr, fun i u hu => ?_⟩
    have := hm (d.sz + i) u (by rw [List.getElem?_append_right (by rw [d.len hx]; omega), d.len hx, Nat.add_sub_cancel_left]; exact hu)
    rw [Nat.add_assoc]
    exact this
theorem Rd.tail4 {w : World} {S : Nat → Prop} {b o : Nat} {x : Tm} {r : List Tm} (h : Rd tmK w S (some ⟨b, o, none⟩) (x :: r)) : Rd tmK w S (some ⟨b, o + 4, none⟩) r := h.tail
theorem Rd.tail2 {w : World} {S : Nat → Prop} {b o : Nat} {x : Sm} {r : List Sm} (h : Rd smK w S (some ⟨b, o, none⟩) (x :: r)) : Rd smK w S (some ⟨b, o + 2, none⟩) r := h.tail
theorem Rd.head {α : Type} {d : EK α} {w : World} {S : Nat → Prop} {A : Option Addr} {x : α} {r : List α} (h : Rd d w S A (x :: r)) : ∃ b o, A = some ⟨b, o, none⟩ ∧ S b ∧ Rd d w S A [x] := by
  rcases h with h | ⟨b', o', cs, e, hb, ⟨c, c', rfl, hx, hr⟩, hm⟩
  · cases h
  · exact ⟨b', o', e, hb, .inr ⟨b', o', c, e, hb, ⟨c, [], by simp, hx, rfl⟩, fun i u hu => hm i u (by rw [List.getElem?_append_left (List.getElem?_eq_some_iff.1 hu).1]; exact hu)⟩⟩
/-- what is left to be done -/
def restT (f W : Nat) (m : Tm) (q : List Sm) (r : List Tm) : Res := if r.length = q.length then appL (Gf f) W m q r else errT 6 W
theorem errT_ref (e : Int) (W : Nat) (he : e ≠ 0) : refT (errT e W) = zeroT := by rw [refT]; exact if_neg he
set_option maxRecDepth 100000 in
set_option maxHeartbeats 4000000 in
theorem applied_calls {f : Nat} (H : RsOK f) : RaOK f := by
  intro W m s args g A As Ax c cs cx w S S1 S2 hf hW hmo hms hargs hal hl hr hls hr1 hlx hr2 hS hS1 hS2 hg
  replace H := Lib.hid H
  have hgl := bk_lt hg
  obtain ⟨T, HT⟩ : ∃ T, Hid (applyT f W m s args = T) := ⟨_, Lib.hid rfl⟩
  rw [HT.out]
  have hr0 := hr.bound
  have hr10 := hr1.bound
  have hr20 := hr2.bound
  clear hr hr1 hr2
  have p0 := bk_alloc (bk_alloc (bk_new w (.cells (tmB m A c) 33)) (.cells (smB s As cs) 25)) (.cells #[.int .i64 0, .string ⟨#[]⟩, .int .i64 0, .slice none 0 0] 33)
  have p1 := bk_alloc (bk_at (w := w.alloc (.cells (tmB m A c) 33)) (n := w.heap.size + 1) (by simp) (.cells (smB s As cs) 25)) (.cells #[.int .i64 0, .string ⟨#[]⟩, .int .i64 0, .slice none 0 0] 33)
  have p2 := bk_at (w := (w.alloc (.cells (tmB m A c) 33)).alloc (.cells (smB s As cs) 25)) (n := w.heap.size + 1 + 1) (by simp) (.cells #[.int .i64 0, .string ⟨#[]⟩, .int .i64 0, .slice none 0 0] 33)
  have B := bl_alloc (bl_alloc (bl_new w (.cells (tmB m A c) 33)) (.cells (smB s As cs) 25)) (.cells #[.int .i64 0, .string ⟨#[]⟩, .int .i64 0, .slice none 0 0] 33)
  have G := gr_below B (some g)
  have pg := bk_alloc (bk_alloc (bk_alloc hg (.cells (tmB m A c) 33)) (.cells (smB s As cs) 25)) (.cells #[.int .i64 0, .string ⟨#[]⟩, .int .i64 0, .slice none 0 0] 33)
  have hsz : w.heap.size + 3 ≤ (((w.alloc (.cells (tmB m A c) 33)).alloc (.cells (smB s As cs) 25)).alloc (.cells #[.int .i64 0, .string ⟨#[]⟩, .int .i64 0, .slice none 0 0] 33)).heap.size := by simp
  have R00 := (hr0.below B).mono (S' := fun b => (S b ∧ b < w.heap.size) ∨ w.heap.size + 3 ≤ b) (fun b hb _ => .inl ⟨hb.1, hb.2.lt⟩)
  have R10 := (hr10.below B).mono (S' := fun b => S1 b ∧ b < w.heap.size) (fun b hb _ => ⟨hb.1, hb.2.lt⟩)
  have R20 := (hr20.below B).mono (S' := fun b => S2 b ∧ b < w.heap.size) (fun b hb _ => ⟨hb.1, hb.2.lt⟩)
  have HA0 : Hid (T = restT f W m s.args args ∧ objB m = true ∧ smallB m = true ∧ W ≤ 262144 ∧ W ≤ W ∧ ∀ a ∈ args, objB a = true ∧ smallB a = true) := Lib.hid ⟨by rw [← HT.out]; rfl, hmo, hms, hW, Nat.le_refl _, hargs⟩
  clear hmo hms hW hargs HT
  go_enter Try.func56, Try.ntmps56
  go_wp2_with fail
  go_loopg [3] (args.length + 1) (fun kk v w' => ∃ (W' : Nat) (x : Tm) (q : List Sm) (r : List Tm) (e : Int) (fam : ByteArray) (A' As' Ax' : Option Addr) (c' cs' cx' : Nat), (e = 0 → r.length < kk) ∧ v = .slice Ax' r.length cx' ∧ r.length ≤ args.length ∧
      Hid (e = 0 → T = restT f W' x q r ∧ objB x = true ∧ smallB x = true ∧ W' ≤ 262144 ∧ W ≤ W' ∧ ∀ a ∈ r, objB a = true ∧ smallB a = true) ∧ Hid (e ≠ 0 → T = errT e W') ∧
      w'.heap[w.heap.size]? = some (.cells (tmB x A' c') 33 (0, 0)) ∧ w'.heap[w.heap.size + 1]? = some (.cells #[.string fam, .slice As' q.length cs'] 25 (0, 0)) ∧
      w'.heap[w.heap.size + 1 + 1]? = some (.cells #[.int .i64 0, .string ⟨#[]⟩, .int .i64 0, .slice none 0 0] 33 (0, 0)) ∧ w'.heap[g]? = some (.cells #[.int .i64 W', .int .i64 e] 83 (0, 0)) ∧
      x.args.length ≤ c' ∧ Rd tmK w' (fun b => (S b ∧ b < w.heap.size) ∨ w.heap.size + 3 ≤ b) A' x.args ∧ q.length ≤ cs' ∧ Rd smK w' (fun b => S1 b ∧ b < w.heap.size) As' q ∧ r.length ≤ cx' ∧ Rd tmK w' (fun b => S2 b ∧ b < w.heap.size) Ax' r ∧ w.heap.size + 3 ≤ w'.heap.size ∧ w.grownBy w' (some g))
  case atStart =>
    exact ⟨W, m, s.args, args, 0, s.fam, A, As, Ax, c, cs, cx, fun _ => by omega, rfl, Nat.le_refl _, Lib.hid (fun _ => HA0.out), Lib.hid (fun h => absurd rfl h), p0, p1, p2, pg, hl, R00, hls, R10, hlx, R20, hsz, G⟩
  case round =>
    clear p0 p1 p2 pg G hsz R00 R10 R20 B HA0 hls hlx hl
    obtain ⟨W', x, q, r, e, fam, A', As', Ax', c', cs', cx', hkk, rfl, hra, HX, HY, p0, p1, p2, pg, hl, R0, hls, R1, hlx, R2, hsz, G⟩ := hrel
    obtain ⟨y0, y1⟩ := bxm pg
    by_cases he : e = 0
    · subst he
      replace hkk := hkk rfl
      have HX2 := Lib.hid (HX.out rfl)
      clear HX HY
      obtain ⟨a0, a1⟩ := bx2 p1
      obtain ⟨c0, c1, c2, c3⟩ := bx4 p0
      have z1 := bk_free pg 1
      obtain ⟨v0, v1, v2, v3⟩ : _ ∧ _ ∧ _ ∧ _ := ⟨bk_free p2 0, bk_free p2 1, bk_free p2 2, bk_free p2 3⟩
      obtain ⟨x0, x1, x2, x3⟩ := bx4 p2
      have Herr : Hid (T = errT 6 W' → RefP g w S T (.returned (tmV zeroT none 0)) (set4 (wr.setCell ⟨g, 1, none⟩ (.int .i64 6)) (w.heap.size + 1 + 1) (.int .i64 0) (.string ⟨#[]⟩) (.int .i64 0) (.slice none 0 0))) := Lib.hid (fun h => by
        rw [h]
        refine ⟨gr_set4 (gr_row G rfl _) (by omega), ⟨none, 0, ?_, ?_, ?_⟩, ?_⟩
        · rw [errT_ref _ _ (by decide)]
        · rw [errT_ref _ _ (by decide)]; exact Nat.le_refl _
        · rw [errT_ref _ _ (by decide)]; exact Rd.nil _ _ _ _
        · exact (set4_far (by omega)).trans (bk_set pg 1 _))
      have q2 := bk_far p2 (p := ⟨g, 1, none⟩) (by show w.heap.size + 1 + 1 ≠ g; omega) (.int .i64 6)
      by_cases hlq : r.length = q.length
      · have hlb : ((r.length : Int) != (q.length : Int)) = false := by simp [hlq]
        have Hlq := Lib.hid hlq
        clear hlq
        cases hk3 : (x.kind == 3)
        · have Hk3 : Hid (x.kind ≠ 3) := Lib.hid (by simpa using hk3)
          have hk4 : (x.kind != 3) = true := by simpa using hk3
          by_cases hr0 : r.length = 0
          · have hrz : ((r.length : Int) == 0) = true := by simp [hr0]
            have hrp : decide (0 < r.length) = false := by simp [hr0]
            have HTc : Hid (T = chkT W' x) := Lib.hid (by
              have hq0 : q = [] := List.eq_nil_of_length_eq_zero (by have := Hlq.out; omega)
              have hr1 : r = [] := List.eq_nil_of_length_eq_zero hr0
              rw [HX2.out.1, hq0, hr1]
              show appL (Gf f) W' x [] [] = _
              rw [appL, if_neg Hk3.out])
            clear hr0
            have hC := refChecked_calls W' x A' c' g wr _ (by have := small_size HX2.out.2.2.1; omega) hl R0 (fun h => by rcases h with h | h; exact hS h.1; omega) pg
            rw [← HTc.out] at hC
            have HC := Lib.hid hC
            clear hC
            go_wp2_with fail
            refine HC.out.mono ?_
            rintro e1 w2 ⟨hG2, ⟨A7, c7, rfl, hl7, R7⟩, pg2⟩
            have hs2 := hG2.size
            have G3 := G.trans hG2
            clear x0 x1 x2 x3 v0 v1 v2 v3
            have u2 := bk_grown p2 hG2 (by simp; omega)
            obtain ⟨x0, x1, x2, x3⟩ := bx4 u2
            obtain ⟨v0, v1, v2, v3⟩ : _ ∧ _ ∧ _ ∧ _ := ⟨bk_free u2 0, bk_free u2 1, bk_free u2 2, bk_free u2 3⟩
            go_wp2_with fail
            refine bodyPost_ret (res_term rfl rfl (set4_self u2)) rfl ⟨gr_set4 G3 (by omega), ⟨A7, c7, rfl, hl7, ?_⟩, (set4_far (by omega)).trans pg2⟩
            exact (R7.set4 (fun b hb => by omega)).mono (fun b hb _ => by rcases hb with ⟨hb | hb, _⟩ | hb; exact .inl hb; exact .inr (by omega); exact .inr (by omega))
          · have hrz : ((r.length : Int) == 0) = false := beq_false_of_ne (by omega)
            have hrp : decide (0 < r.length) = true := by simp; omega
            have HT6 : Hid (T = errT 6 W') := Lib.hid (by
              rw [HX2.out.1, restT, if_pos Hlq.out]
              obtain ⟨a, r', hra⟩ : ∃ a r', r = a :: r' := by
                cases r with
                | nil => exact absurd rfl hr0
                | cons a r' => exact ⟨_, _, rfl⟩
              obtain ⟨s0, q', hqa⟩ : ∃ s0 q', q = s0 :: q' := by
                cases q with
                | nil => exact absurd Hlq.out hr0
                | cons s0 q' => exact ⟨_, _, rfl⟩
              rw [hra, hqa, appL, if_pos Hk3.out])
            clear hr0
            go_wp2_with fail
            exact bodyPost_ret (res_term rfl rfl (set4_self q2)) rfl (Herr.out HT6.out)
        · have Hk3 : Hid (x.kind = 3) := Lib.hid (by simpa using hk3)
          have hk4 : (x.kind != 3) = false := by rw [bne, hk3]; rfl
          by_cases hr0 : r.length = 0
          · have hrz : ((r.length : Int) == 0) = true := by simp [hr0]
            have hrp : decide (0 < r.length) = false := by simp [hr0]
            have HT6 : Hid (T = errT 6 W') := Lib.hid (by
              have hq0 : q = [] := List.eq_nil_of_length_eq_zero (by have := Hlq.out; omega)
              have hr1 : r = [] := List.eq_nil_of_length_eq_zero hr0
              rw [HX2.out.1, hq0, hr1]
              show appL (Gf f) W' x [] [] = _
              rw [appL, if_pos Hk3.out])
            clear hr0
            go_wp2_with fail
            exact bodyPost_ret (res_term rfl rfl (set4_self q2)) rfl (Herr.out HT6.out)
          · have hrz : ((r.length : Int) == 0) = false := beq_false_of_ne (by omega)
            have hrp : decide (0 < r.length) = true := by simp; omega
            obtain ⟨a, r', Hra⟩ : ∃ a r', Hid (r = a :: r') := by
              cases r with
              | nil => exact absurd rfl hr0
              | cons a r' => exact ⟨_, _, Lib.hid rfl⟩
            obtain ⟨s0, q', Hqa⟩ : ∃ s0 q', Hid (q = s0 :: q') := by
              cases q with
              | nil => exact absurd Hlq.out hr0
              | cons s0 q' => exact ⟨_, _, Lib.hid rfl⟩
            have Hrl : Hid (r.length = r'.length + 1 ∧ q.length = q'.length + 1) := Lib.hid ⟨by rw [Hra.out]; rfl, by rw [Hqa.out]; rfl⟩
            clear hr0
            have HL := Lib.hid (lam_obj HX2.out.2.1 Hk3.out)
            have hx0 : 0 < x.args.length := by have := HL.out.1; omega
            obtain ⟨b3, o3, A6, c6', rfl, hb3, e0, e1, e2, e3, hl6, hr6⟩ := R0.tm0 hx0
            rw [Hra.out] at R2
            rw [Hqa.out] at R1
            obtain ⟨b2, o2, rfl, hb2, R2a⟩ := R2.head
            obtain ⟨b1, o1, rfl, hb1, R1a⟩ := R1.head
            have R2b := R2.tail4
            have R1b := R1.tail2
            have hg3 : b3 ≠ g := by
              rintro rfl
              rcases hb3 with hb3 | hb3
              · exact hS hb3.1
              · omega
            clear x0 x1 x2 x3 v0 v1 v2 v3 z1 q2 Herr
            have HS : ∀ w' : World, wr.grownBy w' (some g) →
              w'.cell? ⟨w.heap.size, 3, none⟩ = some (.slice (some ⟨b3, o3, none⟩) x.args.length c') ∧ w'.cell? ⟨w.heap.size + 1, 0, none⟩ = some (.string fam) ∧ w'.cell? ⟨w.heap.size + 1, 1, none⟩ = some (.slice (some ⟨b1, o1, none⟩) q.length cs') ∧
              w'.cell? ⟨b3, o3, none⟩ = some (.int .i64 x.args[0].kind) ∧ w'.cell? ⟨b3, o3 + 1, none⟩ = some (.string x.args[0].name) ∧ w'.cell? ⟨b3, o3 + 2, none⟩ = some (.int .i64 x.args[0].idx) ∧ w'.cell? ⟨b3, o3 + 3, none⟩ = some (.slice A6 x.args[0].args.length c6') := fun w' h => ⟨cl_gr c3 h (by omega), cl_gr a0 h (by omega), cl_gr a1 h (by omega), cl_gr e0 h hg3, cl_gr e1 h hg3, cl_gr e2 h hg3, cl_gr e3 h hg3⟩
            replace HS := Lib.hid HS
            have hi1 : (1 : Int) ≤ (cx' : Int) := by have := Hrl.out; omega
            have hi2 : (1 : Int) ≤ (cs' : Int) := by have := Hrl.out; omega
            go_upto_region 9 with (fail)
            refine wp_region_mixN 11 (fun w' => w'.cell? ⟨w.heap.size, 3, none⟩ = some (.slice (some ⟨b3, o3, none⟩) x.args.length c') ∧ w'.cell? ⟨w.heap.size + 1, 0, none⟩ = some (.string fam) ∧ w'.cell? ⟨w.heap.size + 1, 1, none⟩ = some (.slice (some ⟨b1, o1, none⟩) q.length cs') ∧
              w'.cell? ⟨b3, o3, none⟩ = some (.int .i64 x.args[0].kind) ∧ w'.cell? ⟨b3, o3 + 1, none⟩ = some (.string x.args[0].name) ∧ w'.cell? ⟨b3, o3 + 2, none⟩ = some (.int .i64 x.args[0].idx) ∧ w'.cell? ⟨b3, o3 + 3, none⟩ = some (.slice A6 x.args[0].args.length c6'))
              [(true, 0), (true, 1), (true, 2), (true, 3), (true, 4), (true, 5), (true, 6), (true, 7), (true, 8), (true, 9), (false, 10)] (by kernel_rfl) rfl (by kernel_rfl) (HS.out _ (gr_drew (World.grownBy.refl _ _))) ?_
            clear e0 e1 e2 e3 a0 a1 c0 c1 c2 c3
            repeat (refine wpMix_soft (v := ?_) rfl rfl ?_ ?_; rotate_left; (focus (intro w' hS; go_simp; with_reducible rfl)); simp only [Act.put, List.setIfInBounds_toArray, List.set_cons_zero, List.set_cons_succ])
            refine wpMix_hard rfl rfl ?_
            go_wp2_with fail
            have hxa : sortB x.args[0] := .inl (objBs_get HL.out.2 0 hx0)
            have hxs : tsize x.args[0] ≤ 4096 := by
              have h1 := small_size HX2.out.2.2.1
              have h2 := tsize_eq x
              have h3 := tsizes_mem x.args 0 hx0
              omega
            have Hao : Hid (objB a = true ∧ smallB a = true) := Lib.hid (HX2.out.2.2.2.2.2 a (by rw [Hra.out]; exact List.mem_cons_self ..))
            have hH1 := H.out W' x.args[0] [a] [s0] 0 g A6 (some ⟨b2, o2, none⟩) (some ⟨b1, o1, none⟩) c6' cx' cs' wr.drew _ _ _ (by have := HX2.out; omega) HX2.out.2.2.2.1 hxa hxs (by omega) rfl (by simp) (fun y hy => by rw [List.mem_singleton.1 hy]; exact Hao.out) hl6 hr6.drew R2a.drew R1a.drew
            refine (hH1 (fun h => by rcases h with h | h; exact hS h.1; omega) (fun h => hS2 h.1) (fun h => hS1 h.1) pg).mono ?_
            have hT3 : T = if (subT f W' x.args[0] [a] [s0] 0).1 ≠ 0 then errT (subT f W' x.args[0] [a] [s0] 0).1 (subT f W' x.args[0] [a] [s0] 0).2.1 else restT f (subT f W' x.args[0] [a] [s0] 0).2.1 (subT f W' x.args[0] [a] [s0] 0).2.2 q' r' := by
              have hl1 : r'.length = q'.length := by have := Hrl.out; have := Hlq.out; omega
              rw [HX2.out.1, restT, if_pos Hlq.out, Hra.out, Hqa.out, appL, if_neg (fun h => h Hk3.out), restT, if_pos hl1]
              rw [show x.args.getD 0 nilT = x.args[0] by rw [List.getD_eq_getElem?_getD, List.getElem?_eq_getElem hx0]; rfl]
            have HT3 := Lib.hid hT3
            have HOK := Lib.hid (subT_ok f W' x.args[0] [a] [s0] 0 (fun y hy => by rw [List.mem_singleton.1 hy]; exact Hao.out.1))
            have HLE := Lib.hid (subT_le f W' x.args[0] [a] [s0] 0 (by have := HX2.out; omega))
            have HMO := Lib.hid (subT_mono f W' x.args[0] [a] [s0] 0)
            clear hT3 hH1
            generalize subT f W' x.args[0] [a] [s0] 0 = z at *
            rintro e1 w2 ⟨hG2, ⟨A7, c7, rfl, hl7, R7⟩, pg2⟩
            replace hG2 := gr_undrew hG2
            have G3 := G.trans hG2
            have hs2 : wr.heap.size ≤ w2.heap.size := hG2.size
            have u0 := bk_grown p0 hG2 (by simp; omega)
            have u1 := bk_grown p1 hG2 (by simp; omega)
            have u2 := bk_grown p2 hG2 (by simp; omega)
            have RQ := R1b.grown hG2 (fun b hb => ne_of hS1 b hb.1)
            have RR := R2b.grown hG2 (fun b hb => ne_of hS2 b hb.1)
            obtain ⟨y, Hy⟩ : ∃ y, Hid (refT z = y) := ⟨_, Lib.hid rfl⟩
            rw [Hy.out] at hl7 R7 ⊢
            go_wp2_with fail
            refine mixQ_normal (HS.out _ hG2) ?_
            refine wpMix_done (cutQ_normal ?_)
            obtain ⟨c0, c1, c2, c3⟩ := bx4 u0
            obtain ⟨v0, v1, v2, v3⟩ : _ ∧ _ ∧ _ ∧ _ := ⟨bk_free u0 0, bk_free u0 1, bk_free u0 2, bk_free u0 3⟩
            go_wp2_with fail
            refine NoPanic.normal ?_
            have t0 := set4_self (v0 := .int .i64 y.kind) (v1 := .string y.name) (v2 := .int .i64 y.idx) (v3 := .slice A7 y.args.length c7) u0
            have t1 := (set4_far (v0 := .int .i64 y.kind) (v1 := .string y.name) (v2 := .int .i64 y.idx) (v3 := .slice A7 y.args.length c7) (by omega : w.heap.size + 1 ≠ w.heap.size)).trans u1
            have t2 := (set4_far (v0 := .int .i64 y.kind) (v1 := .string y.name) (v2 := .int .i64 y.idx) (v3 := .slice A7 y.args.length c7) (by omega : w.heap.size + 1 + 1 ≠ w.heap.size)).trans u2
            have tg := (set4_far (v0 := .int .i64 y.kind) (v1 := .string y.name) (v2 := .int .i64 y.idx) (v3 := .slice A7 y.args.length c7) (by omega : g ≠ w.heap.size)).trans pg2
            have R8 := (R7.mono (S' := fun b => wr.heap.size ≤ b) (fun b hb _ => by rcases hb with hb | hb; exact hb.1.elim; exact hb)).set4 (g := w.heap.size) (v0 := .int .i64 y.kind) (v1 := .string y.name) (v2 := .int .i64 y.idx) (v3 := .slice A7 y.args.length c7) (fun b hb => by omega)
            have RQ' := RQ.set4 (g := w.heap.size) (v0 := .int .i64 y.kind) (v1 := .string y.name) (v2 := .int .i64 y.idx) (v3 := .slice A7 y.args.length c7) (fun b hb => by omega)
            have RR' := RR.set4 (g := w.heap.size) (v0 := .int .i64 y.kind) (v1 := .string y.name) (v2 := .int .i64 y.idx) (v3 := .slice A7 y.args.length c7) (fun b hb => by omega)
            have G4 := gr_set4 (g := w.heap.size) (v0 := .int .i64 y.kind) (v1 := .string y.name) (v2 := .int .i64 y.idx) (v3 := .slice A7 y.args.length c7) G3 (Nat.le_refl _)
            have hs4 : w.heap.size + 3 ≤ (set4 w2 w.heap.size (.int .i64 y.kind) (.string y.name) (.int .i64 y.idx) (.slice A7 y.args.length c7)).heap.size := by rw [set4_size]; omega
            unfold set4 at t0 t1 t2 tg R8 RQ' RR' G4 hs4
            clear c0 c1 c2 c3 v0 v1 v2 v3 p0 p1 p2 pg u0 u1 u2 pg2 G3 G R7 RQ RR R1a R2a R1b R2b R0 hr6 HS y0 y1
            generalize (((w2.setCell ⟨w.heap.size, 0, none⟩ (.int .i64 y.kind)).setCell ⟨w.heap.size, 1, none⟩ (.string y.name)).setCell ⟨w.heap.size, 2, none⟩ (.int .i64 y.idx)).setCell ⟨w.heap.size, 3, none⟩ (.slice A7 y.args.length c7) = w6 at *
            go_upto_region 10 with (fail)
            obtain ⟨a0, a1⟩ := bx2 t1
            have hj1 : (1 : Int) ≤ (r.length : Int) := by have := Hrl.out; omega
            have hj2 : (1 : Int) ≤ (q.length : Int) := by have := Hrl.out; omega
            have hj3 : (r.length : Int) ≤ (cx' : Int) := by omega
            have hj4 : (q.length : Int) ≤ (cs' : Int) := by omega
            have a0' : w6.drew.cell? ⟨w.heap.size + 1, 0, none⟩ = some (.string fam) := a0
            have a1' : w6.drew.cell? ⟨w.heap.size + 1, 1, none⟩ = some (.slice (some ⟨b1, o1, none⟩) q.length cs') := a1
            refine wp_region_mixN 9 (fun w' => w'.cell? ⟨w.heap.size + 1, 0, none⟩ = some (.string fam) ∧ w'.cell? ⟨w.heap.size + 1, 1, none⟩ = some (.slice (some ⟨b1, o1, none⟩) q.length cs'))
              [(true, 0), (true, 1), (true, 2), (true, 3), (true, 4), (true, 5), (true, 6), (true, 7), (true, 8)] (by kernel_rfl) rfl (by kernel_rfl) ⟨a0', a1'⟩ ?_
            replace t0 : w6.drew.heap[w.heap.size]? = _ := t0
            replace t1 : w6.drew.heap[w.heap.size + 1]? = _ := t1
            replace t2 : w6.drew.heap[w.heap.size + 1 + 1]? = _ := t2
            replace tg : w6.drew.heap[g]? = _ := tg
            replace R8 := R8.drew
            replace RQ' := RQ'.drew
            replace RR' := RR'.drew
            replace G4 := gr_drew G4
            replace hs4 : w.heap.size + 3 ≤ w6.drew.heap.size := hs4
            clear a0 a1
            generalize w6.drew = w7 at *
            repeat (refine wpMix_soft (v := ?_) rfl rfl ?_ ?_; rotate_left; (focus (intro w' hS; go_simp; with_reducible rfl)); simp only [Act.put, List.setIfInBounds_toArray, List.set_cons_zero, List.set_cons_succ])
            generalize hBx : (if cx' = 1 then (some ⟨b2, o2, none⟩ : Option Addr) else some ⟨b2, o2 + 4, none⟩) = Bx
            generalize hBs : (if cs' = 1 then (some ⟨b1, o1, none⟩ : Option Addr) else some ⟨b1, o1 + 2, none⟩) = Bs
            have HBx := Lib.hid hBx
            have HBs := Lib.hid hBs
            clear hBx hBs
            refine wpMix_done (cutQ_normal ?_)
            have v0 := bk_free t1 0
            have v1 := bk_free t1 1
            go_wp2_with fail
            refine NoPanic.normal ?_
            go_wp2_with fail
            go_roundg (r'.length + 1)
            case rel =>
              have hr' : r'.length = r.length - 1 := by have := Hrl.out; omega
              have hq' : q'.length = q.length - 1 := by have := Hrl.out; omega
              refine ⟨z.2.1, y, q', r', z.1, fam, A7, Bs, Bx, c7, cs' - 1, cx' - 1, fun _ => by omega, by rw [hr'], by omega, Lib.hid (fun h0 => ?_), Lib.hid (fun h0 => ?_), (set2_far (by omega)).trans t0, by rw [hq']; exact set2_self t1, (set2_far (by omega)).trans t2, (set2_far (by omega)).trans tg, hl7, ?_, by omega, ?_, by omega, ?_, by rw [set2_size]; exact hs4, gr_set (gr_set G4 (by show w.heap.size ≤ w.heap.size + 1; omega) _) (by show w.heap.size ≤ w.heap.size + 1; omega) _⟩
              · have hy : y = z.2.2 := by rw [← Hy.out, refT, if_pos h0]
                rw [hy]
                have h1 := HOK.out h0
                exact ⟨by rw [HT3.out, if_neg (fun h => h h0)], h1.1.1 (objBs_get HL.out.2 0 hx0), h1.2, HLE.out.2 h0, by have := HMO.out; have := HX2.out; omega, fun b hb => HX2.out.2.2.2.2.2 b (by rw [Hra.out]; exact List.mem_cons_of_mem _ hb)⟩
              · rw [HT3.out, if_pos h0]
              · exact (R8.set2 (fun b hb => by omega)).mono (fun b hb _ => .inr (by omega))
              · have key : Rd smK w7 (fun b => S1 b ∧ b < w.heap.size) Bs q' := by
                  rw [← HBs.out]
                  split
                  · rename_i h1
                    have : q' = [] := List.eq_nil_of_length_eq_zero (by omega)
                    rw [this]
                    exact Rd.nil _ _ _ _
                  · exact RQ'
                exact key.set2 (fun b hb => by omega)
              · have key : Rd tmK w7 (fun b => S2 b ∧ b < w.heap.size) Bx r' := by
                  rw [← HBx.out]
                  split
                  · rename_i h1
                    have : r' = [] := List.eq_nil_of_length_eq_zero (by omega)
                    rw [this]
                    exact Rd.nil _ _ _ _
                  · exact RR'
                exact key.set2 (fun b hb => by omega)
            case measure => have := Hrl.out; omega
      · have hlb : ((r.length : Int) != (q.length : Int)) = true := by simp; omega
        have HT6 : Hid (T = errT 6 W') := Lib.hid (by rw [HX2.out.1, restT, if_neg hlq])
        clear hlq
        go_wp2_with fail
        exact bodyPost_ret (res_term rfl rfl (set4_self q2)) rfl (Herr.out HT6.out)
    · have HE := Lib.hid (HY.out he)
      have heb : (e == 0) = false := by simpa using he
      have He := Lib.hid he
      clear he HX HY
      obtain ⟨v0, v1, v2, v3⟩ : _ ∧ _ ∧ _ ∧ _ := ⟨bk_free p2 0, bk_free p2 1, bk_free p2 2, bk_free p2 3⟩
      obtain ⟨x0, x1, x2, x3⟩ := bx4 p2
      go_wp2_with fail
      refine bodyPost_ret (res_term rfl rfl (set4_self p2)) rfl ⟨gr_set4 G (by omega), ⟨none, 0, ?_, ?_, ?_⟩, ?_⟩
      · rw [HE.out, errT_ref _ _ He.out]; rfl
      · rw [HE.out, errT_ref _ _ He.out]; exact Nat.le_refl _
      · rw [HE.out, errT_ref _ _ He.out]; exact Rd.nil _ _ _ _
      · rw [HE.out]; exact (set4_far (by omega)).trans pg
end Go.Proofs.Ytolooomphmcphaa
