/- subst.Many, Subst. -/
import Derived.Test.YtolooomphmcphaaH6
import Derived.Test.YtolooomphmcphaaH7
import Derived.Test.YtolooomphmcphaaH8
import Derived.Test.YtolooomphmcphaaK7
namespace Go.Proofs.Ytolooomphmcphaa
open Go.RowKit

theorem bx3 {w : World} {g : Nat} {ty : TypeId} {v0 v1 v2 : Value} (h : w.heap[g]? = some (.cells #[v0, v1, v2] ty (0, 0))) : w.cell? ⟨g, 0, none⟩ = some v0 ∧ w.cell? ⟨g, 1, none⟩ = some v1 ∧ w.cell? ⟨g, 2, none⟩ = some v2 := ⟨bk_cell h 0 rfl, bk_cell h 1 rfl, bk_cell h 2 rfl⟩
abbrev ptr (g : Nat) : Value := .pointer (some ⟨g, 0, none⟩)
set_option maxRecDepth 100000 in
set_option maxHeartbeats 4000000 in
theorem many1_calls (t : Tm) (ms : List Tm) (ss : List Sm) (A Am As : Option Addr) (c cm cs g g3 g4 g5 : Nat) (w : World) (S S1 S2 : Nat → Prop) (ht : wfE t = 0) (hms : ∀ m ∈ ms, objB m = true ∧ smallB m = true) (hml : ms.length < 1000000) (hmss : ms.length = ss.length)
    (hl : t.args.length ≤ c) (hr : Rd tmK w S A t.args) (hr1 : Rd tmK w S1 Am ms) (hr2 : Rd smK w S2 As ss) (hS : ¬ S g) (hS1 : ¬ S1 g) (hS2 : ¬ S2 g) (hg : w.heap[g]? = some (.cells #[.int .i64 0] 3 (0, 0)))
    (h3 : w.heap[g3]? = some (.cells (tmB t A c) 33 (0, 0))) (h4 : w.heap[g4]? = some (.cells #[.slice Am ms.length cm] 31 (0, 0))) (h5 : w.heap[g5]? = some (.cells #[.slice As ss.length cs] 23 (0, 0))) (_ : g3 ≠ g) (_ : g4 ≠ g) (_ : g5 ≠ g) :
    Calls Try.prog 76 #[wkP g, ptr g5, ptr g4, ptr g3] w (SubP g w S1 (subT 262145 0 t ms ss 0)) := by
  have Hms := Lib.hid hms
  have Hmss := Lib.hid hmss
  have Ht := Lib.hid ht
  clear hms ht
  have hr0 := hr.bound
  have hr10 := hr1.bound
  have hr20 := hr2.bound
  have l3 := bk_lt h3
  have l4 := bk_lt h4
  have l5 := bk_lt h5
  have lg := bk_lt hg
  clear hr hr1 hr2
  obtain ⟨T, HT⟩ : ∃ T, Hid (subT 262145 0 t ms ss 0 = T) := ⟨_, Lib.hid rfl⟩
  rw [HT.out]
  obtain ⟨K, HK⟩ : ∃ K, Hid (ms.length = K) := ⟨_, Lib.hid rfl⟩
  have HK2 : Hid (ss.length = K) := Lib.hid (by rw [← hmss, HK.out])
  rw [HK.out] at h4
  rw [HK2.out] at h5
  clear hmss
  have k3 := bk_alloc (bk_alloc h3 (.cells #[.int .i64 0, .string ⟨#[]⟩, .int .i64 0, .slice none 0 0, .int .i64 0, .int .i64 0] 74)) (.cells #[wkP g, .slice none 0 0, .slice As K cs] 100)
  have kg := bk_alloc (bk_alloc hg (.cells #[.int .i64 0, .string ⟨#[]⟩, .int .i64 0, .slice none 0 0, .int .i64 0, .int .i64 0] 74)) (.cells #[wkP g, .slice none 0 0, .slice As K cs] 100)
  have p5 := bk_alloc (bk_new w (.cells #[.int .i64 0, .string ⟨#[]⟩, .int .i64 0, .slice none 0 0, .int .i64 0, .int .i64 0] 74)) (.cells #[wkP g, .slice none 0 0, .slice As K cs] 100)
  have p6 := bk_at (w := w.alloc (.cells #[.int .i64 0, .string ⟨#[]⟩, .int .i64 0, .slice none 0 0, .int .i64 0, .int .i64 0] 74)) (n := w.heap.size + 1) (by simp) (.cells #[wkP g, .slice none 0 0, .slice As K cs] 100)
  have B := bl_alloc (bl_new w (.cells #[.int .i64 0, .string ⟨#[]⟩, .int .i64 0, .slice none 0 0, .int .i64 0, .int .i64 0] 74)) (.cells #[wkP g, .slice none 0 0, .slice As K cs] 100)
  have x5 := bx1 (bk_alloc h5 (.cells #[.int .i64 0, .string ⟨#[]⟩, .int .i64 0, .slice none 0 0, .int .i64 0, .int .i64 0] 74))
  have x4 := bx1 (bk_alloc (bk_alloc h4 (.cells #[.int .i64 0, .string ⟨#[]⟩, .int .i64 0, .slice none 0 0, .int .i64 0, .int .i64 0] 74)) (.cells #[wkP g, .slice none 0 0, .slice As K cs] 100))
  go_enter Try.func76, Try.ntmps76
  go_wp2_with fail
  go_loopw [14] (fun i w' => ∃ (m : Nat) (v : Value), m ≤ K ∧ i = .int .i64 m ∧ w'.heap[g]? = some (.cells #[.int .i64 0] 3 (0, 0)) ∧ w'.heap[g3]? = some (.cells (tmB t A c) 33 (0, 0)) ∧
      w'.heap[w.heap.size]? = some (.cells #[.int .i64 0, .string ⟨#[]⟩, .int .i64 0, .slice none 0 0, .int .i64 0, .int .i64 0] 74 (0, 0)) ∧ w'.heap[w.heap.size + 1]? = some (.cells #[wkP g, v, .slice As K cs] 100 (0, 0)) ∧
      Own mdK 74 (w.heap.size + 2) w' (fun b => (S1 b ∧ b < w.heap.size) ∨ w.heap.size + 2 ≤ b) v (ms.take m) ∧ w.heap.size + 2 ≤ w'.heap.size ∧ Below w.heap.size w w') (fun i _ => K - (intOf i).toNat)
  case atStart => exact ⟨0, .slice none 0 0, by omega, rfl, kg, k3, p5, p6, Own.nil _ _ _ _ _, by simp, B⟩
  case round =>
    clear k3 kg p5 p6 B x5 x4
    obtain ⟨m, v, hm, rfl, kg, k3, p5, p6, hO, hsz, B⟩ := hrel
    by_cases hlt : m < K
    · have hlm : m < ms.length := by rw [HK.out]; exact hlt
      obtain ⟨b, o, A', c', rfl, ⟨hSb, hbl⟩, e0, e1, e2, e3, hl', hr'⟩ := (hr10.below B).tm m hlm
      have hobl := hO.block
      have hms1 := small_size (Hms.out _ (List.getElem_mem hlm)).2
      have q8 := bk_new wr (.cells (tmB ms[m] A' c') 33); replace kg := bk_alloc kg (.cells (tmB ms[m] A' c') 33); replace k3 := bk_alloc k3 (.cells (tmB ms[m] A' c') 33); replace p5 := bk_alloc p5 (.cells (tmB ms[m] A' c') 33); replace p6 := bk_alloc p6 (.cells (tmB ms[m] A' c') 33); replace B := bl_alloc B (.cells (tmB ms[m] A' c') 33); replace hr' := hr'.below (bl_new wr (.cells (tmB ms[m] A' c') 33)); replace hO := hO.below (bl_new wr (.cells (tmB ms[m] A' c') 33))
      have hsz1 : w.heap.size + 2 ≤ (wr.alloc (.cells (tmB ms[m] A' c') 33)).heap.size := by simp; omega
      have HS : ∀ w' : World, w'.heap[w.heap.size + 1]? = some (.cells #[wkP g, v, .slice As K cs] 100 (0, 0)) → w'.heap[wr.heap.size]? = some (.cells (tmB ms[m] A' c') 33 (0, 0)) →
          w'.cell? ⟨w.heap.size + 1, 1, none⟩ = some v ∧ w'.cell? ⟨wr.heap.size, 0, none⟩ = some (.int .i64 ms[m].kind) ∧ w'.cell? ⟨wr.heap.size, 1, none⟩ = some (.string ms[m].name) ∧ w'.cell? ⟨wr.heap.size, 2, none⟩ = some (.int .i64 ms[m].idx) ∧ w'.cell? ⟨wr.heap.size, 3, none⟩ = some (.slice A' ms[m].args.length c') :=
        fun w' h1 h2 => ⟨(bx3 h1).2.1, bx4 h2⟩
      replace HS := Lib.hid HS
      go_wp2_with fail
      refine wp_region_mixN 7 (fun w' => w'.cell? ⟨w.heap.size + 1, 1, none⟩ = some v ∧ w'.cell? ⟨wr.heap.size, 0, none⟩ = some (.int .i64 ms[m].kind) ∧ w'.cell? ⟨wr.heap.size, 1, none⟩ = some (.string ms[m].name) ∧ w'.cell? ⟨wr.heap.size, 2, none⟩ = some (.int .i64 ms[m].idx) ∧ w'.cell? ⟨wr.heap.size, 3, none⟩ = some (.slice A' ms[m].args.length c'))
        [(true, 0), (true, 1), (true, 2), (false, 3), (false, 4), (false, 5), (true, 6)] (by kernel_rfl) rfl (by kernel_rfl) (HS.out _ p6 q8) ?_
      clear e0 e1 e2 e3
      repeat (refine wpMix_soft (v := ?_) rfl rfl ?_ ?_; rotate_left; (focus (intro w' hS; go_simp; with_reducible rfl)); simp only [Act.put, List.setIfInBounds_toArray, List.set_cons_zero, List.set_cons_succ])
      refine wpMix_hard rfl rfl ?_
      go_wp2_with fail
      refine (measure_calls ms[m] A' c' _ _ (by omega) hl' hr'.drew).mono ?_
      rintro e w2 ⟨A7, c7, rfl, hl7, R7, hb2⟩
      replace hb2 := bl_undrew hb2
      have hs2 := hb2.size
      simp only [World.size_alloc] at hs2
      replace hsz1 := Nat.le_trans hsz1 hb2.size
      replace kg := bk_below kg hb2; replace k3 := bk_below k3 hb2; replace p5 := bk_below p5 hb2; replace p6 := bk_below p6 hb2; replace q8 := bk_below q8 hb2; replace B := bl_self B hb2; replace hO := hO.below hb2; clear hb2
      go_wp2_with fail
      refine mixQ_normal (HS.out _ p6 q8) ?_
      -- buildSlice
      refine wpMix_hard rfl rfl ?_
      go_wp2_with fail
      have hb1 := bk_new w2 (.cells (md6 ms[m] A7 c7 (tsize ms[m]) (tdep ms[m])) 74)
      have hk1 : mdK.K (w2.alloc (.cells (md6 ms[m] A7 c7 (tsize ms[m]) (tdep ms[m])) 74)) (fun b => ((S1 b ∧ b < w.heap.size) ∨ w.heap.size + 2 ≤ b) ∧ Live (w2.alloc (.cells (md6 ms[m] A7 c7 (tsize ms[m]) (tdep ms[m])) 74)) b ∧ v.ownBlock ≠ some b) ms[m]
          [.int .i64 ms[m].kind, .string ms[m].name, .int .i64 ms[m].idx, .slice A7 ms[m].args.length c7, .int .i64 (tsize ms[m]), .int .i64 (tdep ms[m])] := by
        refine EK.mono (EK.below (mdK_of ms[m] hl7 R7) (bl_new _ _)) (fun b hb hl => ?_)
        have hb' : (S1 b ∧ Live w b) ∨ wr.heap.size + 1 ≤ b := by simpa using hb
        refine ⟨?_, hl, fun he => ?_⟩
        · rcases hb' with hb' | hb'
          · exact .inl ⟨hb'.1, hb'.2.lt⟩
          · exact .inr (by omega)
        · have := hobl b he
          rcases hb' with hb' | hb'
          · have := hb'.2.lt; omega
          · omega
      have q9 := bk_new w2 (.cells (md6 ms[m] A7 c7 (tsize ms[m]) (tdep ms[m])) 74); replace kg := bk_alloc kg (.cells (md6 ms[m] A7 c7 (tsize ms[m]) (tdep ms[m])) 74); replace k3 := bk_alloc k3 (.cells (md6 ms[m] A7 c7 (tsize ms[m]) (tdep ms[m])) 74); replace p5 := bk_alloc p5 (.cells (md6 ms[m] A7 c7 (tsize ms[m]) (tdep ms[m])) 74); replace p6 := bk_alloc p6 (.cells (md6 ms[m] A7 c7 (tsize ms[m]) (tdep ms[m])) 74); replace q8 := bk_alloc q8 (.cells (md6 ms[m] A7 c7 (tsize ms[m]) (tdep ms[m])) 74); replace B := bl_alloc B (.cells (md6 ms[m] A7 c7 (tsize ms[m]) (tdep ms[m])) 74); replace hO := hO.below (bl_new w2 (.cells (md6 ms[m] A7 c7 (tsize ms[m]) (tdep ms[m])) 74))
      refine mixQ_normal (HS.out _ p6 q8) ?_
      -- append
      refine wpMix_hard rfl rfl ?_
      have hne : ∀ k, k < w.heap.size + 2 → some k ≠ v.ownBlock := fun k hk he => by have := (hobl k he.symm).1; omega
      have hne7 : some wr.heap.size ≠ v.ownBlock := fun he => by have := (hobl _ he.symm).2; omega
      refine wp_snoc (d := mdK) rfl (.tmp 19) (.tmp 22) _ rfl (e := 74) (bytes := 72) (z := .agg #[.int .i64 0, .string ⟨#[]⟩, .int .i64 0, .slice none 0 0, .int .i64 0, .int .i64 0]) (by kernel_rfl) (by kernel_rfl) (by rfl) (by decide) rfl hO (by simp; omega) (by simp; omega) rfl hb1 hk1 ?_
      intro ga cap w5 hO5 hgrow hcap hlt5 hBg
      replace kg := bk_grown kg hgrow (hne _ (by omega))
      replace k3 := bk_grown k3 hgrow (hne _ (by omega))
      replace p5 := bk_grown p5 hgrow (hne _ (by omega))
      replace p6 := bk_grown p6 hgrow (hne _ (by omega))
      replace q8 := bk_grown q8 hgrow hne7
      replace B := bl_grown B hgrow (fun k hk => by have := (hobl k hk).1; omega)
      have hs5 := hgrow.size
      refine mixQ_normal (HS.out _ p6 q8) ?_
      simp only [Act.put, List.setIfInBounds_toArray, List.set_cons_zero, List.set_cons_succ]
      repeat (refine wpMix_soft (v := ?_) rfl rfl ?_ ?_; rotate_left; (focus (intro w' hS; go_simp; with_reducible rfl)); simp only [Act.put, List.setIfInBounds_toArray, List.set_cons_zero, List.set_cons_succ])
      refine wpMix_done (cutQ_normal ?_)
      obtain ⟨d0, d1, d2⟩ := bx3 p6
      have z1 := bk_free p6 1
      go_wp2_with fail
      refine NoPanic.normal ?_
      go_wp2_with fail
      go_roundw
      case rel =>
        have e : ms.take (m + 1) = ms.take m ++ [ms[m]] := List.take_succ_eq_append_getElem hlm
        refine ⟨m + 1, _, by omega, by go_num, bk_far kg (by show g ≠ w.heap.size + 1; omega) _, bk_far k3 (by show g3 ≠ w.heap.size + 1; omega) _, bk_far p5 (by show w.heap.size ≠ w.heap.size + 1; omega) _, bk_set p6 1 _, ?_, by rw [World.size_setCell]; simp at hs5; omega, bl_set B (by show w.heap.size ≤ w.heap.size + 1; omega) _⟩
        rw [e]
        rw [List.length_take] at hO5
        exact hO5.store (p := ⟨w.heap.size + 1, 1, none⟩) (by show ¬ ((S1 (w.heap.size + 1) ∧ w.heap.size + 1 < w.heap.size) ∨ w.heap.size + 2 ≤ w.heap.size + 1); omega) (by show w.heap.size + 1 < w.heap.size + 2; omega) _
      case measure => simp [intOf]; omega
    · obtain rfl : m = K := by omega
      rw [show ms.take m = ms by rw [← HK.out, List.take_length]] at hO
      obtain ⟨Ax, cx, rfl, hcx, RX⟩ := hO.read (S' := fun b => (S1 b ∧ b < w.heap.size) ∨ w.heap.size + 2 ≤ b) (fun b hb => .inr hb) (fun b hb => hb)
      rw [HK.out] at p6
      obtain ⟨d0, d1, d2⟩ := bx3 p6
      obtain ⟨c0, c1, c2, c3⟩ := bx4 k3
      go_wp2_with fail
      have HOf := of_calls 262145 0 t ms ss 0 g A Ax As c cx cs wr (fun b => S b ∧ Live w b) (fun b => (S1 b ∧ b < w.heap.size) ∨ w.heap.size + 2 ≤ b) (fun b => S2 b ∧ Live w b) (by omega) (by omega) (wf_sort Ht.out).1 (small_size (wf_sort Ht.out).2) (by have := small_size (wf_sort Ht.out).2; omega) Hmss.out hml Hms.out hl (hr0.below B) RX (hr20.below B)
        (fun h => hS h.1) (fun h => by rcases h with h | h; exact hS1 h.1; omega) (fun h => hS2 h.1) kg
      rw [HT.out, HK.out, HK2.out] at HOf
      refine HOf.mono ?_
      rintro e w6 ⟨hG6, h⟩
      have hs6 := hG6.size
      have G : w.grownBy w6 (some g) := (gr_below B _).trans hG6
      rcases h with ⟨h0, ⟨A7, c7, rfl, hl7, R7⟩, pg2⟩ | ⟨h0, rfl⟩
      · have H0 := Lib.hid h0
        clear h0
        replace p5 := bk_grown p5 hG6 (by simp; omega)
        obtain ⟨x0, x1, x2, x3, x4, x5⟩ := bx6 p5
        obtain ⟨z0, z1, z2, z3, z4, z5⟩ : _ ∧ _ ∧ _ ∧ _ ∧ _ ∧ _ := ⟨bk_free p5 0, bk_free p5 1, bk_free p5 2, bk_free p5 3, bk_free p5 4, bk_free p5 5⟩
        go_wp2_with fail
        have R8 := R7.mono (S' := fun b => (S1 b ∧ b < w.heap.size) ∨ w.heap.size + 2 ≤ b) (fun b hb _ => by rcases hb with hb | hb; exact hb.1; exact .inr (by omega))
        refine bodyPost_ret (res_made rfl rfl (set6_self p5)) rfl ⟨gr_set6 G (Nat.le_refl _), .inl ⟨H0.out, ⟨A7, c7, rfl, hl7, ?_⟩, (set6_far (by omega)).trans pg2⟩⟩
        exact (rd_set6 R8 (fun b hb => by omega)).mono (fun b hb _ => by rcases hb with hb | hb; exact .inl hb; exact .inr (by omega))
      · go_wp2_with fail
        exact ⟨rfl, G, .inr ⟨h0, rfl⟩⟩
def manyR (t : Tm) (ms : List Tm) (ss : List Sm) : Int × Tm :=
  if formsE (t :: ms) ss ≠ 0 then (formsE (t :: ms) ss, zeroT) else
  if ms.length ≠ ss.length then (33, zeroT) else
  if ms.all objoB then ((subT 262145 0 t ms ss 0).1, runT (subT 262145 0 t ms ss 0)) else (32, zeroT)
theorem forms_zero {ts : List Tm} {ss : List Sm} (h : formsE ts ss = 0) : ∀ t ∈ ts, wfE t = 0 := by
  unfold formsE at h
  have h0 : wfsE ts = 0 := by
    by_cases hw : wfsE ts ≠ 0
    · rw [if_pos hw] at h; exact absurd h hw
    · simpa using hw
  unfold wfsE at h0
  clear h
  induction ts with
  | nil => intro t ht; cases ht
  | cons x r ih =>
    rw [List.map_cons, firstE] at h0
    by_cases hx : wfE x ≠ 0
    · rw [if_pos hx] at h0; exact absurd h0 hx
    · rw [if_neg hx] at h0
      intro t ht
      rcases List.mem_cons.1 ht with rfl | ht
      · simpa using hx
      · exact ih h0 t ht
set_option maxRecDepth 100000 in
set_option maxHeartbeats 4000000 in
theorem many_calls (t : Tm) (ms : List Tm) (ss : List Sm) (A Am As : Option Addr) (c cm cs : Nat) (w : World) (S S1 S2 : Nat → Prop) (ht : tsize t < 1000000000) (hms : ∀ m ∈ ms, tsize m < 1000000000) (hss : ∀ s ∈ ss, ssize s < 1000000000) (hml : ms.length < 1000000) (hsl : ss.length < 1000000)
    (hl : t.args.length ≤ c) (hr : Rd tmK w S A t.args) (hr1 : Rd tmK w S1 Am ms) (hr2 : Rd smK w S2 As ss) :
    GivP Try.prog 44 #[tmV t A c, .slice Am ms.length cm, .slice As ss.length cs] w S1 (manyR t ms ss).2 (.int .i64 (manyR t ms ss).1) := by
  obtain ⟨R, HR0⟩ : ∃ R, Hid (manyR t ms ss = R) := ⟨_, Lib.hid rfl⟩
  rw [HR0.out]
  have hr0 := hr.bound
  have hr10 := hr1.bound
  have hr20 := hr2.bound
  clear hr hr1 hr2
  have HF : Hid (∀ x ∈ t :: ms, tsize x < 1000000000) := Lib.hid (fun x hx => by rcases List.mem_cons.1 hx with rfl | hx; exact ht; exact hms x hx)
  have Hss := Lib.hid hss
  clear hms hss
  have hmf : ∀ (fn : Fn) (first cap : Array Value) (w : World), (Instr.makeFunc fn first cap).run Try.prog w = .ok (.func fn first cap) w := fun _ _ _ _ => rfl
  obtain ⟨K, HK⟩ : ∃ K, Hid (ms.length = K) := ⟨_, Lib.hid rfl⟩
  obtain ⟨K2, HK2⟩ : ∃ K2, Hid (ss.length = K2) := ⟨_, Lib.hid rfl⟩
  rw [HK.out, HK2.out]
  have p3 := bk_alloc (bk_alloc (bk_alloc (bk_new w (.cells (tmB t A c) 33)) (.cells #[.slice Am K cm] 31)) (.cells #[.slice As K2 cs] 23)) (.cells #[.int .i64 0, .string ⟨#[]⟩, .int .i64 0, .slice none 0 0] 33)
  have p4 := bk_alloc (bk_alloc (bk_at (w := w.alloc (.cells (tmB t A c) 33)) (n := w.heap.size + 1) (by simp) (.cells #[.slice Am K cm] 31)) (.cells #[.slice As K2 cs] 23)) (.cells #[.int .i64 0, .string ⟨#[]⟩, .int .i64 0, .slice none 0 0] 33)
  have p5 := bk_alloc (bk_at (w := (w.alloc (.cells (tmB t A c) 33)).alloc (.cells #[.slice Am K cm] 31)) (n := w.heap.size + 1 + 1) (by simp) (.cells #[.slice As K2 cs] 23)) (.cells #[.int .i64 0, .string ⟨#[]⟩, .int .i64 0, .slice none 0 0] 33)
  have p6 := bk_at (w := ((w.alloc (.cells (tmB t A c) 33)).alloc (.cells #[.slice Am K cm] 31)).alloc (.cells #[.slice As K2 cs] 23)) (n := w.heap.size + 1 + 1 + 1) (by simp) (.cells #[.int .i64 0, .string ⟨#[]⟩, .int .i64 0, .slice none 0 0] 33)
  have B := bl_alloc (bl_alloc (bl_alloc (bl_new w (.cells (tmB t A c) 33)) (.cells #[.slice Am K cm] 31)) (.cells #[.slice As K2 cs] 23)) (.cells #[.int .i64 0, .string ⟨#[]⟩, .int .i64 0, .slice none 0 0] 33)
  have hsz : w.heap.size + 4 ≤ ((((w.alloc (.cells (tmB t A c) 33)).alloc (.cells #[.slice Am K cm] 31)).alloc (.cells #[.slice As K2 cs] 23)).alloc (.cells #[.int .i64 0, .string ⟨#[]⟩, .int .i64 0, .slice none 0 0] 33)).heap.size := by simp
  have hr01 := hr0.below B
  have HS : ∀ w' : World, w'.heap[w.heap.size]? = some (.cells (tmB t A c) 33 (0, 0)) → w'.heap[w.heap.size + 1]? = some (.cells #[.slice Am K cm] 31 (0, 0)) → w'.heap[w.heap.size + 1 + 1]? = some (.cells #[.slice As K2 cs] 23 (0, 0)) →
      w'.cell? ⟨w.heap.size, 0, none⟩ = some (.int .i64 t.kind) ∧ w'.cell? ⟨w.heap.size, 1, none⟩ = some (.string t.name) ∧ w'.cell? ⟨w.heap.size, 2, none⟩ = some (.int .i64 t.idx) ∧ w'.cell? ⟨w.heap.size, 3, none⟩ = some (.slice A t.args.length c) ∧
      w'.cell? ⟨w.heap.size + 1, 0, none⟩ = some (.slice Am K cm) ∧ w'.cell? ⟨w.heap.size + 1 + 1, 0, none⟩ = some (.slice As K2 cs) := fun w' h1 h2 h3 => ⟨(bx4 h1).1, (bx4 h1).2.1, (bx4 h1).2.2.1, (bx4 h1).2.2.2, bx1 h2, bx1 h3⟩
  replace HS := Lib.hid HS
  go_enter Try.func44, Try.ntmps44
  go_upto_region 1 with (fail)
  go_cut [8] (fun s8 wc => s8 = .int .i64 (formsE (t :: ms) ss) ∧ wc.heap[w.heap.size]? = some (.cells (tmB t A c) 33 (0, 0)) ∧ wc.heap[w.heap.size + 1]? = some (.cells #[.slice Am K cm] 31 (0, 0)) ∧ wc.heap[w.heap.size + 1 + 1]? = some (.cells #[.slice As K2 cs] 23 (0, 0)) ∧
      wc.heap[w.heap.size + 1 + 1 + 1]? = some (.cells #[.int .i64 0, .string ⟨#[]⟩, .int .i64 0, .slice none 0 0] 33 (0, 0)) ∧ w.heap.size + 4 ≤ wc.heap.size ∧ Below w.heap.size w wc)
  case first =>
    refine wp_region_mixedN (fun w' => w'.cell? ⟨w.heap.size, 0, none⟩ = some (.int .i64 t.kind) ∧ w'.cell? ⟨w.heap.size, 1, none⟩ = some (.string t.name) ∧ w'.cell? ⟨w.heap.size, 2, none⟩ = some (.int .i64 t.idx) ∧ w'.cell? ⟨w.heap.size, 3, none⟩ = some (.slice A t.args.length c) ∧
      w'.cell? ⟨w.heap.size + 1, 0, none⟩ = some (.slice Am K cm) ∧ w'.cell? ⟨w.heap.size + 1 + 1, 0, none⟩ = some (.slice As K2 cs)) [(true, 0), (true, 2), (true, 4), (false, 1), (false, 3), (false, 5), (true, 6)] (by kernel_rfl) (by kernel_rfl) (HS.out _ p3 p4 p5) ?_
    repeat (refine wpMix_soft (v := ?_) rfl rfl ?_ ?_; rotate_left; (focus (intro w' hS; go_simp; with_reducible rfl)); simp only [Act.put, List.setIfInBounds_toArray, List.set_cons_zero, List.set_cons_succ])
    -- buildSlice
    refine wpMix_hard rfl rfl ?_
    go_wp2_with fail
    have hO := Own.one (d := tmK) (e := 33) (B := w.heap.size + 4) (S' := fun b => S b ∧ Live w b) (tmK_of t hl hr01) hsz (fun _ h => h)
    simp only [World.size_alloc] at hO
    have hR1 := (hr10.below B).below (bl_new _ (.cells (tmB t A c) 33))
    have hR2 := (hr20.below B).below (bl_new _ (.cells (tmB t A c) 33))
    replace p3 := bk_alloc p3 (.cells (tmB t A c) 33)
    replace p4 := bk_alloc p4 (.cells (tmB t A c) 33)
    replace p5 := bk_alloc p5 (.cells (tmB t A c) 33)
    replace p6 := bk_alloc p6 (.cells (tmB t A c) 33)
    replace B := bl_alloc B (.cells (tmB t A c) 33)
    refine mixQ_normal (HS.out _ p3 p4 p5) ?_
    -- append
    refine wpMix_hard rfl rfl ?_
    refine wp_ext (d := tmK) (v := .slice (some ⟨w.heap.size + 1 + 1 + 1 + 1, 0, none⟩) 1 1) rfl (.tmp 10) (.tmp 11) _ rfl (e := 33) (bytes := 56) (z := .agg #[.int .i64 0, .string ⟨#[]⟩, .int .i64 0, .slice none 0 0]) (by kernel_rfl) (by kernel_rfl) (by rfl) (by decide) rfl hO.drew (by simp) (by omega) (by simp) (show _ = Value.slice Am ms.length cm by rw [HK.out]; rfl) hR1.drew ?_ ?_
    · intro b hb he
      have := hb.2.lt
      simp [Value.ownBlock] at he
      omega
    intro v' w5 hO5 hgrow hat
    have hne : ∀ k, k < w.heap.size + 4 → some k ≠ Value.ownBlock (.slice (some ⟨w.heap.size + 1 + 1 + 1 + 1, 0, none⟩) 1 1) := fun k hk he => by simp [Value.ownBlock] at he; omega
    replace p3 := bk_grown p3 (gr_undrew hgrow) (hne _ (by omega))
    replace p4 := bk_grown p4 (gr_undrew hgrow) (hne _ (by omega))
    replace p5 := bk_grown p5 (gr_undrew hgrow) (hne _ (by omega))
    replace p6 := bk_grown p6 (gr_undrew hgrow) (hne _ (by omega))
    replace B := bl_grown B (gr_undrew hgrow) (fun k hk => by simp [Value.ownBlock] at hk; omega)
    have hR2' : Rd smK w5 (fun b => S2 b ∧ Live w b) As ss := hR2.move (fun b hb hl => (gr_undrew hgrow).block b hl.lt (fun he => hne b (by have := hb.2.lt; omega) he)) (fun _ h _ => h)
    have hs5 := (gr_undrew hgrow).size
    simp only [World.size_alloc] at hs5
    refine mixQ_normal (HS.out _ p3 p4 p5) ?_
    simp only [Act.put, List.setIfInBounds_toArray, List.set_cons_zero, List.set_cons_succ]
    repeat (refine wpMix_soft (v := ?_) rfl rfl ?_ ?_; rotate_left; (focus (intro w' hS; go_simp; with_reducible rfl)); simp only [Act.put, List.setIfInBounds_toArray, List.set_cons_zero, List.set_cons_succ])
    obtain ⟨A8, c8, rfl, hc8, R8⟩ := hO5.read (S' := fun _ => True) (fun _ _ => trivial) (fun _ _ => trivial)
    -- forms
    refine wpMix_hard rfl rfl ?_
    go_wp2_with fail
    have HFo := forms_calls ([t] ++ ms) ss A8 As c8 cs w5 _ _ (by simp; omega) (by omega) (fun x hx => HF.out x (by simpa using hx)) Hss.out R8 hR2'
    rw [HK2.out] at HFo
    refine HFo.use fun w6 hb6 => ?_
    have hs6 := hb6.size
    replace p3 := bk_below p3 hb6; replace p4 := bk_below p4 hb6; replace p5 := bk_below p5 hb6; replace p6 := bk_below p6 hb6; replace B := bl_self B hb6; clear hb6
    go_wp2_with fail
    refine mixQ_normal (HS.out _ p3 p4 p5) ?_
    repeat (refine wpMix_soft (v := ?_) rfl rfl ?_ ?_; rotate_left; (focus (intro w' hS; go_simp; with_reducible rfl)); simp only [Act.put, List.setIfInBounds_toArray, List.set_cons_zero, List.set_cons_succ])
    refine wpMix_done (NoPanic.normal ?_)
    go_wp2_with fail
    go_meet
    exact ⟨rfl, p3, p4, p5, p6, by omega, B⟩
  case rest =>
  clear p3 p4 p5 p6 B hsz hr01
  obtain ⟨rfl, p3, p4, p5, p6, hsz, B⟩ := hcut
  obtain ⟨x0, x1, x2, x3⟩ := bx4 p6
  have z0 := bk_free p6 0
  have z1 := bk_free p6 1
  have z2 := bk_free p6 2
  have z3 := bk_free p6 3
  have y4 := bx1 p4
  have y5 := bx1 p5
  by_cases h0 : formsE (t :: ms) ss = 0
  · have H0 := Lib.hid h0
    clear h0
    have Hwf := Lib.hid (forms_zero H0.out)
    rw [H0.out]
    by_cases hk : ms.length = ss.length
    · have hkb : ((K : Int) != (K2 : Int)) = false := by have := HK.out; have := HK2.out; simp; omega
      have Hk := Lib.hid hk
      clear hk
      have hcn := containsNot_calls ms Am cm wc (fun b => S1 b ∧ Live w b) (by omega) (fun x hx => HF.out x (List.mem_cons_of_mem _ hx)) (hr10.below B)
      rw [HK.out] at hcn
      have HCN := Lib.hid hcn
      clear hcn
      cases ho : ms.all objoB
      · have HR : Hid (R = (32, zeroT)) := Lib.hid (by rw [← HR0.out, manyR, if_neg (fun h => h H0.out), if_neg (fun h => h Hk.out), ho]; rfl)
        have Ho := Lib.hid ho
        clear ho
        skip
        go_wp2_with fail
        refine HCN.out.use fun w6 hb6 => ?_
        rw [Ho.out]
        clear x0 x1 x2 x3 z0 z1 z2 z3
        replace p6 := bk_below p6 hb6; replace B := bl_self B hb6; clear hb6
        obtain ⟨x0, x1, x2, x3⟩ := bx4 p6
        have z0 := bk_free p6 0
        have z1 := bk_free p6 1
        have z2 := bk_free p6 2
        have z3 := bk_free p6 3
        go_wp2_with fail
        exact bodyPost_ret (res_pair rfl rfl rfl (set4_self p6)) rfl ⟨none, 0, by rw [HR.out]; rfl, by rw [HR.out]; exact Nat.le_refl _, by rw [HR.out]; exact Rd.nil _ _ _ _, bl_set4 B (by omega)⟩
      · obtain ⟨T, HT⟩ : ∃ T, Hid (subT 262145 0 t ms ss 0 = T) := ⟨_, Lib.hid rfl⟩
        have HR : Hid (R = (T.1, runT T)) := Lib.hid (by rw [← HR0.out, manyR, if_neg (fun h => h H0.out), if_neg (fun h => h Hk.out), ho, HT.out]; rfl)
        have Ho := Lib.hid ho
        clear ho
        skip
        have Hms : Hid (∀ m ∈ ms, objB m = true ∧ smallB m = true) := Lib.hid (fun m hm => by
          have := List.all_eq_true.1 Ho.out m hm
          simpa [objoB] using this)
        go_wp2_with fail
        refine HCN.out.use fun w6 hb6 => ?_
        rw [Ho.out]
        clear x0 x1 x2 x3 z0 z1 z2 z3 y4 y5
        have hs6 := hb6.size
        replace p3 := bk_below p3 hb6; replace p4 := bk_below p4 hb6; replace p5 := bk_below p5 hb6; replace p6 := bk_below p6 hb6; replace B := bl_self B hb6; clear hb6
        go_wp2_with fail
        refine (srun_calls 76 #[ptr (w.heap.size + 1 + 1), ptr (w.heap.size + 1), ptr w.heap.size] T w6 (fun b => S1 b ∧ Live w b) (fun a w => by go_simp) (fun b hb => by have := hb.2.lt; omega) ?_).use fun w7 A9 c9 hc9 hR9 hb7 => ?_
        · intro w1 g hb1 hg hw1
          have := many1_calls t ms ss A Am As c cm cs g w.heap.size (w.heap.size + 1) (w.heap.size + 1 + 1) w1 (fun b => S b ∧ Live w b) (fun b => S1 b ∧ Live w b) (fun b => S2 b ∧ Live w b) (Hwf.out t (List.mem_cons_self ..)) Hms.out hml Hk.out hl ((hr0.below B).below hb1) ((hr10.below B).below hb1) ((hr20.below B).below hb1)
            (fun h => by have := h.2.lt; omega) (fun h => by have := h.2.lt; omega) (fun h => by have := h.2.lt; omega) hw1 (bk_below p3 hb1) (by rw [HK.out]; exact bk_below p4 hb1) (by rw [HK2.out]; exact bk_below p5 hb1) (by omega) (by omega) (by omega)
          rw [HT.out] at this
          exact this
        have hs7 := hb7.size
        replace p6 := bk_below p6 hb7; replace B := bl_self B hb7; clear hb7
        obtain ⟨x0, x1, x2, x3⟩ := bx4 p6
        have z0 := bk_free p6 0
        have z1 := bk_free p6 1
        have z2 := bk_free p6 2
        have z3 := bk_free p6 3
        obtain ⟨X, HX⟩ : ∃ X, Hid (runT T = X) := ⟨_, Lib.hid rfl⟩
        rw [HX.out] at hc9 hR9 ⊢
        go_wp2_with fail
        refine bodyPost_ret (res_pair rfl rfl rfl (set4_self p6)) rfl ⟨A9, c9, by rw [HR.out, HX.out]; rfl, by rw [HR.out, HX.out]; exact hc9, ?_, bl_set4 B (by omega)⟩
        rw [HR.out, HX.out]
        exact (hR9.set4 (fun b hb => by rcases hb with hb | hb; (have := hb.2.lt; omega); omega)).mono (fun b hb _ => by rcases hb with hb | hb; exact .inl hb.1; exact .inr (by omega))
    · have hkb : ((K : Int) != (K2 : Int)) = true := by have := HK.out; have := HK2.out; simp; omega
      have HR : Hid (R = (33, zeroT)) := Lib.hid (by rw [← HR0.out, manyR, if_neg (fun h => h H0.out), if_pos hk])
      clear hk
      skip
      go_wp2_with fail
      exact bodyPost_ret (res_pair rfl rfl rfl (set4_self p6)) rfl ⟨none, 0, by rw [HR.out]; rfl, by rw [HR.out]; exact Nat.le_refl _, by rw [HR.out]; exact Rd.nil _ _ _ _, bl_set4 B (by omega)⟩
  · have h0b : (formsE (t :: ms) ss != 0) = true := by simpa using h0
    have HR : Hid (R = (formsE (t :: ms) ss, zeroT)) := Lib.hid (by rw [← HR0.out, manyR, if_pos h0])
    clear h0
    skip
    go_wp2_with fail
    exact bodyPost_ret (res_pair rfl rfl rfl (set4_self p6)) rfl ⟨none, 0, by rw [HR.out]; rfl, by rw [HR.out]; exact Nat.le_refl _, by rw [HR.out]; exact Rd.nil _ _ _ _, bl_set4 B (by omega)⟩
set_option maxRecDepth 100000 in
set_option maxHeartbeats 1000000 in
theorem subst_calls (t m : Tm) (s : Sm) (A A2 As : Option Addr) (c c2 cs : Nat) (w : World) (S S1 S2 : Nat → Prop) (ht : tsize t < 1000000000) (hm : tsize m < 1000000000) (hss : ssize s < 1000000000)
    (hl : t.args.length ≤ c) (hr : Rd tmK w S A t.args) (hl1 : m.args.length ≤ c2) (hr1 : Rd tmK w S1 A2 m.args) (hls : s.args.length ≤ cs) (hr2 : Rd smK w S2 As s.args) :
    GivP Try.prog 19 #[tmV t A c, tmV m A2 c2, smV s As cs] w S1 (manyR t [m] [s]).2 (.int .i64 (manyR t [m] [s]).1) := by
  obtain ⟨R, HR⟩ : ∃ R, Hid (manyR t [m] [s] = R) := ⟨_, Lib.hid rfl⟩
  rw [HR.out]
  have hr0 := hr.bound
  have hr10 := hr1.bound
  have hr20 := hr2.bound
  clear hr hr1 hr2
  have B := bl_alloc (bl_alloc (bl_alloc (bl_new w (.cells (tmB t A c) 33)) (.cells (tmB m A2 c2) 33)) (.cells (smB s As cs) 25)) (.cells #[.int .i64 0, .string ⟨#[]⟩, .int .i64 0, .slice none 0 0] 33)
  have p6 := bk_at (w := ((w.alloc (.cells (tmB t A c) 33)).alloc (.cells (tmB m A2 c2) 33)).alloc (.cells (smB s As cs) 25)) (n := w.heap.size + 1 + 1 + 1) (by simp) (.cells #[.int .i64 0, .string ⟨#[]⟩, .int .i64 0, .slice none 0 0] 33)
  have hm1 := Rd.one (d := tmK) (e := 33) (S' := fun b => (S1 b ∧ Live w b) ∨ w.heap.size + 4 ≤ b) (tmK_of m hl1 (hr10.below B)) (fun b hb => .inl hb) (by simp)
  have hs1 := Rd.one (d := smK) (e := 25) (S' := fun b => (S2 b ∧ Live w b) ∨ w.heap.size + 4 ≤ b) (smK_of s hls ((hr20.below B).below (bl_new _ (.cells (tmB m A2 c2) 33)))) (fun b hb => .inl hb) (by simp)
  simp only [World.size_alloc] at hm1 hs1
  go_enter Try.func19, Try.ntmps19
  go_wp2_with fail
  refine (many_calls t [m] [s] A (some ⟨w.heap.size + 1 + 1 + 1 + 1, 0, none⟩) (some ⟨w.heap.size + 1 + 1 + 1 + 1 + 1, 0, none⟩) c 1 1 _ _ _ _ ht (by simpa using hm) (by simpa using hss) (by simp) (by simp) hl (((hr0.below B).below (bl_new _ _)).below (bl_new _ _)) (hm1.below (bl_new _ _)) hs1).use fun w5 A9 c9 hc9 hR9 hb5 => ?_
  rw [HR.out] at hc9 hR9 ⊢
  have hs5 := hb5.size
  simp only [World.size_alloc] at hs5
  replace p6 := bk_below (bk_alloc (bk_alloc p6 _) _) hb5
  replace B := bl_self (bl_alloc (bl_alloc B _) _) hb5
  obtain ⟨x0, x1, x2, x3⟩ := bx4 p6
  have z0 := bk_free p6 0
  have z1 := bk_free p6 1
  have z2 := bk_free p6 2
  have z3 := bk_free p6 3
  go_wp2_with fail
  refine bodyPost_ret (res_pair rfl rfl rfl (set4_self p6)) rfl ⟨A9, c9, rfl, hc9, ?_, bl_set4 B (by omega)⟩
  have R8 := hR9.mono (S' := fun b => (S1 b ∧ b < w.heap.size) ∨ w.heap.size + 4 ≤ b) (fun b hb _ => by
    simp only [World.size_alloc] at hb
    rcases hb with (hb | hb) | hb
    · exact .inl ⟨hb.1, hb.2.lt⟩
    · exact .inr hb
    · exact .inr (by omega))
  exact (R8.set4 (fun b hb => by omega)).mono (fun b hb _ => by rcases hb with hb | hb; exact .inl hb.1; exact .inr (by omega))
end Go.Proofs.Ytolooomphmcphaa
