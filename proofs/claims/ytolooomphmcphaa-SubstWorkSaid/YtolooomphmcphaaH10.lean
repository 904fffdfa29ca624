/- subst.Apply. -/
import Derived.Test.YtolooomphmcphaaH9
import Derived.Test.YtolooomphmcphaaK9
namespace Go.Proofs.Ytolooomphmcphaa
open Go.RowKit

theorem wp_region_treeP {P : Program} {id : Nat} {Q : Exit → Act → World → Prop} {a : Act} {w : World} {l : List Oper} (S : World → Prop) (Φ : List PanicEntry → World → Prop) (r : MixT) (hm : P.follows .mixedOrders = true)
    (hB : (Region.noSelect l.toArray && treeB .any l.toArray r l.length (Array.replicate l.length false)) = true)
    (hΦ : ∀ c a w, a.defers = [] → Φ c w → Q (.panic c) a w)
    (hS : S w.drew) (h : wpTree P l.toArray (PanTo Φ Q) S r a w.drew) : (Code.region id l.toArray true).wp P Q a w := by
  refine Code.wp_mono (PanTo.imp hΦ) ?_
  simp only [Bool.and_eq_true] at hB
  refine wp_region_any hm ?_
  exact wpAny_of_held _ _ _ _ (wpAnyH_tree (Q := PanTo Φ Q) hB.1 PanTo.put r _ _ a w.drew hS hB.2 h)
theorem mv_zero (fr : Int) (t : Tm) : mv 0 fr t = t := by
  revert fr
  refine Tm.rec (motive_1 := fun t => ∀ fr, mv 0 fr t = t) (motive_2 := fun a => ∀ fr k j, mvs 0 fr k j a = a) ?_ ?_ ?_ t
  · intro k s i a ih fr
    simp [mv, ih]
  · intro fr k j
    rfl
  · intro t r h1 h2 fr k j
    simp [mvs, h1, h2]
mutual
theorem shOk_zero : ∀ (t : Tm) (bs : Int), objB t = true → shOk 0 0 bs t = true
  | .mk k s i a, bs, ho => by
    have hi : i ≤ 1048576 ∧ objBs a = true := by
      rw [objB] at ho
      simp only [Bool.or_eq_true, Bool.and_eq_true, boundB, Tm.idx, beq_iff_eq, decide_eq_true_eq] at ho
      rcases ho with ((h | h) | h) | h
      · exact ⟨by omega, h.2⟩
      · exact ⟨by omega, h.2⟩
      · exact ⟨by omega, h.2⟩
      · exact ⟨by omega, h.2⟩
    rw [shOk, shOks_zero k a bs 0 hi.2, Bool.and_true]
    split <;> simp [hi.1]
theorem shOks_zero (k : Int) : ∀ (a : List Tm) (bs : Int) (j : Nat), objBs a = true → shOks 0 0 bs k j a = true
  | [], _, _, _ => rfl
  | t :: r, bs, j, h => by
    rw [objBs, Bool.and_eq_true] at h
    rw [shOks, shOk_zero t _ h.1, shOks_zero k r _ _ h.2]
    rfl
end
theorem applyT_ok {f W : Nat} {m : Tm} {s : Sm} {args : List Tm} (hm : objB m = true) (ha : ∀ a ∈ args, objB a = true) (h : (applyT f W m s args).1 = 0) : objB (applyT f W m s args).2.2 = true ∧ smallB (applyT f W m s args).2.2 = true := by
  unfold applyT at h ⊢
  by_cases hq : args.length = s.args.length
  · rw [if_pos hq] at h ⊢
    exact appL_ok (fun W t a s hao h => subT_ok f W t [a] [s] 0 (by simpa using hao) h) _ _ _ _ hm (by rw [objBs_iff]; exact List.all_eq_true.2 ha) h
  · rw [if_neg hq] at h
    exact (errT_no (by decide) h).elim
theorem set4_self6 {w : World} {g : Nat} {v0 v1 v2 v3 u0 u1 u2 u3 u4 u5 : Value} {T : TypeId} (h : w.heap[g]? = some (.cells #[u0, u1, u2, u3, u4, u5] T (0, 0))) : (set4 w g v0 v1 v2 v3).heap[g]? = some (.cells #[v0, v1, v2, v3, u4, u5] T (0, 0)) := bk_set (bk_set (bk_set (bk_set h 0 v0) 1 v1) 2 v2) 3 v3
set_option maxRecDepth 100000 in
set_option maxHeartbeats 1000000 in
theorem apply1_calls (f : Nat) (hf : 262145 ≤ f) (m : Tm) (s : Sm) (args : List Tm) (A As Ax : Option Addr) (c cs cx g g1 g2 g3 : Nat) (w : World) (S S1 S2 : Nat → Prop) (hmo : objB m = true) (hms : smallB m = true) (hargs : ∀ a ∈ args, objB a = true ∧ smallB a = true) (hal : args.length < 1000000)
    (hl : m.args.length ≤ c) (hr : Rd tmK w S A m.args) (hls : s.args.length ≤ cs) (hr1 : Rd smK w S1 As s.args) (hr2 : Rd tmK w S2 Ax args) (hS : ¬ S g) (hS1 : ¬ S1 g) (hS2 : ¬ S2 g) (hg : w.heap[g]? = some (.cells #[.int .i64 0] 3 (0, 0)))
    (h1 : w.heap[g1]? = some (.cells #[.slice Ax args.length cx] 31 (0, 0))) (h2 : w.heap[g2]? = some (.cells (tmB m A c) 33 (0, 0))) (h3 : w.heap[g3]? = some (.cells (smB s As cs) 25 (0, 0))) (_ : g1 ≠ g) (n2 : g2 ≠ g) (n3 : g3 ≠ g) :
    Calls Try.prog 50 #[wkP g, ptr g1, ptr g2, ptr g3] w (SubP g w (fun b => S b ∨ S2 b) (applyT f 0 m s args)) := by
  have Hargs := Lib.hid hargs
  have Hmo := Lib.hid hmo
  have Hms := Lib.hid hms
  have hmz := small_size hms
  clear hargs hmo hms
  have hr0 := hr.bound
  have hr10 := hr1.bound
  have hr20 := hr2.bound
  have l1 := bk_lt h1
  have l2 := bk_lt h2
  have l3 := bk_lt h3
  have lg := bk_lt hg
  clear hr hr1 hr2
  obtain ⟨T, HT⟩ : ∃ T, Hid (applyT f 0 m s args = T) := ⟨_, Lib.hid rfl⟩
  rw [HT.out]
  obtain ⟨K, HK⟩ : ∃ K, Hid (args.length = K) := ⟨_, Lib.hid rfl⟩
  rw [HK.out] at h1
  have kg := bk_alloc hg (.cells #[.int .i64 0, .string ⟨#[]⟩, .int .i64 0, .slice none 0 0, .int .i64 0, .int .i64 0] 74)
  have k2 := bk_alloc h2 (.cells #[.int .i64 0, .string ⟨#[]⟩, .int .i64 0, .slice none 0 0, .int .i64 0, .int .i64 0] 74)
  have k3 := bk_alloc h3 (.cells #[.int .i64 0, .string ⟨#[]⟩, .int .i64 0, .slice none 0 0, .int .i64 0, .int .i64 0] 74)
  have p5 := bk_new w (.cells #[.int .i64 0, .string ⟨#[]⟩, .int .i64 0, .slice none 0 0, .int .i64 0, .int .i64 0] 74)
  have B := bl_new w (.cells #[.int .i64 0, .string ⟨#[]⟩, .int .i64 0, .slice none 0 0, .int .i64 0, .int .i64 0] 74)
  have x1 := bx1 (bk_alloc h1 (.cells #[.int .i64 0, .string ⟨#[]⟩, .int .i64 0, .slice none 0 0, .int .i64 0, .int .i64 0] 74))
  go_enter Try.func50, Try.ntmps50
  go_wp2_with fail
  go_loopw [6, 12] (fun v i w' => ∃ (j : Nat), j ≤ K ∧ i = .int .i64 j ∧ w'.heap[g]? = some (.cells #[.int .i64 0] 3 (0, 0)) ∧ w'.heap[g2]? = some (.cells (tmB m A c) 33 (0, 0)) ∧ w'.heap[g3]? = some (.cells (smB s As cs) 25 (0, 0)) ∧
      w'.heap[w.heap.size]? = some (.cells #[.int .i64 0, .string ⟨#[]⟩, .int .i64 0, .slice none 0 0, .int .i64 0, .int .i64 0] 74 (0, 0)) ∧
      Own mdK 74 (w.heap.size + 1) w' (fun b => (S2 b ∧ b < w.heap.size) ∨ w.heap.size + 1 ≤ b) v (args.take j) ∧ w.heap.size + 1 ≤ w'.heap.size ∧ Below w.heap.size w w') (fun _ i _ => K - (intOf i).toNat)
  case atStart => exact ⟨0, by omega, rfl, kg, k2, k3, p5, Own.nil _ _ _ _ _, by simp, B⟩
  case round =>
    clear kg k2 k3 p5 B x1
    obtain ⟨j, hj, rfl, kg, k2, k3, p5, hO, hsz, B⟩ := hrel
    by_cases hlt : j < K
    · have hlm : j < args.length := by rw [HK.out]; exact hlt
      obtain ⟨b, o, A', c', rfl, ⟨hSb, hbl⟩, e0, e1, e2, e3, hl', hr'⟩ := (hr20.below B).tm j hlm
      have hobl := hO.block
      have hms1 := small_size (Hargs.out _ (List.getElem_mem hlm)).2
      have q8 := bk_new wr (.cells (tmB args[j] A' c') 33); replace kg := bk_alloc kg (.cells (tmB args[j] A' c') 33); replace k2 := bk_alloc k2 (.cells (tmB args[j] A' c') 33); replace k3 := bk_alloc k3 (.cells (tmB args[j] A' c') 33); replace p5 := bk_alloc p5 (.cells (tmB args[j] A' c') 33); replace B := bl_alloc B (.cells (tmB args[j] A' c') 33); replace hr' := hr'.below (bl_new wr (.cells (tmB args[j] A' c') 33)); replace hO := hO.below (bl_new wr (.cells (tmB args[j] A' c') 33))
      have hsz1 : w.heap.size + 1 ≤ (wr.alloc (.cells (tmB args[j] A' c') 33)).heap.size := by simp; omega
      obtain ⟨d0, d1, d2, d3⟩ := bx4 q8
      go_wp2_with fail
      refine (measure_calls args[j] A' c' _ _ (by omega) hl' hr').mono ?_
      rintro e w2 ⟨A7, c7, rfl, hl7, R7, hb2⟩
      have hs2 := hb2.size
      simp only [World.size_alloc] at hs2
      replace hsz1 := Nat.le_trans hsz1 hb2.size
      replace kg := bk_below kg hb2; replace k2 := bk_below k2 hb2; replace k3 := bk_below k3 hb2; replace p5 := bk_below p5 hb2; replace B := bl_self B hb2; replace hO := hO.below hb2; clear hb2
      have hb1 := bk_new w2 (.cells (md6 args[j] A7 c7 (tsize args[j]) (tdep args[j])) 74)
      have hk1 : mdK.K (w2.alloc (.cells (md6 args[j] A7 c7 (tsize args[j]) (tdep args[j])) 74)) (fun b => ((S2 b ∧ b < w.heap.size) ∨ w.heap.size + 1 ≤ b) ∧ Live (w2.alloc (.cells (md6 args[j] A7 c7 (tsize args[j]) (tdep args[j])) 74)) b ∧ u6.ownBlock ≠ some b) args[j]
          [.int .i64 args[j].kind, .string args[j].name, .int .i64 args[j].idx, .slice A7 args[j].args.length c7, .int .i64 (tsize args[j]), .int .i64 (tdep args[j])] := by
        refine EK.mono (EK.below (mdK_of args[j] hl7 R7) (bl_new _ _)) (fun b hb hl => ?_)
        have hb' : (S2 b ∧ Live w b) ∨ wr.heap.size + 1 ≤ b := by simpa using hb
        refine ⟨?_, hl, fun he => ?_⟩
        · rcases hb' with hb' | hb'
          · exact .inl ⟨hb'.1, hb'.2.lt⟩
          · exact .inr (by omega)
        · have := hobl b he
          rcases hb' with hb' | hb'
          · have := hb'.2.lt; omega
          · omega
      have q9 := bk_new w2 (.cells (md6 args[j] A7 c7 (tsize args[j]) (tdep args[j])) 74); replace kg := bk_alloc kg (.cells (md6 args[j] A7 c7 (tsize args[j]) (tdep args[j])) 74); replace k2 := bk_alloc k2 (.cells (md6 args[j] A7 c7 (tsize args[j]) (tdep args[j])) 74); replace k3 := bk_alloc k3 (.cells (md6 args[j] A7 c7 (tsize args[j]) (tdep args[j])) 74); replace p5 := bk_alloc p5 (.cells (md6 args[j] A7 c7 (tsize args[j]) (tdep args[j])) 74); replace B := bl_alloc B (.cells (md6 args[j] A7 c7 (tsize args[j]) (tdep args[j])) 74); replace hO := hO.below (bl_new w2 (.cells (md6 args[j] A7 c7 (tsize args[j]) (tdep args[j])) 74))
      have hne : ∀ k, k < w.heap.size + 1 → some k ≠ u6.ownBlock := fun k hk he => by have := (hobl k he.symm).1; omega
      have hlen : (args.take j).length < 1000000000 := by simp; omega
      have hB1 : w.heap.size + 1 ≤ (w2.alloc (.cells (md6 args[j] A7 c7 (tsize args[j]) (tdep args[j])) 74)).heap.size := by simp; omega
      clear d0 d1 d2 d3
      go_wp2_with (at_builtin; go_loud (refine wp_snoc (d := mdK) (v := u6) rfl (.tmp 16) (.tmp 19) _ rfl (e := 74) (bytes := 72) (z := .agg #[.int .i64 0, .string ⟨#[]⟩, .int .i64 0, .slice none 0 0, .int .i64 0, .int .i64 0]) (by kernel_rfl) (by kernel_rfl) (by rfl) (by decide) rfl hO hlen hB1 rfl hb1 hk1 ?_; intro ga cap w5 hO5 hgrow hcap hlt5 hBg))
      go_roundw
      case rel =>
        have e : args.take (j + 1) = args.take j ++ [args[j]] := List.take_succ_eq_append_getElem hlm
        refine ⟨j + 1, by omega, by go_num, bk_grown kg hgrow (hne _ (by omega)), bk_grown k2 hgrow (hne _ (by omega)), bk_grown k3 hgrow (hne _ (by omega)), bk_grown p5 hgrow (hne _ (by omega)), ?_, Nat.le_trans hB1 hgrow.size, bl_grown B hgrow (fun k hk => by have := (hobl k hk).1; omega)⟩
        rw [e]
        rw [List.length_take] at hO5
        exact hO5
      case measure => simp [intOf]; omega
    · obtain rfl : j = K := by omega
      rw [show args.take j = args by rw [← HK.out, List.take_length]] at hO
      obtain ⟨Ay, cy, rfl, hcy, RX⟩ := hO.read (S' := fun b => (S2 b ∧ b < w.heap.size) ∨ w.heap.size + 1 ≤ b) (fun b hb => .inr hb) (fun b hb => hb)
      obtain ⟨w9, rfl⟩ : ∃ w9, w9 = wr := ⟨_, rfl⟩
      clear hO hcy
      go_upto_region 7 with (fail)
      go_cut [9] (fun s9 wc => ∃ (p : Nat) (A9 : Option Addr) (c9 : Nat), s9 = ptr p ∧ w.heap.size + 1 ≤ p ∧ T.1 = 0 ∧ wc.heap[p]? = some (.cells (md6 T.2.2 A9 c9 (tsize T.2.2) (tdep T.2.2)) 74 (0, 0)) ∧ T.2.2.args.length ≤ c9 ∧
        Rd tmK wc (fun b => ((S b ∨ S2 b) ∧ b < w.heap.size) ∨ (w.heap.size + 1 ≤ b ∧ b ≠ p)) A9 T.2.2.args ∧ wc.heap[w.heap.size]? = some (.cells #[.int .i64 0, .string ⟨#[]⟩, .int .i64 0, .slice none 0 0, .int .i64 0, .int .i64 0] 74 (0, 0)) ∧
        wc.heap[g]? = some (.cells #[.int .i64 T.2.1] 3 (0, 0)) ∧ w.grownBy wc (some g) ∧ w.heap.size + 1 ≤ wc.heap.size)
      case first =>
        have G : w.grownBy w9 (some g) := gr_below B _
        have GA : w9.grownBy w9.drew (some g) := gr_drew (World.grownBy.refl _ _)
        have HS : ∀ w' : World, w9.grownBy w' (some g) → w'.cell? ⟨g2, 0, none⟩ = some (.int .i64 m.kind) ∧ w'.cell? ⟨g2, 1, none⟩ = some (.string m.name) ∧ w'.cell? ⟨g2, 2, none⟩ = some (.int .i64 m.idx) ∧ w'.cell? ⟨g2, 3, none⟩ = some (.slice A m.args.length c) ∧
            w'.cell? ⟨g3, 0, none⟩ = some (.string s.fam) ∧ w'.cell? ⟨g3, 1, none⟩ = some (.slice As s.args.length cs) := fun w' h =>
          ⟨cl_gr (bx4 k2).1 h n2, cl_gr (bx4 k2).2.1 h n2, cl_gr (bx4 k2).2.2.1 h n2, cl_gr (bx4 k2).2.2.2 h n2, cl_gr (bx2 k3).1 h n3, cl_gr (bx2 k3).2 h n3⟩
        replace HS := Lib.hid HS
        refine wp_region_treeP (fun w' => w'.cell? ⟨g2, 0, none⟩ = some (.int .i64 m.kind) ∧ w'.cell? ⟨g2, 1, none⟩ = some (.string m.name) ∧ w'.cell? ⟨g2, 2, none⟩ = some (.int .i64 m.idx) ∧ w'.cell? ⟨g2, 3, none⟩ = some (.slice A m.args.length c) ∧
            w'.cell? ⟨g3, 0, none⟩ = some (.string s.fam) ∧ w'.cell? ⟨g3, 1, none⟩ = some (.slice As s.args.length cs))
          (fun c w' => SubP g w (fun b => S b ∨ S2 b) T (.panicked c) w')
          (.soft 0 (.soft 1 (.soft 3 (.soft 4 (.two 2 (.two 5 (.hard 6 (.hard 7 .nil)) 6 (.hard 5 (.hard 7 .nil))) 6 (.hard 2 (.hard 5 (.hard 7 .nil)))))))) (by kernel_rfl) (by kernel_rfl) (fun c a w' h1 h2 => ⟨h1, h2⟩) (HS.out _ GA) ?_
        repeat (refine wpTree_soft (v := ?_) rfl rfl ?_ ?_; rotate_left; (focus (intro w' hS; go_simp; with_reducible rfl)); simp only [Act.put, List.setIfInBounds_toArray, List.set_cons_zero, List.set_cons_succ])
        have R0 := (hr0.below B).drew
        have R1 := (hr10.below B).drew
        replace RX := RX.bound.drew.mono (S' := fun b => ((S2 b ∧ b < w.heap.size) ∨ w.heap.size + 1 ≤ b) ∧ b < w9.heap.size) (fun b hb _ => ⟨hb.1, hb.2.lt⟩)
        replace p5 : w9.drew.heap[w.heap.size]? = _ := p5
        have pg : w9.drew.heap[g]? = _ := kg
        have hz0 : w9.heap.size = w9.drew.heap.size := rfl
        clear kg k2 k3
        generalize w9.drew = W0 at *
        --tree
        refine wpTree_two ?_ ?_
        · skip
          refine stepT_of rfl rfl ?_
          go_wp2_with fail
          refine (measure_calls m A c W0 _ (by omega) hl R0).mono ?_
          rintro e W1 ⟨A6, c6, rfl, hl6, RM, hb⟩
          have hz1 := hb.size
          replace RM := RM.mono (S' := fun b => (S b ∧ b < w.heap.size) ∨ (W0.heap.size ≤ b ∧ b < W1.heap.size)) (fun b hb hl => by rcases hb with hb | hb; exact .inl ⟨hb.1, hb.2.lt⟩; exact .inr ⟨hb, hl.lt⟩)
          replace RX := RX.below hb
          replace R1 := R1.below hb
          replace GA := gr_next GA hb
          replace pg := bk_below pg hb
          replace p5 := bk_below p5 hb
          clear hb
          go_wp2_with fail
          refine treeQ_normal (HS.out _ GA) ?_
          try simp only [Act.put, List.setIfInBounds_toArray, List.set_cons_zero, List.set_cons_succ]
          refine wpTree_two ?_ ?_
          · skip
            refine stepT_of rfl rfl ?_
            go_wp2_with fail
            have HA0 : ApOK f := apply_calls (of_calls f)
            have HA1 := HA0 0 m s args g A6 As Ay c6 cs cy W1 (fun b => (S b ∧ b < w.heap.size) ∨ (W0.heap.size ≤ b ∧ b < W1.heap.size)) (fun b => S1 b ∧ Live w b) (fun b => ((S2 b ∧ b < w.heap.size) ∨ w.heap.size + 1 ≤ b) ∧ b < w9.heap.size) (by omega) (by omega)
            have HA2 := HA1 Hmo.out Hms.out Hargs.out hal hl6 RM hls R1 RX
            have HA := HA2 (fun h => by rcases h with h | h; exact hS h.1; omega) (fun h => hS1 h.1) (fun h => by rcases h.1 with h | h; exact hS2 h.1; omega) pg
            clear HA0 HA1 HA2
            rw [HT.out] at HA
            refine HA.mono ?_
            rintro e W2 ⟨hG6, h⟩
            have hz2 := hG6.size
            replace GA := GA.trans hG6
            replace p5 := bk_grown p5 hG6 (by simp; omega)
            rcases h with ⟨h0, ⟨A7, c7, rfl, hl7, R7⟩, pg2⟩ | ⟨h0, rfl⟩
            · have H0 := Lib.hid h0
              clear h0
              have pg := pg2
              replace R7 := R7.mono (S' := fun b => ((S b ∨ S2 b) ∧ b < w.heap.size) ∨ (w.heap.size + 1 ≤ b ∧ b < w9.heap.size) ∨ (W0.heap.size ≤ b ∧ b < W1.heap.size) ∨ (W1.heap.size ≤ b ∧ b < W2.heap.size)) (fun b hb hl => by
                rcases hb with ⟨(hb | hb) | hb, _⟩ | hb
                · exact .inl ⟨.inl hb.1, hb.2⟩
                · exact .inr (.inr (.inl hb))
                · rcases hb.1 with h | h
                  · exact .inl ⟨.inr h.1, h.2⟩
                  · exact .inr (.inl ⟨h, hb.2⟩)
                · exact .inr (.inr (.inr ⟨hb, hl.lt⟩)))
              go_wp2_with fail
              refine treeQ_normal (HS.out _ GA) ?_
              try simp only [Act.put, List.setIfInBounds_toArray, List.set_cons_zero, List.set_cons_succ]
              refine wpTree_hard ?_
              refine stepT_of rfl rfl ?_
              go_wp2_with fail
              have p9 := bk_new W2 (.cells #[.int .i64 0, .string ⟨#[]⟩, .int .i64 0, .slice none 0 0, .int .i64 0, .int .i64 0] 74)
              replace GA := gr_alloc GA (.cells #[.int .i64 0, .string ⟨#[]⟩, .int .i64 0, .slice none 0 0, .int .i64 0, .int .i64 0] 74)
              replace pg := bk_alloc pg (.cells #[.int .i64 0, .string ⟨#[]⟩, .int .i64 0, .slice none 0 0, .int .i64 0, .int .i64 0] 74)
              replace p5 := bk_alloc p5 (.cells #[.int .i64 0, .string ⟨#[]⟩, .int .i64 0, .slice none 0 0, .int .i64 0, .int .i64 0] 74)
              replace R7 := R7.below (bl_new W2 (.cells #[.int .i64 0, .string ⟨#[]⟩, .int .i64 0, .slice none 0 0, .int .i64 0, .int .i64 0] 74))
              have hz3 : W2.heap.size + 1 = (W2.alloc (.cells #[.int .i64 0, .string ⟨#[]⟩, .int .i64 0, .slice none 0 0, .int .i64 0, .int .i64 0] 74)).heap.size := by simp
              refine treeQ_normal (HS.out _ GA) ?_
              try simp only [Act.put, List.setIfInBounds_toArray, List.set_cons_zero, List.set_cons_succ]
              generalize W2.alloc (.cells #[.int .i64 0, .string ⟨#[]⟩, .int .i64 0, .slice none 0 0, .int .i64 0, .int .i64 0] 74) = W3 at *
              refine wpTree_hard ?_
              refine stepT_of rfl rfl ?_
              obtain ⟨d0, d1, d2, d3, d4, d5⟩ := bx6 p9
              obtain ⟨z0, z1, z2, z3, z4, z5⟩ : _ ∧ _ ∧ _ ∧ _ ∧ _ ∧ _ := ⟨bk_free p9 0, bk_free p9 1, bk_free p9 2, bk_free p9 3, bk_free p9 4, bk_free p9 5⟩
              have hpw : w.heap.size + 1 ≤ W2.heap.size := by omega
              have hpg : g ≠ W2.heap.size := by omega
              go_wp2_with fail
              refine treeQ_normal (HS.out _ (gr_set6 GA (by omega))) ?_
              refine wpTree_done (PanTo.normal ?_)
              go_wp2_with fail
              go_meet
              refine ⟨W2.heap.size, A7, c7, rfl, hpw, H0.out, set6_self p9, hl7, ?_, (set6_far (by omega)).trans p5, (set6_far hpg).trans pg, gr_set6 (G.trans GA) (by omega), by rw [set6_size]; omega⟩
              have hd : ∀ b, (((S b ∨ S2 b) ∧ b < w.heap.size) ∨ (w.heap.size + 1 ≤ b ∧ b < w9.heap.size) ∨ (W0.heap.size ≤ b ∧ b < W1.heap.size) ∨ (W1.heap.size ≤ b ∧ b < W2.heap.size)) → b ≠ W2.heap.size := fun b hb => by omega
              exact (rd_set6 R7 hd).mono (fun b hb _ => by
                have := hd b hb
                rcases hb with hb | hb
                · exact .inl hb
                · exact .inr ⟨by omega, this⟩)
            · refine ⟨rfl, G.trans GA, .inr ⟨h0, rfl⟩⟩
          · skip
            refine stepT_of rfl rfl ?_
            go_wp2_with fail
            have p9 := bk_new W1 (.cells #[.int .i64 0, .string ⟨#[]⟩, .int .i64 0, .slice none 0 0, .int .i64 0, .int .i64 0] 74)
            replace GA := gr_alloc GA (.cells #[.int .i64 0, .string ⟨#[]⟩, .int .i64 0, .slice none 0 0, .int .i64 0, .int .i64 0] 74)
            replace pg := bk_alloc pg (.cells #[.int .i64 0, .string ⟨#[]⟩, .int .i64 0, .slice none 0 0, .int .i64 0, .int .i64 0] 74)
            replace p5 := bk_alloc p5 (.cells #[.int .i64 0, .string ⟨#[]⟩, .int .i64 0, .slice none 0 0, .int .i64 0, .int .i64 0] 74)
            replace RX := RX.below (bl_new W1 (.cells #[.int .i64 0, .string ⟨#[]⟩, .int .i64 0, .slice none 0 0, .int .i64 0, .int .i64 0] 74))
            replace R1 := R1.below (bl_new W1 (.cells #[.int .i64 0, .string ⟨#[]⟩, .int .i64 0, .slice none 0 0, .int .i64 0, .int .i64 0] 74))
            replace RM := RM.below (bl_new W1 (.cells #[.int .i64 0, .string ⟨#[]⟩, .int .i64 0, .slice none 0 0, .int .i64 0, .int .i64 0] 74))
            have hz2 : W1.heap.size + 1 = (W1.alloc (.cells #[.int .i64 0, .string ⟨#[]⟩, .int .i64 0, .slice none 0 0, .int .i64 0, .int .i64 0] 74)).heap.size := by simp
            refine treeQ_normal (HS.out _ GA) ?_
            try simp only [Act.put, List.setIfInBounds_toArray, List.set_cons_zero, List.set_cons_succ]
            generalize W1.alloc (.cells #[.int .i64 0, .string ⟨#[]⟩, .int .i64 0, .slice none 0 0, .int .i64 0, .int .i64 0] 74) = W2 at *
            refine wpTree_hard ?_
            refine stepT_of rfl rfl ?_
            go_wp2_with fail
            have HA0 : ApOK f := apply_calls (of_calls f)
            have HA1 := HA0 0 m s args g A6 As Ay c6 cs cy W2 (fun b => (S b ∧ b < w.heap.size) ∨ (W0.heap.size ≤ b ∧ b < W1.heap.size)) (fun b => S1 b ∧ Live w b) (fun b => ((S2 b ∧ b < w.heap.size) ∨ w.heap.size + 1 ≤ b) ∧ b < w9.heap.size) (by omega) (by omega)
            have HA2 := HA1 Hmo.out Hms.out Hargs.out hal hl6 RM hls R1 RX
            have HA := HA2 (fun h => by rcases h with h | h; exact hS h.1; omega) (fun h => hS1 h.1) (fun h => by rcases h.1 with h | h; exact hS2 h.1; omega) pg
            clear HA0 HA1 HA2
            rw [HT.out] at HA
            refine HA.mono ?_
            rintro e W3 ⟨hG6, h⟩
            have hz3 := hG6.size
            replace GA := GA.trans hG6
            replace p5 := bk_grown p5 hG6 (by simp; omega)
            replace p9 := bk_grown p9 hG6 (by simp; omega)
            rcases h with ⟨h0, ⟨A7, c7, rfl, hl7, R7⟩, pg2⟩ | ⟨h0, rfl⟩
            · have H0 := Lib.hid h0
              clear h0
              have pg := pg2
              replace R7 := R7.mono (S' := fun b => ((S b ∨ S2 b) ∧ b < w.heap.size) ∨ (w.heap.size + 1 ≤ b ∧ b < w9.heap.size) ∨ (W0.heap.size ≤ b ∧ b < W1.heap.size) ∨ (W2.heap.size ≤ b ∧ b < W3.heap.size)) (fun b hb hl => by
                rcases hb with ⟨(hb | hb) | hb, _⟩ | hb
                · exact .inl ⟨.inl hb.1, hb.2⟩
                · exact .inr (.inr (.inl hb))
                · rcases hb.1 with h | h
                  · exact .inl ⟨.inr h.1, h.2⟩
                  · exact .inr (.inl ⟨h, hb.2⟩)
                · exact .inr (.inr (.inr ⟨hb, hl.lt⟩)))
              go_wp2_with fail
              refine treeQ_normal (HS.out _ GA) ?_
              try simp only [Act.put, List.setIfInBounds_toArray, List.set_cons_zero, List.set_cons_succ]
              refine wpTree_hard ?_
              refine stepT_of rfl rfl ?_
              obtain ⟨d0, d1, d2, d3, d4, d5⟩ := bx6 p9
              obtain ⟨z0, z1, z2, z3, z4, z5⟩ : _ ∧ _ ∧ _ ∧ _ ∧ _ ∧ _ := ⟨bk_free p9 0, bk_free p9 1, bk_free p9 2, bk_free p9 3, bk_free p9 4, bk_free p9 5⟩
              have hpw : w.heap.size + 1 ≤ W1.heap.size := by omega
              have hpg : g ≠ W1.heap.size := by omega
              go_wp2_with fail
              refine treeQ_normal (HS.out _ (gr_set6 GA (by omega))) ?_
              refine wpTree_done (PanTo.normal ?_)
              go_wp2_with fail
              go_meet
              refine ⟨W1.heap.size, A7, c7, rfl, hpw, H0.out, set6_self p9, hl7, ?_, (set6_far (by omega)).trans p5, (set6_far hpg).trans pg, gr_set6 (G.trans GA) (by omega), by rw [set6_size]; omega⟩
              have hd : ∀ b, (((S b ∨ S2 b) ∧ b < w.heap.size) ∨ (w.heap.size + 1 ≤ b ∧ b < w9.heap.size) ∨ (W0.heap.size ≤ b ∧ b < W1.heap.size) ∨ (W2.heap.size ≤ b ∧ b < W3.heap.size)) → b ≠ W1.heap.size := fun b hb => by omega
              exact (rd_set6 R7 hd).mono (fun b hb _ => by
                have := hd b hb
                rcases hb with hb | hb
                · exact .inl hb
                · exact .inr ⟨by omega, this⟩)
            · refine ⟨rfl, G.trans GA, .inr ⟨h0, rfl⟩⟩
        · skip
          refine stepT_of rfl rfl ?_
          go_wp2_with fail
          have p9 := bk_new W0 (.cells #[.int .i64 0, .string ⟨#[]⟩, .int .i64 0, .slice none 0 0, .int .i64 0, .int .i64 0] 74)
          replace GA := gr_alloc GA (.cells #[.int .i64 0, .string ⟨#[]⟩, .int .i64 0, .slice none 0 0, .int .i64 0, .int .i64 0] 74)
          replace pg := bk_alloc pg (.cells #[.int .i64 0, .string ⟨#[]⟩, .int .i64 0, .slice none 0 0, .int .i64 0, .int .i64 0] 74)
          replace p5 := bk_alloc p5 (.cells #[.int .i64 0, .string ⟨#[]⟩, .int .i64 0, .slice none 0 0, .int .i64 0, .int .i64 0] 74)
          replace RX := RX.below (bl_new W0 (.cells #[.int .i64 0, .string ⟨#[]⟩, .int .i64 0, .slice none 0 0, .int .i64 0, .int .i64 0] 74))
          replace R0 := R0.below (bl_new W0 (.cells #[.int .i64 0, .string ⟨#[]⟩, .int .i64 0, .slice none 0 0, .int .i64 0, .int .i64 0] 74))
          replace R1 := R1.below (bl_new W0 (.cells #[.int .i64 0, .string ⟨#[]⟩, .int .i64 0, .slice none 0 0, .int .i64 0, .int .i64 0] 74))
          have hz1 : W0.heap.size + 1 = (W0.alloc (.cells #[.int .i64 0, .string ⟨#[]⟩, .int .i64 0, .slice none 0 0, .int .i64 0, .int .i64 0] 74)).heap.size := by simp
          refine treeQ_normal (HS.out _ GA) ?_
          try simp only [Act.put, List.setIfInBounds_toArray, List.set_cons_zero, List.set_cons_succ]
          generalize W0.alloc (.cells #[.int .i64 0, .string ⟨#[]⟩, .int .i64 0, .slice none 0 0, .int .i64 0, .int .i64 0] 74) = W1 at *
          refine wpTree_hard ?_
          refine stepT_of rfl rfl ?_
          go_wp2_with fail
          refine (measure_calls m A c W1 _ (by omega) hl R0).mono ?_
          rintro e W2 ⟨A6, c6, rfl, hl6, RM, hb⟩
          have hz2 := hb.size
          replace RM := RM.mono (S' := fun b => (S b ∧ b < w.heap.size) ∨ (W1.heap.size ≤ b ∧ b < W2.heap.size)) (fun b hb hl => by rcases hb with hb | hb; exact .inl ⟨hb.1, hb.2.lt⟩; exact .inr ⟨hb, hl.lt⟩)
          replace RX := RX.below hb
          replace R1 := R1.below hb
          replace GA := gr_next GA hb
          replace pg := bk_below pg hb
          replace p5 := bk_below p5 hb
          replace p9 := bk_below p9 hb
          clear hb
          go_wp2_with fail
          refine treeQ_normal (HS.out _ GA) ?_
          try simp only [Act.put, List.setIfInBounds_toArray, List.set_cons_zero, List.set_cons_succ]
          refine wpTree_hard ?_
          refine stepT_of rfl rfl ?_
          go_wp2_with fail
          have HA0 : ApOK f := apply_calls (of_calls f)
          have HA1 := HA0 0 m s args g A6 As Ay c6 cs cy W2 (fun b => (S b ∧ b < w.heap.size) ∨ (W1.heap.size ≤ b ∧ b < W2.heap.size)) (fun b => S1 b ∧ Live w b) (fun b => ((S2 b ∧ b < w.heap.size) ∨ w.heap.size + 1 ≤ b) ∧ b < w9.heap.size) (by omega) (by omega)
          have HA2 := HA1 Hmo.out Hms.out Hargs.out hal hl6 RM hls R1 RX
          have HA := HA2 (fun h => by rcases h with h | h; exact hS h.1; omega) (fun h => hS1 h.1) (fun h => by rcases h.1 with h | h; exact hS2 h.1; omega) pg
          clear HA0 HA1 HA2
          rw [HT.out] at HA
          refine HA.mono ?_
          rintro e W3 ⟨hG6, h⟩
          have hz3 := hG6.size
          replace GA := GA.trans hG6
          replace p5 := bk_grown p5 hG6 (by simp; omega)
          replace p9 := bk_grown p9 hG6 (by simp; omega)
          rcases h with ⟨h0, ⟨A7, c7, rfl, hl7, R7⟩, pg2⟩ | ⟨h0, rfl⟩
          · have H0 := Lib.hid h0
            clear h0
            have pg := pg2
            replace R7 := R7.mono (S' := fun b => ((S b ∨ S2 b) ∧ b < w.heap.size) ∨ (w.heap.size + 1 ≤ b ∧ b < w9.heap.size) ∨ (W1.heap.size ≤ b ∧ b < W2.heap.size) ∨ (W2.heap.size ≤ b ∧ b < W3.heap.size)) (fun b hb hl => by
              rcases hb with ⟨(hb | hb) | hb, _⟩ | hb
              · exact .inl ⟨.inl hb.1, hb.2⟩
              · exact .inr (.inr (.inl hb))
              · rcases hb.1 with h | h
                · exact .inl ⟨.inr h.1, h.2⟩
                · exact .inr (.inl ⟨h, hb.2⟩)
              · exact .inr (.inr (.inr ⟨hb, hl.lt⟩)))
            go_wp2_with fail
            refine treeQ_normal (HS.out _ GA) ?_
            try simp only [Act.put, List.setIfInBounds_toArray, List.set_cons_zero, List.set_cons_succ]
            refine wpTree_hard ?_
            refine stepT_of rfl rfl ?_
            obtain ⟨d0, d1, d2, d3, d4, d5⟩ := bx6 p9
            obtain ⟨z0, z1, z2, z3, z4, z5⟩ : _ ∧ _ ∧ _ ∧ _ ∧ _ ∧ _ := ⟨bk_free p9 0, bk_free p9 1, bk_free p9 2, bk_free p9 3, bk_free p9 4, bk_free p9 5⟩
            have hpw : w.heap.size + 1 ≤ W0.heap.size := by omega
            have hpg : g ≠ W0.heap.size := by omega
            go_wp2_with fail
            refine treeQ_normal (HS.out _ (gr_set6 GA (by omega))) ?_
            refine wpTree_done (PanTo.normal ?_)
            go_wp2_with fail
            go_meet
            refine ⟨W0.heap.size, A7, c7, rfl, hpw, H0.out, set6_self p9, hl7, ?_, (set6_far (by omega)).trans p5, (set6_far hpg).trans pg, gr_set6 (G.trans GA) (by omega), by rw [set6_size]; omega⟩
            have hd : ∀ b, (((S b ∨ S2 b) ∧ b < w.heap.size) ∨ (w.heap.size + 1 ≤ b ∧ b < w9.heap.size) ∨ (W1.heap.size ≤ b ∧ b < W2.heap.size) ∨ (W2.heap.size ≤ b ∧ b < W3.heap.size)) → b ≠ W0.heap.size := fun b hb => by omega
            exact (rd_set6 R7 hd).mono (fun b hb _ => by
              have := hd b hb
              rcases hb with hb | hb
              · exact .inl hb
              · exact .inr ⟨by omega, this⟩)
          · refine ⟨rfl, G.trans GA, .inr ⟨h0, rfl⟩⟩
        --eert
      case rest =>
      clear kg k2 k3 p5 B hsz RX
      obtain ⟨p, A9, c9, rfl, hp, h0, p9, hl9, R9, p5, pg, G, hsz⟩ := hcut
      have hok := applyT_ok (f := f) (W := 0) (m := m) (s := s) (args := args) Hmo.out (fun a ha => (Hargs.out a ha).1) (by rw [HT.out]; exact h0)
      rw [HT.out] at hok
      have Hok := Lib.hid hok
      have hz := small_size hok.2
      have H0 := Lib.hid h0
      have HSh : Hid (shiftT 0 0 T.2.2 = T.2.2 ∧ shiftE 0 0 T.2.2 = 0) := Lib.hid (by
        have h1 := sort_wf (.inl hok.1) hok.2
        rw [shiftT, shiftE, if_pos h1, if_pos h1, if_pos (shOk_zero _ _ hok.1), if_pos (shOk_zero _ _ hok.1), mv_zero]
        exact ⟨rfl, rfl⟩)
      clear hok h0
      obtain ⟨d0, d1, d2, d3, d4, d5⟩ := bx6 p9
      go_wp2_with fail
      refine (shift_calls T.2.2 A9 c9 0 0 _ _ (by omega) (obj_ix _ Hok.out.1) (Int.le_refl _) (by omega) (Int.le_refl _) (by omega) hl9 R9).use fun w5 A8 c8 hc8 hR8 hb5 => ?_
      rw [HSh.out.1] at hc8 hR8 ⊢
      rw [HSh.out.2]
      have hs5 := hb5.size
      have hpl := bk_lt p9
      clear d0 d1 d2 d3 d4 d5 R9
      replace p9 := bk_below p9 hb5
      replace p5 := bk_below p5 hb5
      replace pg := bk_below pg hb5
      replace G := gr_next G hb5
      replace hR8 := hR8.mono (S' := fun b => ((S b ∨ S2 b) ∧ b < w.heap.size) ∨ (w.heap.size + 1 ≤ b ∧ b ≠ p)) (fun b hb _ => by
        rcases hb with hb | hb
        · exact hb
        · exact .inr (by omega))
      obtain ⟨d0, d1, d2, d3, d4, d5⟩ := bx6 p9
      have z0 := bk_free p9 0
      have z1 := bk_free p9 1
      have z2 := bk_free p9 2
      have z3 := bk_free p9 3
      go_upto_region 9 with (fail)
      have q9 := set4_self6 (v0 := .int .i64 T.2.2.kind) (v1 := .string T.2.2.name) (v2 := .int .i64 T.2.2.idx) (v3 := .slice A8 T.2.2.args.length c8) p9
      have q5 := (set4_far (v0 := .int .i64 T.2.2.kind) (v1 := .string T.2.2.name) (v2 := .int .i64 T.2.2.idx) (v3 := .slice A8 T.2.2.args.length c8) (by omega : w.heap.size ≠ p)).trans p5
      have qg := (set4_far (v0 := .int .i64 T.2.2.kind) (v1 := .string T.2.2.name) (v2 := .int .i64 T.2.2.idx) (v3 := .slice A8 T.2.2.args.length c8) (by omega : g ≠ p)).trans pg
      have hR8' := hR8.set4 (g := p) (v0 := .int .i64 T.2.2.kind) (v1 := .string T.2.2.name) (v2 := .int .i64 T.2.2.idx) (v3 := .slice A8 T.2.2.args.length c8) (fun b hb => by rcases hb with hb | hb <;> omega)
      have G' := gr_set4 (g := p) (v0 := .int .i64 T.2.2.kind) (v1 := .string T.2.2.name) (v2 := .int .i64 T.2.2.idx) (v3 := .slice A8 T.2.2.args.length c8) G (by omega)
      clear d0 d1 d2 d3 d4 d5 z0 z1 z2 z3 p9 p5 pg hR8 G
      unfold set4 at q9 q5 qg hR8' G'
      generalize (((w5.setCell ⟨p, 0, none⟩ (.int .i64 T.2.2.kind)).setCell ⟨p, 1, none⟩ (.string T.2.2.name)).setCell ⟨p, 2, none⟩ (.int .i64 T.2.2.idx)).setCell ⟨p, 3, none⟩ (.slice A8 T.2.2.args.length c8) = w6 at *
      obtain ⟨d0, d1, d2, d3, d4, d5⟩ := bx6 q9
      obtain ⟨x0, x1, x2, x3, x4, x5⟩ := bx6 q5
      obtain ⟨z0, z1, z2, z3, z4, z5⟩ : _ ∧ _ ∧ _ ∧ _ ∧ _ ∧ _ := ⟨bk_free q5 0, bk_free q5 1, bk_free q5 2, bk_free q5 3, bk_free q5 4, bk_free q5 5⟩
      go_wp2_with fail
      refine bodyPost_ret (res_made rfl rfl (set6_self q5)) rfl ⟨gr_set6 G' (Nat.le_refl _), .inl ⟨H0.out, ⟨A8, c8, rfl, hc8, ?_⟩, (set6_far (by omega)).trans qg⟩⟩
      exact (rd_set6 hR8' (fun b hb => by omega)).mono (fun b hb _ => by rcases hb with hb | hb; exact .inl hb; exact .inr (by omega))
end Go.Proofs.Ytolooomphmcphaa
