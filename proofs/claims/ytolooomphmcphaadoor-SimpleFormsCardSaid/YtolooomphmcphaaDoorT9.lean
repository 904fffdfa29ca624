/- lfcheckmade.Spoil: some term of a bounded size, out of a term. -/
import Derived.Test.YtolooomphmcphaaDoorT6
import Derived.Test.YtolooomphmcphaaDoorK7
import Derived.Test.YtolooomphmcphaaDoorK8
namespace Go.Proofs.YtolooomphmcphaaDoor
open Go.RowKit

mutual
theorem ixT_mono {n m : Int} (h : n ≤ m) : ∀ t : Tm, ixT n t → ixT m t
  | .mk k s i a, ht => by
    rw [ixT] at ht ⊢
    exact ⟨by omega, by omega, ixTs_mono h a ht.2.2⟩
theorem ixTs_mono {n m : Int} (h : n ≤ m) : ∀ a : List Tm, ixTs n a → ixTs m a
  | [], _ => trivial
  | t :: r, ht => by
    rw [ixTs] at ht ⊢
    exact ⟨ixT_mono h t ht.1, ixTs_mono h r ht.2⟩
end
theorem ixTs_set {n : Int} {x : Tm} (hx : ixT n x) : ∀ (a : List Tm) (i : Nat), ixTs n a → ixTs n (a.set i x)
  | [], _, h => h
  | _ :: _, 0, h => by rw [ixTs] at h; exact ⟨hx, h.2⟩
  | _ :: r, i + 1, h => by rw [ixTs] at h; exact ⟨h.1, ixTs_set hx r i h.2⟩
theorem ixTs_take {n : Int} : ∀ (a : List Tm) (i : Nat), ixTs n a → ixTs n (a.take i)
  | [], i, _ => by simp [ixTs]
  | _ :: _, 0, _ => trivial
  | _ :: r, i + 1, h => by rw [ixTs] at h; exact ⟨h.1, ixTs_take r i h.2⟩
theorem tsizes_set (x : Tm) : ∀ (a : List Tm) (i : Nat) (h : i < a.length), tsizes (a.set i x) + tsize a[i] = tsizes a + tsize x
  | t :: r, 0, _ => by simp [tsizes]; omega
  | t :: r, i + 1, h => by
    have := tsizes_set x r i (by simpa using h)
    simp only [List.set_cons_succ, tsizes, List.getElem_cons_succ]
    omega
theorem Cs.take {α : Type} {R : α → List Value → Prop} : ∀ (xs : List α) (cs : List Value) (m : Nat), Cs R xs cs → ∃ c c', cs = c ++ c' ∧ Cs R (xs.take m) c
  | _, cs, 0, _ => ⟨[], cs, rfl, rfl⟩
  | [], cs, m + 1, h => ⟨cs, [], by simp, h⟩
  | x :: r, _, m + 1, ⟨c, c', rfl, h1, h2⟩ => by
    obtain ⟨d, d', rfl, h3⟩ := Cs.take r c' m h2
    exact ⟨c ++ d, d', by simp, c, d, rfl, h1, h3⟩
theorem Rd.take {α : Type} {d : EK α} {w : World} {S : Nat → Prop} {A : Option Addr} {xs : List α} (h : Rd d w S A xs) (m : Nat) : Rd d w S A (xs.take m) := by
  rcases h with rfl | ⟨b, o, cs, e, hb, hc, hm⟩
  · exact .inl (by simp)
  · obtain ⟨c, c', rfl, h3⟩ := Cs.take xs cs m hc
    refine .inr ⟨b, o, c, e, hb, h3, fun i u hu => hm i u ?_⟩
    rw [List.getElem?_append_left (List.getElem?_eq_some_iff.1 hu).1]
    exact hu
theorem Own.other {α : Type} {d : EK α} {e : TypeId} {B G : Nat} {w w' : World} {S : Nat → Prop} {v : Value} {xs : List α} (h : Own d e B w S v xs) (hw : ∀ b, b ≠ G → w'.heap[b]? = w.heap[b]?) (hS : ¬ S G) (hv : v.ownBlock ≠ some G) : Own d e B w' S v xs :=
  h.move (fun b hb _ => hw b (fun he => by subst he; rcases hb with hb | hb; exact hS hb; exact hv hb)) (fun _ h _ => h)
theorem Own.readx {α : Type} {d : EK α} {e : TypeId} {B n c : Nat} {w : World} {S S' : Nat → Prop} {A : Option Addr} {xs : List α} (h : Own d e B w S (.slice A n c) xs) (hB : ∀ b, B ≤ b → Value.ownBlock (.slice A n c) = some b → S' b) (hS : ∀ b, S b → S' b) : xs.length ≤ c ∧ Rd d w S' A xs := by
  obtain ⟨cs, h1, h2⟩ := h
  rcases h1.2 with ⟨h3, h4⟩ | ⟨g, cap, cur, e1, hb, hg, hc, hm, hs, ht⟩
  · rw [List.eq_nil_of_length_eq_zero h4]
    exact ⟨by simp, .inl rfl⟩
  · cases e1
    refine ⟨hc, .inr ⟨g, 0, cs, rfl, hB g hb rfl, h2.imp fun x c hk => d.move (fun _ _ _ => rfl) (fun b hb _ => hS b hb.1) hk, fun i u hu => ?_⟩⟩
    have := h1.cells (g := g) rfl i u hu
    rw [add0] at this
    rw [Nat.zero_add]
    exact this
theorem cut_nat (x : Int) (n : Nat) (hn : 0 < n) : ∃ j : Nat, cutN x n = j ∧ j < n := by
  have h0 := cutN_nonneg x (n := (n : Int)) (by omega)
  have h1 := cutN_lt x (n := (n : Int)) (by omega)
  exact ⟨(cutN x n).toNat, by omega, by omega⟩
/-- some term made out of t -/
def SpP (w : World) (S : Nat → Prop) (N : Nat) (e : Ending) (w' : World) : Prop :=
  ∃ x A c, e = .returned (tmV x A c) ∧ x.args.length ≤ c ∧ Rd tmK w' (fun b => S b ∨ w.heap.size ≤ b) A x.args ∧ tsize x ≤ N + 1 ∧ ixT 2000003 x ∧ Below w.heap.size w w'
set_option maxRecDepth 100000 in
set_option maxHeartbeats 1000000 in
theorem spoil_calls (N : Nat) : ∀ (t : Tm) (n by' : Int) (A : Option Addr) (c : Nat) (w : World) (S : Nat → Prop), tsize t < N → tsize t < 100000000 → ixT 2000000 t → t.args.length ≤ c → Rd tmK w S A t.args →
    Calls Tryd.prog 10 #[tmV t A c, .int .i64 n, .int .i64 by'] w (SpP w S (tsize t)) := by
  induction N with
  | zero => intro t n by' A c w S h; omega
  | succ N ih =>
  intro t n by' A c w S hN h2 hix hc hr
  have hr0 := hr.bound
  have H := Lib.hid ih
  clear hr ih
  have hlen : t.args.length < 1000000000 := by have := tsize_eq t; have := len_le_tsizes t.args; omega
  have q0 := bk_alloc (bk_new w (.cells (tmB t A c) 30)) (.cells #[.int .i64 0, .string ⟨#[]⟩, .int .i64 0, .slice none 0 0] 30)
  have q1 := bk_at (w := w.alloc (.cells (tmB t A c) 30)) (n := w.heap.size + 1) (by simp) (.cells #[.int .i64 0, .string ⟨#[]⟩, .int .i64 0, .slice none 0 0] 30)
  have B := bl_alloc (bl_new w (.cells (tmB t A c) 30)) (.cells #[.int .i64 0, .string ⟨#[]⟩, .int .i64 0, .slice none 0 0] 30)
  have hsz : w.heap.size + 2 ≤ ((w.alloc (.cells (tmB t A c) 30)).alloc (.cells #[.int .i64 0, .string ⟨#[]⟩, .int .i64 0, .slice none 0 0] 30)).heap.size := by simp
  have hR1 := (hr0.below B).mono (S' := fun b => S b ∧ b < w.heap.size) (fun b hb _ => ⟨hb.1, hb.2.lt⟩)
  clear hr0
  go_enter Tryd.func10, Tryd.ntmps10
  go_upto_region 1 with (fail)
  generalize hw2 : ((w.alloc (.cells (tmB t A c) 30)).alloc (.cells #[.int .i64 0, .string ⟨#[]⟩, .int .i64 0, .slice none 0 0] 30)) = w2 at *
  go_cut [7] (fun s7 wc => ∃ (G : Nat) (A' : Option Addr) (c' : Nat), s7 = .pointer (some ⟨G, 0, none⟩) ∧ w.heap.size + 2 ≤ G ∧ G < wc.heap.size ∧ wc.heap[w.heap.size + 1]? = some (.cells #[.int .i64 0, .string ⟨#[]⟩, .int .i64 0, .slice none 0 0] 30 (0, 0)) ∧
    wc.heap[G]? = some (.cells #[.int .i64 t.kind, .string t.name, .int .i64 t.idx, .slice A' t.args.length c'] 30 (0, 0)) ∧ Own tmK 30 (w.heap.size + 2) wc (fun b => S b ∧ b < w.heap.size) (.slice A' t.args.length c') t.args ∧
    Value.ownBlock (.slice A' t.args.length c') ≠ some G ∧ Below w.heap.size w wc)
  case first =>
    refine wp_region_fork (fun w' => w'.cell? ⟨w.heap.size, 0, none⟩ = some (.int .i64 t.kind) ∧ w'.cell? ⟨w.heap.size, 1, none⟩ = some (.string t.name) ∧ w'.cell? ⟨w.heap.size, 2, none⟩ = some (.int .i64 t.idx) ∧ w'.cell? ⟨w.heap.size, 3, none⟩ = some (.slice A t.args.length c))
      [(true, 0), (true, 1), (true, 2), (true, 3), (true, 4), (true, 5), (true, 6), (true, 7)] [(false, 8), (true, 9), (false, 10), (false, 11)] [(false, 10), (false, 8), (true, 9), (false, 11)] (by kernel_rfl) (by kernel_rfl) (bx4 q0) ?_
    repeat (refine wpMix_soft (v := ?_) rfl rfl ?_ ?_; rotate_left; (focus (intro w' hS; go_simp; with_reducible rfl)); simp only [Act.put, List.setIfInBounds_toArray, List.set_cons_zero, List.set_cons_succ])
    refine forkQ_normal ?_ ?_
    · refine wpMix_hard rfl rfl ?_
      refine wp_ext (d := tmK) (v := .slice none 0 0) rfl (.const (.slice none 0 0)) (.tmp 16) _ rfl (e := 30) (bytes := 56) (z := .agg #[.int .i64 0, .string ⟨#[]⟩, .int .i64 0, .slice none 0 0]) (by kernel_rfl) (by kernel_rfl) (by rfl) (by decide) rfl (Own.nil tmK 30 (w.heap.size + 2) _ (fun _ => False)) (by simp) (by omega) (by simp; omega) rfl hR1.drew (fun b hb he => by simp [Value.ownBlock] at he) ?_
      intro v1 w1 hO1 hg1 hat
      replace hg1 : Below w2.heap.size w2 w1 := bl_undrew (bl_grown (Below.refl _ _) hg1 (fun k hk => by simp [Value.ownBlock] at hk))
      replace hO1 : Own tmK 30 (w.heap.size + 2) w1 (fun b => S b ∧ b < w.heap.size) v1 t.args := hO1.mono fun b hb _ => hb.elim (fun h => h.elim) id
      obtain ⟨A1, c1, rfl, hc1, -⟩ := hO1.len
      have hob := hO1.block
      have hs1 := hg1.size
      replace q0 := bk_below q0 hg1
      replace q1 := bk_below q1 hg1
      have B1 := bl_self B hg1
      refine mixQ_normal (bx4 q0) ?_
      simp only [Act.put, List.setIfInBounds_toArray, List.set_cons_zero, List.set_cons_succ]
      repeat (refine wpMix_soft (v := ?_) rfl rfl ?_ ?_; rotate_left; (focus (intro w' hS; go_simp; with_reducible rfl)); simp only [Act.put, List.setIfInBounds_toArray, List.set_cons_zero, List.set_cons_succ])
      refine wpMix_hard rfl rfl ?_
      go_wp2_with fail
      refine mixQ_normal (bx4 (bk_alloc q0 _)) ?_
      refine wpMix_hard rfl rfl ?_
      have q9 := bk_new w1 (.cells #[.int .i64 0, .string ⟨#[]⟩, .int .i64 0, .slice none 0 0] 30)
      obtain ⟨x0, x1, x2, x3⟩ := bx4 q9
      have z0 := bk_free q9 0
      have z1 := bk_free q9 1
      have z2 := bk_free q9 2
      have z3 := bk_free q9 3
      go_wp2_with fail
      refine mixQ_normal (bx4 (bk_alloc q0 _)) ?_
      refine wpMix_done (NoPanic.normal ?_)
      go_wp2_with fail
      go_meet
      exact ⟨w1.heap.size, A1, c1, rfl, by omega, by simp, bk_alloc q1 _, bk_new _ _, hO1.alloc _, fun he => by have := (hob _ he).2; omega, bl_alloc B1 _⟩
    · refine wpMix_hard rfl rfl ?_
      go_wp2_with fail
      refine mixQ_normal (bx4 (bk_alloc q0 _)) ?_
      refine wpMix_hard rfl rfl ?_
      refine wp_ext (d := tmK) (v := .slice none 0 0) rfl (.const (.slice none 0 0)) (.tmp 16) _ rfl (e := 30) (bytes := 56) (z := .agg #[.int .i64 0, .string ⟨#[]⟩, .int .i64 0, .slice none 0 0]) (by kernel_rfl) (by kernel_rfl) (by rfl) (by decide) rfl (Own.nil tmK 30 (w.heap.size + 2) _ (fun _ => False)) (by simp) (by omega) (by simp; omega) rfl (hR1.drew.below (bl_new _ _)) (fun b hb he => by simp [Value.ownBlock] at he) ?_
      intro v1 w1 hO1 hg1 hat
      replace hg1 : Below (w2.alloc (.cells #[.int .i64 0, .string ⟨#[]⟩, .int .i64 0, .slice none 0 0] 30)).heap.size (w2.alloc (.cells #[.int .i64 0, .string ⟨#[]⟩, .int .i64 0, .slice none 0 0] 30)) w1 := bl_undrew (bl_grown (Below.refl _ _) hg1 (fun k hk => by simp [Value.ownBlock] at hk))
      replace hO1 : Own tmK 30 (w.heap.size + 2) w1 (fun b => S b ∧ b < w.heap.size) v1 t.args := hO1.mono fun b hb _ => hb.elim (fun h => h.elim) id
      obtain ⟨A1, c1, rfl, hc1, -⟩ := hO1.len
      have hs1 : w2.heap.size + 1 ≤ w1.heap.size := by simpa using hg1.size
      have hoG : Value.ownBlock (.slice A1 t.args.length c1) ≠ some w2.heap.size := fun he => by
        rcases hat with h | h
        · rw [h] at he; simp [Value.ownBlock] at he
        · rw [h] at he; simp at he
      replace q0 := bk_below (bk_alloc q0 (.cells #[.int .i64 0, .string ⟨#[]⟩, .int .i64 0, .slice none 0 0] 30)) hg1
      replace q1 := bk_below (bk_alloc q1 (.cells #[.int .i64 0, .string ⟨#[]⟩, .int .i64 0, .slice none 0 0] 30)) hg1
      have q9 := bk_below (bk_new w2 (.cells #[.int .i64 0, .string ⟨#[]⟩, .int .i64 0, .slice none 0 0] 30)) hg1
      have B1 := bl_self (bl_alloc B (.cells #[.int .i64 0, .string ⟨#[]⟩, .int .i64 0, .slice none 0 0] 30)) hg1
      refine mixQ_normal (bx4 q0) ?_
      simp only [Act.put, List.setIfInBounds_toArray, List.set_cons_zero, List.set_cons_succ]
      repeat (refine wpMix_soft (v := ?_) rfl rfl ?_ ?_; rotate_left; (focus (intro w' hS; go_simp; with_reducible rfl)); simp only [Act.put, List.setIfInBounds_toArray, List.set_cons_zero, List.set_cons_succ])
      refine wpMix_hard rfl rfl ?_
      obtain ⟨x0, x1, x2, x3⟩ := bx4 q9
      have z0 := bk_free q9 0
      have z1 := bk_free q9 1
      have z2 := bk_free q9 2
      have z3 := bk_free q9 3
      go_wp2_with fail
      refine mixQ_normal (bx4 ((set4_far (by omega)).trans q0)) ?_
      refine wpMix_done (NoPanic.normal ?_)
      go_wp2_with fail
      go_meet
      exact ⟨w2.heap.size, A1, c1, rfl, by omega, by rw [set4_size]; omega, (set4_far (by omega)).trans q1, set4_self q9, hO1.other (fun b hb => set4_far hb) (fun h => by have := h.2; omega) hoG, hoG, bl_set4 B1 (by omega)⟩
  case rest =>
  clear q0 hR1 hsz
  obtain ⟨G, A', c', rfl, hG0, hG1, q1, q7, hO, hoG, B⟩ := hcut
  have hlI : (0 : Int) ≤ t.args.length := by omega
  obtain ⟨U, HU⟩ : ∃ U, Hid ((decide (0 < t.args.length) && decide (0 < cutN n 3)) = U) := ⟨_, Lib.hid rfl⟩
  go_upto_region 2 with (fail)
  go_cut [27] (fun s27 w' => s27 = .bool U ∧ wc = w')
  case first =>
    obtain ⟨c0, c1, c2, c3⟩ := bx4 q7
    cases a1 : decide (0 < t.args.length)
    · go_wp2_with fail
      go_meet
      exact ⟨by rw [← HU.out, a1]; rfl, rfl⟩
    · go_wp2_with fail
      refine (cut_same _ _ _ (by omega) (by omega)).mono ?_
      rintro e w' ⟨rfl, hw⟩
      replace hw := hw.symm
      subst hw
      replace HU : Hid ((true && decide (0 < cutN n 3)) = U) := Lib.hid (by rw [← HU.out, a1])
      generalize cutN n 3 = k at *
      cases a2 : decide (0 < k)
      all_goals
        go_wp2_with fail
        go_meet
        exact ⟨by rw [← HU.out, a2]; rfl, rfl⟩
  case rest =>
  obtain ⟨rfl, rfl⟩ := hcut
  cases hU : U
  · clear hU HU
    replace hG1 := Lib.hid hG1
    obtain ⟨hc1, hRx⟩ := hO.readx (S' := fun b => (S b ∧ b < w.heap.size) ∨ (w.heap.size + 2 ≤ b ∧ b ≠ G)) (fun b hb he => .inr ⟨hb, fun h => hoG (h ▸ he)⟩) (fun b hb => .inl hb)
    go_wp2_with fail
    refine (cut_same _ _ _ (by omega) (by omega)).mono ?_
    rintro e w' ⟨rfl, hw⟩
    replace hw := hw.symm
    subst hw
    obtain ⟨k9, hk9, hk0, hk8⟩ : ∃ k : Int, cutN by' 9 = k ∧ 0 ≤ k ∧ k < 9 := ⟨_, rfl, cutN_nonneg _ (by omega), cutN_lt _ (by omega)⟩
    rw [hk9]
    clear hk9
    obtain ⟨hix0, hix1, hix2⟩ := (ixT_eq _ _).1 hix
    have hts := Lib.hid (tsize_eq t)
    go_upto_block 0 with (fail)
    go_cut [] (fun w' => ∃ (x : Tm) (A2 : Option Addr) (c2 : Nat), w'.heap[w.heap.size + 1]? = some (.cells #[.int .i64 0, .string ⟨#[]⟩, .int .i64 0, .slice none 0 0] 30 (0, 0)) ∧ w'.heap[G]? = some (.cells #[.int .i64 x.kind, .string x.name, .int .i64 x.idx, .slice A2 x.args.length c2] 30 (0, 0)) ∧
      x.args.length ≤ c2 ∧ Rd tmK w' (fun b => (S b ∧ b < w.heap.size) ∨ (w.heap.size + 2 ≤ b)) A2 x.args ∧ tsize x ≤ tsize t + 1 ∧ ixT 2000003 x ∧ Below w.heap.size w w')
    case first =>
      have hRm : ∀ (W : World) (A3 : Option Addr) (xs : List Tm), Rd tmK W (fun b => (S b ∧ b < w.heap.size) ∨ (w.heap.size + 2 ≤ b ∧ b ≠ G)) A3 xs → Rd tmK W (fun b => (S b ∧ b < w.heap.size) ∨ (w.heap.size + 2 ≤ b)) A3 xs := fun W A3 xs h => h.mono fun b hb _ => hb.imp id fun h => h.1
      replace hRm := Lib.hid hRm
      have hGn : ∀ b, ((S b ∧ b < w.heap.size) ∨ (w.heap.size + 2 ≤ b ∧ b ≠ G)) → b ≠ G := fun b hb => hb.elim (fun h => by omega) (fun h => h.2)
      have hxs2 := ixTs_mono (n := 2000000) (m := 2000003) (by omega) t.args hix2
      replace hGn := Lib.hid hGn
      replace hxs2 := Lib.hid hxs2
      have HQ : Hid (∀ W : World, Below wc.heap.size wc W → W.heap[w.heap.size + 1]? = some (.cells #[.int .i64 0, .string ⟨#[]⟩, .int .i64 0, .slice none 0 0] 30 (0, 0)) ∧ W.heap[G]? = some (.cells #[.int .i64 t.kind, .string t.name, .int .i64 t.idx, .slice A' t.args.length c'] 30 (0, 0)) ∧ Rd tmK W (fun b => (S b ∧ b < w.heap.size) ∨ (w.heap.size + 2 ≤ b ∧ b ≠ G)) A' t.args ∧ Below w.heap.size w W) := Lib.hid fun W h => ⟨bk_below q1 h, bk_below q7 h, hRx.below h, bl_self B h⟩
      clear hix hix2
      obtain rfl | rfl | rfl | rfl | rfl | rfl | rfl | rfl | rfl : k9 = 0 ∨ k9 = 1 ∨ k9 = 2 ∨ k9 = 3 ∨ k9 = 4 ∨ k9 = 5 ∨ k9 = 6 ∨ k9 = 7 ∨ k9 = 8 := by omega
      · go_wp2_with fail
        refine (cut_same _ _ _ (by omega) (by omega)).mono ?_
        rintro e w' ⟨rfl, hw⟩
        replace hw := hw.symm
        subst hw
        generalize cutN _ 8 = kk
        obtain ⟨c0, c1, c2, c3⟩ := bx4 q7
        have z0 := bk_free q7 0
        go_wp2_with fail
        go_meet
        exact ⟨.mk kk t.name t.idx t.args, A', c', bk_far q1 (by show w.heap.size + 1 ≠ G; omega) _, bk_set q7 0 _, hc1, hRm.out _ _ _ (hRx.setc hGn.out _), by have := hts.out; simp only [tsize]; omega, ⟨by omega, by omega, hxs2.out⟩, bl_set B (by show w.heap.size ≤ G; omega) _⟩
      · have q5 := bk_new wc (.cells #[.int .i64 (-1), .int .i64 1, .int .i64 1048576, .int .i64 1048577, .int .i64 2048, .int .i64 0] 3)
        obtain ⟨p1, p7, pR, pB⟩ := HQ.out _ (bl_new wc (.cells #[.int .i64 (-1), .int .i64 1, .int .i64 1048576, .int .i64 1048577, .int .i64 2048, .int .i64 0] 3))
        go_wp2_with fail
        refine (cut_same _ _ _ (by omega) (by omega)).mono ?_
        rintro e w' ⟨rfl, hw⟩
        replace hw := hw.symm
        subst hw
        obtain ⟨j, hj, hjn⟩ := cut_nat (wrap64 (by'.tdiv 9)) 6 (by omega)
        rw [show ((6 : Nat) : Int) = 6 from rfl] at hj
        rw [hj]
        clear hj
        have hv : ∃ v : Int, #[Value.int .i64 (-1), .int .i64 1, .int .i64 1048576, .int .i64 1048577, .int .i64 2048, .int .i64 0][j]? = some (.int .i64 v) ∧ -2000003 ≤ v ∧ v ≤ 2000003 := by
          rcases j with _ | _ | _ | _ | _ | _ | j
          · exact ⟨_, rfl, by omega, by omega⟩
          · exact ⟨_, rfl, by omega, by omega⟩
          · exact ⟨_, rfl, by omega, by omega⟩
          · exact ⟨_, rfl, by omega, by omega⟩
          · exact ⟨_, rfl, by omega, by omega⟩
          · exact ⟨_, rfl, by omega, by omega⟩
          · omega
        obtain ⟨v, hv, hv0, hv1⟩ := hv
        have cj := bk_cell q5 j hv
        clear hv q5
        obtain ⟨c0, c1, c2, c3⟩ := bx4 p7
        have z2 := bk_free p7 2
        go_wp2_with fail
        go_meet
        exact ⟨.mk t.kind t.name v t.args, A', c', bk_far p1 (by show w.heap.size + 1 ≠ G; omega) _, bk_set p7 2 _, hc1, hRm.out _ _ _ (pR.setc hGn.out _), by have := hts.out; simp only [tsize]; omega, ⟨by omega, by omega, hxs2.out⟩, bl_set pB (by show w.heap.size ≤ G; omega) _⟩
      · have q5 := bk_new wc (.cells #[.string ⟨#[]⟩, .string ⟨#[95]⟩, .string ⟨#[122]⟩, .string ⟨#[116, 121, 112, 101]⟩, .string ⟨#[64, 99]⟩, .string ⟨#[97, 32, 98]⟩, .string ⟨#[45, 62]⟩] 9)
        obtain ⟨p1, p7, pR, pB⟩ := HQ.out _ (bl_new wc (.cells #[.string ⟨#[]⟩, .string ⟨#[95]⟩, .string ⟨#[122]⟩, .string ⟨#[116, 121, 112, 101]⟩, .string ⟨#[64, 99]⟩, .string ⟨#[97, 32, 98]⟩, .string ⟨#[45, 62]⟩] 9))
        go_wp2_with fail
        refine (cut_same _ _ _ (by omega) (by omega)).mono ?_
        rintro e w' ⟨rfl, hw⟩
        replace hw := hw.symm
        subst hw
        obtain ⟨j, hj, hjn⟩ := cut_nat (wrap64 (by'.tdiv 9)) 7 (by omega)
        rw [show ((7 : Nat) : Int) = 7 from rfl] at hj
        rw [hj]
        clear hj
        have hv : ∃ v : ByteArray, #[Value.string ⟨#[]⟩, .string ⟨#[95]⟩, .string ⟨#[122]⟩, .string ⟨#[116, 121, 112, 101]⟩, .string ⟨#[64, 99]⟩, .string ⟨#[97, 32, 98]⟩, .string ⟨#[45, 62]⟩][j]? = some (.string v) := by
          rcases j with _ | _ | _ | _ | _ | _ | _ | j
          · exact ⟨_, rfl⟩
          · exact ⟨_, rfl⟩
          · exact ⟨_, rfl⟩
          · exact ⟨_, rfl⟩
          · exact ⟨_, rfl⟩
          · exact ⟨_, rfl⟩
          · exact ⟨_, rfl⟩
          · omega
        obtain ⟨v, hv⟩ := hv
        have cj := bk_cell q5 j hv
        clear hv q5
        obtain ⟨c0, c1, c2, c3⟩ := bx4 p7
        have z1 := bk_free p7 1
        go_wp2_with fail
        go_meet
        exact ⟨.mk t.kind v t.idx t.args, A', c', bk_far p1 (by show w.heap.size + 1 ≠ G; omega) _, bk_set p7 1 _, hc1, hRm.out _ _ _ (pR.setc hGn.out _), by have := hts.out; simp only [tsize]; omega, ⟨by omega, by omega, hxs2.out⟩, bl_set pB (by show w.heap.size ≤ G; omega) _⟩
      · have q5 := bk_new wc (.cells #[.int .i64 4, .string ⟨#[122]⟩, .int .i64 0, .slice none 0 0] 30)
        obtain ⟨p1, p7, pR, pB⟩ := HQ.out _ (bl_new wc (.cells #[.int .i64 4, .string ⟨#[122]⟩, .int .i64 0, .slice none 0 0] 30))
        have hRz : Rd tmK (wc.alloc (.cells #[.int .i64 4, .string ⟨#[122]⟩, .int .i64 0, .slice none 0 0] 30)) (fun b => b = wc.heap.size) (some ⟨wc.heap.size, 0, none⟩) [.mk 4 ⟨#[122]⟩ 0 []] := Rd.one (e := 30) (S := fun _ => False) (S' := fun b => b = wc.heap.size) (tmK_of (.mk 4 ⟨#[122]⟩ 0 []) (c := 0) (Nat.le_refl _) (Rd.nil _ _ _ none)) (fun b h => h.elim) rfl
        have hO3 := hO.alloc (.cells #[.int .i64 4, .string ⟨#[122]⟩, .int .i64 0, .slice none 0 0] 30)
        have hSz : ∀ b, b = wc.heap.size → Value.ownBlock (.slice A' t.args.length c') ≠ some b := fun b hb he => by have := (hO.block b he).2; omega
        have hB3 : w.heap.size + 2 ≤ (wc.alloc (.cells #[.int .i64 4, .string ⟨#[122]⟩, .int .i64 0, .slice none 0 0] 30)).heap.size := by have := hG1.out; simp; omega
        obtain ⟨c0, c1, c2, c3⟩ := bx4 q7
        clear q5
        go_wp2_with (at_builtin; refine wp_ext (d := tmK) (v := .slice A' t.args.length c') rfl (.tmp 77) (.tmp 79) _ rfl (e := 30) (bytes := 56) (z := .agg #[.int .i64 0, .string ⟨#[]⟩, .int .i64 0, .slice none 0 0]) (by kernel_rfl) (by kernel_rfl) (by rfl) (by decide) rfl hO3 hlen (by simp) hB3 rfl hRz hSz ?_; intro v5 w5 hO5 hg5 hat; have r7 := bk_grown p7 hg5 (fun h => hoG h.symm); have r1 := bk_grown p1 hg5 (fun h => by have := (hO.block _ h.symm).1; omega); obtain ⟨A5, c5, rfl, hc5, -⟩ := hO5.len; obtain ⟨d0, d1, d2, d3⟩ := bx4 r7; have z3 := bk_free r7 3)
        have hn5 : Value.ownBlock (.slice A5 (t.args ++ [Tm.mk 4 ⟨#[122]⟩ 0 []]).length c5) ≠ some G := fun he => by
          rcases hat with h | h
          · exact hoG (h ▸ he)
          · rw [h] at he
            have := hG1.out
            simp at he
            omega
        have B5 : Below w.heap.size w w5 := bl_grown pB hg5 (fun k hk => by have := (hO.block k hk).1; omega)
        obtain ⟨hc6, hR6⟩ := hO5.readx (S' := fun b => (S b ∧ b < w.heap.size) ∨ (w.heap.size + 2 ≤ b ∧ b ≠ G)) (fun b hb he => .inr ⟨hb, fun h => hn5 (h ▸ he)⟩) (fun b hb => by have := hG1.out; rcases hb with hb | hb; exact .inl hb; exact .inr ⟨by omega, by omega⟩)
        go_meet
        have hdl : (t.args ++ [Tm.mk 4 ⟨#[122]⟩ 0 []]).length = t.args.length + 1 := by simp
        refine ⟨.mk t.kind t.name t.idx (t.args ++ [Tm.mk 4 ⟨#[122]⟩ 0 []]), A5, c5, bk_far r1 (by show w.heap.size + 1 ≠ G; omega) _, ?_, hc6, hRm.out _ _ _ (hR6.setc hGn.out _), ?_, ⟨by omega, by omega, ?_⟩, bl_set B5 (by show w.heap.size ≤ G; omega) _⟩
        · show _ = some (Obj.cells #[.int .i64 t.kind, .string t.name, .int .i64 t.idx, .slice A5 (t.args ++ [Tm.mk 4 ⟨#[122]⟩ 0 []]).length c5] 30 (0, 0))
          rw [hdl]
          exact bk_set r7 3 _
        · have := hts.out
          simp only [tsize, tsizes_append, tsizes]
          omega
        · rw [ixTs_iff]
          intro y hy
          rcases List.mem_append.1 hy with hy | hy
          · exact (ixTs_iff _ _).1 hxs2.out y hy
          · rw [List.mem_singleton.1 hy]; exact ⟨by omega, by omega, trivial⟩
      · obtain ⟨c0, c1, c2, c3⟩ := bx4 q7
        have z3 := bk_free q7 3
        cases a1 : decide (0 < t.args.length)
        · go_wp2_with fail
          go_meet
          exact ⟨t, A', c', q1, q7, hc1, hRm.out _ _ _ hRx, by omega, (ixT_eq _ _).2 ⟨by omega, by omega, hxs2.out⟩, B⟩
        · have hl0 : 0 < t.args.length := of_decide_eq_true a1
          obtain ⟨g, A3, c3', rfl, -⟩ := hO.tm hl0
          go_wp2_with fail
          go_meet
          have hdl : (t.args.take (t.args.length - 1)).length = t.args.length - 1 := by simp
          refine ⟨.mk t.kind t.name t.idx (t.args.take (t.args.length - 1)), some ⟨g, 0, none⟩, c', bk_far q1 (by show w.heap.size + 1 ≠ G; omega) _, ?_, ?_, hRm.out _ _ _ ((hRx.take _).setc hGn.out _), ?_, ⟨by omega, by omega, ixTs_take _ _ hxs2.out⟩, bl_set B (by show w.heap.size ≤ G; omega) _⟩
          · show _ = some (Obj.cells #[.int .i64 t.kind, .string t.name, .int .i64 t.idx, .slice (some ⟨g, 0, none⟩) (t.args.take (t.args.length - 1)).length c'] 30 (0, 0))
            rw [hdl]
            exact bk_set q7 3 _
          · show (t.args.take (t.args.length - 1)).length ≤ c'
            omega
          · have := hts.out
            have := tsizes_take_le t.args (t.args.length - 1)
            simp only [tsize]
            omega
      · have q5 := bk_new wc (.cells #[.int .i64 t.kind, .string t.name, .int .i64 t.idx, .slice A' t.args.length c'] 30)
        obtain ⟨p1, p7, pR, pB⟩ := HQ.out _ (bl_new wc (.cells #[.int .i64 t.kind, .string t.name, .int .i64 t.idx, .slice A' t.args.length c'] 30))
        have hR5 : Rd tmK (wc.alloc (.cells #[.int .i64 t.kind, .string t.name, .int .i64 t.idx, .slice A' t.args.length c'] 30)) (fun b => (S b ∧ b < w.heap.size) ∨ (w.heap.size + 2 ≤ b ∧ b ≠ G)) (some ⟨wc.heap.size, 0, none⟩) [t] := Rd.one (e := 30) (tmK_of t hc1 hRx) (fun b h => h) (.inr (by have := hG1.out; omega))
        obtain ⟨c0, c1, c2, c3⟩ := bx4 q7
        have y0 := bk_free q7 0
        have y1 := bk_free q7 1
        have y2 := bk_free q7 2
        have y3 := bk_free q7 3
        have z0 := bk_free p7 0
        have z1 := bk_free p7 1
        have z2 := bk_free p7 2
        have z3 := bk_free p7 3
        obtain ⟨e0, e1, e2, e3⟩ := bx4 p7
        go_wp2_with fail
        go_meet
        exact ⟨.mk 3 ⟨#[]⟩ 0 [t], _, 1, (set4_far (by omega)).trans p1, set4_self p7, Nat.le_refl _, hRm.out _ _ _ (hR5.set4 hGn.out), by simp only [tsize, tsizes]; omega, ⟨by omega, by omega, (ixT_eq _ _).2 ⟨by omega, by omega, hxs2.out⟩, trivial⟩, bl_set4 pB (by omega)⟩
      · obtain ⟨c0, c1, c2, c3⟩ := bx4 q7
        have z0 := bk_free q7 0
        have z1 := bk_free q7 1
        have z2 := bk_free q7 2
        have z3 := bk_free q7 3
        go_wp2_with fail
        go_meet
        exact ⟨.mk 1 ⟨#[]⟩ 0 [], none, 0, (set4_far (by omega)).trans q1, set4_self q7, Nat.le_refl _, Rd.nil _ _ _ _, by simp only [tsize, tsizes]; omega, ⟨by omega, by omega, trivial⟩, bl_set4 B (by omega)⟩
      · have HS : Hid (∀ W : World, W.heap[G]? = some (.cells #[.int .i64 t.kind, .string t.name, .int .i64 t.idx, .slice A' t.args.length c'] 30 (0, 0)) → W.cell? ⟨G, 2, none⟩ = some (.int .i64 t.idx)) := Lib.hid fun W h => (bx4 h).2.2.1
        go_wp2_with fail
        refine wp_region_mixN 8 (fun w' => w'.cell? ⟨G, 2, none⟩ = some (.int .i64 t.idx)) [(true, 0), (true, 1), (true, 2), (true, 3), (false, 4), (true, 5), (true, 6), (true, 7)] (by kernel_rfl) rfl (by kernel_rfl) (HS.out _ q7) ?_
        repeat (refine wpMix_soft (v := ?_) rfl rfl ?_ ?_; rotate_left; (focus (intro w' hS; go_simp; with_reducible rfl)); simp only [Act.put, List.setIfInBounds_toArray, List.set_cons_zero, List.set_cons_succ])
        refine wpMix_hard rfl rfl ?_
        go_wp2_with fail
        refine (cut_same _ _ _ (by omega) (by omega)).mono ?_
        rintro e w4 ⟨rfl, hw⟩
        obtain ⟨p1, p7, pR, pB⟩ := HQ.out w4 (by rw [hw]; exact bl_drew _ _)
        clear hw
        obtain ⟨kk, hkk, hk0, hk3⟩ : ∃ kk : Int, cutN (wrap64 (by'.tdiv 9)) 3 = kk ∧ 0 ≤ kk ∧ kk < 3 := ⟨_, rfl, cutN_nonneg _ (by omega), cutN_lt _ (by omega)⟩
        rw [hkk]
        clear hkk
        have hw1 : IntKind.i64.wrap (1 + kk) = 1 + kk := IntWalk.i64_in _ ⟨by omega, by omega⟩
        have hw2 : IntKind.i64.wrap (t.idx + (1 + kk)) = t.idx + (1 + kk) := IntWalk.i64_in _ ⟨by omega, by omega⟩
        go_wp2_with fail
        refine mixQ_normal (HS.out _ p7) ?_
        repeat (refine wpMix_soft (v := ?_) rfl rfl ?_ ?_; rotate_left; (focus (intro w' hS; go_simp; with_reducible rfl)); simp only [Act.put, List.setIfInBounds_toArray, List.set_cons_zero, List.set_cons_succ])
        refine wpMix_done (cutQ_normal ?_)
        have z2 := bk_free p7 2
        obtain ⟨e0, e1, e2, e3⟩ := bx4 p7
        go_wp2_with fail
        refine NoPanic.normal ?_
        go_wp2_with fail
        go_meet
        exact ⟨.mk t.kind t.name (t.idx + (1 + kk)) t.args, A', c', bk_far p1 (by show w.heap.size + 1 ≠ G; omega) _, bk_set p7 2 _, hc1, hRm.out _ _ _ (pR.setc hGn.out _), by have := hts.out; simp only [tsize]; omega, ⟨by omega, by omega, hxs2.out⟩, bl_set pB (by show w.heap.size ≤ G; omega) _⟩
      · have q5 := bk_new wc (.cells #[.string ⟨#[122]⟩, .string ⟨#[110, 97, 116]⟩, .string ⟨#[110, 111, 98, 111, 100, 121]⟩] 9)
        obtain ⟨p1, p7, pR, pB⟩ := HQ.out _ (bl_new wc (.cells #[.string ⟨#[122]⟩, .string ⟨#[110, 97, 116]⟩, .string ⟨#[110, 111, 98, 111, 100, 121]⟩] 9))
        go_wp2_with fail
        refine (cut_same _ _ _ (by omega) (by omega)).mono ?_
        rintro e w' ⟨rfl, hw⟩
        replace hw := hw.symm
        subst hw
        obtain ⟨j, hj, hjn⟩ := cut_nat (wrap64 (by'.tdiv 9)) 3 (by omega)
        rw [show ((3 : Nat) : Int) = 3 from rfl] at hj
        rw [hj]
        clear hj
        have hv : ∃ v : ByteArray, #[Value.string ⟨#[122]⟩, .string ⟨#[110, 97, 116]⟩, .string ⟨#[110, 111, 98, 111, 100, 121]⟩][j]? = some (.string v) := by
          rcases j with _ | _ | _ | j
          · exact ⟨_, rfl⟩
          · exact ⟨_, rfl⟩
          · exact ⟨_, rfl⟩
          · omega
        obtain ⟨v, hv⟩ := hv
        have cj := bk_cell q5 j hv
        clear hv q5
        obtain ⟨c0, c1, c2, c3⟩ := bx4 p7
        have z0 := bk_free p7 0
        have z1 := bk_free p7 1
        have z2 := bk_free p7 2
        have z3 := bk_free p7 3
        go_wp2_with fail
        go_meet
        exact ⟨.mk 4 v 0 [], none, 0, (set4_far (by omega)).trans p1, set4_self p7, Nat.le_refl _, Rd.nil _ _ _ _, by simp only [tsize, tsizes]; omega, ⟨by omega, by omega, trivial⟩, bl_set4 pB (by omega)⟩
    case rest =>
    obtain ⟨x, A2, c2, r1, r7, hc2, hR2, hxs, hxi, B2⟩ := hcut
    obtain ⟨c0, c1, c2', c3⟩ := bx4 r7
    obtain ⟨x0, x1, x2, x3⟩ := bx4 r1
    have z0 := bk_free r1 0
    have z1 := bk_free r1 1
    have z2 := bk_free r1 2
    have z3 := bk_free r1 3
    clear q1 q7 B
    go_wp2_with fail
    refine bodyPost_ret (res_term rfl rfl (set4_self r1)) rfl ⟨x, A2, c2, rfl, hc2, (hR2.set4 (fun b hb => by rcases hb with hb | hb <;> omega)).mono (fun b hb _ => hb.elim (fun h => .inl h.1) (fun h => .inr (by omega))), hxs, hxi, bl_set4 B2 (by omega)⟩
  · have hU2 : (decide (0 < t.args.length) && decide (0 < cutN n 3)) = true := by rw [HU.out, hU]
    have hl0 : 0 < t.args.length := of_decide_eq_true ((Bool.and_eq_true _ _).mp hU2).1
    clear hU2 hU HU
    obtain ⟨c0, c1', c2, c3⟩ := bx4 q7
    go_wp2_with fail
    refine (cut_same _ _ _ (by omega) (by omega)).mono ?_
    rintro e w' ⟨rfl, hw⟩
    replace hw := hw.symm
    subst hw
    obtain ⟨i, hi, hil⟩ := cut_nat (wrap64 (n.tdiv 3)) t.args.length hl0
    rw [hi]
    clear hi c0 c1' c2
    obtain ⟨g, A1, c1, rfl, -, hnc, hBg, hgs, hfz, e0, e1, e2, e3, hl', hr'⟩ := hO.tm hil
    have hilI : (i : Int) < t.args.length := by omega
    have hGg : G ≠ g := fun h => hoG (by rw [h]; rfl)
    obtain ⟨hix0, hix1, hix2⟩ := (ixT_eq _ _).1 hix
    have hts := Lib.hid (tsize_eq t)
    have htm := tsizes_mem t.args i hil
    have HC : Hid (∀ w' : World, Below wc.heap.size wc w' → w'.cell? ⟨G, 3, none⟩ = some (.slice (some ⟨g, 0, none⟩) t.args.length c') ∧ w'.cell? ⟨g, i * 4, none⟩ = some (.int .i64 t.args[i].kind) ∧ w'.cell? ⟨g, i * 4 + 1, none⟩ = some (.string t.args[i].name) ∧ w'.cell? ⟨g, i * 4 + 2, none⟩ = some (.int .i64 t.args[i].idx) ∧ w'.cell? ⟨g, i * 4 + 3, none⟩ = some (.slice A1 t.args[i].args.length c1)) := Lib.hid fun W h => ⟨cl_below c3 h, cl_below e0 h, cl_below e1 h, cl_below e2 h, cl_below e3 h⟩
    clear e0 e1 e2 e3 c3 hfz
    go_wp2_with fail
    refine wp_region_mixN 13 (fun w' => w'.cell? ⟨G, 3, none⟩ = some (.slice (some ⟨g, 0, none⟩) t.args.length c') ∧ w'.cell? ⟨g, i * 4, none⟩ = some (.int .i64 t.args[i].kind) ∧ w'.cell? ⟨g, i * 4 + 1, none⟩ = some (.string t.args[i].name) ∧ w'.cell? ⟨g, i * 4 + 2, none⟩ = some (.int .i64 t.args[i].idx) ∧ w'.cell? ⟨g, i * 4 + 3, none⟩ = some (.slice A1 t.args[i].args.length c1)) [(true, 0), (true, 1), (true, 2), (true, 3), (true, 4), (true, 5), (true, 6), (true, 7), (true, 8), (true, 9), (true, 10), (false, 11), (true, 12)] (by kernel_rfl) rfl (by kernel_rfl) (HC.out _ (bl_drew _ _)) ?_
    repeat (refine wpMix_soft (v := ?_) rfl rfl ?_ ?_; rotate_left; (focus (intro w' hS; go_simp; with_reducible rfl)); simp only [Act.put, List.setIfInBounds_toArray, List.set_cons_zero, List.set_cons_succ])
    refine wpMix_hard rfl rfl ?_
    go_wp2_with fail
    refine (H.out t.args[i] _ _ A1 c1 _ _ (by have := hts.out; omega) (by have := hts.out; omega) (ixTs_get hix2 i hil) hl' (hr'.below (bl_drew _ _))).mono ?_
    rintro e w5 ⟨x, A5, c5, rfl, hc5, hR5, hxs, hxi, hB5⟩
    replace hB5 : Below wc.heap.size wc w5 := bl_undrew hB5
    replace hR5 : Rd tmK w5 (fun b => (((S b ∧ b < w.heap.size) ∧ Live wc b ∧ g ≠ b) ∨ wc.heap.size ≤ b)) A5 x.args := hR5
    go_wp2_with fail
    refine mixQ_normal (HC.out _ hB5) ?_
    repeat (refine wpMix_soft (v := ?_) rfl rfl ?_ ?_; rotate_left; (focus (intro w' hS; go_simp; with_reducible rfl)); simp only [Act.put, List.setIfInBounds_toArray, List.set_cons_zero, List.set_cons_succ])
    refine wpMix_done (cutQ_normal ?_)
    have hO5 := hO.below hB5
    obtain ⟨g5, A6, c6, eg, -, -, -, hgs5, hfz5, f0, f1, f2, f3, -, -⟩ := hO5.tm hil
    obtain rfl : g = g5 := by simpa using eg
    have y0 := hfz5 (i * 4)
    have y1 := hfz5 (i * 4 + 1)
    have y2 := hfz5 (i * 4 + 2)
    have y3 := hfz5 (i * 4 + 3)
    have p1 := bk_below q1 hB5
    have p7 := bk_below q7 hB5
    have pB := bl_self B hB5
    go_wp2_with fail
    refine NoPanic.normal ?_
    clear y0 y1 y2 y3 f0 f1 f2 f3 hfz5
    have hs5 := hB5.size
    have P1 := (put4_far (g := g) (p := i * 4) (v0 := .int .i64 x.kind) (v1 := .string x.name) (v2 := .int .i64 x.idx) (v3 := .slice A5 x.args.length c5) (by omega)).trans p1
    have P7 := (put4_far (g := g) (p := i * 4) (v0 := .int .i64 x.kind) (v1 := .string x.name) (v2 := .int .i64 x.idx) (v3 := .slice A5 x.args.length c5) hGg).trans p7
    have PB : Below w.heap.size w (put4 w5 g (i * 4) (.int .i64 x.kind) (.string x.name) (.int .i64 x.idx) (.slice A5 x.args.length c5)) := bl_set (bl_set (bl_set (bl_set pB (by show w.heap.size ≤ g; omega) _) (by show w.heap.size ≤ g; omega) _) (by show w.heap.size ≤ g; omega) _) (by show w.heap.size ≤ g; omega) _
    have PO := Own.put (x := x) (v0 := .int .i64 x.kind) (v1 := .string x.name) (v2 := .int .i64 x.idx) (v3 := .slice A5 x.args.length c5) (hO5.mono (S' := fun b => (S b ∧ b < w.heap.size) ∨ wc.heap.size ≤ b) (fun b hb _ => .inl hb)) hil (EK.mono (tmK_of x hc5 hR5) (fun b hb hl => ⟨hb.imp (fun h => h.1) id, hl, by rcases hb with hb | hb; exact hb.2.2; omega⟩))
    obtain ⟨hc8, hR8⟩ := PO.readx (S' := fun b => (S b ∧ b < w.heap.size) ∨ w.heap.size + 2 ≤ b) (fun b hb he => .inr hb) (fun b hb => by rcases hb with hb | hb; exact .inl hb; exact .inr (by omega))
    obtain ⟨d0, d1, d2, d3⟩ := bx4 P7
    obtain ⟨x0, x1, x2, x3⟩ := bx4 P1
    have z0 := bk_free P1 0
    have z1 := bk_free P1 1
    have z2 := bk_free P1 2
    have z3 := bk_free P1 3
    go_wp2_with fail
    refine bodyPost_ret (res_term rfl rfl (set4_self P1)) rfl ⟨.mk t.kind t.name t.idx (t.args.set i x), some ⟨g, 0, none⟩, c', by show _ = Ending.returned (.agg #[.int .i64 t.kind, .string t.name, .int .i64 t.idx, .slice (some ⟨g, 0, none⟩) (t.args.set i x).length c']); rw [List.length_set], hc8, (hR8.set4 (fun b hb => by rcases hb with hb | hb <;> omega)).mono (fun b hb _ => hb.elim (fun h => .inl h.1) (fun h => .inr (by omega))), ?_, ⟨by omega, by omega, ixTs_set hxi _ _ (ixTs_mono (by omega) _ hix2)⟩, bl_set4 PB (by omega)⟩
    have := hts.out
    have := tsizes_set x t.args i hil
    simp only [tsize]
    omega
end Go.Proofs.YtolooomphmcphaaDoor
