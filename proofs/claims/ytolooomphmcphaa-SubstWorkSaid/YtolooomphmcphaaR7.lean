/- The program's package rename: Shift. -/
import Derived.Test.YtolooomphmcphaaE1
import Derived.Deep.DeepCutAuto
import Derived.Test.YtolooomphmcphaaK5
namespace Go.Proofs.Ytolooomphmcphaa
open Go.RowKit

theorem shift1_calls (i d fr : Int) (gf gb : Nat) (w : World) (hi0 : 0 ≤ i) (hi1 : i ≤ 1000000000000) (hd0 : 0 ≤ d) (hd1 : d ≤ 1000000000000) (hf : w.cell? ⟨gf, 0, none⟩ = some (.int .i64 fr)) (hb : w.cell? ⟨gb, 0, none⟩ = some (.int .i64 d)) :
    Giv Try.prog 65 #[.int .i64 i, .pointer (some ⟨gf, 0, none⟩), .pointer (some ⟨gb, 0, none⟩)] w (.tuple #[.int .i64 (if i < fr then i else i + d), .bool (decide (i < fr) || decide (d ≤ 1048576))]) := by
  by_cases h : i < fr
  · go_enter Try.func65, Try.ntmps65
    go_wp2_with fail
    go_ret2
    exact ⟨by simp, Below.refl _ _⟩
  · have hw : IntKind.i64.wrap (i + d) = i + d := IntWalk.i64_in _ ⟨by omega, by omega⟩
    have hf' : w.drew.cell? ⟨gf, 0, none⟩ = some (.int .i64 fr) := hf
    have hb' : w.drew.cell? ⟨gb, 0, none⟩ = some (.int .i64 d) := hb
    go_enter Try.func65, Try.ntmps65
    go_wp2_with fail
    refine wp_region_mixedN (fun w' => w'.cell? ⟨gb, 0, none⟩ = some (.int .i64 d)) [(true, 0), (true, 1), (true, 2), (true, 3), (true, 4), (true, 5), (true, 6)] (by kernel_rfl) (by kernel_rfl) hb' ?_
    repeat (refine wpMix_soft (v := ?_) rfl rfl ?_ ?_; rotate_left; (focus (intro w' hS; go_simp; with_reducible rfl)); simp only [Act.put, List.setIfInBounds_toArray, List.set_cons_zero, List.set_cons_succ])
    refine wpMix_done (NoPanic.normal ?_)
    go_wp2_with fail
    go_ret2
    exact ⟨by simp, bl_drew _ _⟩

mutual
def shOk (d fr bs : Int) : Tm → Bool
  | .mk k _ i a => (!(k == 5 && decide (bs ≤ i)) || (if i - bs < fr then decide (i ≤ 1048576) else decide (d ≤ 1048576) && decide (i + d ≤ 1048576))) && shOks d fr bs k 0 a
def shOks (d fr bs k : Int) (j : Nat) : List Tm → Bool
  | [] => true
  | t :: r => shOk d fr (bs + underN k j) t && shOks d fr bs k (j + 1) r
end
theorem shOk_eq (d fr bs : Int) (t : Tm) : shOk d fr bs t = ((!(t.kind == 5 && decide (bs ≤ t.idx)) || (if t.idx - bs < fr then decide (t.idx ≤ 1048576) else decide (d ≤ 1048576) && decide (t.idx + d ≤ 1048576))) && shOks d fr bs t.kind 0 t.args) := by
  cases t; rw [shOk]; rfl
theorem shOks_append (d fr bs k : Int) : ∀ (j : Nat) (a b : List Tm), shOks d fr bs k j (a ++ b) = (shOks d fr bs k j a && shOks d fr bs k (j + a.length) b)
  | _, [], _ => by simp [shOks]
  | j, t :: r, b => by simp [shOks, shOks_append d fr bs k (j + 1) r b, Nat.add_comm, Nat.add_left_comm, Bool.and_assoc]
theorem shOks_take (d fr bs k : Int) (a : List Tm) (m : Nat) (h : m < a.length) : shOks d fr bs k 0 (a.take (m + 1)) = (shOks d fr bs k 0 (a.take m) && shOk d fr (bs + underN k m) a[m]) := by
  rw [List.take_succ_eq_append_getElem h, shOks_append]
  simp [shOks, Nat.min_eq_left (Nat.le_of_lt h)]
theorem set_mid (a b : List Tm) (x y : Tm) (r : List Tm) (m : Nat) (ha : a.length = m) (hb : b = y :: r) : (a ++ b).set m x = a ++ x :: r := by
  subst ha hb
  simp

abbrev shF (gf gb : Nat) : Value := .func (.func 65) #[] #[.pointer (some ⟨gf, 0, none⟩), .pointer (some ⟨gb, 0, none⟩)]
abbrev wkF (g2 g3 g4 : Nat) : Value := .func (.func 93) #[] #[.pointer (some ⟨g2, 0, none⟩), .pointer (some ⟨g3, 0, none⟩), .pointer (some ⟨g4, 0, none⟩)]
/-- what the closures have captured -/
def Env (w : World) (g2 g3 g4 gf gb : Nat) (d fr : Int) : Prop :=
  (w.cell? ⟨g2, 0, none⟩ = some (shF gf gb) ∧ g2 ≠ g3) ∧ (w.cell? ⟨g4, 0, none⟩ = some (wkF g2 g3 g4) ∧ g4 ≠ g3) ∧ (w.cell? ⟨gf, 0, none⟩ = some (.int .i64 fr) ∧ gf ≠ g3) ∧ (w.cell? ⟨gb, 0, none⟩ = some (.int .i64 d) ∧ gb ≠ g3)
theorem Env.grown {w w' : World} {g2 g3 g4 gf gb : Nat} {d fr : Int} (h : Env w g2 g3 g4 gf gb d fr) (hg : w.grownBy w' (some g3)) : Env w' g2 g3 g4 gf gb d fr :=
  ⟨⟨cl_grown h.1.1 hg (by simpa using h.1.2), h.1.2⟩, ⟨cl_grown h.2.1.1 hg (by simpa using h.2.1.2), h.2.1.2⟩, ⟨cl_grown h.2.2.1.1 hg (by simpa using h.2.2.1.2), h.2.2.1.2⟩, ⟨cl_grown h.2.2.2.1 hg (by simpa using h.2.2.2.2), h.2.2.2.2⟩⟩

def MvOK (n : Nat) : Prop := ∀ (t : Tm) (A : Option Addr) (c : Nat) (bs : Int) (g2 g3 g4 gf gb : Nat) (d fr : Int) (w : World) (S : Nat → Prop) (b : Bool), tsize t < n → tsize t < 1000000000 → ixT 1000000000000 t → 0 ≤ bs → bs + tsize t ≤ 1000000000000 →
  0 ≤ d → d ≤ 1000000000000 → 0 ≤ fr → fr ≤ 1000000000000 → t.args.length ≤ c → Rd tmK w S A t.args → (∀ x, S x → x ≠ g3) → Env w g2 g3 g4 gf gb d fr → w.heap[g3]? = some (.cells #[.bool b] 4 (0, 0)) →
  Calls Try.prog 93 #[tmV t A c, .int .i64 bs, .pointer (some ⟨g2, 0, none⟩), .pointer (some ⟨g3, 0, none⟩), .pointer (some ⟨g4, 0, none⟩)] w fun e w' => ∃ A' c', e = .returned (tmV (mv d (fr + bs) t) A' c') ∧ t.args.length ≤ c' ∧
    Rd tmK w' (fun x => (S x ∧ x < w.heap.size) ∨ w.heap.size ≤ x) A' (mv d (fr + bs) t).args ∧ w.grownBy w' (some g3) ∧ w'.heap[g3]? = some (.cells #[.bool (b && shOk d fr bs t)] 4 (0, 0))

set_option maxRecDepth 100000 in
set_option maxHeartbeats 8000000 in
theorem move1_calls : ∀ n, MvOK n := by
  intro n
  induction n with
  | zero => intro t A c bs g2 g3 g4 gf gb d fr w S b h; omega
  | succ n ih =>
  intro t A c bs g2 g3 g4 gf gb d fr w S b h1 h2 hix hb0 hb1 hd0 hd1 hf0 hf1 hl hr hS hE hg3
  have hts1 : tsizes t.args < tsize t := by have := tsize_eq t; omega
  have hla := len_le_tsizes t.args
  obtain ⟨hi0, hi1, hixs⟩ := (ixT_eq _ _).1 hix
  have Hix := Lib.hid hixs
  clear hixs hix
  have H := Lib.hid ih
  clear ih
  have hg3l := bk_lt hg3
  obtain ⟨gs, Hgs⟩ : ∃ gs : Nat → List Tm, Hid (∀ j, gs j = mvs d (fr + bs) t.kind 0 (t.args.take j) ++ t.args.drop j) := ⟨_, Lib.hid fun _ => rfl⟩
  obtain ⟨ok, Hok⟩ : ∃ ok : Nat → Bool, Hid (∀ j, ok j = shOks d fr bs t.kind 0 (t.args.take j)) := ⟨_, Lib.hid fun _ => rfl⟩
  have hr0 := hr.bound
  clear hr
  have hk := bk_alloc (bk_new w (.cells (tmB t A c) 33)) (.cells #[.int .i64 0, .string ⟨#[]⟩, .int .i64 0, .slice none 0 0] 33)
  have hk1 := bk_at (w := w.alloc (.cells (tmB t A c) 33)) (n := w.heap.size + 1) (by simp) (.cells #[.int .i64 0, .string ⟨#[]⟩, .int .i64 0, .slice none 0 0] 33)
  have hG := gr_alloc (gr_alloc (gr_below (Below.refl w.heap.size w) (some g3)) (.cells (tmB t A c) 33)) (.cells #[.int .i64 0, .string ⟨#[]⟩, .int .i64 0, .slice none 0 0] 33)
  have hg3 := bk_alloc (bk_alloc hg3 (.cells (tmB t A c) 33)) (.cells #[.int .i64 0, .string ⟨#[]⟩, .int .i64 0, .slice none 0 0] 33)
  have hsz : w.heap.size + 2 ≤ ((w.alloc (.cells (tmB t A c) 33)).alloc (.cells #[.int .i64 0, .string ⟨#[]⟩, .int .i64 0, .slice none 0 0] 33)).heap.size := by simp
  obtain ⟨i', Hi⟩ : ∃ i', Hid ((mv d (fr + bs) t).idx = i') := ⟨_, Lib.hid rfl⟩
  obtain ⟨b0, Hb0⟩ : ∃ b0, Hid (b0 = (b && (!(t.kind == 5 && decide (bs ≤ t.idx)) || (if t.idx - bs < fr then decide (t.idx ≤ 1048576) else decide (d ≤ 1048576) && decide (t.idx + d ≤ 1048576))))) := ⟨_, Lib.hid rfl⟩
  have hE2 := hE.grown hG
  obtain ⟨T, HT⟩ : ∃ T, Hid ((t.kind == 5 && decide (bs ≤ t.idx)) = T) := ⟨_, Lib.hid rfl⟩
  go_enter Try.func93, Try.ntmps93
  go_upto_region 1 with (fail)
  go_cut [21] (fun s21 wc => s21 = .bool T ∧ wc = ((w.alloc (.cells (tmB t A c) 33)).alloc (.cells #[.int .i64 0, .string ⟨#[]⟩, .int .i64 0, .slice none 0 0] 33)))
  case first =>
    cases hk5 : (t.kind == 5) <;> cases hbi : decide (bs ≤ t.idx)
    all_goals
      go_wp2_with fail
      go_meet
      exact ⟨by rw [← HT.out]; simp [hk5, hbi], rfl⟩
  case rest =>
  obtain ⟨rfl, rfl⟩ := hcut
  go_upto_if 21 with (fail)
  go_cut [] (fun wc => wc.heap[w.heap.size]? = some (.cells #[.int .i64 t.kind, .string t.name, .int .i64 i', .slice A t.args.length c] 33 (0, 0)) ∧
      wc.heap[w.heap.size + 1]? = some (.cells #[.int .i64 0, .string ⟨#[]⟩, .int .i64 0, .slice none 0 0] 33 (0, 0)) ∧
      wc.heap[g3]? = some (.cells #[.bool b0] 4 (0, 0)) ∧ Env wc g2 g3 g4 gf gb d fr ∧ w.grownBy wc (some g3) ∧ w.heap.size + 2 ≤ wc.heap.size)
  case first =>
    cases hT : T
    · have hTT := HT.out
      rw [hT] at hTT
      have e0 : t.idx = i' := by
        rw [← Hi.out, mv_eq]
        show t.idx = if _ then _ else _
        rw [if_neg]
        rintro ⟨h5, h6⟩
        simp [h5] at hTT
        omega
      have e1 : b = b0 := by rw [Hb0.out, hTT]; simp
      replace hk := pack4 hk e0
      replace hg3 := pack1 hg3 e1
      clear e0 e1 hTT
      go_wp2_with fail
      go_meet
      exact ⟨hk, hk1, hg3, hE2, hG, hsz⟩
    · have hTT := HT.out
      rw [hT] at hTT
      have hk5 : (t.kind == 5) = true := by simp at hTT; simpa using hTT.1
      have hbi : decide (bs ≤ t.idx) = true := by simp at hTT; simpa using hTT.2
      have hbi' : bs ≤ t.idx := by simpa using hbi
      have hk5' : Hid (t.kind = 5) := Lib.hid (by simpa using hk5)
      clear hTT
      obtain ⟨⟨x2, _⟩, ⟨x4, _⟩, ⟨xf, _⟩, ⟨xb, _⟩⟩ := id hE2
      have hws : IntKind.i64.wrap (t.idx - bs) = t.idx - bs := IntWalk.i64_in _ ⟨by omega, by omega⟩
      have hwm : IntKind.i64.wrap (1048576 - bs) = 1048576 - bs := IntWalk.i64_in _ ⟨by omega, by omega⟩
      obtain ⟨nv, Hn, hn0, hn1⟩ : ∃ nv, Hid ((if t.idx - bs < fr then t.idx - bs else t.idx - bs + d) = nv) ∧ 0 ≤ nv ∧ nv ≤ 2000000000000 := ⟨_, Lib.hid rfl, by split <;> omega, by split <;> omega⟩
      obtain ⟨fd, Hf⟩ : ∃ fd, Hid ((decide (t.idx - bs < fr) || decide (d ≤ 1048576)) = fd) := ⟨_, Lib.hid rfl⟩
      have hwn : IntKind.i64.wrap (nv + bs) = nv + bs := IntWalk.i64_in _ ⟨by omega, by omega⟩
      have hneg : decide (nv < 0) = false := by simp; omega
      have e0 : nv + bs = i' := by
        rw [← Hi.out, mv_eq, ← Hn.out]
        show _ = if _ then _ else _
        have := hk5'.out
        by_cases h : t.idx - bs < fr
        · rw [if_pos h, if_neg (by omega)]; omega
        · rw [if_neg h, if_pos ⟨this, by omega⟩]; omega
      have e1 : b0 = (b && (fd && decide (nv ≤ 1048576 - bs))) := by
        rw [Hb0.out, ← Hf.out, ← Hn.out, hk5, hbi]
        by_cases h : t.idx - bs < fr
        · simp only [h, if_true, decide_true, Bool.true_or, Bool.and_true, Bool.not_true, Bool.false_or, Bool.true_and]
          congr 1
          exact decide_eq_decide.2 (by omega)
        · simp only [h, if_false, decide_false, Bool.false_or, Bool.and_true, Bool.not_true]
          congr 1
          congr 1
          exact decide_eq_decide.2 (by omega)
      have E0 := Lib.hid e0
      have E1 := Lib.hid e1
      clear e0 e1
      clear hk5 hbi
      cases hfd : fd
      · rw [hfd] at Hf
        have e2 : Hid (false = b0) := Lib.hid (by rw [E1.out, hfd]; simp)
        clear hfd
        go_wp2_with fail
        refine (shift1_calls (t.idx - bs) d fr gf gb _ (by omega) (by omega) hd0 hd1 xf xb).use fun w1 hb1 => ?_
        rw [Hn.out, Hf.out]
        replace hk := bk_below hk hb1
        replace hk1 := bk_below hk1 hb1
        replace hg3 := bk_below hg3 hb1
        replace hG := gr_next hG hb1
        replace hE2 := hE2.grown (gr_below hb1 _)
        have hsz1 := hb1.size
        obtain ⟨c0, c1, c2, c3⟩ := bx4 hk
        have l0 := bk_free hk 2
        have l3 := bk_free hg3 0
        have m3 := bx1 hg3
        go_wp2_with fail
        replace hG := gr_set (gr_row hG (p := ⟨g3, 0, none⟩) rfl (.bool false)) (p := ⟨w.heap.size, 2, none⟩) (Nat.le_refl _) (.int .i64 (nv + bs))
        replace hk := pack4 (bk_set (bk_far hk (p := ⟨g3, 0, none⟩) (by show w.heap.size ≠ g3; omega) (.bool false)) 2 (.int .i64 (nv + bs))) E0.out
        replace hk1 := bk_far (bk_far hk1 (p := ⟨g3, 0, none⟩) (by show w.heap.size + 1 ≠ g3; omega) (.bool false)) (p := ⟨w.heap.size, 2, none⟩) (by show w.heap.size + 1 ≠ w.heap.size; omega) (.int .i64 (nv + bs))
        replace hg3 := pack1 (bk_far (bk_set hg3 0 (.bool false)) (p := ⟨w.heap.size, 2, none⟩) (by show g3 ≠ w.heap.size; omega) (.int .i64 (nv + bs))) e2.out
        replace hsz : w.heap.size + 2 ≤ ((w1.setCell ⟨g3, 0, none⟩ (.bool false)).setCell ⟨w.heap.size, 2, none⟩ (.int .i64 (nv + bs))).heap.size := by rw [World.size_setCell, World.size_setCell]; omega
        go_meet
        exact ⟨hk, hk1, hg3, hE.grown hG, hG, hsz⟩
      · rw [hfd] at Hf
        by_cases hq : nv ≤ 1048576 - bs
        · have e2 : Hid (b = b0) := Lib.hid (by rw [E1.out, hfd]; simp [hq])
          have hqd : decide (1048576 - bs < nv) = false := by simp; omega
          clear hq hfd
          go_wp2_with fail
          refine (shift1_calls (t.idx - bs) d fr gf gb _ (by omega) (by omega) hd0 hd1 xf xb).use fun w1 hb1 => ?_
          rw [Hn.out, Hf.out]
          replace hk := bk_below hk hb1
          replace hk1 := bk_below hk1 hb1
          replace hg3 := bk_below hg3 hb1
          replace hG := gr_next hG hb1
          replace hE2 := hE2.grown (gr_below hb1 _)
          have hsz1 := hb1.size
          obtain ⟨c0, c1, c2, c3⟩ := bx4 hk
          have l0 := bk_free hk 2
          have l3 := bk_free hg3 0
          have m3 := bx1 hg3
          go_wp2_with fail
          replace hG := gr_set hG (p := ⟨w.heap.size, 2, none⟩) (Nat.le_refl _) (.int .i64 (nv + bs))
          replace hk := pack4 (bk_set hk 2 (.int .i64 (nv + bs))) E0.out
          replace hk1 := bk_far hk1 (p := ⟨w.heap.size, 2, none⟩) (by show w.heap.size + 1 ≠ w.heap.size; omega) (.int .i64 (nv + bs))
          replace hg3 := pack1 (bk_far hg3 (p := ⟨w.heap.size, 2, none⟩) (by show g3 ≠ w.heap.size; omega) (.int .i64 (nv + bs))) e2.out
          replace hsz : w.heap.size + 2 ≤ (w1.setCell ⟨w.heap.size, 2, none⟩ (.int .i64 (nv + bs))).heap.size := by rw [World.size_setCell]; omega
          go_meet
          exact ⟨hk, hk1, hg3, hE.grown hG, hG, hsz⟩
        · have e2 : Hid (false = b0) := Lib.hid (by rw [E1.out, hfd]; simp [hq])
          have hqd : decide (1048576 - bs < nv) = true := by simp; omega
          clear hq hfd
          go_wp2_with fail
          refine (shift1_calls (t.idx - bs) d fr gf gb _ (by omega) (by omega) hd0 hd1 xf xb).use fun w1 hb1 => ?_
          rw [Hn.out, Hf.out]
          replace hk := bk_below hk hb1
          replace hk1 := bk_below hk1 hb1
          replace hg3 := bk_below hg3 hb1
          replace hG := gr_next hG hb1
          replace hE2 := hE2.grown (gr_below hb1 _)
          have hsz1 := hb1.size
          obtain ⟨c0, c1, c2, c3⟩ := bx4 hk
          have l0 := bk_free hk 2
          have l3 := bk_free hg3 0
          have m3 := bx1 hg3
          go_wp2_with fail
          replace hG := gr_set (gr_row hG (p := ⟨g3, 0, none⟩) rfl (.bool false)) (p := ⟨w.heap.size, 2, none⟩) (Nat.le_refl _) (.int .i64 (nv + bs))
          replace hk := pack4 (bk_set (bk_far hk (p := ⟨g3, 0, none⟩) (by show w.heap.size ≠ g3; omega) (.bool false)) 2 (.int .i64 (nv + bs))) E0.out
          replace hk1 := bk_far (bk_far hk1 (p := ⟨g3, 0, none⟩) (by show w.heap.size + 1 ≠ g3; omega) (.bool false)) (p := ⟨w.heap.size, 2, none⟩) (by show w.heap.size + 1 ≠ w.heap.size; omega) (.int .i64 (nv + bs))
          replace hg3 := pack1 (bk_far (bk_set hg3 0 (.bool false)) (p := ⟨w.heap.size, 2, none⟩) (by show g3 ≠ w.heap.size; omega) (.int .i64 (nv + bs))) e2.out
          replace hsz : w.heap.size + 2 ≤ ((w1.setCell ⟨g3, 0, none⟩ (.bool false)).setCell ⟨w.heap.size, 2, none⟩ (.int .i64 (nv + bs))).heap.size := by rw [World.size_setCell, World.size_setCell]; omega
          go_meet
          exact ⟨hk, hk1, hg3, hE.grown hG, hG, hsz⟩
  case rest =>
  clear hk hk1 hg3 hE2 hG hsz
  obtain ⟨hk, hk1, hg3, hE2, hG, hsz⟩ := hcut
  have hr1 := hr0.grown hG (fun x hx => hS x hx.1)
  obtain ⟨c0, c1, c2, c3⟩ := bx4 hk
  go_wp2_with fail
  focus (
    refine (clone_calls t.args A c _ _ (by omega) hr1).mono ?_
    rintro e w2 ⟨v, rfl, hO, hb2⟩
    obtain ⟨A1, k1, rfl, hc1, _⟩ := hO.len
    replace hO := (hO.base hsz).mono (S' := fun x => (S x ∧ x < w.heap.size) ∨ w.heap.size + 2 ≤ x) (fun x hx _ => .inl ⟨hx.1.1, hx.1.2.lt⟩)
    replace hsz := Nat.le_trans hsz hb2.size
    replace hk := bk_below hk hb2
    replace hk1 := bk_below hk1 hb2
    replace hg3 := bk_below hg3 hb2
    replace hG := gr_next hG hb2
    replace hE2 := hE2.grown (gr_below hb2 _)
    clear hb2 hr1
    obtain ⟨n0, n1, n2, n3⟩ := bx4 hk
    have l3' := bk_free hk 3
    go_wp2_with fail
    go_loopg [54] (t.args.length) (fun k i w' => ∃ (m : Nat) (bb : Bool) (k' : Int), k + m = t.args.length ∧ Hid (k' = t.kind) ∧ m ≤ t.args.length ∧ i = .int .i64 m ∧
        w'.heap[w.heap.size]? = some (.cells #[.int .i64 k', .string t.name, .int .i64 i', .slice A1 t.args.length k1] 33 (0, 0)) ∧
        w'.heap[w.heap.size + 1]? = some (.cells #[.int .i64 0, .string ⟨#[]⟩, .int .i64 0, .slice none 0 0] 33 (0, 0)) ∧
        w'.heap[g3]? = some (.cells #[.bool bb] 4 (0, 0)) ∧ Hid (bb = (b0 && ok m)) ∧ Env w' g2 g3 g4 gf gb d fr ∧
        Own tmK 33 (w.heap.size + 2) w' (fun x => (S x ∧ x < w.heap.size) ∨ w.heap.size + 2 ≤ x) (.slice A1 t.args.length k1) (gs m) ∧ w.heap.size + 2 ≤ w'.heap.size ∧ w.grownBy w' (some g3))
    case atStart =>
      refine ⟨0, b0, t.kind, Nat.add_zero _, Lib.hid rfl, by omega, rfl, bk_set hk 3 _, bk_far hk1 (by show w.heap.size + 1 ≠ w.heap.size; omega) _, bk_far hg3 (by show g3 ≠ w.heap.size; omega) _, Lib.hid (by rw [Hok.out]; simp [shOks]), ?_, ?_, by rw [World.size_setCell]; exact hsz, gr_set hG (Nat.le_refl _) _⟩
      · exact hE.grown (gr_set hG (Nat.le_refl _) _)
      · rw [Hgs.out]
        simp only [List.take_zero, mvs, List.nil_append, List.drop_zero]
        exact hO.store (p := ⟨w.heap.size, 3, none⟩) (by show ¬ ((S w.heap.size ∧ w.heap.size < w.heap.size) ∨ w.heap.size + 2 ≤ w.heap.size); omega) (by show w.heap.size < w.heap.size + 2; omega) _
    case round =>
      clear hk hk1 hg3 hE2 hO hG n0 n1 n2 n3 l3' hsz
      obtain ⟨m, bb, k', hgk, Hk, hm, rfl, hk, hk1, hg3, Hbb, hE2, hO, hsz, hG⟩ := hrel
      obtain ⟨n0, n1, n2, n3⟩ := bx4 hk
      by_cases hlt : m < t.args.length
      · have hgl : m < (gs m).length := by rw [Hgs.out, List.length_append, mvs_len]; simp; omega
        have hgm : (gs m)[m] = t.args[m] := by
          have : (gs m)[m]? = some t.args[m] := by
            rw [Hgs.out, List.getElem?_append_right (by rw [mvs_len]; simp; omega), mvs_len]
            simp [Nat.min_eq_left (Nat.le_of_lt hlt), hlt]
          simpa [hgl] using this
        obtain ⟨g, A', c', rfl, hn, hnc, hBg, hgs, hfz, e0, e1, e2, e3, hl', hr'⟩ := hO.tm hgl
        rw [hgm] at e0 e1 e2 e3 hl' hr'
        clear hgm hn n0 n1 n2 n3
        have hm1 := tsizes_mem t.args m hlt
        have hixm := ixTs_get Hix.out m hlt
        have q0 := bk_alloc hk (.cells #[.int .i64 t.args[m].kind, .string t.args[m].name, .int .i64 t.args[m].idx, .slice A' t.args[m].args.length c'] 33)
        have q1 := bk_alloc hk1 (.cells #[.int .i64 t.args[m].kind, .string t.args[m].name, .int .i64 t.args[m].idx, .slice A' t.args[m].args.length c'] 33)
        have q3 := bk_alloc hg3 (.cells #[.int .i64 t.args[m].kind, .string t.args[m].name, .int .i64 t.args[m].idx, .slice A' t.args[m].args.length c'] 33)
        have q7 := bk_new wr (.cells #[.int .i64 t.args[m].kind, .string t.args[m].name, .int .i64 t.args[m].idx, .slice A' t.args[m].args.length c'] 33)
        have hE3 := hE2.grown (gr_below (bl_new wr (.cells #[.int .i64 t.args[m].kind, .string t.args[m].name, .int .i64 t.args[m].idx, .slice A' t.args[m].args.length c'] 33)) _)
        have hO1 := hO.alloc (.cells #[.int .i64 t.args[m].kind, .string t.args[m].name, .int .i64 t.args[m].idx, .slice A' t.args[m].args.length c'] 33)
        have hG1 := gr_alloc hG (.cells #[.int .i64 t.args[m].kind, .string t.args[m].name, .int .i64 t.args[m].idx, .slice A' t.args[m].args.length c'] 33)
        have hr1 := hr'.below (bl_new wr (.cells #[.int .i64 t.args[m].kind, .string t.args[m].name, .int .i64 t.args[m].idx, .slice A' t.args[m].args.length c'] 33))
        obtain ⟨n0, n1, n2, n3⟩ := bx4 q0
        have hw1 : IntKind.i64.wrap (bs + 1) = bs + 1 := IntWalk.i64_in _ ⟨by omega, by omega⟩
        have HS : ∀ w' : World, w'.heap[w.heap.size]? = some (.cells #[.int .i64 k', .string t.name, .int .i64 i', .slice (some ⟨g, 0, none⟩) t.args.length k1] 33 (0, 0)) → w'.heap[wr.heap.size]? = some (.cells #[.int .i64 t.args[m].kind, .string t.args[m].name, .int .i64 t.args[m].idx, .slice A' t.args[m].args.length c'] 33 (0, 0)) → Env w' g2 g3 g4 gf gb d fr →
            w'.cell? ⟨w.heap.size, 3, none⟩ = some (.slice (some ⟨g, 0, none⟩) t.args.length k1) ∧ w'.cell? ⟨g4, 0, none⟩ = some (wkF g2 g3 g4) ∧ w'.cell? ⟨wr.heap.size, 0, none⟩ = some (.int .i64 t.args[m].kind) ∧ w'.cell? ⟨wr.heap.size, 1, none⟩ = some (.string t.args[m].name) ∧
              w'.cell? ⟨wr.heap.size, 2, none⟩ = some (.int .i64 t.args[m].idx) ∧ w'.cell? ⟨wr.heap.size, 3, none⟩ = some (.slice A' t.args[m].args.length c') := fun w' h1 h2 h3 => ⟨(bx4 h1).2.2.2, h3.2.1.1, (bx4 h2).1, (bx4 h2).2.1, (bx4 h2).2.2.1, (bx4 h2).2.2.2⟩
        replace HS := Lib.hid HS
        obtain ⟨x, Hx⟩ : ∃ x, Hid (x = mv d (fr + bs + underN t.kind m) t.args[m]) := ⟨_, Lib.hid rfl⟩
        obtain ⟨okm, Hokm⟩ : ∃ okm, Hid (okm = shOk d fr (bs + underN t.kind m) t.args[m]) := ⟨_, Lib.hid rfl⟩
        have hud := underN_le t.kind m
        have HI : ∀ (bs' : Int) (W : World) (S' : Nat → Prop), bs' = bs + underN t.kind m → Rd tmK W S' A' t.args[m].args → (∀ x, S' x → x ≠ g3) → Env W g2 g3 g4 gf gb d fr → W.heap[g3]? = some (.cells #[.bool bb] 4 (0, 0)) →
            Calls Try.prog 93 #[.agg #[.int .i64 t.args[m].kind, .string t.args[m].name, .int .i64 t.args[m].idx, .slice A' t.args[m].args.length c'], .int .i64 bs', .pointer (some ⟨g2, 0, none⟩), .pointer (some ⟨g3, 0, none⟩), .pointer (some ⟨g4, 0, none⟩)] W fun e w' => ∃ A2 c2, e = .returned (tmV x A2 c2) ∧ x.args.length ≤ c2 ∧
              Rd tmK w' (fun y => (S' y ∧ y < W.heap.size) ∨ W.heap.size ≤ y) A2 x.args ∧ W.grownBy w' (some g3) ∧ w'.heap[g3]? = some (.cells #[.bool (bb && okm)] 4 (0, 0)) := by
          intro bs' W S' e hR' hS' hE' hg'
          subst e
          refine (H.out t.args[m] A' c' (bs + underN t.kind m) g2 g3 g4 gf gb d fr W S' bb (by omega) (by omega) hixm (by omega) (by omega) hd0 hd1 hf0 hf1 hl' hR' hS' hE' hg').mono ?_
          rintro e w' ⟨A2, c2, rfl, hc2, hR2, hG2, hb2⟩
          have hxe : mv d (fr + (bs + underN t.kind m)) t.args[m] = x := by rw [Hx.out, Int.add_assoc]
          rw [hxe] at hR2
          exact ⟨A2, c2, by rw [hxe], by rw [← hxe, mv_eq]; show (mvs _ _ _ _ _).length ≤ _; rw [mvs_len]; exact hc2, hR2, hG2, by rw [Hokm.out]; exact hb2⟩
        replace HI := Lib.hid HI
        have hmI0 : (0 : Int) ≤ (m : Int) := by omega
        have hmI1 : (m : Int) < (t.args.length : Int) := by omega
        clear hE2 hk hk1 hg3
        obtain ⟨u, Hu⟩ : ∃ u, Hid (underN t.kind m = u) := ⟨_, Lib.hid rfl⟩
        obtain ⟨U, HU⟩ : ∃ U, Hid ((k' == 3 || (k' == 2 && (m : Int) == 1)) = U) := ⟨_, Lib.hid rfl⟩
        have hu1 : Hid (U = true → u = 1) := Lib.hid (fun h => by rw [← Hu.out]; have h2 := HU.out; rw [h, Hk.out] at h2; simp at h2; unfold underN; rw [if_pos (by omega)])
        have hu0 : Hid (U = false → u = 0) := Lib.hid (fun h => by rw [← Hu.out]; have h2 := HU.out; rw [h, Hk.out] at h2; simp at h2; unfold underN; rw [if_neg (by omega)])
        clear hud
        go_upto_region 11 with (fail)
        go_cut [71] (fun s71 wc => s71 = .bool U ∧ wc = wr.alloc (.cells #[.int .i64 t.args[m].kind, .string t.args[m].name, .int .i64 t.args[m].idx, .slice A' t.args[m].args.length c'] 33))
        case first =>
          cases a3 : (k' == 3) <;> cases a2 : (k' == 2) <;> cases a1 : ((m : Int) == 1)
          all_goals
            go_wp2_with fail
            go_meet
            exact ⟨by rw [← HU.out]; simp [a3, a2, a1], rfl⟩
        case rest =>
        obtain ⟨rfl, rfl⟩ := hcut
        go_upto_if 71 with (fail)
        go_cut [12] (fun s12 wc => s12 = .int .i64 (bs + u) ∧ wc = wr.alloc (.cells #[.int .i64 t.args[m].kind, .string t.args[m].name, .int .i64 t.args[m].idx, .slice A' t.args[m].args.length c'] 33))
        case first =>
          cases hU : U
          · go_wp2_with fail
            go_meet
            exact ⟨by rw [hu0.out hU, Int.add_zero], rfl⟩
          · go_wp2_with fail
            go_meet
            exact ⟨by rw [hu1.out hU], rfl⟩
        case rest =>
        obtain ⟨rfl, rfl⟩ := hcut
        focus (
          go_wp2_with fail
          refine wp_region_mixN 8 (fun w' => w'.cell? ⟨w.heap.size, 3, none⟩ = some (.slice (some ⟨g, 0, none⟩) t.args.length k1) ∧ w'.cell? ⟨g4, 0, none⟩ = some (wkF g2 g3 g4) ∧ w'.cell? ⟨wr.heap.size, 0, none⟩ = some (.int .i64 t.args[m].kind) ∧ w'.cell? ⟨wr.heap.size, 1, none⟩ = some (.string t.args[m].name) ∧
              w'.cell? ⟨wr.heap.size, 2, none⟩ = some (.int .i64 t.args[m].idx) ∧ w'.cell? ⟨wr.heap.size, 3, none⟩ = some (.slice A' t.args[m].args.length c'))
            [(true, 0), (true, 1), (true, 2), (true, 3), (true, 4), (true, 5), (false, 6), (true, 7)] (by kernel_rfl) rfl (by kernel_rfl) (HS.out _ q0 q7 hE3) ?_
          repeat (refine wpMix_soft (v := ?_) rfl rfl ?_ ?_; rotate_left; (focus (intro w' hS; go_simp; with_reducible rfl)); simp only [Act.put, List.setIfInBounds_toArray, List.set_cons_zero, List.set_cons_succ])
          refine wpMix_hard rfl rfl ?_
          go_wp2_with fail
          refine (HI.out _ _ (fun y => ((S y ∧ y < w.heap.size) ∨ w.heap.size + 2 ≤ y) ∧ Live wr y ∧ g ≠ y) ?_ (Rd.drew hr1) ?_ hE3 q3).mono ?_
          · rw [Hu.out]
          · intro y hy
            rcases hy.1 with hy1 | hy1
            · exact hS y hy1.1
            · omega
          rintro e w2 ⟨A2, c2, rfl, hc2, hR2, hG2, hb2⟩
          replace hG2 := gr_undrew hG2
          have ne0 : some w.heap.size ≠ some g3 := by simp; omega
          have ne1 : some (w.heap.size + 1) ≠ some g3 := by simp; omega
          have ne7 : some wr.heap.size ≠ some g3 := by simp; omega
          have p0 := bk_grown q0 hG2 ne0
          have p1 := bk_grown q1 hG2 ne1
          have p7 := bk_grown q7 hG2 ne7
          have hE4 := Env.grown hE3 hG2
          have hO2 := hO1.grown hG2 (fun y hy => by rcases hy with hy | hy; exact hS y hy.1; omega) (by omega)
          have hG3 := hG1.trans hG2
          have hsz2 := hG3.size
          have hsz3 : wr.heap.size + 1 ≤ w2.heap.size := by simpa using hG2.size
          obtain ⟨g', _, _, eg, -, -, -, -, hfz2, s0, s1, s2, s3, -⟩ := hO2.tm hgl
          have eg : g = g' := by simpa using eg
          subst eg
          go_wp2_with fail
          refine mixQ_normal (HS.out _ p0 p7 hE4) ?_
          repeat (refine wpMix_soft (v := ?_) rfl rfl ?_ ?_; rotate_left; (focus (intro w' hS; go_simp; with_reducible rfl)); simp only [Act.put, List.setIfInBounds_toArray, List.set_cons_zero, List.set_cons_succ])
          refine wpMix_done (cutQ_normal ?_)
          have z0 := hfz2 (m * 4)
          have z1 := hfz2 (m * 4 + 1)
          have z2 := hfz2 (m * 4 + 2)
          have z3 := hfz2 (m * 4 + 3)
          go_wp2_with fail
          refine NoPanic.normal ?_
          go_wp2_with fail
          go_roundg (t.args.length - (m + 1))
          case rel =>
            have egs : gs (m + 1) = (gs m).set m x := by
              rw [Hgs.out, Hgs.out, mvs_take _ _ _ _ _ hlt, List.append_assoc, ← Hx.out]
              exact (set_mid _ _ x t.args[m] (t.args.drop (m + 1)) m (by rw [mvs_len]; simp; omega) (List.drop_eq_getElem_cons hlt)).symm
            have hKx : tmK.K w2 (fun y => ((S y ∧ y < w.heap.size) ∨ w.heap.size + 2 ≤ y) ∧ Live w2 y ∧ g ≠ y) x [.int .i64 x.kind, .string x.name, .int .i64 x.idx, .slice A2 x.args.length c2] := by
              refine EK.mono (tmK_of x hc2 hR2) (fun y hy hl => ?_)
              have hy' : ((((S y ∧ y < w.heap.size) ∨ w.heap.size + 2 ≤ y) ∧ Live wr y ∧ g ≠ y) ∧ y < wr.heap.size + 1) ∨ wr.heap.size + 1 ≤ y := by simpa using hy
              rcases hy' with hy' | hy'
              · exact ⟨hy'.1.1, hl, hy'.1.2.2⟩
              · exact ⟨.inr (by omega), hl, by omega⟩
            have hP := hO2.put hgl hKx
            have f1 : g ≠ w.heap.size := by omega
            have f2 : g ≠ w.heap.size + 1 := by omega
            have f3 : g ≠ g3 := by omega
            refine ⟨m + 1, bb && okm, k', by omega, Hk, by omega, by go_num, (put4_far (Ne.symm f1)).trans p0, (put4_far (Ne.symm f2)).trans p1, (put4_far (Ne.symm f3)).trans hb2, Lib.hid (by rw [Hbb.out, Hok.out, Hok.out, shOks_take _ _ _ _ _ _ hlt, Hokm.out, Bool.and_assoc]), ?_, by rw [egs]; exact hP, by rw [put4_size]; omega, gr_put4 hG3 (by omega)⟩
            exact hE.grown (gr_put4 hG3 (by omega))
          case measure => omega)
      · obtain rfl : m = t.args.length := by omega
        obtain ⟨A3, k3, e3, hk3, hR⟩ := hO.read (S' := fun x => (S x ∧ x < w.heap.size) ∨ w.heap.size + 2 ≤ x) (fun _ h => .inr h) (fun _ h => h)
        obtain ⟨f0, f1, f2, f3⟩ := bx4 hk1
        have z0 := bk_free hk1 0
        have z1 := bk_free hk1 1
        have z2 := bk_free hk1 2
        have z3 := bk_free hk1 3
        simp only [Value.slice.injEq] at e3
        obtain ⟨ea, en, ec⟩ := e3
        have Ea := Lib.hid ea
        have En := Lib.hid en
        have Ec := Lib.hid ec
        clear ea en ec
        go_wp2_with fail
        have e1 : (mv d (fr + bs) t).args = gs t.args.length := by rw [Hgs.out, List.take_length, List.drop_length, List.append_nil, mv_eq]; rfl
        have e2 : (mv d (fr + bs) t).kind = k' := by rw [Hk.out, mv_eq]; rfl
        have e3 : (mv d (fr + bs) t).name = t.name := by rw [mv_eq]; rfl
        have e4 : (bb : Bool) = (b && shOk d fr bs t) := by
          rw [Hbb.out, Hb0.out, Hok.out, List.take_length, Bool.and_assoc, ← shOk_eq]
        have hpre := set4_self (v0 := .int .i64 k') (v1 := .string t.name) (v2 := .int .i64 i') (v3 := .slice A1 t.args.length k1) hk1
        refine bodyPost_ret (res_term rfl rfl hpre) rfl ⟨A1, k1, ?_, by rw [En.out, Ec.out]; exact hk3, ?_, gr_set4 hG (by omega), ?_⟩
        · show _ = Ending.returned (.agg #[.int .i64 (mv d (fr + bs) t).kind, .string (mv d (fr + bs) t).name, .int .i64 (mv d (fr + bs) t).idx, .slice A1 (mv d (fr + bs) t).args.length k1])
          rw [e1, e2, e3, Hi.out, ← En.out]
        · rw [e1, Ea.out]
          exact (hR.set4 (fun y hy => by rcases hy with hy | hy <;> omega)).mono (fun y hy _ => by rcases hy with hy | hy; exact .inl hy; exact .inr (by omega))
        · rw [← e4]
          exact (set4_far (by omega)).trans hg3)
end Go.Proofs.Ytolooomphmcphaa
