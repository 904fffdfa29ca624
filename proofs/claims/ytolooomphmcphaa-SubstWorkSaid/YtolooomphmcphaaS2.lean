/- The program's package simple, on simple types: WellFormed, Order, Same. -/
import Derived.Test.YtolooomphmcphaaS1
namespace Go.Proofs.Ytolooomphmcphaa
open Go.RowKit

def swfE (t : Sm) : Int := if formB t = false then 1 else if 4096 < ssize t ∨ 128 < sdep t then 2 else 0
abbrev selfF (g : Nat) : Value := .func (.func 36) #[] #[.pointer (some ⟨g, 0, none⟩)]
def FormOK (n : Nat) : Prop := ∀ (t : Sm) (A : Option Addr) (c g : Nat) (w : World) (S : Nat → Prop), ssize t < n → ssize t < 1000000000 → Rd smK w S A t.args → w.cell? ⟨g, 0, none⟩ = some (selfF g) →
  Giv Try.prog 36 #[smV t A c, .pointer (some ⟨g, 0, none⟩)] w (.bool (formB t))
theorem form1_calls {n : Nat} (h : FormOK n) (t : Sm) (A : Option Addr) (c g : Nat) (w : World) (S : Nat → Prop) (h1 : ssize t < n) (h2 : ssize t < 1000000000) (hr : Rd smK w S A t.args) (hg : w.cell? ⟨g, 0, none⟩ = some (selfF g)) :
    Giv Try.prog 39 #[smV t A c, .pointer (some ⟨g, 0, none⟩)] w (.bool (!formB t)) := by
  have hg' := cl_below hg (bl_new w (.cells (smB t A c) 25))
  have ho := h t A c g (w.alloc (.cells (smB t A c) 25)) S h1 h2 (hr.below (bl_new _ _)) hg'
  have Ho := Lib.hid ho
  clear ho
  go_enter Try.func39, Try.ntmps39
  go_wp2_with fail
  refine Ho.out.use fun w1 hb1 => ?_
  go_wp2_with fail
  go_ret
  exact ⟨rfl, bl_self (bl_new _ _) hb1⟩
theorem indexForm_calls {n : Nat} (h : FormOK n) (a : List Sm) (A : Option Addr) (c g : Nat) (w : World) (S : Nat → Prop) (h1 : ssizes a < n) (h2 : ssizes a < 1000000000) (hr : Rd smK w S A a) (hg : w.cell? ⟨g, 0, none⟩ = some (selfF g)) :
    Calls Try.prog 74 #[.slice A a.length c, .func (.func 39) #[] #[.pointer (some ⟨g, 0, none⟩)]] w fun e w' => ∃ v : Int, e = .returned (.int .i64 v) ∧ decide (0 ≤ v) = (!formBs a) ∧ Below w.heap.size w w' := by
  have hla := len_le_ssizes a
  have H := Lib.hid h
  clear h
  go_enter Try.func74, Try.ntmps74
  go_wp2_with fail
  go_loopw [8] (fun i w' => ∃ m : Nat, m ≤ a.length ∧ i = .int .i64 m ∧ formBs (a.take m) = true ∧ Below w.heap.size w w') (fun i _ => a.length - (intOf i).toNat)
  case atStart => exact ⟨0, by omega, rfl, by simp [formBs], Below.refl _ _⟩
  case round =>
    obtain ⟨m, hm, rfl, hall, hB⟩ := hrel
    have Hall := Lib.hid hall
    clear hall
    by_cases hlt : m < a.length
    · obtain ⟨b, o, A', c', rfl, _, e0, e1, hl', hr'⟩ := (hr.below hB).sm m hlt
      have hm1 := ssizes_mem a m hlt
      have hg1 := cl_below hg hB
      cases ho : formB a[m]
      · have Ho := Lib.hid ho
        go_wp2_with fail
        refine (form1_calls H.out a[m] A' c' g _ S (by omega) (by omega) hr' hg1).use fun w1 hb1 => ?_
        rw [ho]
        go_wp2_with fail
        go_ret
        refine ⟨m, rfl, ?_, bl_self hB hb1⟩
        have : formBs a = false := by
          rw [formBs_iff, List.all_eq_false]
          exact ⟨a[m], List.getElem_mem hlt, by rw [Ho.out]; simp⟩
        rw [this]
        simp
      · have Ho := Lib.hid ho
        go_wp2_with fail
        refine (form1_calls H.out a[m] A' c' g _ S (by omega) (by omega) hr' hg1).use fun w1 hb1 => ?_
        rw [ho]
        go_wp2_with fail
        go_roundw
        case rel => exact ⟨m + 1, by omega, by go_num, by
          have := Hall.out
          rw [formBs_iff] at this ⊢
          rw [List.take_succ_eq_append_getElem hlt, List.all_append, this]
          simp [Ho.out], bl_self hB hb1⟩
        case measure => simp [intOf]; omega
    · obtain rfl : m = a.length := by omega
      go_wp2_with fail
      go_ret
      refine ⟨-1, rfl, ?_, hB⟩
      have := Hall.out
      rw [List.take_length] at this
      rw [this]
      rfl
theorem containsForm_calls {n : Nat} (h : FormOK n) (a : List Sm) (A : Option Addr) (c g : Nat) (w : World) (S : Nat → Prop) (h1 : ssizes a < n) (h2 : ssizes a < 1000000000) (hr : Rd smK w S A a) (hg : w.cell? ⟨g, 0, none⟩ = some (selfF g)) :
    Giv Try.prog 38 #[.slice A a.length c, .func (.func 39) #[] #[.pointer (some ⟨g, 0, none⟩)]] w (.bool (!formBs a)) := by
  have hi := indexForm_calls h a A c g w S h1 h2 hr hg
  have Hi := Lib.hid hi
  clear hi h
  go_enter Try.func38, Try.ntmps38
  go_wp2_with fail
  refine Hi.out.mono ?_
  rintro e w1 ⟨v, rfl, hv, hb⟩
  have Hv := Lib.hid hv
  clear hv
  go_wp2_with fail
  go_ret
  exact ⟨by rw [← Hv.out]; rfl, hb⟩
theorem form_calls : ∀ n, FormOK n := by
  intro n
  induction n with
  | zero => intro t A c g w S h; omega
  | succ n ih =>
  intro t A c g w S h1 h2 hr hg
  have he := ssize_eq t
  have hg1 : ssizes t.args < n := by omega
  have hg2 : ssizes t.args < 1000000000 := by omega
  clear he
  have H := Lib.hid ih
  clear ih
  have hB := bl_new w (.cells (smB t A c) 25)
  have hk := bk_new w (.cells (smB t A c) 25)
  have Hf := Lib.hid (formB_eq t)
  cases hn : isName t.fam
  · cases ht : (t.fam.toList == [116, 121, 112, 101])
    · have Hn := Lib.hid hn
      clear hn
      go_enter Try.func36, Try.ntmps36
      go_wp2_with fail
      refine (isName_calls _ _).use fun w1 hb1 => ?_
      rw [Hn.out]
      obtain ⟨c0, c1⟩ := bx2 (bk_below hk hb1)
      go_wp2_with fail
      go_ret
      exact ⟨by rw [Hf.out, Hn.out, ht]; rfl, bl_self hB hb1⟩
    · have Hn := Lib.hid hn
      clear hn
      go_enter Try.func36, Try.ntmps36
      go_wp2_with fail
      refine (isName_calls _ _).use fun w1 hb1 => ?_
      rw [Hn.out]
      obtain ⟨c0, c1⟩ := bx2 (bk_below hk hb1)
      replace hB := bl_self hB hb1
      go_wp2_with fail
      refine (containsForm_calls H.out t.args A c g _ S hg1 hg2 (hr.below hB) (cl_below hg hB)).use fun w2 hb2 => ?_
      go_wp2_with fail
      go_ret
      exact ⟨by rw [Hf.out, Hn.out, ht]; simp, bl_self hB hb2⟩
  · have Hn := Lib.hid hn
    clear hn
    go_enter Try.func36, Try.ntmps36
    go_wp2_with fail
    refine (isName_calls _ _).use fun w1 hb1 => ?_
    rw [Hn.out]
    obtain ⟨c0, c1⟩ := bx2 (bk_below hk hb1)
    replace hB := bl_self hB hb1
    go_wp2_with fail
    refine (containsForm_calls H.out t.args A c g _ S hg1 hg2 (hr.below hB) (cl_below hg hB)).use fun w2 hb2 => ?_
    go_wp2_with fail
    go_ret
    exact ⟨by rw [Hf.out, Hn.out]; simp, bl_self hB hb2⟩
theorem sWellFormed_calls (t : Sm) (A : Option Addr) (c : Nat) (S : Nat → Prop) (w : World) (h2 : ssize t < 1000000000) (hr : Rd smK w S A t.args) :
    Giv Try.prog 15 #[smV t A c] w (.int .i64 (swfE t)) := by
  have hd : sdep t < 1000000000 := by have := sdep_le t; omega
  have hB := bl_new w (.cells (smB t A c) 25)
  have hk := bk_new w (.cells (smB t A c) 25)
  have hB2 := bl_alloc hB (.cells #[selfF (w.heap.size + 1)] 64)
  have hk2 := bk_alloc hk (.cells #[selfF (w.heap.size + 1)] 64)
  have hf2 : ((w.alloc (.cells (smB t A c) 25)).alloc (.cells #[selfF (w.heap.size + 1)] 64)).cell? ⟨w.heap.size + 1, 0, none⟩ = some (selfF (w.heap.size + 1)) := bx1 (bk_at (by simp) _)
  have ho := form_calls (ssize t + 1) t A c (w.heap.size + 1) _ S (Nat.lt_succ_self _) h2 (hr.below hB2) hf2
  have Ho := Lib.hid ho
  clear ho hf2
  have Hd := Lib.hid (sdep_le t)
  have Hw : Hid (∀ z, swfE t = z ↔ (if formB t = false then 1 else if 4096 < ssize t ∨ 128 < sdep t then 2 else 0) = z) := Lib.hid (fun z => by rw [swfE])
  cases hf : formB t
  · have Hf := Lib.hid hf
    clear hf
    go_enter Try.func15, Try.ntmps15
    go_wp2_with fail
    refine Ho.out.use fun w1 hb1 => ?_
    rw [Hf.out]
    go_wp2_with fail
    go_ret
    exact ⟨by rw [(Hw.out 1).2 (by rw [Hf.out]; rfl)]; rfl, bl_self hB2 hb1⟩
  · have Hf := Lib.hid hf
    clear hf
    by_cases h4 : ssize t ≤ 4096
    · by_cases h5 : sdep t ≤ 128
      · go_enter Try.func15, Try.ntmps15
        go_wp2_with fail
        refine Ho.out.use fun w1 hb1 => ?_
        rw [Hf.out]
        obtain ⟨c0, c1⟩ := bx2 (bk_below hk2 hb1)
        replace hB2 := bl_self hB2 hb1
        go_wp2_with fail
        refine (sSize_calls (ssize t + 1) t A c _ S (Nat.lt_succ_self _) h2 (hr.below hB2)).use fun w2 hb2 => ?_
        replace hB2 := bl_self hB2 hb2
        replace c0 := cl_below c0 hb2
        replace c1 := cl_below c1 hb2
        go_wp2_with fail
        refine (sdepth_calls (ssize t + 1) t A c _ S (Nat.lt_succ_self _) h2 (hr.below hB2)).use fun w3 hb3 => ?_
        replace hB2 := bl_self hB2 hb3
        go_wp2_with fail
        go_ret
        exact ⟨by rw [(Hw.out 0).2 (by rw [Hf.out, if_neg (by simp), if_neg (by omega)])]; rfl, hB2⟩
      · go_enter Try.func15, Try.ntmps15
        go_wp2_with fail
        refine Ho.out.use fun w1 hb1 => ?_
        rw [Hf.out]
        obtain ⟨c0, c1⟩ := bx2 (bk_below hk2 hb1)
        replace hB2 := bl_self hB2 hb1
        go_wp2_with fail
        refine (sSize_calls (ssize t + 1) t A c _ S (Nat.lt_succ_self _) h2 (hr.below hB2)).use fun w2 hb2 => ?_
        replace hB2 := bl_self hB2 hb2
        replace c0 := cl_below c0 hb2
        replace c1 := cl_below c1 hb2
        go_wp2_with fail
        refine (sdepth_calls (ssize t + 1) t A c _ S (Nat.lt_succ_self _) h2 (hr.below hB2)).use fun w3 hb3 => ?_
        replace hB2 := bl_self hB2 hb3
        go_wp2_with fail
        go_ret
        exact ⟨by rw [(Hw.out 2).2 (by rw [Hf.out, if_neg (by simp), if_pos (by omega)])]; rfl, hB2⟩
    · go_enter Try.func15, Try.ntmps15
      go_wp2_with fail
      refine Ho.out.use fun w1 hb1 => ?_
      rw [Hf.out]
      obtain ⟨c0, c1⟩ := bx2 (bk_below hk2 hb1)
      replace hB2 := bl_self hB2 hb1
      go_wp2_with fail
      refine (sSize_calls (ssize t + 1) t A c _ S (Nat.lt_succ_self _) h2 (hr.below hB2)).use fun w2 hb2 => ?_
      replace hB2 := bl_self hB2 hb2
      go_wp2_with fail
      go_ret
      exact ⟨by rw [(Hw.out 2).2 (by rw [Hf.out, if_neg (by simp), if_pos (by omega)])]; rfl, hB2⟩
theorem sOrder_calls (t : Sm) (A : Option Addr) (c : Nat) (S : Nat → Prop) (w : World) (h2 : ssize t < 1000000000) (hr : Rd smK w S A t.args) :
    Giv Try.prog 34 #[smV t A c] w (.int .i64 (if swfE t = 0 then sord t else 0)) := by
  have hB := bl_new w (.cells (smB t A c) 25)
  have hk := bk_new w (.cells (smB t A c) 25)
  have Hw := Lib.hid (sWellFormed_calls t A c S _ h2 (hr.below hB))
  by_cases h0 : swfE t = 0
  · have H0 := Lib.hid h0
    clear h0
    go_enter Try.func34, Try.ntmps34
    go_wp2_with fail
    refine Hw.out.use fun w1 hb1 => ?_
    rw [H0.out]
    obtain ⟨c0, c1⟩ := bx2 (bk_below hk hb1)
    replace hB := bl_self hB hb1
    go_wp2_with fail
    refine (sorder_calls (ssize t + 1) t A c _ S (Nat.lt_succ_self _) h2 (hr.below hB)).use fun w2 hb2 => ?_
    go_wp2_with fail
    go_ret
    exact ⟨rfl, bl_self hB hb2⟩
  · have h0' : (swfE t != 0) = true := by simpa using h0
    have H0 := Lib.hid h0
    go_enter Try.func34, Try.ntmps34
    go_wp2_with fail
    refine Hw.out.use fun w1 hb1 => ?_
    go_wp2_with fail
    go_ret
    exact ⟨rfl, bl_self hB hb1⟩

theorem sameSs_len : ∀ (a b : List Sm), sameSs a b = true → a.length = b.length
  | [], [], _ => rfl
  | [], _ :: _, h => by simp [sameSs] at h
  | _ :: _, [], h => by simp [sameSs] at h
  | t :: r, u :: s, h => by simp only [sameSs, Bool.and_eq_true] at h; simp [sameSs_len r s h.2]
theorem sameSs_take (a b : List Sm) (h : a.length = b.length) (m : Nat) (hm : m < a.length) : sameSs (a.take (m + 1)) (b.take (m + 1)) = (sameSs (a.take m) (b.take m) && sameS a[m] (b[m]'(by omega))) := by
  induction m generalizing a b with
  | zero =>
    cases a with
    | nil => simp at hm
    | cons t r =>
      cases b with
      | nil => simp at h
      | cons u s => simp [sameSs]
  | succ m ih =>
    cases a with
    | nil => simp at hm
    | cons t r =>
      cases b with
      | nil => simp at h
      | cons u s =>
        have := ih r s (by simpa using h) (by simpa using hm)
        simp only [List.take_succ_cons, sameSs, List.getElem_cons_succ, this, Bool.and_assoc]
theorem sameSs_pre (a b : List Sm) (h : a.length = b.length) (m : Nat) (hm : m < a.length) (hd : sameS a[m] (b[m]'(by omega)) = false) : sameSs a b = false := by
  induction m generalizing a b with
  | zero =>
    cases a with
    | nil => simp at hm
    | cons t r =>
      cases b with
      | nil => simp at h
      | cons u s => simp only [List.getElem_cons_zero] at hd; simp [sameSs, hd]
  | succ m ih =>
    cases a with
    | nil => simp at hm
    | cons t r =>
      cases b with
      | nil => simp at h
      | cons u s =>
        have := ih r s (by simpa using h) (by simpa using hm) (by simpa using hd)
        simp [sameSs, this]
theorem sSame_calls (n : Nat) : ∀ (t u : Sm) (A A' : Option Addr) (c c' : Nat) (w : World) (S S' : Nat → Prop), ssize t < n → ssize t < 1000000000 → ssize u < 1000000000 → Rd smK w S A t.args → Rd smK w S' A' u.args →
    Giv Try.prog 33 #[smV t A c, smV u A' c'] w (.bool (sameS t u)) := by
  induction n with
  | zero => intro t u A A' c c' w S S' h; omega
  | succ n ih =>
  intro t u A A' c c' w S S' h1 h2 h2' hr hr'
  have hts := ssize_eq t
  have hus := ssize_eq u
  have H := Lib.hid ih
  clear ih
  have key : ∀ w', Below w.heap.size w w' → Giv Try.prog 69 #[.slice A t.args.length c, .slice A' u.args.length c', .func (.func 33) #[] #[]] w' (.bool (sameSs t.args u.args)) := by
    intro w' hw
    have hla := len_le_ssizes t.args
    have hlb := len_le_ssizes u.args
    replace hr := hr.below hw
    replace hr' := hr'.below hw
    clear hw
    by_cases hl : t.args.length = u.args.length
    · have hl' : ((t.args.length : Int) != (u.args.length : Int)) = false := by simp [hl]
      have Hl := Lib.hid hl
      clear hl
      go_enter Try.func69, Try.ntmps69
      go_wp2_with fail
      go_loopw [17] (fun i w1 => ∃ m : Nat, m ≤ t.args.length ∧ i = .int .i64 m ∧ Hid (sameSs (t.args.take m) (u.args.take m) = true) ∧ Below w'.heap.size w' w1) (fun i _ => t.args.length - (intOf i).toNat)
      case atStart => exact ⟨0, by omega, by simp, Lib.hid (by simp [sameSs]), Below.refl _ _⟩
      case round =>
        obtain ⟨m, hm, rfl, Hm, hB⟩ := hrel
        by_cases hlt : m < t.args.length
        · have hlt' : m < u.args.length := by have := Hl.out; omega
          obtain ⟨b, o, A1, c1, rfl, _, e0, e1, hl1, hr1⟩ := (hr.below hB).sm m hlt
          obtain ⟨b2, o2, A2, c2, rfl, _, f0, f1, hl2, hr2⟩ := (hr'.below hB).sm m hlt'
          have hm1 := ssizes_mem t.args m hlt
          have hm2 := ssizes_mem u.args m hlt'
          have f0' := cl_below f0 (bl_new _ (.cells (smB t.args[m] A1 c1) 25))
          have f1' := cl_below f1 (bl_new _ (.cells (smB t.args[m] A1 c1) 25))
          have hB2 := bl_alloc (bl_alloc hB (.cells (smB t.args[m] A1 c1) 25)) (.cells (smB u.args[m] A2 c2) 25)
          cases hs : sameS t.args[m] u.args[m]
          · have Hs := Lib.hid hs
            go_wp2_with fail
            refine (H.out t.args[m] u.args[m] A1 A2 c1 c2 _ S S' (by omega) (by omega) (by omega) ((hr1.below (bl_new _ _)).below (bl_new _ _)) ((hr2.below (bl_new _ _)).below (bl_new _ _))).use fun w2 hb => ?_
            rw [hs]
            go_wp2_with fail
            go_ret
            exact ⟨by rw [sameSs_pre _ _ Hl.out m hlt Hs.out]; rfl, bl_self hB2 hb⟩
          · have Hs := Lib.hid hs
            go_wp2_with fail
            refine (H.out t.args[m] u.args[m] A1 A2 c1 c2 _ S S' (by omega) (by omega) (by omega) ((hr1.below (bl_new _ _)).below (bl_new _ _)) ((hr2.below (bl_new _ _)).below (bl_new _ _))).use fun w2 hb => ?_
            rw [hs]
            go_wp2_with fail
            go_roundw
            case rel => exact ⟨m + 1, by omega, by go_num, Lib.hid (by rw [sameSs_take _ _ Hl.out m hlt, Hm.out, Hs.out]; rfl), bl_self hB2 hb⟩
            case measure => simp [intOf]; omega
        · obtain rfl : m = t.args.length := by omega
          go_wp2_with fail
          go_ret
          refine ⟨?_, hB⟩
          have := Hm.out
          rw [List.take_length, Hl.out, List.take_length] at this
          rw [this]
          rfl
    · have hl' : ((t.args.length : Int) != (u.args.length : Int)) = true := by simp; omega
      have Hl := Lib.hid hl
      clear hl
      go_enter Try.func69, Try.ntmps69
      go_wp2_with fail
      go_ret
      refine ⟨?_, Below.refl _ _⟩
      have : sameSs t.args u.args = false := by
        cases h : sameSs t.args u.args
        · rfl
        · exact absurd (sameSs_len _ _ h) Hl.out
      rw [this]
      rfl
  have HK := Lib.hid key
  clear key
  have hB2 := bl_alloc (bl_new w (.cells (smB t A c) 25)) (.cells (smB u A' c') 25)
  have He := Lib.hid (sameS_eq t u)
  cases hf : (t.fam.toList == u.fam.toList)
  · go_enter Try.func33, Try.ntmps33
    go_wp2_with fail
    go_ret
    exact ⟨by rw [He.out, hf]; rfl, hB2⟩
  · go_enter Try.func33, Try.ntmps33
    go_wp2_with fail
    refine (HK.out _ hB2).use fun w1 hb1 => ?_
    go_wp2_with fail
    go_ret
    exact ⟨by rw [He.out, hf]; simp, bl_self hB2 hb1⟩
end Go.Proofs.Ytolooomphmcphaa
