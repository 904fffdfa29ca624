/- The program's package term: what object, typed, kind, WellFormed, Size, Depth .. answer. -/
import Derived.Test.YtolooomphmcphaaSp
namespace Go.Proofs.Ytolooomphmcphaa
open Go.RowKit

theorem bound_calls (t : Tm) (A : Option Addr) (c : Nat) (n : Int) (w : World) : Giv Try.prog 88 #[tmV t A c, .int .i64 n] w (.bool (boundB t n)) := by
  go_enter Try.func88, Try.ntmps88
  go_wp2_with (go_at_call 37; refine (isName_calls _ _).use fun w1 hb1 => ?_)
  all_goals (go_ret; exact ⟨by simp [boundB, okName, *], by first | exact bl_new _ _ | exact bl_self (bl_new _ _) hb1⟩)

/-- object answers for all terms of fewer than n nodes -/
def ObjOK (n : Nat) : Prop := ∀ (t : Tm) (A : Option Addr) (c : Nat) (w : World) (S : Nat → Prop), tsize t < n → tsize t < 1000000000 → Rd tmK w S A t.args →
  Giv Try.prog 57 #[tmV t A c] w (.bool (objB t))

theorem all1_calls {n : Nat} (h : ObjOK n) (t : Tm) (A : Option Addr) (c : Nat) (w : World) (S : Nat → Prop) (h1 : tsize t < n) (h2 : tsize t < 1000000000) (hr : Rd tmK w S A t.args) :
    Giv Try.prog 101 #[tmV t A c] w (.bool (!objB t)) := by
  have ho := h t A c (w.alloc (.cells (tmB t A c) 33)) S h1 h2 (hr.below (bl_new _ _))
  have Ho := Lib.hid ho
  clear ho
  go_enter Try.func101, Try.ntmps101
  go_wp2_with fail
  refine Ho.out.use fun w1 hb1 => ?_
  go_wp2_with fail
  go_ret
  exact ⟨rfl, bl_self (bl_new _ _) hb1⟩

theorem indexAll_calls {n : Nat} (h : ObjOK n) (a : List Tm) (A : Option Addr) (c : Nat) (w : World) (S : Nat → Prop) (h1 : tsizes a < n) (h2 : tsizes a < 1000000000) (hr : Rd tmK w S A a) :
    Calls Try.prog 80 #[.slice A a.length c, .func (.func 101) #[] #[]] w fun e w' => ∃ v : Int, e = .returned (.int .i64 v) ∧ decide (0 ≤ v) = (!objBs a) ∧ Below w.heap.size w w' := by
  have hla := len_le_tsizes a
  have H := Lib.hid h
  clear h
  go_enter Try.func80, Try.ntmps80
  go_wp2_with fail
  go_loopw [8] (fun i w' => ∃ m : Nat, m ≤ a.length ∧ i = .int .i64 m ∧ objBs (a.take m) = true ∧ Below w.heap.size w w') (fun i _ => a.length - (intOf i).toNat)
  case atStart => exact ⟨0, by omega, rfl, by simp [objBs], Below.refl _ _⟩
  case round =>
    obtain ⟨m, hm, rfl, hall, hB⟩ := hrel
    have Hall := Lib.hid hall
    clear hall
    by_cases hlt : m < a.length
    · obtain ⟨b, o, A', c', rfl, _, e0, e1, e2, e3, hl', hr'⟩ := (hr.below hB).tm m hlt
      have hm1 := tsizes_mem a m hlt
      cases ho : objB a[m]
      · have Ho := Lib.hid ho
        go_wp2_with fail
        refine (all1_calls H.out a[m] A' c' _ S (by omega) (by omega) hr').use fun w1 hb1 => ?_
        rw [ho]
        go_wp2_with fail
        go_ret
        refine ⟨m, rfl, ?_, bl_self hB hb1⟩
        have : objBs a = false := by
          rw [objBs_iff, List.all_eq_false]
          exact ⟨a[m], List.getElem_mem hlt, by rw [Ho.out]; simp⟩
        rw [this]
        simp
      · have Ho := Lib.hid ho
        go_wp2_with fail
        refine (all1_calls H.out a[m] A' c' _ S (by omega) (by omega) hr').use fun w1 hb1 => ?_
        rw [ho]
        go_wp2_with fail
        go_roundw
        case rel => exact ⟨m + 1, by omega, by go_num, by
          have := Hall.out
          rw [objBs_iff] at this ⊢
          rw [List.take_succ_eq_append_getElem hlt, List.all_append, this]
          simp [Ho.out], bl_self hB hb1⟩
        case measure => simp [intOf]; omega
    · obtain rfl : m = a.length := by omega
      go_wp2_with fail
      go_ret
      refine ⟨-1, rfl, ?_, hB⟩
      have := Hall.out
      rw [List.take_length] at this
      rw [this]
      rfl
theorem containsAll_calls {n : Nat} (h : ObjOK n) (a : List Tm) (A : Option Addr) (c : Nat) (w : World) (S : Nat → Prop) (h1 : tsizes a < n) (h2 : tsizes a < 1000000000) (hr : Rd tmK w S A a) :
    Giv Try.prog 47 #[.slice A a.length c, .func (.func 101) #[] #[]] w (.bool (!objBs a)) := by
  have hi := indexAll_calls h a A c w S h1 h2 hr
  have Hi := Lib.hid hi
  clear hi h
  go_enter Try.func47, Try.ntmps47
  go_wp2_with fail
  refine Hi.out.mono ?_
  rintro e w1 ⟨v, rfl, hv, hb⟩
  have Hv := Lib.hid hv
  clear hv
  go_wp2_with fail
  go_ret
  exact ⟨by rw [← Hv.out]; rfl, hb⟩
theorem all_calls {n : Nat} (h : ObjOK n) (t : Tm) (A : Option Addr) (c : Nat) (w : World) (S : Nat → Prop) (h1 : tsizes t.args < n) (h2 : tsizes t.args < 1000000000) (hr : Rd tmK w S A t.args) :
    Giv Try.prog 90 #[tmV t A c] w (.bool (objBs t.args)) := by
  have hc := containsAll_calls h t.args A c (w.alloc (.cells (tmB t A c) 33)) S h1 h2 (hr.below (bl_new _ _))
  have Hc := Lib.hid hc
  clear hc h
  go_enter Try.func90, Try.ntmps90
  go_wp2_with fail
  refine Hc.out.use fun w1 hb1 => ?_
  go_wp2_with fail
  go_ret
  exact ⟨by simp, bl_self (bl_new _ _) hb1⟩
theorem atom_calls {n : Nat} (h : ObjOK n) (t : Tm) (A : Option Addr) (c : Nat) (w : World) (S : Nat → Prop) (h1 : tsizes t.args < n) (h2 : tsizes t.args < 1000000000) (hr : Rd tmK w S A t.args) :
    Giv Try.prog 89 #[tmV t A c] w (.bool (atomB t)) := by
  have H := Lib.hid h
  clear h
  go_enter Try.func89, Try.ntmps89
  go_wp2_with (first | (go_at_call 37; refine (isName_calls _ _).use fun w1 hb1 => ?_; obtain ⟨c0, c1, c2, c3⟩ := bx4 (bk_below (bk_new w _) hb1)) | (go_at_call 90; refine (all_calls H.out (.mk _ _ _ t.args) A c _ S h1 h2 (hr.below (bl_self (bl_new _ _) hb1))).use fun w2 hb2 => ?_))
  all_goals (go_ret; exact ⟨by simp [atomB, Tm.args, *], by first | exact bl_new _ _ | exact bl_self (bl_new _ _) hb1 | exact bl_self (bl_self (bl_new _ _) hb1) hb2⟩)

theorem objB_lam {t : Tm} (h3 : (t.kind == 3) = true) (hb : boundB t 1 = true) : objB t = objBs t.args := by
  have hk : t.kind = 3 := by simpa using h3
  rw [objB_eq]
  simp [atomB, hk, hb]
theorem okName_nil (s : ByteArray) (h : s.toList = []) : okName s = true := by simp [okName, h]
theorem object_calls : ∀ n, ObjOK n := by
  intro n
  induction n with
  | zero => intro t A c w S h; omega
  | succ n ih =>
  intro t A c w S h1 h2 hr
  have he := tsize_eq t
  have hg1 : tsizes t.args < n := by omega
  have hg2 : tsizes t.args < 1000000000 := by omega
  clear he
  have H := Lib.hid ih
  clear ih
  cases h3 : (t.kind == 3)
  · go_enter Try.func57, Try.ntmps57
    go_wp2_with (first | (go_at_call 89; refine (atom_calls H.out t A c _ S hg1 hg2 (hr.below (bl_new _ _))).use fun w1 hb1 => ?_) | (go_at_call 90; refine (all_calls H.out t A c _ S hg1 hg2 (hr.below (bl_new _ _))).use fun w1 hb1 => ?_))
    all_goals (go_ret; exact ⟨by rw [objB_eq]; simp_all [atomB] <;> (intros; omega), by first | exact bl_new _ _ | exact bl_self (bl_new _ _) hb1⟩)
  · cases hb : boundB t 1
    · have Hb := Lib.hid hb
      clear hb
      go_enter Try.func57, Try.ntmps57
      go_wp2_with (go_at_call 88; refine (bound_calls t A c 1 _).use fun w1 hb1 => ?_; rw [Hb.out])
      go_ret
      have hk : t.kind = 3 := by simpa using h3
      exact ⟨by rw [objB_eq]; simp [atomB, hk, Hb.out], bl_self (bl_new _ _) hb1⟩
    · have Hb := Lib.hid hb
      have hl : t.args.length = 1 := by simp [boundB] at hb; omega
      clear hb
      have hlt : 0 < t.args.length := by omega
      have hs0 := tsizes_mem t.args 0 hlt
      have hall := (objB_lam h3 Hb.out).trans (objBs_one hl hlt)
      have Hall := Lib.hid hall
      clear hl hall
      go_enter Try.func57, Try.ntmps57
      go_wp2_with fail
      refine (bound_calls t A c 1 _).use fun w1 hb1 => ?_
      rw [Hb.out]
      obtain ⟨c0, c1, c2, c3⟩ := bx4 (bk_below (bk_new w _) hb1)
      obtain ⟨b, o, A', c', rfl, _, e0, e1, e2, e3, hl', hr'⟩ := (hr.below (bl_self (bl_new _ _) hb1)).tm 0 hlt
      simp only [Nat.zero_mul, Nat.add_zero] at e0 e1 e2 e3
      go_wp2_with fail
      refine (H.out t.args[0] A' c' _ S (by omega) (by omega) hr').use fun w2 hb2 => ?_
      go_wp2_with fail
      go_ret
      exact ⟨by rw [Hall.out]; rfl, bl_self (bl_self (bl_new _ _) hb1) hb2⟩
end Go.Proofs.Ytolooomphmcphaa
