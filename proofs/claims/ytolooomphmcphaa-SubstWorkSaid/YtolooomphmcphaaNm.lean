/- Which texts are names: what the program's functions (token.IsName and what it calls) and the reference's (lfcheckref01.IsName) answer: one Lean function for both. -/
import Derived.Test.YtolooomphmcphaaProg
import Derived.Test.YtolooomphmcphaaK
import Derived.Lib.Bytealg
import Derived.Laws.Externs
namespace Go.Proofs.Ytolooomphmcphaa
open Go.RowKit

abbrev Giv (P : Program) (f : FuncId) (args : Array Value) (w : World) (v : Value) : Prop := Calls P f args w fun e w' => e = .returned v ∧ Below w.heap.size w w'
theorem Giv.use {P : Program} {f : FuncId} {args : Array Value} {w : World} {v : Value} {R : Ending → World → Prop} (h : Giv P f args w v) (k : ∀ w', Below w.heap.size w w' → R (.returned v) w') : Calls P f args w R :=
  h.mono (by rintro e w' ⟨rfl, hb⟩; exact k w' hb)

def spcB (c : Int) : Bool := c == 40 || c == 41 || c == 91 || c == 93 || c == 123 || c == 125 || c == 58 || c == 46
def nbB (c : Int) : Bool := decide (33 ≤ c) && decide (c ≤ 126) && !spcB c && c != 37
def resvB (s : ByteArray) : Bool := s.toList == [45, 62] || s.toList == [60, 45] || s.toList == [61] || s.toList == [95] || s.toList == [116, 121, 112, 101]
theorem idx9 (c : Int) (h0 : 0 ≤ c) (h1 : c ≤ 255) : decide (Lib.indexByte [40, 41, 91, 93, 123, 125, 58, 46, 37] c.toNat.toUInt8 < 0) = (!spcB c && c != 37) := by
  have h : ∀ n : Fin 256, decide (Lib.indexByte [40, 41, 91, 93, 123, 125, 58, 46, 37] ((n.val : Int)).toNat.toUInt8 < 0) = (!spcB (n.val : Int) && (n.val : Int) != 37) := by decide +kernel
  obtain ⟨n, rfl⟩ := Int.eq_ofNat_of_zero_le h0
  exact h ⟨n, by omega⟩

theorem special_calls (c : Int) (w : World) (_h0 : 0 ≤ c) (_h1 : c ≤ 255) : Giv Try.prog 106 #[.int .u8 c] w (.bool (spcB c)) := by
  go_enter Try.func106, Try.ntmps106
  go_wp2_with fail
  all_goals (go_ret; exact ⟨by simp [spcB, *], Below.refl _ _⟩)
theorem refNameByte_calls (c : Int) (w : World) (h0 : 0 ≤ c) (h1 : c ≤ 255) : Giv Try.prog 104 #[.int .u8 c] w (.bool (nbB c)) := by
  by_cases h2 : 33 ≤ c
  · by_cases h3 : c ≤ 126
    · cases hs : spcB c
      · go_enter Try.func104, Try.ntmps104
        go_wp2_with fail
        refine (special_calls c w h0 h1).use fun w1 hb => ?_
        rw [hs]
        go_wp2_with fail
        go_ret
        exact ⟨by simp [nbB, h2, h3, hs], hb⟩
      · go_enter Try.func104, Try.ntmps104
        go_wp2_with fail
        refine (special_calls c w h0 h1).use fun w1 hb => ?_
        rw [hs]
        go_wp2_with fail
        go_ret
        exact ⟨by simp [nbB, hs], hb⟩
    · go_enter Try.func104, Try.ntmps104
      go_wp2_with fail
      go_ret
      exact ⟨by simp [nbB]; intros; omega, Below.refl _ _⟩
  · go_enter Try.func104, Try.ntmps104
    go_wp2_with fail
    go_ret
    exact ⟨by simp [nbB]; intros; omega, Below.refl _ _⟩
theorem indexByte_calls (s : ByteArray) (c : Int) (w : World) : Giv Try.prog 94 #[.string s, .int .u8 c] w (.int .i64 (Lib.indexByte s.data.toList c.toNat.toUInt8)) := by
  have hx : ∀ (s : ByteArray) (c : Int) (w : World), (callFunc 105 #[.string s, .int .u8 c]).run Try.prog w = .ok (.value (.int .i64 (Lib.indexByte s.data.toList c.toNat.toUInt8))) w := by
    intro s c w
    rw [run_callFunc_extern Try.func105 (by kernel_rfl) (by kernel_rfl) (by kernel_rfl) (e := Extern.BytealgIndexByte.indexByte) (by kernel_rfl), Lib.run_indexByteString]
    rfl
  go_enter Try.func94, Try.ntmps94
  go_wp2
  go_ret
  exact ⟨rfl, Below.refl _ _⟩
theorem nameByte_calls (c : Int) (w : World) (h0 : 0 ≤ c) (h1 : c ≤ 255) : Giv Try.prog 72 #[.int .u8 c] w (.bool (nbB c)) := by
  by_cases h2 : 32 < c
  · by_cases h3 : c < 127
    · have h9 := idx9 c h0 h1
      generalize hi : Lib.indexByte [40, 41, 91, 93, 123, 125, 58, 46, 37] c.toNat.toUInt8 = x at h9
      have hI : Giv Try.prog 94 #[.string ⟨#[40, 41, 91, 93, 123, 125, 58, 46, 37]⟩, .int .u8 c] w (.int .i64 x) := hi ▸ indexByte_calls _ c w
      clear hi
      have H9 := Lib.hid h9
      clear h9
      go_enter Try.func72, Try.ntmps72
      go_wp2_with fail
      refine hI.use fun w1 hb => ?_
      go_wp2_with fail
      go_ret
      exact ⟨by rw [H9.out]; simp [nbB, show 33 ≤ c from by omega, show c ≤ 126 from by omega], hb⟩
    · go_enter Try.func72, Try.ntmps72
      go_wp2_with fail
      go_ret
      exact ⟨by simp [nbB]; intros; omega, Below.refl _ _⟩
  · go_enter Try.func72, Try.ntmps72
    go_wp2_with fail
    go_ret
    exact ⟨by simp [nbB]; intros; omega, Below.refl _ _⟩
theorem reserved_calls (s : ByteArray) (w : World) : Giv Try.prog 73 #[.string s] w (.bool (resvB s)) := by
  go_enter Try.func73, Try.ntmps73
  go_wp2_with fail
  all_goals first | (exfalso; simp_all; done) | (go_ret; exact ⟨by simp [resvB, *], Below.refl _ _⟩)
theorem refReserved_calls (s : ByteArray) (w : World) : Giv Try.prog 103 #[.string s] w (.bool (resvB s)) := by
  go_enter Try.func103, Try.ntmps103
  go_wp2_with fail
  all_goals first | (exfalso; simp_all; done) | (go_ret; exact ⟨by simp [resvB, *], Below.refl _ _⟩)

/-- how many bytes at the begin of a text are bytes of names -/
def nbRun (l : List UInt8) : Nat := (l.takeWhile fun b => nbB (b.toNat : Int)).length
theorem nbRun_stop : ∀ (l : List UInt8) (m : Nat) (h : m < l.length), (∀ i (hi : i < m), nbB (l[i].toNat : Int) = true) → nbB (l[m].toNat : Int) = false → nbRun l = m
  | [], m, h, _, _ => by simp at h
  | b :: r, 0, _, _, h1 => by
    have : nbB (b.toNat : Int) = false := h1
    simp [nbRun, this]
  | b :: r, m + 1, h, h0, h1 => by
    have hb : nbB (b.toNat : Int) = true := h0 0 (by omega)
    have := nbRun_stop r m (by simpa using h) (fun i hi => h0 (i + 1) (by omega)) h1
    simp only [nbRun] at this ⊢
    rw [List.takeWhile_cons, if_pos hb, List.length_cons, this]
theorem nbRun_all : ∀ (l : List UInt8), (∀ i (hi : i < l.length), nbB (l[i].toNat : Int) = true) → nbRun l = l.length
  | [], _ => rfl
  | b :: r, h => by
    have hb : nbB (b.toNat : Int) = true := h 0 (by simp)
    have := nbRun_all r (fun i hi => h (i + 1) (by simpa using hi))
    simp only [nbRun] at this ⊢
    rw [List.takeWhile_cons, if_pos hb, List.length_cons, this]
    rfl
theorem nbRun_iff (l : List UInt8) : (nbRun l == l.length) = l.all fun b => nbB (b.toNat : Int) := by
  induction l with
  | nil => rfl
  | cons b r ih =>
    cases hb : nbB (b.toNat : Int)
    · simp [nbRun, hb]
    · simp only [List.all_cons, hb, Bool.true_and, ← ih]
      simp [nbRun, hb]
theorem run_calls (s : ByteArray) (w : World) (hs : s.size ≤ 140737488351232) : Giv Try.prog 71 #[.string s, .int .i64 0, .func (.func 72) #[] #[]] w (.int .i64 (nbRun s.data.toList)) := by
  go_enter Try.func71, Try.ntmps71
  go_wp2_with fail
  go_loopw [1] (fun i w' => ∃ m : Nat, m ≤ s.size ∧ i = .int .i64 m ∧ (∀ j (hj : j < m) (hl : j < s.data.toList.length), nbB (s.data.toList[j].toNat : Int) = true) ∧ Below w.heap.size w w') (fun i _ => s.size - (intOf i).toNat)
  case atStart => exact ⟨0, by omega, rfl, fun j hj => by omega, Below.refl _ _⟩
  case round =>
    obtain ⟨m, hm, rfl, hall, hB⟩ := hrel
    have Hall := Lib.hid hall
    clear hall
    by_cases hlt : m < s.size
    · have hl : m < s.data.toList.length := hlt
      have hb0 : (0 : Int) ≤ (s[m].toNat : Int) := by omega
      have hb1 : (s[m].toNat : Int) ≤ 255 := by have := s[m].toNat_lt; omega
      cases hnb : nbB (s[m].toNat : Int)
      · go_wp2_with fail
        refine (nameByte_calls _ _ hb0 hb1).use fun w1 hb => ?_
        rw [hnb]
        go_wp2_with fail
        go_ret
        exact ⟨by rw [nbRun_stop _ m hl (fun i hi => Hall.out i hi (by omega)) hnb]; rfl, bl_self hB hb⟩
      · go_wp2_with fail
        refine (nameByte_calls _ _ hb0 hb1).use fun w1 hb => ?_
        rw [hnb]
        go_wp2_with fail
        go_roundw
        case rel => exact ⟨m + 1, by omega, by go_num, fun j hj hl2 => (Nat.lt_succ_iff_lt_or_eq.1 hj).elim (fun h => Hall.out j h hl2) (fun h => by subst h; exact hnb), bl_self hB hb⟩
        case measure => simp [intOf]; omega
    · obtain rfl : m = s.size := by omega
      go_wp2_with fail
      go_ret
      exact ⟨by rw [nbRun_all _ fun i hi => Hall.out i hi hi]; rfl, hB⟩

def isName (s : ByteArray) : Bool := decide (s.size ≠ 0) && decide (s.size ≤ 64) && (s.data.toList.all fun b => nbB (b.toNat : Int)) && !resvB s && !(s.data.toList.head? == some 64)
theorem isName_empty (s : ByteArray) (h : s.size = 0) : isName s = false := by simp [isName, h]
theorem isName_long (s : ByteArray) (h : ¬ s.size ≤ 64) : isName s = false := by simp [isName, h]
theorem isName_all (s : ByteArray) (h : (s.data.toList.all fun b => nbB (b.toNat : Int)) = false) : isName s = false := by simp [isName, h]
theorem isName_resv (s : ByteArray) (h : resvB s = true) : isName s = false := by simp [isName, h]
theorem head_at (s : ByteArray) (h : 0 < s.size) : (s.data.toList.head? == some 64) = (((s[0]'h).toNat : Int) == 64) := by
  obtain ⟨⟨l⟩⟩ := s
  cases l with
  | nil => simp [ByteArray.size] at h
  | cons b r =>
    have e : ((ByteArray.mk (b :: r).toArray)[0]'h) = b := rfl
    rw [e, Bool.eq_iff_iff]
    simp only [List.head?_cons, beq_iff_eq, Option.some.injEq]
    constructor
    · rintro rfl; rfl
    · intro hb
      have : b.toNat = 64 := by omega
      exact UInt8.toNat_inj.1 this
theorem isName_at (s : ByteArray) (h0 : 0 < s.size) (h : (((s[0]'h0).toNat : Int) == 64) = true) : isName s = false := by
  rw [← head_at s h0] at h
  simp [isName, h]
theorem isName_yes (s : ByteArray) (h0 : 0 < s.size) (h1 : s.size ≤ 64) (h2 : (s.data.toList.all fun b => nbB (b.toNat : Int)) = true) (h3 : resvB s = false) (h4 : (((s[0]'h0).toNat : Int) == 64) = false) : isName s = true := by
  rw [← head_at s h0] at h4
  simp [isName, h1, h2, h3, h4, show s.size ≠ 0 from by omega]
theorem nonempty_of (s : ByteArray) (h0 : s.size ≠ 0) : s.toList.isEmpty = false := by
  rw [ByteArray.toList_eq]
  obtain ⟨⟨l⟩⟩ := s
  cases l with
  | nil => exact absurd rfl h0
  | cons b r => rfl
set_option maxHeartbeats 800000 in
theorem isName_calls (s : ByteArray) (w : World) : Giv Try.prog 37 #[.string s] w (.bool (isName s)) := by
  by_cases h0 : s.size = 0
  · have h1 := isName_empty s h0
    obtain rfl : s = ⟨#[]⟩ := by
      obtain ⟨⟨l⟩⟩ := s
      have : l = [] := List.eq_nil_of_length_eq_zero h0
      rw [this]
    have H := Lib.hid h1
    clear h1 h0
    go_enter Try.func37, Try.ntmps37
    go_wp2_with fail
    go_ret
    exact ⟨by rw [H.out]; rfl, Below.refl _ _⟩
  · have hne := nonempty_of s h0
    have hp : 0 < s.size := by omega
    by_cases h1 : s.size ≤ 64
    · have hrun := run_calls s w (by omega)
      cases hall : s.data.toList.all fun b => nbB (b.toNat : Int)
      · have H := Lib.hid (isName_all s hall)
        have hb : ((nbRun s.data.toList : Int) == (s.size : Int)) = false := by
          rw [← nbRun_iff] at hall
          rw [beq_eq_false_iff_ne] at hall ⊢
          intro h
          exact hall (by have : s.data.toList.length = s.size := rfl; omega)
        clear hall
        go_enter Try.func37, Try.ntmps37
        go_wp2_with fail
        refine hrun.use fun w1 hb1 => ?_
        go_wp2_with fail
        go_ret
        exact ⟨by rw [H.out]; rfl, hb1⟩
      · have Hall := Lib.hid hall
        have hb : ((nbRun s.data.toList : Int) == (s.size : Int)) = true := by
          rw [← nbRun_iff] at hall
          rw [beq_iff_eq] at hall ⊢
          have : s.data.toList.length = s.size := rfl
          omega
        clear hall
        cases hr : resvB s
        · have Hr := Lib.hid hr
          have hr2 : ∀ w, Giv Try.prog 73 #[.string s] w (.bool false) := fun w => hr ▸ reserved_calls s w
          clear hr
          have Hr2 := Lib.hid hr2
          clear hr2
          cases h4 : (((s[0]'hp).toNat : Int) == 64)
          · have H4 := Lib.hid h4
            have h5 : (((s[0]'hp).toNat : Int) != 64) = true := by rw [bne, h4]; rfl
            clear h4
            go_enter Try.func37, Try.ntmps37
            go_wp2_with fail
            refine hrun.use fun w1 hb1 => ?_
            go_wp2_with fail
            refine (Hr2.out _).use fun w2 hb2 => ?_
            go_wp2_with fail
            go_ret
            exact ⟨by rw [isName_yes s hp h1 Hall.out Hr.out H4.out]; rfl, bl_self hb1 hb2⟩
          · have H4 := Lib.hid h4
            have h5 : (((s[0]'hp).toNat : Int) != 64) = false := by rw [bne, h4]; rfl
            clear h4
            go_enter Try.func37, Try.ntmps37
            go_wp2_with fail
            refine hrun.use fun w1 hb1 => ?_
            go_wp2_with fail
            refine (Hr2.out _).use fun w2 hb2 => ?_
            go_wp2_with fail
            go_ret
            exact ⟨by rw [isName_at s hp H4.out]; rfl, bl_self hb1 hb2⟩
        · have Hr := Lib.hid hr
          have hr2 : ∀ w, Giv Try.prog 73 #[.string s] w (.bool true) := fun w => hr ▸ reserved_calls s w
          clear hr
          have Hr2 := Lib.hid hr2
          clear hr2
          go_enter Try.func37, Try.ntmps37
          go_wp2_with fail
          refine hrun.use fun w1 hb1 => ?_
          go_wp2_with fail
          refine (Hr2.out _).use fun w2 hb2 => ?_
          go_wp2_with fail
          go_ret
          exact ⟨by rw [isName_resv s Hr.out]; rfl, bl_self hb1 hb2⟩
    · have H := Lib.hid (isName_long s h1)
      go_enter Try.func37, Try.ntmps37
      go_wp2_with fail
      go_ret
      exact ⟨by rw [H.out]; rfl, Below.refl _ _⟩

set_option maxHeartbeats 800000 in
theorem refIsName_calls (s : ByteArray) (w : World) : Giv Try.prog 100 #[.string s] w (.bool (isName s)) := by
  by_cases h0 : s.size = 0
  · have h1 := isName_empty s h0
    obtain rfl : s = ⟨#[]⟩ := by
      obtain ⟨⟨l⟩⟩ := s
      have : l = [] := List.eq_nil_of_length_eq_zero h0
      rw [this]
    have H := Lib.hid h1
    clear h1 h0
    go_enter Try.func100, Try.ntmps100
    go_wp2_with fail
    go_ret
    exact ⟨by rw [H.out]; rfl, Below.refl _ _⟩
  · have hp : 0 < s.size := by omega
    have hz : ((s.size : Int) == 0) = false := by rw [beq_eq_false_iff_ne]; omega
    by_cases h1 : s.size ≤ 64
    · cases hr : resvB s
      · have Hr := Lib.hid hr
        have hr2 : ∀ w, Giv Try.prog 103 #[.string s] w (.bool false) := fun w => hr ▸ refReserved_calls s w
        clear hr
        have Hr2 := Lib.hid hr2
        clear hr2
        cases h4 : (((s[0]'hp).toNat : Int) == 64)
        · have H4 := Lib.hid h4
          clear h4
          have h5 : (((s[0]'hp).toNat : Int) == 64) = false := H4.out
          go_enter Try.func100, Try.ntmps100
          go_wp2_with fail
          refine (Hr2.out _).use fun w1 hb1 => ?_
          go_wp2_with fail
          go_loopw [3] (fun i w' => ∃ m : Nat, m ≤ s.size ∧ i = .int .i64 m ∧ (∀ j (hj : j < m) (hl : j < s.data.toList.length), nbB (s.data.toList[j].toNat : Int) = true) ∧ Below w.heap.size w w') (fun i _ => s.size - (intOf i).toNat)
          case atStart => exact ⟨0, by omega, rfl, fun j hj => by omega, hb1⟩
          case round =>
            obtain ⟨m, hm, rfl, hall, hB⟩ := hrel
            have Hall := Lib.hid hall
            clear hall
            by_cases hlt : m < s.size
            · have hl : m < s.data.toList.length := hlt
              have hb0 : (0 : Int) ≤ (s[m].toNat : Int) := by omega
              have hb1 : (s[m].toNat : Int) ≤ 255 := by have := s[m].toNat_lt; omega
              cases hnb : nbB (s[m].toNat : Int)
              · have Hnb := Lib.hid hnb
                go_wp2_with fail
                refine (refNameByte_calls _ _ hb0 hb1).use fun w1 hb => ?_
                rw [hnb]
                go_wp2_with fail
                go_ret
                exact ⟨by rw [isName_all s (by
                  rw [List.all_eq_false]
                  exact ⟨s.data.toList[m], List.getElem_mem hl, by rw [show nbB ((s.data.toList[m]).toNat : Int) = false from Hnb.out]; simp⟩)]; rfl, bl_self hB hb⟩
              · go_wp2_with fail
                refine (refNameByte_calls _ _ hb0 hb1).use fun w1 hb => ?_
                rw [hnb]
                go_wp2_with fail
                go_roundw
                case rel => exact ⟨m + 1, by omega, by go_num, fun j hj hl2 => (Nat.lt_succ_iff_lt_or_eq.1 hj).elim (fun h => Hall.out j h hl2) (fun h => by subst h; exact hnb), bl_self hB hb⟩
                case measure => simp [intOf]; omega
            · obtain rfl : m = s.size := by omega
              go_wp2_with fail
              go_ret
              exact ⟨by rw [isName_yes s hp h1 (by
                rw [List.all_eq_true]
                intro b hb
                obtain ⟨i, hi, rfl⟩ := List.mem_iff_getElem.1 hb
                exact Hall.out i hi hi) Hr.out H4.out]; rfl, hB⟩
        · have H4 := Lib.hid h4
          clear h4
          have h5 : (((s[0]'hp).toNat : Int) == 64) = true := H4.out
          go_enter Try.func100, Try.ntmps100
          go_wp2_with fail
          refine (Hr2.out _).use fun w1 hb1 => ?_
          go_wp2_with fail
          go_ret
          exact ⟨by rw [isName_at s hp H4.out]; rfl, hb1⟩
      · have Hr := Lib.hid hr
        have hr2 : ∀ w, Giv Try.prog 103 #[.string s] w (.bool true) := fun w => hr ▸ refReserved_calls s w
        clear hr
        have Hr2 := Lib.hid hr2
        clear hr2
        go_enter Try.func100, Try.ntmps100
        go_wp2_with fail
        refine (Hr2.out _).use fun w1 hb1 => ?_
        go_wp2_with fail
        go_ret
        exact ⟨by rw [isName_resv s Hr.out]; rfl, hb1⟩
    · have H := Lib.hid (isName_long s h1)
      go_enter Try.func100, Try.ntmps100
      go_wp2_with fail
      go_ret
      exact ⟨by rw [H.out]; rfl, Below.refl _ _⟩
end Go.Proofs.Ytolooomphmcphaa
