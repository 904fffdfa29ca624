/- lfcheckref06.Greatest; what Move and it say of the indices. -/
import Derived.StillTailTactics
import Derived.Test.YtolooomphmcphaaMv
import Derived.Test.YtolooomphmcphaaR7
namespace Go.Proofs.Ytolooomphmcphaa
open Go.RowKit

mutual
/-- the greatest index of a variable, or -1 -/
def grT : Tm → Int | .mk k _ i a => grTs (if k = 5 then i else -1) a
def grTs (n : Int) : List Tm → Int | [] => n | t :: r => grTs (max n (grT t)) r
end
theorem grT_eq (t : Tm) : grT t = grTs (if t.kind = 5 then t.idx else -1) t.args := by cases t; rfl
theorem grTs_take (n : Int) (a : List Tm) (m : Nat) (h : m < a.length) : grTs n (a.take (m + 1)) = max (grTs n (a.take m)) (grT a[m]) := by
  rw [List.take_succ_eq_append_getElem h]
  generalize a.take m = b
  induction b generalizing n with
  | nil => rfl
  | cons t r ih => simp only [List.cons_append, grTs, ih]
set_option maxHeartbeats 1000000 in
theorem greatest_calls (n : Nat) : ∀ (t : Tm) (A : Option Addr) (c : Nat) (w : World) (S : Nat → Prop), tsize t < n → tsize t < 1000000000 → Rd tmK w S A t.args →
    Giv Try.prog 97 #[tmV t A c] w (.int .i64 (grT t)) := by
  induction n with
  | zero => intro t A c w S h; omega
  | succ n ih =>
  intro t A c w S h1 h2 hr
  have hts1 : tsizes t.args < tsize t := by have := tsize_eq t; omega
  have hla := len_le_tsizes t.args
  have H := Lib.hid ih
  clear ih
  obtain ⟨v0, Hv0⟩ : ∃ v0 : Int, Hid ((if t.kind = 5 then t.idx else -1) = v0) := ⟨_, Lib.hid rfl⟩
  have Hg : Hid (grT t = grTs v0 t.args) := Lib.hid (by rw [grT_eq, Hv0.out])
  have hk := bk_new w (.cells (tmB t A c) 33)
  have hB := bl_new w (.cells (tmB t A c) 33)
  cases k5 : (t.kind == 5)
  all_goals
    have hv0 := Hv0.out
    simp at k5
    first | rw [if_neg k5] at hv0 | rw [if_pos k5] at hv0
    first | have k5' : (t.kind == 5) = false := by simpa using k5 | have k5' : (t.kind == 5) = true := by simpa using k5
    have HV := Lib.hid hv0
    clear hv0 k5
    go_enter Try.func97, Try.ntmps97
    go_wp2_with fail
    go_loopw [3, 4] (fun v i w' => ∃ (m : Nat) (x : Int), m ≤ t.args.length ∧ i = .int .i64 m ∧ v = .int .i64 x ∧ Hid (x = grTs v0 (t.args.take m)) ∧ w'.heap[w.heap.size]? = some (.cells (tmB t A c) 33 (0, 0)) ∧ Below w.heap.size w w') (fun _ i _ => t.args.length - (intOf i).toNat)
    case atStart => exact ⟨0, _, by omega, rfl, rfl, Lib.hid (by simp [grTs, HV.out]), hk, hB⟩
    case round =>
      clear hk hB
      obtain ⟨m, x, hm, rfl, rfl, Hx, hk, hB⟩ := hrel
      obtain ⟨c0, c1, c2, c3⟩ := bx4 hk
      by_cases hlt : m < t.args.length
      · obtain ⟨b, o, A', c', rfl, _, e0, e1, e2, e3, hl', hr'⟩ := (hr.below hB).tm m hlt
        have hm1 := tsizes_mem t.args m hlt
        have Hd := Lib.hid (grTs_take v0 t.args m hlt)
        go_wp2_with fail
        refine (H.out t.args[m] A' c' _ S (by omega) (by omega) hr').use fun w1 hb => ?_
        replace hk := bk_below hk hb
        replace hB := bl_self hB hb
        go_wp2_with fail
        go_roundw
        case rel => exact ⟨m + 1, _, by omega, by go_num, rfl, Lib.hid (by rw [Hd.out, Hx.out, Int.max_def]; split <;> split <;> omega), hk, hB⟩
        case measure => simp [intOf]; omega
      · obtain rfl : m = t.args.length := by omega
        go_wp2_with fail
        go_ret
        exact ⟨by rw [Hg.out, ← List.take_length (l := t.args), ← Hx.out]; rfl, hB⟩

mutual
/-- all indices of variables are at most M -/
def vLe (M : Int) : Tm → Bool | .mk k _ i a => (!(k == 5) || decide (i ≤ M)) && vLes M a
def vLes (M : Int) : List Tm → Bool | [] => true | t :: r => vLe M t && vLes M r
end
mutual
theorem grT_le (M : Int) (hM : -1 ≤ M) : ∀ t : Tm, decide (grT t ≤ M) = vLe M t
  | .mk k s i a => by
    rw [grT, vLe, grTs_le M hM a]
    by_cases h : k = 5
    · simp [h]
    · simp [h, hM]
theorem grTs_le (M : Int) (hM : -1 ≤ M) : ∀ (a : List Tm) (n : Int), decide (grTs n a ≤ M) = (decide (n ≤ M) && vLes M a)
  | [], n => by rw [grTs, vLes, Bool.and_true]
  | t :: r, n => by
    rw [grTs, grTs_le M hM r, vLes, ← grT_le M hM t]
    rw [← Bool.and_assoc]
    congr 1
    rw [Bool.eq_iff_iff]
    simp only [decide_eq_true_eq, Bool.and_eq_true]
    omega
end
mutual
theorem vLe_mv (d : Int) (hd : 0 ≤ d) : ∀ (t : Tm) (bs : Int), 0 ≤ bs → objB t = true → vLe 1048576 (mv d bs t) = shOk d 0 bs t
  | .mk k s i a, bs, h0, ho => by
    have hi : i ≤ 1048576 ∧ objBs a = true := by
      rw [objB] at ho
      simp only [Bool.or_eq_true, Bool.and_eq_true, boundB, Tm.idx, beq_iff_eq, decide_eq_true_eq] at ho
      rcases ho with ((h | h) | h) | h
      · exact ⟨by omega, h.2⟩
      · exact ⟨by omega, h.2⟩
      · exact ⟨by omega, h.2⟩
      · exact ⟨by omega, h.2⟩
    rw [mv, vLe, shOk_eq, vLes_mv d hd k a bs 0 h0 hi.2]
    show _ = ((!(k == 5 && decide (bs ≤ i)) || (if i - bs < 0 then decide (i ≤ 1048576) else decide (d ≤ 1048576) && decide (i + d ≤ 1048576))) && shOks d 0 bs k 0 a)
    congr 1
    by_cases hk : k = 5
    · by_cases hb : bs ≤ i
      · rw [if_pos ⟨hk, hb⟩, if_neg (by omega)]
        simp [hk, hb]
        omega
      · rw [if_neg (fun h => hb h.2)]
        simp [hb, hi.1]
    · have hk' : (k == 5) = false := by simpa using hk
      rw [hk']
      rfl
theorem vLes_mv (d : Int) (hd : 0 ≤ d) (k : Int) : ∀ (a : List Tm) (bs : Int) (j : Nat), 0 ≤ bs → objBs a = true → vLes 1048576 (mvs d bs k j a) = shOks d 0 bs k j a
  | [], bs, j, _, _ => rfl
  | t :: r, bs, j, h0, ho => by
    rw [objBs, Bool.and_eq_true] at ho
    have := underN_le k j
    rw [mvs, vLes, shOks, vLe_mv d hd t _ (by omega) ho.1, vLes_mv d hd k r bs (j + 1) h0 ho.2]
end
theorem mv_size (d fr : Int) (t : Tm) : tsize (mv d fr t) = tsize t := by
  revert fr
  refine Tm.rec (motive_1 := fun t => ∀ fr, tsize (mv d fr t) = tsize t) (motive_2 := fun a => ∀ fr k j, tsizes (mvs d fr k j a) = tsizes a) ?_ ?_ ?_ t
  · intro k s i a ih fr
    simp [mv, tsize, ih]
  · intro fr k j
    rfl
  · intro t r h1 h2 fr k j
    simp [mvs, tsizes, h1, h2]
theorem mv_dep (d fr : Int) (t : Tm) : tdep (mv d fr t) = tdep t := by
  revert fr
  refine Tm.rec (motive_1 := fun t => ∀ fr, tdep (mv d fr t) = tdep t) (motive_2 := fun a => ∀ fr k j, tdeps (mvs d fr k j a) = tdeps a) ?_ ?_ ?_ t
  · intro k s i a ih fr
    simp [mv, tdep, ih]
  · intro fr k j
    rfl
  · intro t r h1 h2 fr k j
    simp [mvs, tdeps, h1, h2]
mutual
theorem obj_ix : ∀ t : Tm, objB t = true → ixT 1000000000000 t
  | .mk k s i a, h => by
    rw [objB] at h
    simp only [Bool.or_eq_true, Bool.and_eq_true, boundB, Tm.idx, beq_iff_eq, decide_eq_true_eq] at h
    rw [ixT]
    rcases h with ((h | h) | h) | h
    · exact ⟨by omega, by omega, objs_ix a h.2⟩
    · exact ⟨by omega, by omega, objs_ix a h.2⟩
    · exact ⟨by omega, by omega, objs_ix a h.2⟩
    · exact ⟨by omega, by omega, objs_ix a h.2⟩
theorem objs_ix : ∀ a : List Tm, objBs a = true → ixTs 1000000000000 a
  | [], _ => trivial
  | t :: r, h => by
    rw [objBs, Bool.and_eq_true] at h
    exact ⟨obj_ix t h.1, objs_ix r h.2⟩
end
end Go.Proofs.Ytolooomphmcphaa
