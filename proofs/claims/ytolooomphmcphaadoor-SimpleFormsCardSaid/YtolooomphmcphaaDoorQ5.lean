/- lfcheckref06.Greatest; lfcheckref07.longSize, with. -/
import Derived.Test.YtolooomphmcphaaDoorQ4
namespace Go.Proofs.YtolooomphmcphaaDoor
open Go.RowKit

mutual
/-- the greatest index of a variable, or -1 -/
def grT : Tm → Int | .mk k _ i a => grTs (if k = 5 then i else -1) a
def grTs (n : Int) : List Tm → Int | [] => n | t :: r => grTs (max n (grT t)) r
end
theorem grT_eq (t : Tm) : grT t = grTs (if t.kind = 5 then t.idx else -1) t.args := by cases t; rfl
theorem grTs_take (n : Int) (a : List Tm) (m : Nat) (h : m < a.length) : grTs n (a.take (m + 1)) = max (grTs n (a.take m)) (grT a[m]) := by
  rw [List.take_succ_eq_append_getElem h]
  generalize a.take m = b
  induction b generalizing n with
  | nil => rfl
  | cons t r ih => simp only [List.cons_append, grTs, ih]
set_option maxHeartbeats 1000000 in
theorem greatest_calls (n : Nat) : ∀ (t : Tm) (A : Option Addr) (c : Nat) (w : World) (S : Nat → Prop), tsize t < n → tsize t < 1000000000 → Rd tmK w S A t.args →
    Giv Tryd.prog 66 #[tmV t A c] w (.int .i64 (grT t)) := by
  induction n with
  | zero => intro t A c w S h; omega
  | succ n ih =>
  intro t A c w S h1 h2 hr
  have hts1 : tsizes t.args < tsize t := by have := tsize_eq t; omega
  have hla := len_le_tsizes t.args
  have H := Lib.hid ih
  clear ih
  obtain ⟨v0, Hv0⟩ : ∃ v0 : Int, Hid ((if t.kind = 5 then t.idx else -1) = v0) := ⟨_, Lib.hid rfl⟩
  have Hg : Hid (grT t = grTs v0 t.args) := Lib.hid (by rw [grT_eq, Hv0.out])
  have hk := bk_new w (.cells (tmB t A c) 30)
  have hB := bl_new w (.cells (tmB t A c) 30)
  cases k5 : (t.kind == 5)
  all_goals
    have hv0 := Hv0.out
    simp at k5
    first | rw [if_neg k5] at hv0 | rw [if_pos k5] at hv0
    first | have k5' : (t.kind == 5) = false := by simpa using k5 | have k5' : (t.kind == 5) = true := by simpa using k5
    have HV := Lib.hid hv0
    clear hv0 k5
    go_enter Tryd.func66, Tryd.ntmps66
    go_wp2_with fail
    go_loopw [3, 4] (fun v i w' => ∃ (m : Nat) (x : Int), m ≤ t.args.length ∧ i = .int .i64 m ∧ v = .int .i64 x ∧ Hid (x = grTs v0 (t.args.take m)) ∧ w'.heap[w.heap.size]? = some (.cells (tmB t A c) 30 (0, 0)) ∧ Below w.heap.size w w') (fun _ i _ => t.args.length - (intOf i).toNat)
    case atStart => exact ⟨0, _, by omega, rfl, rfl, Lib.hid (by simp [grTs, HV.out]), hk, hB⟩
    case round =>
      clear hk hB
      obtain ⟨m, x, hm, rfl, rfl, Hx, hk, hB⟩ := hrel
      obtain ⟨c0, c1, c2, c3⟩ := bx4 hk
      by_cases hlt : m < t.args.length
      · obtain ⟨b, o, A', c', rfl, _, e0, e1, e2, e3, hl', hr'⟩ := (hr.below hB).tm m hlt
        have hm1 := tsizes_mem t.args m hlt
        have Hd := Lib.hid (grTs_take v0 t.args m hlt)
        go_wp2_with fail
        refine (H.out t.args[m] A' c' _ S (by omega) (by omega) hr').use fun w1 hb => ?_
        replace hk := bk_below hk hb
        replace hB := bl_self hB hb
        go_wp2_with fail
        go_roundw
        case rel => exact ⟨m + 1, _, by omega, by go_num, rfl, Lib.hid (by rw [Hd.out, Hx.out, Int.max_def]; split <;> split <;> omega), hk, hB⟩
        case measure => simp [intOf]; omega
      · obtain rfl : m = t.args.length := by omega
        go_wp2_with fail
        go_ret
        exact ⟨by rw [Hg.out, ← List.take_length (l := t.args), ← Hx.out]; rfl, hB⟩

mutual
def lsz : Sm → Nat | .mk _ a => lszs (1 + a.length) a
def lszs (n : Nat) : List Sm → Nat | [] => n | t :: r => if n ≤ 4096 then lszs (n + lsz t) r else n
end
theorem lsz_eq (s : Sm) : lsz s = lszs (1 + s.args.length) s.args := by cases s; rfl
theorem lszs_ge : ∀ (a : List Sm) (n : Nat), n ≤ lszs n a
  | [], n => by simp [lszs]
  | t :: r, n => by
    rw [lszs]
    split
    · have := lszs_ge r (n + lsz t); omega
    · exact Nat.le_refl _
mutual
theorem lsz_le : ∀ s : Sm, lsz s ≤ xsz s
  | .mk _ a => by rw [lsz, xsz]; have := lszs_le a (1 + a.length); omega
theorem lszs_le : ∀ (a : List Sm) (n : Nat), lszs n a ≤ n + xszs a
  | [], n => by simp [lszs, xszs]
  | t :: r, n => by
    have h1 := lsz_le t
    have h2 := lszs_le r (n + lsz t)
    rw [lszs, xszs]
    split <;> omega
end
mutual
theorem lsz_xsz : ∀ s : Sm, lsz s = xsz s ∨ 4096 < lsz s
  | .mk _ a => by rw [lsz, xsz]; have := lszs_xsz a (1 + a.length); omega
theorem lszs_xsz : ∀ (a : List Sm) (n : Nat), lszs n a = n + xszs a ∨ 4096 < lszs n a
  | [], n => by simp [lszs, xszs]
  | t :: r, n => by
    have h1 := lsz_xsz t
    have h2 := lszs_xsz r (n + lsz t)
    have h3 := lszs_ge r (n + lsz t)
    rw [lszs, xszs]
    split <;> omega
end
theorem lszs_drop (a : List Sm) (n m : Nat) (h : m < a.length) (hn : n ≤ 4096) : lszs n (a.drop m) = lszs (n + lsz a[m]) (a.drop (m + 1)) := by
  rw [List.drop_eq_getElem_cons h, lszs, if_pos hn]
set_option maxHeartbeats 1000000 in
theorem longSize_calls (n : Nat) : ∀ (t : Sm) (A : Option Addr) (c : Nat) (w : World) (S : Nat → Prop), ssize t < n → ssize t < 100000000 → Rd smK w S A t.args →
    Giv Tryd.prog 63 #[smV t A c] w (.int .i64 (lsz t)) := by
  induction n with
  | zero => intro t A c w S h; omega
  | succ n ih =>
  intro t A c w S h1 h2 hr
  have hts1 : ssizes t.args < ssize t := by have := ssize_eq t; omega
  have hla := len_le_ssizes t.args
  have H := Lib.hid ih
  clear ih
  have hk := bk_new w (.cells (smB t A c) 26)
  have hB := bl_new w (.cells (smB t A c) 26)
  go_enter Tryd.func63, Tryd.ntmps63
  obtain ⟨c0, c1⟩ := bx2 hk
  go_wp2_with fail
  go_loopw [3, 4] (fun v i w' => ∃ (m x : Nat), m ≤ t.args.length ∧ i = .int .i64 m ∧ v = .int .i64 x ∧ x ≤ 1000000000 ∧ Hid (lsz t = lszs x (t.args.drop m)) ∧ w'.heap[w.heap.size]? = some (.cells (smB t A c) 26 (0, 0)) ∧ Below w.heap.size w w') (fun _ i _ => t.args.length - (intOf i).toNat)
  case atStart => exact ⟨0, 1 + t.args.length, by omega, rfl, by go_num, by omega, Lib.hid (by rw [lsz_eq, List.drop_zero]), hk, hB⟩
  case round =>
    clear hk hB c0 c1
    obtain ⟨m, x, hm, rfl, rfl, hx, Hx, hk, hB⟩ := hrel
    obtain ⟨c0, c1⟩ := bx2 hk
    by_cases hlt : m < t.args.length
    · by_cases hx4 : x ≤ 4096
      · have hxd : decide ((x : Int) ≤ 4096) = true := decide_eq_true (by omega)
        have hxn : decide (x ≤ 4096) = true := decide_eq_true hx4
        obtain ⟨b, o, A', c', rfl, _, e0, e1, hl', hr'⟩ := (hr.below hB).sm m hlt
        have hm1 := ssizes_mem t.args m hlt
        have hz := lsz_le t.args[m]
        have hz2 := xsz_le t.args[m]
        have Hd := Lib.hid (lszs_drop t.args x m hlt hx4)
        go_wp2_with fail
        refine (H.out t.args[m] A' c' _ S (by omega) (by omega) hr').use fun w1 hb => ?_
        replace hk := bk_below hk hb
        replace hB := bl_self hB hb
        go_wp2_with fail
        go_roundw
        case rel => exact ⟨m + 1, x + lsz t.args[m], by omega, by go_num, by go_num, by omega, Lib.hid (by rw [Hx.out, Hd.out]), hk, hB⟩
        case measure => simp [intOf]; omega
      · have hxd : decide ((x : Int) ≤ 4096) = false := decide_eq_false (by omega)
        have hxn : decide (x ≤ 4096) = false := decide_eq_false hx4
        have Hd : Hid (lsz t = x) := Lib.hid (by rw [Hx.out, List.drop_eq_getElem_cons hlt, lszs, if_neg hx4])
        go_wp2_with fail
        go_ret
        exact ⟨by rw [Hd.out]; rfl, hB⟩
    · obtain rfl : m = t.args.length := by omega
      have Hd : Hid (lsz t = x) := Lib.hid (by rw [Hx.out, List.drop_length, lszs])
      go_wp2_with fail
      go_ret
      exact ⟨by rw [Hd.out]; rfl, hB⟩

set_option maxRecDepth 100000 in
set_option maxHeartbeats 4000000 in
theorem with_calls (h : Tm) (ys : List Tm) (A A2 : Option Addr) (c c2 : Nat) (w : World) (S : Nat → Prop) (h3 : h.args.length < 400000000) (h4 : ys.length < 400000000) (_hl : h.args.length ≤ c) (hr : Rd tmK w S A h.args) (hr2 : Rd tmK w S A2 ys) :
    GivT Tryd.prog 98 #[tmV h A c, .slice A2 ys.length c2] w S (.mk h.kind h.name h.idx (h.args ++ ys)) := by
  have hr0 := hr.bound
  have hr20 := hr2.bound
  clear hr hr2
  have q0 := bk_alloc (bk_new w (.cells (tmB h A c) 30)) (.cells #[.int .i64 0, .string ⟨#[]⟩, .int .i64 0, .slice none 0 0] 30)
  have q1 := bk_at (w := w.alloc (.cells (tmB h A c) 30)) (n := w.heap.size + 1) (by simp) (.cells #[.int .i64 0, .string ⟨#[]⟩, .int .i64 0, .slice none 0 0] 30)
  have B := bl_alloc (bl_new w (.cells (tmB h A c) 30)) (.cells #[.int .i64 0, .string ⟨#[]⟩, .int .i64 0, .slice none 0 0] 30)
  have hsz : w.heap.size + 2 ≤ ((w.alloc (.cells (tmB h A c) 30)).alloc (.cells #[.int .i64 0, .string ⟨#[]⟩, .int .i64 0, .slice none 0 0] 30)).heap.size := by simp
  have hR1 := (hr0.below B).mono (S' := fun b => S b ∧ b < w.heap.size) (fun b hb _ => ⟨hb.1, hb.2.lt⟩)
  have hR2 := (hr20.below B).mono (S' := fun b => S b ∧ b < w.heap.size) (fun b hb _ => ⟨hb.1, hb.2.lt⟩)
  go_enter Tryd.func98, Tryd.ntmps98
  go_wp2_with fail
  refine wp_region_mixN 12 (fun w' => w'.cell? ⟨w.heap.size, 0, none⟩ = some (.int .i64 h.kind) ∧ w'.cell? ⟨w.heap.size, 1, none⟩ = some (.string h.name) ∧ w'.cell? ⟨w.heap.size, 2, none⟩ = some (.int .i64 h.idx) ∧ w'.cell? ⟨w.heap.size, 3, none⟩ = some (.slice A h.args.length c))
    [(true, 0), (true, 1), (true, 2), (true, 3), (true, 4), (true, 5), (true, 6), (true, 7), (true, 9), (false, 8), (false, 10), (true, 11)] (by kernel_rfl) rfl (by kernel_rfl) (bx4 q0) ?_
  repeat (refine wpMix_soft (v := ?_) rfl rfl ?_ ?_; rotate_left; (focus (intro w' hS; go_simp; with_reducible rfl)); simp only [Act.put, List.setIfInBounds_toArray, List.set_cons_zero, List.set_cons_succ])
  refine wpMix_hard rfl rfl ?_
  refine wp_ext (d := tmK) (v := .slice none 0 0) rfl (.const (.slice none 0 0)) (.tmp 12) _ rfl (e := 30) (bytes := 56) (z := .agg #[.int .i64 0, .string ⟨#[]⟩, .int .i64 0, .slice none 0 0]) (by kernel_rfl) (by kernel_rfl) (by rfl) (by decide) rfl (Own.nil tmK 30 (w.heap.size + 2) _ (fun _ => False)) (by simp) (by omega) (by simp) rfl hR1.drew (fun b hb he => by simp [Value.ownBlock] at he) ?_
  intro v1 w1 hO1 hg1 _
  replace hg1 : Below ((w.alloc (.cells (tmB h A c) 30)).alloc (.cells #[.int .i64 0, .string ⟨#[]⟩, .int .i64 0, .slice none 0 0] 30)).heap.size ((w.alloc (.cells (tmB h A c) 30)).alloc (.cells #[.int .i64 0, .string ⟨#[]⟩, .int .i64 0, .slice none 0 0] 30)) w1 := bl_undrew (bl_grown (Below.refl _ _) hg1 (fun k hk => by simp [Value.ownBlock] at hk))
  replace q0 := bk_below q0 hg1; replace q1 := bk_below q1 hg1; replace B := bl_self B hg1; replace hsz := Nat.le_trans hsz hg1.size; replace hR2 := hR2.below hg1; clear hg1
  refine mixQ_normal (bx4 q0) ?_
  refine wpMix_hard rfl rfl ?_
  have hob1 := hO1.block
  refine wp_ext (d := tmK) (v := v1) rfl (.tmp 13) (.tmp 14) _ rfl (e := 30) (bytes := 56) (z := .agg #[.int .i64 0, .string ⟨#[]⟩, .int .i64 0, .slice none 0 0]) (by kernel_rfl) (by kernel_rfl) (by rfl) (by decide) rfl hO1 (by simp; omega) (by omega) hsz rfl hR2 (fun b hb he => by have := (hob1 b he).1; have := hb.2; omega) ?_
  intro v2 w2 hO2 hg2 _
  have n0 : ∀ k, k < w.heap.size + 2 → some k ≠ v1.ownBlock := fun k hk he => by have := (hob1 k he.symm).1; omega
  replace q0 := bk_grown q0 hg2 (n0 _ (by omega))
  replace q1 := bk_grown q1 hg2 (n0 _ (by omega))
  replace B := bl_grown B hg2 (fun k hk => by have := (hob1 k hk).1; omega)
  obtain ⟨A5, c5, rfl, hc5, hR5⟩ := hO2.read (S' := fun b => (S b ∧ b < w.heap.size) ∨ w.heap.size + 2 ≤ b) (fun b hb => .inr hb) (fun b hb => by rcases hb with (hb | hb) | hb; exact hb.elim; exact .inl hb; exact .inl hb)
  refine mixQ_normal (bx4 q0) ?_
  simp only [Act.put, List.setIfInBounds_toArray, List.set_cons_zero, List.set_cons_succ]
  repeat (refine wpMix_soft (v := ?_) rfl rfl ?_ ?_; rotate_left; (focus (intro w' hS; go_simp; with_reducible rfl)); simp only [Act.put, List.setIfInBounds_toArray, List.set_cons_zero, List.set_cons_succ])
  refine wpMix_done (cutQ_normal ?_)
  obtain ⟨x0, x1, x2, x3⟩ := bx4 q1
  have z0 := bk_free q1 0
  have z1 := bk_free q1 1
  have z2 := bk_free q1 2
  have z3 := bk_free q1 3
  go_wp2_with fail
  refine NoPanic.normal ?_
  go_wp2_with fail
  refine bodyPost_ret (res_term rfl rfl (set4_self q1)) rfl ⟨A5, c5, by show _ = Ending.returned (.agg #[.int .i64 h.kind, .string h.name, .int .i64 h.idx, .slice A5 (h.args ++ ys).length c5]); rw [List.length_append], hc5, ?_, bl_set4 B (by omega)⟩
  exact (hR5.set4 (fun b hb => by rcases hb with hb | hb <;> omega)).mono (fun b hb _ => by rcases hb with hb | hb; exact .inl hb.1; exact .inr (by omega))
end Go.Proofs.YtolooomphmcphaaDoor
