/- lfcheckref08: the machine's checked. -/
import Derived.Test.YtolooomphmcphaaH5
import Derived.Test.YtolooomphmcphaaH7
import Derived.Test.YtolooomphmcphaaK6
namespace Go.Proofs.Ytolooomphmcphaa
open Go.RowKit

theorem bxm {w : World} {g : Nat} {ty : TypeId} {v0 v1 : Value} (h : w.heap[g]? = some (.cells #[v0, v1] ty (0, 0))) : w.cell? ⟨g, 0, none⟩ = some v0 ∧ w.cell? ⟨g, 1, none⟩ = some v1 := bx2 h
def refT (r : Res) : Tm := if r.1 = 0 then r.2.2 else zeroT
/-- what a call on the machine leaves -/
def RefP (g : Nat) (w : World) (S : Nat → Prop) (r : Res) (e : Ending) (w' : World) : Prop := w.grownBy w' (some g) ∧
  (∃ A c, e = .returned (tmV (refT r) A c) ∧ (refT r).args.length ≤ c ∧ Rd tmK w' (fun b => (S b ∧ b < w.heap.size) ∨ w.heap.size ≤ b) A (refT r).args) ∧ w'.heap[g]? = some (.cells #[.int .i64 r.2.1, .int .i64 r.1] 83 (0, 0))
set_option maxRecDepth 100000 in
set_option maxHeartbeats 1000000 in
theorem refChecked_calls (W : Nat) (t : Tm) (A : Option Addr) (c g : Nat) (w : World) (S : Nat → Prop) (h2 : tsize t < 1000000000) (hl : t.args.length ≤ c) (hr : Rd tmK w S A t.args) (_ : ¬ S g) (hg : w.heap[g]? = some (.cells #[.int .i64 W, .int .i64 0] 83 (0, 0))) :
    Calls Try.prog 87 #[wkP g, tmV t A c] w (RefP g w S (chkT W t)) := by
  obtain ⟨T, HT⟩ : ∃ T, Hid (chkT W t = T) := ⟨_, Lib.hid rfl⟩
  rw [HT.out]
  have hr0 := hr.bound
  clear hr
  have hgl := bk_lt hg
  have p3 := bk_alloc (bk_new w (.cells (tmB t A c) 33)) (.cells #[.int .i64 0, .string ⟨#[]⟩, .int .i64 0, .slice none 0 0] 33)
  have p4 := bk_at (w := w.alloc (.cells (tmB t A c) 33)) (n := w.heap.size + 1) (by simp) (.cells #[.int .i64 0, .string ⟨#[]⟩, .int .i64 0, .slice none 0 0] 33)
  have B := bl_alloc (bl_new w (.cells (tmB t A c) 33)) (.cells #[.int .i64 0, .string ⟨#[]⟩, .int .i64 0, .slice none 0 0] 33)
  have pg := bk_alloc (bk_alloc hg (.cells (tmB t A c) 33)) (.cells #[.int .i64 0, .string ⟨#[]⟩, .int .i64 0, .slice none 0 0] 33)
  obtain ⟨y0, y1⟩ := bxm pg
  have HSm := Lib.hid (refSmall_calls t A c _ _ h2 (hr0.below B))
  cases hs : smallB t
  · have HT2 : Hid (T = errT 2 W) := Lib.hid (by
      rw [← HT.out, chkT, if_neg]
      simp [smallB] at hs
      omega)
    have Hs := Lib.hid hs
    clear hs
    go_enter Try.func87, Try.ntmps87
    go_wp2_with fail
    refine HSm.out.use fun w1 hb1 => ?_
    rw [Hs.out]
    clear y0 y1
    have hs1 := hb1.size
    simp only [World.size_alloc] at hs1
    replace p3 := bk_below p3 hb1; replace p4 := bk_below p4 hb1; replace pg := bk_below pg hb1; replace B := bl_self B hb1; clear hb1
    obtain ⟨y0, y1⟩ := bxm pg
    have z1 := bk_free pg 1
    obtain ⟨x0, x1, x2, x3⟩ := bx4 p4
    obtain ⟨v0, v1, v2, v3⟩ : _ ∧ _ ∧ _ ∧ _ := ⟨bk_free p4 0, bk_free p4 1, bk_free p4 2, bk_free p4 3⟩
    go_wp2_with fail
    refine bodyPost_ret (res_term rfl rfl (set4_self (bk_far p4 (p := ⟨g, 1, none⟩) (by show w.heap.size + 1 ≠ g; omega) _))) rfl ⟨gr_set4 (gr_row (gr_below B _) rfl _) (by omega), ⟨none, 0, ?_, ?_, ?_⟩, ?_⟩
    · rw [HT2.out]; rfl
    · rw [HT2.out]; exact Nat.le_refl _
    · rw [HT2.out]; exact Rd.nil _ _ _ _
    · rw [HT2.out]; exact (set4_far (by omega)).trans (bk_set pg 1 _)
  · have HT2 : Hid (T = (0, W, t)) := Lib.hid (by rw [← HT.out, chkT, if_pos ⟨small_size hs, small_dep hs⟩])
    have Hs := Lib.hid hs
    clear hs
    go_enter Try.func87, Try.ntmps87
    go_wp2_with fail
    refine HSm.out.use fun w1 hb1 => ?_
    rw [Hs.out]
    clear y0 y1
    have hs1 := hb1.size
    simp only [World.size_alloc] at hs1
    replace p3 := bk_below p3 hb1; replace p4 := bk_below p4 hb1; replace pg := bk_below pg hb1; replace B := bl_self B hb1; clear hb1
    obtain ⟨y0, y1⟩ := bxm pg
    obtain ⟨c0, c1, c2, c3⟩ := bx4 p3
    obtain ⟨x0, x1, x2, x3⟩ := bx4 p4
    obtain ⟨v0, v1, v2, v3⟩ : _ ∧ _ ∧ _ ∧ _ := ⟨bk_free p4 0, bk_free p4 1, bk_free p4 2, bk_free p4 3⟩
    go_wp2_with fail
    refine bodyPost_ret (res_term rfl rfl (set4_self p4)) rfl ⟨gr_set4 (gr_below B _) (by omega), ⟨A, c, ?_, ?_, ?_⟩, ?_⟩
    · rw [HT2.out]; rfl
    · rw [HT2.out]; exact hl
    · rw [HT2.out]
      exact ((hr0.below B).set4 (fun b hb => by have := hb.2.lt; omega)).mono (fun b hb _ => .inl ⟨hb.1, hb.2.lt⟩)
    · rw [HT2.out]; exact (set4_far (by omega)).trans pg
end Go.Proofs.Ytolooomphmcphaa
