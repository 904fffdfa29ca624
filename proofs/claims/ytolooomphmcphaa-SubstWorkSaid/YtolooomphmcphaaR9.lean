/- rename.Shift. -/
import Derived.Test.YtolooomphmcphaaR8
namespace Go.Proofs.Ytolooomphmcphaa
open Go.RowKit

def shiftT (d fr : Int) (t : Tm) : Tm := if wfE t = 0 then (if shOk d fr 0 t then mv d fr t else zeroT) else zeroT
def shiftE (d fr : Int) (t : Tm) : Int := if wfE t = 0 then (if shOk d fr 0 t then 0 else 5) else wfE t
set_option maxRecDepth 100000 in
theorem shift_calls (t : Tm) (A : Option Addr) (c : Nat) (d fr : Int) (w : World) (S : Nat → Prop) (h2 : tsize t < 1000000000) (hix : ixT 1000000000000 t) (hd0 : 0 ≤ d) (hd1 : d ≤ 1000000000000) (hf0 : 0 ≤ fr) (hf1 : fr ≤ 1000000000000)
    (hl : t.args.length ≤ c) (hr : Rd tmK w S A t.args) : GivP Try.prog 28 #[tmV t A c, .int .i64 d, .int .i64 fr] w S (shiftT d fr t) (.int .i64 (shiftE d fr t)) := by
  have hr0 := hr.bound
  clear hr
  have hdn : decide (d < 0) = false := by simp; omega
  have hfn : decide (fr < 0) = false := by simp; omega
  have B4 := bl_alloc (bl_alloc (bl_alloc (bl_new w (.cells (tmB t A c) 33)) (.cells #[.int .i64 d] 3)) (.cells #[.int .i64 fr] 3)) (.cells #[.int .i64 0, .string ⟨#[]⟩, .int .i64 0, .slice none 0 0] 33)
  have q0 := bk_alloc (bk_alloc (bk_alloc (bk_new w (.cells (tmB t A c) 33)) (.cells #[.int .i64 d] 3)) (.cells #[.int .i64 fr] 3)) (.cells #[.int .i64 0, .string ⟨#[]⟩, .int .i64 0, .slice none 0 0] 33)
  have q1 := bk_alloc (bk_alloc (bk_at (w := w.alloc (.cells (tmB t A c) 33)) (n := w.heap.size + 1) (by simp) (.cells #[.int .i64 d] 3)) (.cells #[.int .i64 fr] 3)) (.cells #[.int .i64 0, .string ⟨#[]⟩, .int .i64 0, .slice none 0 0] 33)
  have q2 := bk_alloc (bk_at (w := (w.alloc (.cells (tmB t A c) 33)).alloc (.cells #[.int .i64 d] 3)) (n := w.heap.size + 1 + 1) (by simp) (.cells #[.int .i64 fr] 3)) (.cells #[.int .i64 0, .string ⟨#[]⟩, .int .i64 0, .slice none 0 0] 33)
  have q3 := bk_at (w := ((w.alloc (.cells (tmB t A c) 33)).alloc (.cells #[.int .i64 d] 3)).alloc (.cells #[.int .i64 fr] 3)) (n := w.heap.size + 1 + 1 + 1) (by simp) (.cells #[.int .i64 0, .string ⟨#[]⟩, .int .i64 0, .slice none 0 0] 33)
  have HW := Lib.hid (wellFormed_calls t A c _ _ h2 (hr0.below B4))
  have hsz : w.heap.size + 4 ≤ ((((w.alloc (.cells (tmB t A c) 33)).alloc (.cells #[.int .i64 d] 3)).alloc (.cells #[.int .i64 fr] 3)).alloc (.cells #[.int .i64 0, .string ⟨#[]⟩, .int .i64 0, .slice none 0 0] 33)).heap.size := by simp
  by_cases h0 : wfE t = 0
  · have H0 := Lib.hid h0
    have e1 : shiftT d fr t = if shOk d fr 0 t then mv d fr t else zeroT := by rw [shiftT, if_pos h0]
    have e2 : shiftE d fr t = if shOk d fr 0 t then 0 else 5 := by rw [shiftE, if_pos h0]
    rw [e1, e2]
    clear e1 e2 h0
    go_enter Try.func28, Try.ntmps28
    go_wp2_with fail
    refine HW.out.use fun w1 hb1 => ?_
    rw [H0.out]
    replace q0 := bk_below q0 hb1
    replace q1 := bk_below q1 hb1
    replace q2 := bk_below q2 hb1
    replace q3 := bk_below q3 hb1
    replace B4 := bl_self B4 hb1
    replace hsz := Nat.le_trans hsz hb1.size
    clear hb1
    obtain ⟨c0, c1, c2, c3⟩ := bx4 q0
    have d1 := bx1 q1
    have d2 := bx1 q2
    go_wp2_with fail
    refine (move_calls t A c d fr (w.heap.size + 1 + 1) (w.heap.size + 1) _ (fun b => S b ∧ Live w b) h2 hix hd0 (by assumption) hf0 (by assumption) hl (hr0.below B4) d2 d1).use fun w2 A' c' hc' hR hb2 => ?_
    obtain ⟨x, Hx⟩ : ∃ x, Hid (x = if shOk d fr 0 t = true then mv d fr t else zeroT) := ⟨_, Lib.hid rfl⟩
    rw [← Hx.out] at hc' hR ⊢
    replace q3 := bk_below q3 hb2
    replace B4 := bl_self B4 hb2
    have hsz2 := hb2.size
    have p3 := bk_alloc q3 (.cells #[.int .i64 x.kind, .string x.name, .int .i64 x.idx, .slice A' x.args.length c'] 33)
    have p5 := bk_new w2 (.cells #[.int .i64 x.kind, .string x.name, .int .i64 x.idx, .slice A' x.args.length c'] 33)
    have B6 := bl_alloc B4 (.cells #[.int .i64 x.kind, .string x.name, .int .i64 x.idx, .slice A' x.args.length c'] 33)
    obtain ⟨a0, a1, a2, a3⟩ := bx4 p3
    obtain ⟨e0, e1, e2, e3⟩ := bx4 p5
    have z0 := bk_free p3 0
    have z1 := bk_free p3 1
    have z2 := bk_free p3 2
    have z3 := bk_free p3 3
    cases hs : shOk d fr 0 t
    · go_wp2_with fail
      all_goals exact bodyPost_ret (res_pair rfl rfl rfl (set4_self p3)) rfl ⟨none, 0, rfl, Nat.le_refl _, Rd.nil _ _ _ _, bl_set4 B6 (by omega)⟩
    · have hx : x = mv d fr t := by rw [Hx.out, hs]; rfl
      have Hx' := Lib.hid hx
      clear hx
      go_wp2_with fail
      refine bodyPost_ret (res_pair rfl rfl rfl (set4_self p3)) rfl ⟨A', c', ?_, ?_, ?_, bl_set4 B6 (by omega)⟩
      · simp [Hx'.out]
      · simpa [Hx'.out] using hc'
      · show Rd tmK _ _ A' (mv d fr t).args
        rw [← Hx'.out]
        refine ((hR.below (bl_new w2 _)).set4 (g := w.heap.size + 1 + 1 + 1) (fun b hb => ?_)).mono (fun b hb _ => ?_)
        · rcases hb with hb | hb
          · have := hb.2.lt; omega
          · omega
        · rcases hb with hb | hb
          · exact .inl hb.1
          · exact .inr (by omega)
  · have h0' : (wfE t != 0) = true := by simpa using h0
    have e1 : shiftT d fr t = zeroT := by rw [shiftT, if_neg h0]
    have e2 : shiftE d fr t = wfE t := by rw [shiftE, if_neg h0]
    rw [e1, e2]
    clear e1 e2
    go_enter Try.func28, Try.ntmps28
    go_wp2_with fail
    refine HW.out.use fun w1 hb1 => ?_
    replace q3 := bk_below q3 hb1
    obtain ⟨a0, a1, a2, a3⟩ := bx4 q3
    have z0 := bk_free q3 0
    have z1 := bk_free q3 1
    have z2 := bk_free q3 2
    have z3 := bk_free q3 3
    go_wp2_with fail
    all_goals exact bodyPost_ret (res_pair rfl rfl rfl (set4_self q3)) rfl ⟨none, 0, rfl, Nat.le_refl _, Rd.nil _ _ _ _, bl_set4 (bl_self B4 hb1) (by omega)⟩
end Go.Proofs.Ytolooomphmcphaa
