/- lfchecklaw07.awake. -/
import Derived.Test.YtolooomphmcphaaDoorE4
import Derived.Test.YtolooomphmcphaaDoorT2
namespace Go.Proofs.YtolooomphmcphaaDoor
open Go.RowKit

abbrev natB : ByteArray := ⟨#[110, 97, 116]⟩
def natT : Sm := .mk natB []
def funT : Sm := .mk natB [natT]
def var0 : Tm := .mk 5 ⟨#[]⟩ 0 []
def piT : Tm := .mk 2 ⟨#[]⟩ 0 [.mk 4 natB 0 [], .mk 4 natB 0 [var0]]
theorem aw_eta0 : etaE var0 funT = 0 := by decide +kernel
theorem aw_eta1 : etaT var0 funT = .mk 3 ⟨#[]⟩ 0 [.mk 5 ⟨#[]⟩ 1 [.mk 5 ⟨#[]⟩ 0 []]] := by rw [etaT, aw_eta0]; kernel_rfl
theorem aw_var : variT (etaT var0 funT) = some 0 := by rw [aw_eta1]; decide +kernel
theorem aw_er0 : eraseE piT = 0 := by decide +kernel
theorem aw_er1 : eraseR piT = funT := by kernel_rfl
theorem aw_same1 : sameS funT funT = true := by decide +kernel
theorem aw_same2 : sameS funT natT = false := by decide +kernel
theorem aw_fits : (objB (etaT var0 funT) && smallB (etaT var0 funT) && (unlam (etaT var0 funT)).1 == funT.args.length) = true := by rw [aw_eta1]; decide +kernel
theorem aw_ord : (if swfE funT = 0 then (sord funT : Int) else 0) = 1 := by decide +kernel
theorem aw_wf : swfE (.mk ⟨#[]⟩ []) = 1 := by decide +kernel
set_option maxRecDepth 100000 in
set_option maxHeartbeats 4000000 in
theorem awake_calls (w : World) : Giv Tryd.prog 23 #[] w (.bool true) := by
  have B3 := bl_alloc (bl_alloc (bl_new w (.cells #[.string ⟨#[110, 97, 116]⟩, .slice none 0 0] 26)) (.cells #[.string ⟨#[110, 97, 116]⟩, .slice none 0 0] 26)) (.cells #[.string ⟨#[110, 97, 116]⟩, .slice (some ⟨w.heap.size + 1, 0, none⟩) 1 1] 26)
  have q1 := bk_alloc (bk_alloc (bk_new w (.cells #[.string ⟨#[110, 97, 116]⟩, .slice none 0 0] 26)) (.cells #[.string ⟨#[110, 97, 116]⟩, .slice none 0 0] 26)) (.cells #[.string ⟨#[110, 97, 116]⟩, .slice (some ⟨w.heap.size + 1, 0, none⟩) 1 1] 26)
  have q2 := bk_at (w := (w.alloc (.cells #[.string ⟨#[110, 97, 116]⟩, .slice none 0 0] 26)).alloc (.cells #[.string ⟨#[110, 97, 116]⟩, .slice none 0 0] 26)) (n := w.heap.size + 1 + 1) (by simp) (.cells #[.string ⟨#[110, 97, 116]⟩, .slice (some ⟨w.heap.size + 1, 0, none⟩) 1 1] 26)
  have hN : smK.K (w.alloc (.cells #[.string ⟨#[110, 97, 116]⟩, .slice none 0 0] 26)) (fun b => w.heap.size ≤ b) natT [.string ⟨#[110, 97, 116]⟩, .slice none 0 0] := smK_of natT (Nat.le_refl _) (Rd.nil _ _ _ _)
  have hA := (Rd.one (e := 26) (S' := fun b => w.heap.size ≤ b) hN (fun _ h => h) (by simp)).below (bl_new _ (.cells #[.string ⟨#[110, 97, 116]⟩, .slice (some ⟨w.heap.size + 1, 0, none⟩) 1 1] 26))
  have ad : (w.alloc (.cells #[.string ⟨#[110, 97, 116]⟩, .slice none 0 0] 26)).heap.size = w.heap.size + 1 := by simp
  rw [ad] at hA
  clear hN ad
  have HE := Lib.hid (eta_calls var0 funT none (some ⟨w.heap.size + 1, 0, none⟩) 0 1 _ (fun _ => False) _ (by decide +kernel) (by decide +kernel) ((ixT_eq _ _).2 ⟨by show _ ≤ (0 : Int); omega, by show (0 : Int) ≤ _; omega, trivial⟩) (Nat.le_refl _) (Rd.nil _ _ _ _) hA)
  obtain ⟨x, Hx⟩ : ∃ x, Hid (x = etaT var0 funT) := ⟨_, Lib.hid rfl⟩
  have k1 : (x.kind == 3) = true := by rw [Hx.out, aw_eta1]; rfl
  have k2 : ((x.args.length : Int) == 1) = true := by rw [Hx.out, aw_eta1]; rfl
  have k3 : (x.args.length == 1) = true := by rw [Hx.out, aw_eta1]; rfl
  have hxs : tsize x < 1000000000 := by rw [Hx.out, aw_eta1]; decide +kernel
  obtain ⟨y, Hy⟩ : ∃ y, Hid (y = eraseR piT) := ⟨_, Lib.hid rfl⟩
  have hyf : y = funT := by rw [Hy.out, aw_er1]
  have Hyf := Lib.hid hyf
  have hys : ssize y < 1000000000 := by rw [hyf]; decide +kernel
  clear hyf
  go_enter Tryd.func23, Tryd.ntmps23
  go_wp2_with fail
  refine HE.out.use fun w1 A3 c3 hc3 hX hb1 => ?_
  rw [← Hx.out] at hc3 hX ⊢
  rw [aw_eta0]
  replace q1 := bk_below q1 hb1; replace q2 := bk_below q2 hb1; replace B3 := bl_self B3 hb1; replace hA := hA.below hb1; clear hb1
  have hX' := hX.below (bl_new w1 (.cells #[.int .i64 x.kind, .string x.name, .int .i64 x.idx, .slice A3 x.args.length c3] 30))
  have q3 := bk_new w1 (.cells #[.int .i64 x.kind, .string x.name, .int .i64 x.idx, .slice A3 x.args.length c3] 30); replace q1 := bk_alloc q1 (.cells #[.int .i64 x.kind, .string x.name, .int .i64 x.idx, .slice A3 x.args.length c3] 30); replace q2 := bk_alloc q2 (.cells #[.int .i64 x.kind, .string x.name, .int .i64 x.idx, .slice A3 x.args.length c3] 30); replace B3 := bl_alloc B3 (.cells #[.int .i64 x.kind, .string x.name, .int .i64 x.idx, .slice A3 x.args.length c3] 30); replace hA := hA.below (bl_new w1 (.cells #[.int .i64 x.kind, .string x.name, .int .i64 x.idx, .slice A3 x.args.length c3] 30))
  obtain ⟨c0, c1, c2, c4⟩ := bx4 q3
  go_wp2_with fail
  refine (variable2_calls x A3 c3 _ _ hxs hX').use fun w2 hb2 => ?_
  clear c0 c1 c2 c4
  rw [show variT x = some 0 by rw [Hx.out, aw_var]]
  replace q1 := bk_below q1 hb2; replace q2 := bk_below q2 hb2; replace q3 := bk_below q3 hb2; replace B3 := bl_self B3 hb2; replace hA := hA.below hb2; replace hX' := hX'.below hb2; clear hb2
  have hV : tmK.K w2 (fun b => w2.heap.size ≤ b) var0 [.int .i64 5, .string ⟨#[]⟩, .int .i64 0, .slice none 0 0] := tmK_of var0 (Nat.le_refl _) (Rd.nil _ _ _ _)
  have hV1 := Rd.one (e := 30) (S' := fun b => w2.heap.size ≤ b) hV (fun _ h => h) (Nat.le_refl _)
  have hC1 : tmK.K (w2.alloc (.cells #[.int .i64 5, .string ⟨#[]⟩, .int .i64 0, .slice none 0 0] 30)) (fun b => w2.heap.size ≤ b) (.mk 4 natB 0 []) [.int .i64 4, .string ⟨#[110, 97, 116]⟩, .int .i64 0, .slice none 0 0] := tmK_of (.mk 4 natB 0 []) (Nat.le_refl _) (Rd.nil _ _ _ _)
  have hC2 : tmK.K (w2.alloc (.cells #[.int .i64 5, .string ⟨#[]⟩, .int .i64 0, .slice none 0 0] 30)) (fun b => w2.heap.size ≤ b) (.mk 4 natB 0 [var0]) [.int .i64 4, .string ⟨#[110, 97, 116]⟩, .int .i64 0, .slice (some ⟨w2.heap.size, 0, none⟩) 1 1] := tmK_of (.mk 4 natB 0 [var0]) (Nat.le_refl _) hV1
  have hP := (Rd.two (e := 30) (S' := fun b => w2.heap.size ≤ b) hC1 hC2 (fun _ h => h) (by simp)).below (bl_new _ (.cells #[.int .i64 2, .string ⟨#[]⟩, .int .i64 0, .slice (some ⟨w2.heap.size + 1, 0, none⟩) 2 2] 30))
  have ad : (w2.alloc (.cells #[.int .i64 5, .string ⟨#[]⟩, .int .i64 0, .slice none 0 0] 30)).heap.size = w2.heap.size + 1 := by simp
  rw [ad] at hP
  clear ad hV hV1 hC1 hC2
  replace q1 := bk_alloc (bk_alloc (bk_alloc q1 (.cells #[.int .i64 5, .string ⟨#[]⟩, .int .i64 0, .slice none 0 0] 30)) (.cells #[.int .i64 4, .string ⟨#[110, 97, 116]⟩, .int .i64 0, .slice none 0 0, .int .i64 4, .string ⟨#[110, 97, 116]⟩, .int .i64 0, .slice (some ⟨w2.heap.size, 0, none⟩) 1 1] 30)) (.cells #[.int .i64 2, .string ⟨#[]⟩, .int .i64 0, .slice (some ⟨w2.heap.size + 1, 0, none⟩) 2 2] 30)
  replace q2 := bk_alloc (bk_alloc (bk_alloc q2 (.cells #[.int .i64 5, .string ⟨#[]⟩, .int .i64 0, .slice none 0 0] 30)) (.cells #[.int .i64 4, .string ⟨#[110, 97, 116]⟩, .int .i64 0, .slice none 0 0, .int .i64 4, .string ⟨#[110, 97, 116]⟩, .int .i64 0, .slice (some ⟨w2.heap.size, 0, none⟩) 1 1] 30)) (.cells #[.int .i64 2, .string ⟨#[]⟩, .int .i64 0, .slice (some ⟨w2.heap.size + 1, 0, none⟩) 2 2] 30)
  replace q3 := bk_alloc (bk_alloc (bk_alloc q3 (.cells #[.int .i64 5, .string ⟨#[]⟩, .int .i64 0, .slice none 0 0] 30)) (.cells #[.int .i64 4, .string ⟨#[110, 97, 116]⟩, .int .i64 0, .slice none 0 0, .int .i64 4, .string ⟨#[110, 97, 116]⟩, .int .i64 0, .slice (some ⟨w2.heap.size, 0, none⟩) 1 1] 30)) (.cells #[.int .i64 2, .string ⟨#[]⟩, .int .i64 0, .slice (some ⟨w2.heap.size + 1, 0, none⟩) 2 2] 30)
  replace B3 := bl_alloc (bl_alloc (bl_alloc B3 (.cells #[.int .i64 5, .string ⟨#[]⟩, .int .i64 0, .slice none 0 0] 30)) (.cells #[.int .i64 4, .string ⟨#[110, 97, 116]⟩, .int .i64 0, .slice none 0 0, .int .i64 4, .string ⟨#[110, 97, 116]⟩, .int .i64 0, .slice (some ⟨w2.heap.size, 0, none⟩) 1 1] 30)) (.cells #[.int .i64 2, .string ⟨#[]⟩, .int .i64 0, .slice (some ⟨w2.heap.size + 1, 0, none⟩) 2 2] 30)
  have b3 := bl_alloc (bl_alloc (bl_new w2 (.cells #[.int .i64 5, .string ⟨#[]⟩, .int .i64 0, .slice none 0 0] 30)) (.cells #[.int .i64 4, .string ⟨#[110, 97, 116]⟩, .int .i64 0, .slice none 0 0, .int .i64 4, .string ⟨#[110, 97, 116]⟩, .int .i64 0, .slice (some ⟨w2.heap.size, 0, none⟩) 1 1] 30)) (.cells #[.int .i64 2, .string ⟨#[]⟩, .int .i64 0, .slice (some ⟨w2.heap.size + 1, 0, none⟩) 2 2] 30)
  replace hA := hA.below b3
  replace hX' := hX'.below b3
  clear b3
  go_wp2_with fail
  refine (erase2_calls piT (some ⟨w2.heap.size + 1, 0, none⟩) 2 _ _ (by decide +kernel) hP).use fun w3 A5 c5 hc5 hY hb3 => ?_
  rw [← Hy.out] at hc5 hY ⊢
  rw [aw_er0]
  clear hP
  replace q1 := bk_below q1 hb3; replace q2 := bk_below q2 hb3; replace q3 := bk_below q3 hb3; replace B3 := bl_self B3 hb3; replace hA := hA.below hb3; replace hX' := hX'.below hb3; clear hb3
  have hY' := hY.below (bl_new w3 (.cells #[.string y.fam, .slice A5 y.args.length c5] 26))
  have q4 := bk_new w3 (.cells #[.string y.fam, .slice A5 y.args.length c5] 26); replace q1 := bk_alloc q1 (.cells #[.string y.fam, .slice A5 y.args.length c5] 26); replace q2 := bk_alloc q2 (.cells #[.string y.fam, .slice A5 y.args.length c5] 26); replace q3 := bk_alloc q3 (.cells #[.string y.fam, .slice A5 y.args.length c5] 26); replace B3 := bl_alloc B3 (.cells #[.string y.fam, .slice A5 y.args.length c5] 26); replace hA := hA.below (bl_new w3 (.cells #[.string y.fam, .slice A5 y.args.length c5] 26)); replace hX' := hX'.below (bl_new w3 (.cells #[.string y.fam, .slice A5 y.args.length c5] 26))
  clear hY
  obtain ⟨x0, x1, x2, x3⟩ := bx4 q3
  obtain ⟨y0, y1⟩ := bx2 q4
  obtain ⟨s0, s1⟩ := bx2 q2
  obtain ⟨u0, u1⟩ := bx2 q1
  go_wp2_with fail
  refine (sSame_calls (ssize y + 1) y funT A5 _ c5 1 _ _ _ (Nat.lt_succ_self _) hys (by decide +kernel) hY' hA).use fun w4 hb4 => ?_
  rw [Hyf.out, aw_same1, ← Hyf.out]
  clear x0 x1 x2 x3 y0 y1 s0 s1 u0 u1
  replace q1 := bk_below q1 hb4; replace q2 := bk_below q2 hb4; replace q3 := bk_below q3 hb4; replace q4 := bk_below q4 hb4; replace B3 := bl_self B3 hb4; replace hA := hA.below hb4; replace hX' := hX'.below hb4; replace hY' := hY'.below hb4; clear hb4
  obtain ⟨x0, x1, x2, x3⟩ := bx4 q3
  obtain ⟨y0, y1⟩ := bx2 q4
  obtain ⟨s0, s1⟩ := bx2 q2
  obtain ⟨u0, u1⟩ := bx2 q1
  go_wp2_with fail
  refine (sSame_calls (ssize y + 1) y natT A5 none c5 0 _ _ (fun _ => False) (Nat.lt_succ_self _) hys (by decide +kernel) hY' (Rd.nil _ _ _ _)).use fun w5 hb5 => ?_
  rw [Hyf.out, aw_same2, ← Hyf.out]
  clear x0 x1 x2 x3 y0 y1 s0 s1 u0 u1
  replace q1 := bk_below q1 hb5; replace q2 := bk_below q2 hb5; replace q3 := bk_below q3 hb5; replace q4 := bk_below q4 hb5; replace B3 := bl_self B3 hb5; replace hA := hA.below hb5; replace hX' := hX'.below hb5; replace hY' := hY'.below hb5; clear hb5
  obtain ⟨x0, x1, x2, x3⟩ := bx4 q3
  obtain ⟨s0, s1⟩ := bx2 q2
  go_wp2_with fail
  refine (sOrder_calls funT _ 1 _ _ (by decide +kernel) hA).use fun w6 hb6 => ?_
  rw [aw_ord]
  clear x0 x1 x2 x3 s0 s1
  replace q1 := bk_below q1 hb6; replace q2 := bk_below q2 hb6; replace q3 := bk_below q3 hb6; replace q4 := bk_below q4 hb6; replace B3 := bl_self B3 hb6; replace hA := hA.below hb6; replace hX' := hX'.below hb6; replace hY' := hY'.below hb6; clear hb6
  obtain ⟨x0, x1, x2, x3⟩ := bx4 q3
  obtain ⟨s0, s1⟩ := bx2 q2
  go_wp2_with fail
  refine (sSize_calls (ssize funT + 1) funT _ 1 _ _ (Nat.lt_succ_self _) (by decide +kernel) hA).use fun w7 hb7 => ?_
  rw [show ((ssize funT : Nat) : Int) = 2 by decide +kernel]
  clear x0 x1 x2 x3 s0 s1
  replace q1 := bk_below q1 hb7; replace q2 := bk_below q2 hb7; replace q3 := bk_below q3 hb7; replace q4 := bk_below q4 hb7; replace B3 := bl_self B3 hb7; replace hA := hA.below hb7; replace hX' := hX'.below hb7; replace hY' := hY'.below hb7; clear hb7
  obtain ⟨x0, x1, x2, x3⟩ := bx4 q3
  obtain ⟨s0, s1⟩ := bx2 q2
  go_wp2_with fail
  refine (fits_calls x funT A3 _ c3 1 _ _ (fun _ => True) hxs (by decide +kernel) hX').use fun w8 hb8 => ?_
  rw [Hx.out, aw_fits, ← Hx.out]
  clear x0 x1 x2 x3 s0 s1
  replace q1 := bk_below q1 hb8; replace q2 := bk_below q2 hb8; replace q3 := bk_below q3 hb8; replace q4 := bk_below q4 hb8; replace B3 := bl_self B3 hb8; replace hA := hA.below hb8; replace hX' := hX'.below hb8; replace hY' := hY'.below hb8; clear hb8
  go_wp2_with fail
  refine (sWellFormed_calls (.mk ⟨#[]⟩ []) none 0 (fun _ => False) _ (by decide +kernel) (Rd.nil _ _ _ _)).use fun w9 hb9 => ?_
  rw [aw_wf]
  go_wp2_with fail
  go_ret
  exact ⟨rfl, bl_self B3 hb9⟩
end Go.Proofs.YtolooomphmcphaaDoor
