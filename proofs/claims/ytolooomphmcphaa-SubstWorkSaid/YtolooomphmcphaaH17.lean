/- lfchecklaw08.awake: the small thing that must work. -/
import Derived.Test.YtolooomphmcphaaH11
import Derived.Test.YtolooomphmcphaaL4
namespace Go.Proofs.Ytolooomphmcphaa
open Go.RowKit

def idT : Tm := .mk 3 ⟨#[]⟩ 0 [v0T]
def xcT : Tm := .mk 5 ⟨#[]⟩ 0 [cT]
def pvT : Tm := .mk 2 ⟨#[]⟩ 0 [cT, .mk 4 ⟨#[118]⟩ 0 [v0T]]
theorem aw1 : manyR xcT [idT] [fS] = (0, cT) := by
  have h : (manyR xcT [idT] [fS]).1 = 0 ∧ (manyR xcT [idT] [fS]).2.kind = 4 ∧ (manyR xcT [idT] [fS]).2.name = ⟨#[99]⟩ ∧ (manyR xcT [idT] [fS]).2.idx = 0 ∧ (manyR xcT [idT] [fS]).2.args.isEmpty = true := by decide +kernel
  obtain ⟨h1, h2, h3, h4, h5⟩ := h
  generalize manyR xcT [idT] [fS] = r at *
  obtain ⟨e, t⟩ := r
  cases t with
  | mk k s i a =>
    simp only [Tm.kind, Tm.name, Tm.idx, Tm.args, List.isEmpty_iff] at h1 h2 h3 h4 h5
    subst h1 h2 h3 h4 h5
    rfl
theorem aw2 : (manyR xcT [cT] [fS]).1 = 6 := by decide +kernel
theorem aw3 : (applyR idT fS [cT]).1 = 0 ∧ (applyR idT fS [cT]).2.name = ⟨#[99]⟩ := by decide +kernel
theorem aw4 : (instR pvT cT).1 = 0 ∧ (instR pvT cT).2.name = ⟨#[118]⟩ ∧ ((instR pvT cT).2.args.length == 1) = true ∧ ((instR pvT cT).2.args.getD 0 zeroT).name = ⟨#[99]⟩ := by decide +kernel
set_option maxRecDepth 100000 in
set_option maxHeartbeats 4000000 in
theorem awake8_calls (w : World) : Giv Try.prog 18 #[] w (.bool true) := by
  go_enter Try.func18, Try.ntmps18
  go_upto_region 4 with (fail)
  go_cut [2, 3, 4] (fun s2 s3 s4 wc => ∃ g2 g3 g4 a2 a3 : Nat, s2 = .pointer (some ⟨g2, 0, none⟩) ∧ s3 = .pointer (some ⟨g3, 0, none⟩) ∧ s4 = .pointer (some ⟨g4, 0, none⟩) ∧ wc.heap[g2]? = some (.cells #[.string ⟨#[110, 97, 116]⟩, .slice (some ⟨a2, 0, none⟩) 1 1] 25 (0, 0)) ∧ Rd smK wc (fun _ => True) (some ⟨a2, 0, none⟩) [natS] ∧
      wc.heap[g3]? = some (.cells #[.int .i64 3, .string ⟨#[]⟩, .int .i64 0, .slice (some ⟨a3, 0, none⟩) 1 1] 33 (0, 0)) ∧ Rd tmK wc (fun _ => True) (some ⟨a3, 0, none⟩) [v0T] ∧ wc.heap[g4]? = some (.cells #[.int .i64 4, .string ⟨#[99]⟩, .int .i64 0, .slice none 0 0] 33 (0, 0)) ∧ Below w.heap.size w wc)
  case first =>
    go_wp2_with fail
    go_meet
    have hA := Rd.one (d := smK) (e := 25) (S' := fun _ => True) (w := w.alloc (.cells #[.string ⟨#[110, 97, 116]⟩, .slice none 0 0] 25)) (smK_of natS (c := 0) (A := none) (Nat.le_refl _) (Rd.nil smK _ (fun _ => True) _)) (fun _ _ => trivial) trivial
    have hA1 := (hA.below (bl_new _ (.cells #[.string ⟨#[110, 97, 116]⟩, .slice (some ⟨w.heap.size + 1, 0, none⟩) 1 1] 25)))
    have hB := Rd.one (d := tmK) (e := 33) (S' := fun _ => True) (w := ((w.alloc (.cells #[.string ⟨#[110, 97, 116]⟩, .slice none 0 0] 25)).alloc (.cells #[.string ⟨#[110, 97, 116]⟩, .slice none 0 0] 25)).alloc (.cells #[.string ⟨#[110, 97, 116]⟩, .slice (some ⟨w.heap.size + 1, 0, none⟩) 1 1] 25)) (tmK_of v0T (c := 0) (A := none) (Nat.le_refl _) (Rd.nil tmK _ (fun _ => True) _)) (fun _ _ => trivial) trivial
    simp only [World.size_alloc] at hA1 hB
    refine ⟨_, _, _, w.heap.size + 1, w.heap.size + 1 + 1 + 1, rfl, rfl, rfl, bk_alloc (bk_alloc (bk_alloc (bk_at (by simp) _) _) _) _, ((hA1.below (bl_new _ _)).below (bl_new _ _)).below (bl_new _ _), bk_alloc (bk_at (by simp) _) _, (hB.below (bl_new _ _)).below (bl_new _ _), bk_at (by simp) _, ?_⟩
    exact bl_alloc (bl_alloc (bl_alloc (bl_alloc (bl_alloc (bl_new w _) _) _) _) _) _
  case rest =>
  obtain ⟨g2, g3, g4, a2, a3, rfl, rfl, rfl, p2, RS, p3, RI, p4, B⟩ := hcut
  obtain ⟨x0, x1⟩ := bx2 p2
  obtain ⟨y0, y1, y2, y3⟩ := bx4 p3
  obtain ⟨z0, z1, z2, z3⟩ := bx4 p4
  have q2 := bk_alloc p2 (.cells #[.int .i64 4, .string ⟨#[99]⟩, .int .i64 0, .slice none 0 0] 33)
  have q3 := bk_alloc p3 (.cells #[.int .i64 4, .string ⟨#[99]⟩, .int .i64 0, .slice none 0 0] 33)
  have q4 := bk_alloc p4 (.cells #[.int .i64 4, .string ⟨#[99]⟩, .int .i64 0, .slice none 0 0] 33)
  obtain ⟨a0, a1⟩ := bx2 q2
  obtain ⟨b0, b1, b2, b3⟩ := bx4 q3
  obtain ⟨d0, d1, d2, d3⟩ := bx4 q4
  -- x c with the identity
  have RC := Rd.one (d := tmK) (e := 33) (S' := fun _ => True) (w := wc) (tmK_of cT (c := 0) (A := none) (Nat.le_refl _) (Rd.nil tmK _ (fun _ => True) _)) (fun _ _ => trivial) trivial
  have h1 := subst_calls xcT idT fS (some ⟨wc.heap.size, 0, none⟩) (some ⟨a3, 0, none⟩) (some ⟨a2, 0, none⟩) 1 1 1 _ _ _ _ (by decide +kernel) (by decide +kernel) (by decide +kernel) (Nat.le_refl _) RC (Nat.le_refl _) (RI.below (bl_new wc _)) (Nat.le_refl _) (RS.below (bl_new wc _))
  rw [aw1] at h1
  have H1 := Lib.hid h1
  clear h1
  go_upto_region 6 with (go_at_call 19; refine H1.out.use fun w1 A1 c1 hc1 hR1 hb1 => ?_)
  have C1 := bl_self (bl_new wc (.cells #[.int .i64 4, .string ⟨#[99]⟩, .int .i64 0, .slice none 0 0] 33)) hb1
  replace B := bl_self B C1
  replace RS := RS.below C1
  replace RI := RI.below C1
  replace p2 := bk_below p2 C1
  replace p3 := bk_below p3 C1
  replace p4 := bk_below p4 C1
  clear hb1 C1 hR1 hc1
  clear x0 x1 y0 y1 y2 y3 z0 z1 z2 z3 a0 a1 b0 b1 b2 b3 d0 d1 d2 d3 q2 q3 q4
  have p5 := bk_new w1 (.cells (tmB cT A1 c1) 33)
  replace p2 := bk_alloc p2 (.cells (tmB cT A1 c1) 33)
  replace p3 := bk_alloc p3 (.cells (tmB cT A1 c1) 33)
  replace p4 := bk_alloc p4 (.cells (tmB cT A1 c1) 33)
  replace RS := RS.below (bl_new w1 (.cells (tmB cT A1 c1) 33))
  replace RI := RI.below (bl_new w1 (.cells (tmB cT A1 c1) 33))
  replace B := bl_alloc B (.cells (tmB cT A1 c1) 33)
  generalize hW2 : w1.alloc (.cells (tmB cT A1 c1) 33) = W2 at *
  obtain ⟨x0, x1⟩ := bx2 p2
  obtain ⟨y0, y1, y2, y3⟩ := bx4 p3
  obtain ⟨z0, z1, z2, z3⟩ := bx4 p4
  have q2 := bk_alloc p2 (.cells #[.int .i64 4, .string ⟨#[99]⟩, .int .i64 0, .slice none 0 0] 33)
  have q3 := bk_alloc p3 (.cells #[.int .i64 4, .string ⟨#[99]⟩, .int .i64 0, .slice none 0 0] 33)
  have q4 := bk_alloc p4 (.cells #[.int .i64 4, .string ⟨#[99]⟩, .int .i64 0, .slice none 0 0] 33)
  obtain ⟨a0, a1⟩ := bx2 q2
  obtain ⟨b0, b1, b2, b3⟩ := bx4 q3
  obtain ⟨d0, d1, d2, d3⟩ := bx4 q4
  have RC := Rd.one (d := tmK) (e := 33) (S' := fun _ => True) (w := W2) (tmK_of cT (c := 0) (A := none) (Nat.le_refl _) (Rd.nil tmK _ (fun _ => True) _)) (fun _ _ => trivial) trivial
  have h2 := subst_calls xcT cT fS (some ⟨W2.heap.size, 0, none⟩) none (some ⟨a2, 0, none⟩) 1 0 1 _ _ _ _ (by decide +kernel) (by decide +kernel) (by decide +kernel) (Nat.le_refl _) RC (Nat.le_refl _) (Rd.nil tmK _ (fun _ => True) _) (Nat.le_refl _) (RS.below (bl_new W2 (.cells #[.int .i64 4, .string ⟨#[99]⟩, .int .i64 0, .slice none 0 0] 33)))
  rw [aw2] at h2
  generalize (manyR xcT [cT] [fS]).2 = u2 at h2
  have H2 := Lib.hid h2
  clear h2 hW2
  go_upto_region 7 with (go_at_call 19; refine H2.out.use fun w2 A2 c2 hc2 hR2 hb1 => ?_)
  clear hR2 hc2
  have C1 := bl_self (bl_new W2 (.cells #[.int .i64 4, .string ⟨#[99]⟩, .int .i64 0, .slice none 0 0] 33)) hb1
  replace B := bl_self B C1
  replace RS := RS.below C1
  replace RI := RI.below C1
  replace p2 := bk_below p2 C1
  replace p3 := bk_below p3 C1
  replace p4 := bk_below p4 C1
  replace p5 := bk_below p5 C1
  clear hb1 C1
  clear x0 x1 y0 y1 y2 y3 z0 z1 z2 z3 a0 a1 b0 b1 b2 b3 d0 d1 d2 d3 q2 q3 q4
  have p7 := bk_new w2 (.cells (tmB u2 A2 c2) 33)
  replace p2 := bk_alloc p2 (.cells (tmB u2 A2 c2) 33)
  replace p3 := bk_alloc p3 (.cells (tmB u2 A2 c2) 33)
  replace p4 := bk_alloc p4 (.cells (tmB u2 A2 c2) 33)
  replace p5 := bk_alloc p5 (.cells (tmB u2 A2 c2) 33)
  replace RS := RS.below (bl_new w2 (.cells (tmB u2 A2 c2) 33))
  replace RI := RI.below (bl_new w2 (.cells (tmB u2 A2 c2) 33))
  replace B := bl_alloc B (.cells (tmB u2 A2 c2) 33)
  clear p7
  generalize hW3 : w2.alloc (.cells (tmB u2 A2 c2) 33) = W3 at *
  obtain ⟨x0, x1⟩ := bx2 p2
  obtain ⟨y0, y1, y2, y3⟩ := bx4 p3
  obtain ⟨z0, z1, z2, z3⟩ := bx4 p4
  have q2 := bk_alloc p2 (.cells #[.int .i64 4, .string ⟨#[99]⟩, .int .i64 0, .slice none 0 0] 33)
  have q3 := bk_alloc p3 (.cells #[.int .i64 4, .string ⟨#[99]⟩, .int .i64 0, .slice none 0 0] 33)
  have q4 := bk_alloc p4 (.cells #[.int .i64 4, .string ⟨#[99]⟩, .int .i64 0, .slice none 0 0] 33)
  obtain ⟨a0, a1⟩ := bx2 q2
  obtain ⟨b0, b1, b2, b3⟩ := bx4 q3
  obtain ⟨d0, d1, d2, d3⟩ := bx4 q4
  have RC := Rd.one (d := tmK) (e := 33) (S' := fun _ => True) (w := W3) (tmK_of cT (c := 0) (A := none) (Nat.le_refl _) (Rd.nil tmK _ (fun _ => True) _)) (fun _ _ => trivial) trivial
  have h3 := apply2_calls idT fS [cT] (some ⟨a3, 0, none⟩) (some ⟨a2, 0, none⟩) (some ⟨W3.heap.size, 0, none⟩) 1 1 1 _ _ _ _ (by decide +kernel) (fun a ha => by rw [List.mem_singleton.1 ha]; decide +kernel) (by decide +kernel) (by decide) (Nat.le_refl _) (RI.below (bl_new W3 (.cells #[.int .i64 4, .string ⟨#[99]⟩, .int .i64 0, .slice none 0 0] 33))) (Nat.le_refl _) (RS.below (bl_new W3 (.cells #[.int .i64 4, .string ⟨#[99]⟩, .int .i64 0, .slice none 0 0] 33))) RC
  rw [aw3.1] at h3
  obtain ⟨u3, hu3⟩ : ∃ u, (applyR idT fS [cT]).2 = u := ⟨_, rfl⟩
  have hn3 : u3.name = ⟨#[99]⟩ := by rw [← hu3]; exact aw3.2
  rw [hu3] at h3
  have H3 := Lib.hid h3
  have Hn3 := Lib.hid hn3
  clear h3 hu3 hn3 hW3
  go_upto_region 8 with (go_at_call 21; refine H3.out.use fun w3 A3 c3 hc3 hR3 hb1 => ?_)
  clear hR3 hc3
  have C1 := bl_self (bl_new W3 (.cells #[.int .i64 4, .string ⟨#[99]⟩, .int .i64 0, .slice none 0 0] 33)) hb1
  replace B := bl_self B C1
  replace RS := RS.below C1
  replace RI := RI.below C1
  replace p2 := bk_below p2 C1
  replace p3 := bk_below p3 C1
  replace p4 := bk_below p4 C1
  replace p5 := bk_below p5 C1
  clear hb1 C1
  clear x0 x1 y0 y1 y2 y3 z0 z1 z2 z3 a0 a1 b0 b1 b2 b3 d0 d1 d2 d3 q2 q3 q4
  have p9 := bk_new w3 (.cells (tmB u3 A3 c3) 33)
  replace p2 := bk_alloc p2 (.cells (tmB u3 A3 c3) 33)
  replace p3 := bk_alloc p3 (.cells (tmB u3 A3 c3) 33)
  replace p4 := bk_alloc p4 (.cells (tmB u3 A3 c3) 33)
  replace p5 := bk_alloc p5 (.cells (tmB u3 A3 c3) 33)
  replace RS := RS.below (bl_new w3 (.cells (tmB u3 A3 c3) 33))
  replace RI := RI.below (bl_new w3 (.cells (tmB u3 A3 c3) 33))
  replace B := bl_alloc B (.cells (tmB u3 A3 c3) 33)
  replace p9 := p9.trans (show some (Obj.cells (tmB u3 A3 c3) 33 (0, 0)) = some (Obj.cells #[.int .i64 u3.kind, .string ⟨#[99]⟩, .int .i64 u3.idx, .slice A3 u3.args.length c3] 33 (0, 0)) by rw [tmB, Hn3.out])
  generalize hW4 : w3.alloc (.cells (tmB u3 A3 c3) 33) = W4 at *
  clear hW4
  obtain ⟨z0, z1, z2, z3⟩ := bx4 p4
  have q4 := bk_alloc (bk_alloc p4 (.cells #[.int .i64 5, .string ⟨#[]⟩, .int .i64 0, .slice none 0 0] 33)) (.cells #[.int .i64 4, .string ⟨#[99]⟩, .int .i64 0, .slice none 0 0, .int .i64 4, .string ⟨#[118]⟩, .int .i64 0, .slice (some ⟨W4.heap.size, 0, none⟩) 1 1] 33)
  obtain ⟨d0, d1, d2, d3⟩ := bx4 q4
  have RV := Rd.one (d := tmK) (e := 33) (S' := fun _ => True) (w := W4) (tmK_of v0T (c := 0) (A := none) (Nat.le_refl _) (Rd.nil tmK _ (fun _ => True) _)) (fun _ _ => trivial) trivial
  have RP := Rd.two (d := tmK) (e := 33) (S' := fun _ => True) (tmK_of cT (c := 0) (A := none) (Nat.le_refl _) (Rd.nil tmK _ (fun _ => True) _)) (tmK_of (.mk 4 ⟨#[118]⟩ 0 [v0T]) (c := 1) (Nat.le_refl _) RV) (fun _ _ => trivial) trivial
  simp only [World.size_alloc] at RP
  have h4 := inst_calls pvT cT (some ⟨W4.heap.size + 1, 0, none⟩) none 2 0 _ _ _ (by decide +kernel) (by decide +kernel) (Nat.le_refl _) RP (Nat.le_refl _) (Rd.nil tmK _ (fun _ => True) _)
  rw [aw4.1] at h4
  obtain ⟨u4, hu4⟩ : ∃ u, (instR pvT cT).2 = u := ⟨_, rfl⟩
  have hn4 := aw4.2
  rw [hu4] at h4 hn4
  have H4 := Lib.hid h4
  have Hn4 := Lib.hid hn4
  clear h4 hu4 hn4
  go_upto_region 9 with (go_at_call 43; refine H4.out.use fun w4 A4 c4 hc4 hR4 hb1 => ?_)
  have C1 := bl_self (bl_alloc (bl_new W4 (.cells #[.int .i64 5, .string ⟨#[]⟩, .int .i64 0, .slice none 0 0] 33)) (.cells #[.int .i64 4, .string ⟨#[99]⟩, .int .i64 0, .slice none 0 0, .int .i64 4, .string ⟨#[118]⟩, .int .i64 0, .slice (some ⟨W4.heap.size, 0, none⟩) 1 1] 33)) hb1
  replace B := bl_self B C1
  replace p5 := bk_alloc (bk_below p5 C1) (.cells (tmB u4 A4 c4) 33)
  replace p9 := bk_alloc (bk_below p9 C1) (.cells (tmB u4 A4 c4) 33)
  have p11 := bk_new w4 (.cells (tmB u4 A4 c4) 33)
  replace B := bl_alloc B (.cells (tmB u4 A4 c4) 33)
  replace hR4 := hR4.below (bl_new w4 (.cells (tmB u4 A4 c4) 33))
  clear hb1 C1 z0 z1 z2 z3 d0 d1 d2 d3 q4 p2 p3 p4 RS RI
  have hl4 : u4.args.length = 1 := by have := Hn4.out.2.1; simpa using this
  have hl0 : 0 < u4.args.length := by omega
  obtain ⟨b, o, A', c', rfl, _, f0, f1, f2, f3, _, _⟩ := hR4.tm0 hl0
  have hf : u4.args[0].name = ⟨#[99]⟩ := by
    have := Hn4.out.2.2
    rw [List.getD_eq_getElem?_getD, List.getElem?_eq_getElem hl0] at this
    exact this
  rw [hf] at f1
  replace p11 := p11.trans (show some (Obj.cells (tmB u4 (some ⟨b, o, none⟩) c4) 33 (0, 0)) = some (Obj.cells #[.int .i64 u4.kind, .string ⟨#[118]⟩, .int .i64 u4.idx, .slice (some ⟨b, o, none⟩) u4.args.length c4] 33 (0, 0)) by rw [tmB, Hn4.out.1])
  have hlb : ((u4.args.length : Int) == 1) = true := by rw [hl4]; rfl
  clear hl4 hf f0 f2 f3
  generalize w4.alloc (.cells (tmB u4 (some ⟨b, o, none⟩) c4) 33) = W5 at *
  obtain ⟨e0, e1, e2, e3⟩ := bx4 p11
  obtain ⟨i0, i1, i2, i3⟩ := bx4 p9
  have j1 : W5.cell? ⟨_, 1, none⟩ = some (.string ⟨#[99]⟩) := bk_cell p5 1 rfl
  go_wp2_with fail
  go_ret
  exact ⟨rfl, B⟩
end Go.Proofs.Ytolooomphmcphaa
