/- The program's package rename: move, Shift. -/
import Derived.Test.YtolooomphmcphaaR7
import Derived.Test.YtolooomphmcphaaE2
namespace Go.Proofs.Ytolooomphmcphaa
open Go.RowKit

abbrev zeroT : Tm := .mk 0 ⟨#[]⟩ 0 []
/-- the call returns a term and one value more -/
abbrev GivP (P : Program) (f : FuncId) (args : Array Value) (w : World) (S : Nat → Prop) (t : Tm) (v : Value) : Prop :=
  Calls P f args w fun e w' => ∃ A c, e = .returned (.tuple #[tmV t A c, v]) ∧ t.args.length ≤ c ∧ Rd tmK w' (fun b => S b ∨ w.heap.size ≤ b) A t.args ∧ Below w.heap.size w w'
theorem GivP.use {P : Program} {f : FuncId} {args : Array Value} {w : World} {S : Nat → Prop} {t : Tm} {v : Value} {R : Ending → World → Prop} (h : GivP P f args w S t v)
    (k : ∀ w' A c, t.args.length ≤ c → Rd tmK w' (fun b => S b ∨ w.heap.size ≤ b) A t.args → Below w.heap.size w w' → R (.returned (.tuple #[tmV t A c, v])) w') : Calls P f args w R :=
  h.mono (by rintro e w' ⟨A, c, rfl, hc, hr, hb⟩; exact k w' A c hc hr hb)
theorem res_pair {fn : Func} {r s : Tmp} {tmps : Array Value} {w : World} {g : Nat} {v0 v1 v2 v3 v : Value} (h : fn.results = #[.cell r 33, .tmp s]) (ht : tmps.getD r undef = .pointer (some ⟨g, 0, none⟩)) (hv : tmps.getD s undef = v)
    (hk : w.heap[g]? = some (.cells #[v0, v1, v2, v3] 33 (0, 0))) : (results fn tmps).run Try.prog w = .ok (.tuple #[.agg #[v0, v1, v2, v3], v]) w := by
  obtain ⟨c0, c1, c2, c3⟩ := bx4 hk
  rw [Array.getD_eq_getD_getElem?] at ht hv
  simp [results, h, ht, hv, go_sem, c0, c1, c2, c3]
set_option maxRecDepth 100000 in
theorem move_calls (t : Tm) (A : Option Addr) (c : Nat) (d fr : Int) (gf gb : Nat) (w : World) (S : Nat → Prop) (h2 : tsize t < 1000000000) (hix : ixT 1000000000000 t) (hd0 : 0 ≤ d) (hd1 : d ≤ 1000000000000) (hf0 : 0 ≤ fr) (hf1 : fr ≤ 1000000000000)
    (hl : t.args.length ≤ c) (hr : Rd tmK w S A t.args) (hf : w.cell? ⟨gf, 0, none⟩ = some (.int .i64 fr)) (hb : w.cell? ⟨gb, 0, none⟩ = some (.int .i64 d)) :
    GivP Try.prog 64 #[tmV t A c, shF gf gb] w S (if shOk d fr 0 t then mv d fr t else zeroT) (.bool (shOk d fr 0 t)) := by
  have hr0 := hr.bound
  clear hr
  have B5 := bl_alloc (bl_alloc (bl_alloc (bl_alloc (bl_new w (.cells (tmB t A c) 33)) (.cells #[shF gf gb] 92)) (.cells #[.int .i64 0, .string ⟨#[]⟩, .int .i64 0, .slice none 0 0] 33)) (.cells #[.bool true] 4)) (.cells #[wkF (w.heap.size + 1) (w.heap.size + 1 + 1 + 1) (w.heap.size + 1 + 1 + 1 + 1)] 86)
  have q1 := bk_alloc (bk_alloc (bk_alloc (bk_at (w := w.alloc (.cells (tmB t A c) 33)) (n := w.heap.size + 1) (by simp) (.cells #[shF gf gb] 92)) (.cells #[.int .i64 0, .string ⟨#[]⟩, .int .i64 0, .slice none 0 0] 33)) (.cells #[.bool true] 4)) (.cells #[wkF (w.heap.size + 1) (w.heap.size + 1 + 1 + 1) (w.heap.size + 1 + 1 + 1 + 1)] 86)
  have q2 := bk_alloc (bk_alloc (bk_at (w := (w.alloc (.cells (tmB t A c) 33)).alloc (.cells #[shF gf gb] 92)) (n := w.heap.size + 1 + 1) (by simp) (.cells #[.int .i64 0, .string ⟨#[]⟩, .int .i64 0, .slice none 0 0] 33)) (.cells #[.bool true] 4)) (.cells #[wkF (w.heap.size + 1) (w.heap.size + 1 + 1 + 1) (w.heap.size + 1 + 1 + 1 + 1)] 86)
  have q3 := bk_alloc (bk_at (w := ((w.alloc (.cells (tmB t A c) 33)).alloc (.cells #[shF gf gb] 92)).alloc (.cells #[.int .i64 0, .string ⟨#[]⟩, .int .i64 0, .slice none 0 0] 33)) (n := w.heap.size + 1 + 1 + 1) (by simp) (.cells #[.bool true] 4)) (.cells #[wkF (w.heap.size + 1) (w.heap.size + 1 + 1 + 1) (w.heap.size + 1 + 1 + 1 + 1)] 86)
  have q4 := bk_at (w := (((w.alloc (.cells (tmB t A c) 33)).alloc (.cells #[shF gf gb] 92)).alloc (.cells #[.int .i64 0, .string ⟨#[]⟩, .int .i64 0, .slice none 0 0] 33)).alloc (.cells #[.bool true] 4)) (n := w.heap.size + 1 + 1 + 1 + 1) (by simp) (.cells #[wkF (w.heap.size + 1) (w.heap.size + 1 + 1 + 1) (w.heap.size + 1 + 1 + 1 + 1)] 86)
  have lf := cl_lt hf
  have lb := cl_lt hb
  have hE : Env _ (w.heap.size + 1) (w.heap.size + 1 + 1 + 1) (w.heap.size + 1 + 1 + 1 + 1) gf gb d fr :=
    ⟨⟨bx1 q1, by omega⟩, ⟨bx1 q4, by omega⟩, ⟨cl_below hf B5, by have : gf < w.heap.size := lf; omega⟩, ⟨cl_below hb B5, by have : gb < w.heap.size := lb; omega⟩⟩
  have hM := move1_calls (tsize t + 1) t A c 0 _ _ _ gf gb d fr _ (fun b => S b ∧ Live w b) true (Nat.lt_succ_self _) h2 hix (by omega) (by omega) hd0 hd1 hf0 hf1 hl (hr0.below B5) (fun x hx => by have := hx.2.lt; omega) hE q3
  have HM := Lib.hid hM
  clear hM
  cases hs : shOk d fr 0 t
  · have Hs := Lib.hid hs
    clear hs
    go_enter Try.func64, Try.ntmps64
    go_wp2_with fail
    refine HM.out.mono ?_
    rintro e w1 ⟨A', c', rfl, hc', hR, hG, hb'⟩
    rw [Int.add_zero] at hR ⊢
    obtain ⟨x, Hx⟩ : ∃ x, Hid (x = mv d fr t) := ⟨_, Lib.hid rfl⟩
    have hxl : x.args.length = t.args.length := by rw [Hx.out, mv_eq]; exact mvs_len _ _ _ _ _
    rw [← hxl] at hc'
    clear hxl
    rw [← Hx.out] at hR ⊢
    have hb2 : w1.heap[w.heap.size + 1 + 1 + 1]? = some (.cells #[.bool false] 4 (0, 0)) := by rw [Hs.out] at hb'; exact hb'
    have p2 := bk_grown q2 hG (by simp)
    have hBw := bl_grown B5 hG (fun k hk => by have : w.heap.size + 1 + 1 + 1 = k := by simpa using hk
                                               omega)
    have hsz := hG.size
    have hsz5 : w.heap.size + 5 ≤ w1.heap.size := by simp at hsz; omega
    clear hb' hG
    have p3 := bk_alloc p2 (.cells #[.int .i64 x.kind, .string x.name, .int .i64 x.idx, .slice A' x.args.length c'] 33)
    have p4 := bk_alloc hb2 (.cells #[.int .i64 x.kind, .string x.name, .int .i64 x.idx, .slice A' x.args.length c'] 33)
    have p5 := bk_new w1 (.cells #[.int .i64 x.kind, .string x.name, .int .i64 x.idx, .slice A' x.args.length c'] 33)
    have B6 := bl_alloc hBw (.cells #[.int .i64 x.kind, .string x.name, .int .i64 x.idx, .slice A' x.args.length c'] 33)
    have y0 := bx1 p4
    obtain ⟨a0, a1, a2, a3⟩ := bx4 p3
    obtain ⟨e0, e1, e2, e3⟩ := bx4 p5
    have z0 := bk_free p3 0
    have z1 := bk_free p3 1
    have z2 := bk_free p3 2
    have z3 := bk_free p3 3
    go_wp2_with fail
    refine bodyPost_ret (res_pair rfl rfl rfl (set4_self p3)) rfl ⟨none, 0, rfl, Nat.le_refl _, Rd.nil _ _ _ _, bl_set4 B6 (by omega)⟩
  · have Hs := Lib.hid hs
    clear hs
    go_enter Try.func64, Try.ntmps64
    go_wp2_with fail
    refine HM.out.mono ?_
    rintro e w1 ⟨A', c', rfl, hc', hR, hG, hb'⟩
    rw [Int.add_zero] at hR ⊢
    obtain ⟨x, Hx⟩ : ∃ x, Hid (x = mv d fr t) := ⟨_, Lib.hid rfl⟩
    have hxl : x.args.length = t.args.length := by rw [Hx.out, mv_eq]; exact mvs_len _ _ _ _ _
    rw [← hxl] at hc'
    clear hxl
    rw [← Hx.out] at hR ⊢
    have hb2 : w1.heap[w.heap.size + 1 + 1 + 1]? = some (.cells #[.bool true] 4 (0, 0)) := by rw [Hs.out] at hb'; exact hb'
    have p2 := bk_grown q2 hG (by simp)
    have hBw := bl_grown B5 hG (fun k hk => by have : w.heap.size + 1 + 1 + 1 = k := by simpa using hk
                                               omega)
    have hsz := hG.size
    have hsz5 : w.heap.size + 5 ≤ w1.heap.size := by simp at hsz; omega
    clear hb' hG
    have p3 := bk_alloc p2 (.cells #[.int .i64 x.kind, .string x.name, .int .i64 x.idx, .slice A' x.args.length c'] 33)
    have p4 := bk_alloc hb2 (.cells #[.int .i64 x.kind, .string x.name, .int .i64 x.idx, .slice A' x.args.length c'] 33)
    have p5 := bk_new w1 (.cells #[.int .i64 x.kind, .string x.name, .int .i64 x.idx, .slice A' x.args.length c'] 33)
    have B6 := bl_alloc hBw (.cells #[.int .i64 x.kind, .string x.name, .int .i64 x.idx, .slice A' x.args.length c'] 33)
    have y0 := bx1 p4
    obtain ⟨a0, a1, a2, a3⟩ := bx4 p3
    obtain ⟨e0, e1, e2, e3⟩ := bx4 p5
    have z0 := bk_free p3 0
    have z1 := bk_free p3 1
    have z2 := bk_free p3 2
    have z3 := bk_free p3 3
    go_wp2_with fail
    refine bodyPost_ret (res_pair rfl rfl rfl (set4_self p3)) rfl ⟨A', c', ?_, ?_, ?_, bl_set4 B6 (by omega)⟩
    · simp [Hx.out]
    · simpa [Hx.out] using hc'
    · have e6 : (((((w.alloc (.cells (tmB t A c) 33)).alloc (.cells #[shF gf gb] 92)).alloc (.cells #[.int .i64 0, .string ⟨#[]⟩, .int .i64 0, .slice none 0 0] 33)).alloc (.cells #[.bool true] 4)).alloc (.cells #[wkF (w.heap.size + 1) (w.heap.size + 1 + 1 + 1) (w.heap.size + 1 + 1 + 1 + 1)] 86)).heap.size = w.heap.size + 5 := by simp
      rw [e6] at hR
      show Rd tmK _ _ A' (mv d fr t).args
      rw [← Hx.out]
      refine (((hR.below (bl_new w1 _)).set4 (g := w.heap.size + 1 + 1) (fun b hb => ?_))).mono (fun b hb _ => ?_)
      · rcases hb with hb | hb
        · have := hb.1.2.lt; omega
        · omega
      · rcases hb with hb | hb
        · exact .inl hb.1.1
        · exact .inr (by omega)

/-- the bounds of a well-formed term's indices -/
theorem ixTs_iff (n : Int) (a : List Tm) : ixTs n a ↔ ∀ t ∈ a, ixT n t := by
  induction a with
  | nil => simp [ixTs]
  | cons t r ih => simp [ixTs, ih]
end Go.Proofs.Ytolooomphmcphaa
