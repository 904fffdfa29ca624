/- simple.Erase, simple.Eta. -/
import Derived.Test.YtolooomphmcphaaR9
namespace Go.Proofs.Ytolooomphmcphaa
open Go.RowKit

abbrev zeroS : Sm := .mk ⟨#[]⟩ []
abbrev GivQ (P : Program) (f : FuncId) (args : Array Value) (w : World) (S : Nat → Prop) (t : Sm) (v : Value) : Prop :=
  Calls P f args w fun e w' => ∃ A c, e = .returned (.tuple #[smV t A c, v]) ∧ t.args.length ≤ c ∧ Rd smK w' (fun b => S b ∨ w.heap.size ≤ b) A t.args ∧ Below w.heap.size w w'
theorem GivQ.use {P : Program} {f : FuncId} {args : Array Value} {w : World} {S : Nat → Prop} {t : Sm} {v : Value} {R : Ending → World → Prop} (h : GivQ P f args w S t v)
    (k : ∀ w' A c, t.args.length ≤ c → Rd smK w' (fun b => S b ∨ w.heap.size ≤ b) A t.args → Below w.heap.size w w' → R (.returned (.tuple #[smV t A c, v])) w') : Calls P f args w R :=
  h.mono (by rintro e w' ⟨A, c, rfl, hc, hr, hb⟩; exact k w' A c hc hr hb)
theorem res_pairS {fn : Func} {r s : Tmp} {tmps : Array Value} {w : World} {g : Nat} {v0 v1 v : Value} (h : fn.results = #[.cell r 25, .tmp s]) (ht : tmps.getD r undef = .pointer (some ⟨g, 0, none⟩)) (hv : tmps.getD s undef = v)
    (hk : w.heap[g]? = some (.cells #[v0, v1] 25 (0, 0))) : (results fn tmps).run Try.prog w = .ok (.tuple #[.agg #[v0, v1], v]) w := by
  obtain ⟨c0, c1⟩ := bx2 hk
  rw [Array.getD_eq_getD_getElem?] at ht hv
  simp [results, h, ht, hv, go_sem, c0, c1]
def eraseE (t : Tm) : Int := if wfE t = 0 then (if tkB t then 0 else 32) else wfE t
def eraseR (t : Tm) : Sm := if wfE t = 0 ∧ tkB t = true then eraseT t else zeroS
theorem ssize_erase : ∀ t : Tm, ssize (eraseT t) ≤ tsize t
  | .mk k s i [a, b] => by
    have h1 := ssize_erase a
    have h2 := ssize_erase b
    have h3 := ssize_eq (eraseT b)
    unfold eraseT
    split
    · simp only [ssize, ssizes, tsize, tsizes]; omega
    · simp only [ssize, ssizes, tsize]; omega
  | .mk k s i [] => by simp [eraseT, ssize, ssizes, tsize]
  | .mk k s i [a] => by simp [eraseT, ssize, ssizes, tsize]
  | .mk k s i (a :: b :: c :: r) => by simp [eraseT, ssize, ssizes, tsize]
theorem wf_small {t : Tm} (h : wfE t = 0) : smallB t = true := by
  cases hs : smallB t
  · unfold wfE at h
    rw [hs] at h
    split at h
    · cases h
    · simp at h
  · rfl
theorem erase2_calls (t : Tm) (A : Option Addr) (c : Nat) (w : World) (S : Nat → Prop) (h2 : tsize t < 100000000) (hr : Rd tmK w S A t.args) :
    GivQ Try.prog 32 #[tmV t A c] w (fun _ => False) (eraseR t) (.int .i64 (eraseE t)) := by
  have B2 := bl_alloc (bl_new w (.cells (tmB t A c) 33)) (.cells #[.string ⟨#[]⟩, .slice none 0 0] 25)
  have q0 := bk_alloc (bk_new w (.cells (tmB t A c) 33)) (.cells #[.string ⟨#[]⟩, .slice none 0 0] 25)
  have q1 := bk_at (w := w.alloc (.cells (tmB t A c) 33)) (n := w.heap.size + 1) (by simp) (.cells #[.string ⟨#[]⟩, .slice none 0 0] 25)
  have hsz : w.heap.size + 2 ≤ ((w.alloc (.cells (tmB t A c) 33)).alloc (.cells #[.string ⟨#[]⟩, .slice none 0 0] 25)).heap.size := by simp
  have HW := Lib.hid (wellFormed_calls t A c _ _ (by omega) (hr.below B2))
  by_cases h0 : wfE t = 0
  · have H0 := Lib.hid h0
    have Hsm := Lib.hid (wf_small h0)
    have He1 : Hid (eraseE t = if tkB t then 0 else 32) := Lib.hid (by rw [eraseE, if_pos h0])
    have He2 : Hid (eraseR t = if tkB t then eraseT t else zeroS) := Lib.hid (by unfold eraseR; simp [h0])
    clear h0
    rw [He1.out, He2.out]
    cases ht : typB t
    · cases hk : kndB t
      · have Ht := Lib.hid ht
        have Hk := Lib.hid hk
        have e : tkB t = false := by rw [tkB, ht, hk]; rfl
        rw [e]
        clear e ht hk
        go_enter Try.func32, Try.ntmps32
        go_wp2_with fail
        refine HW.out.use fun w1 hb1 => ?_
        rw [H0.out]
        replace q0 := bk_below q0 hb1
        replace q1 := bk_below q1 hb1
        replace B2 := bl_self B2 hb1
        obtain ⟨c0, c1, c2, c3⟩ := bx4 q0
        go_wp2_with fail
        refine (isType_calls t A c _ _ (by omega) (hr.below B2)).use fun w2 hb2 => ?_
        rw [Ht.out, Hsm.out]
        replace q0 := bk_below q0 hb2
        replace q1 := bk_below q1 hb2
        replace B2 := bl_self B2 hb2
        clear c0 c1 c2 c3
        obtain ⟨c0, c1, c2, c3⟩ := bx4 q0
        go_wp2_with fail
        refine (isKind_calls t A c _ _ (by omega) (hr.below B2)).use fun w3 hb3 => ?_
        rw [Hk.out, Hsm.out]
        replace q1 := bk_below q1 hb3
        replace B2 := bl_self B2 hb3
        obtain ⟨a0, a1⟩ := bx2 q1
        have z0 := bk_free q1 0
        have z1 := bk_free q1 1
        go_wp2_with fail
        exact bodyPost_ret (res_pairS rfl rfl rfl (set2_self q1)) rfl ⟨none, 0, rfl, Nat.le_refl _, Rd.nil _ _ _ _, bl_set2 B2 (by omega)⟩
      · have Ht := Lib.hid ht
        have Hk := Lib.hid hk
        have e : tkB t = true := by rw [tkB, ht, hk]; rfl
        have Htk := Lib.hid e
        rw [e]
        clear e ht hk
        go_enter Try.func32, Try.ntmps32
        go_wp2_with fail
        refine HW.out.use fun w1 hb1 => ?_
        rw [H0.out]
        replace q0 := bk_below q0 hb1
        replace q1 := bk_below q1 hb1
        replace B2 := bl_self B2 hb1
        obtain ⟨c0, c1, c2, c3⟩ := bx4 q0
        go_wp2_with fail
        refine (isType_calls t A c _ _ (by omega) (hr.below B2)).use fun w2 hb2 => ?_
        rw [Ht.out, Hsm.out]
        replace q0 := bk_below q0 hb2
        replace q1 := bk_below q1 hb2
        replace B2 := bl_self B2 hb2
        replace hsz := Nat.le_trans hsz (Nat.le_trans hb1.size hb2.size)
        clear c0 c1 c2 c3
        obtain ⟨c0, c1, c2, c3⟩ := bx4 q0
        go_wp2_with fail
        refine (isKind_calls t A c _ _ (by omega) (hr.below B2)).use fun w3 hb3 => ?_
        rw [Hk.out, Hsm.out]
        replace q0 := bk_below q0 hb3
        replace q1 := bk_below q1 hb3
        replace B2 := bl_self B2 hb3
        replace hsz := Nat.le_trans hsz hb3.size
        clear c0 c1 c2 c3
        obtain ⟨c0, c1, c2, c3⟩ := bx4 q0
        go_wp2_with fail
        refine (erase_calls (tsize t + 1) t A c _ S (Nat.lt_succ_self _) h2 Htk.out (hr.below B2)).use fun w4 A4 c4 hc4 hR4 hb4 => ?_
        obtain ⟨x, Hx⟩ : ∃ x, Hid (x = eraseT t) := ⟨_, Lib.hid rfl⟩
        rw [← Hx.out] at hc4 hR4 ⊢
        replace q1 := bk_below q1 hb4
        replace B2 := bl_self B2 hb4
        obtain ⟨a0, a1⟩ := bx2 q1
        have z0 := bk_free q1 0
        have z1 := bk_free q1 1
        go_wp2_with fail
        refine bodyPost_ret (res_pairS rfl rfl rfl (set2_self q1)) rfl ⟨A4, c4, ?_, ?_, ?_, bl_set2 B2 (by omega)⟩
        · simp [Hx.out]
        · simpa [Hx.out] using hc4
        · show Rd smK _ _ A4 (eraseT t).args
          rw [← Hx.out]
          refine (hR4.set2 (g := w.heap.size + 1) (fun b hb => ?_)).mono (fun b hb _ => ?_)
          · rcases hb with hb | hb
            · exact hb.elim
            · omega
          · rcases hb with hb | hb
            · exact hb.elim
            · first | omega | exact .inr (by omega)
    · have Ht := Lib.hid ht
      have e : tkB t = true := by rw [tkB, ht]; rfl
      have Htk := Lib.hid e
      rw [e]
      clear e ht
      go_enter Try.func32, Try.ntmps32
      go_wp2_with fail
      refine HW.out.use fun w1 hb1 => ?_
      rw [H0.out]
      replace q0 := bk_below q0 hb1
      replace q1 := bk_below q1 hb1
      replace B2 := bl_self B2 hb1
      obtain ⟨c0, c1, c2, c3⟩ := bx4 q0
      go_wp2_with fail
      refine (isType_calls t A c _ _ (by omega) (hr.below B2)).use fun w2 hb2 => ?_
      rw [Ht.out, Hsm.out]
      replace q0 := bk_below q0 hb2
      replace q1 := bk_below q1 hb2
      replace B2 := bl_self B2 hb2
      replace hsz := Nat.le_trans hsz (Nat.le_trans hb1.size hb2.size)
      clear c0 c1 c2 c3
      obtain ⟨c0, c1, c2, c3⟩ := bx4 q0
      go_wp2_with fail
      refine (erase_calls (tsize t + 1) t A c _ S (Nat.lt_succ_self _) h2 Htk.out (hr.below B2)).use fun w4 A4 c4 hc4 hR4 hb4 => ?_
      obtain ⟨x, Hx⟩ : ∃ x, Hid (x = eraseT t) := ⟨_, Lib.hid rfl⟩
      rw [← Hx.out] at hc4 hR4 ⊢
      replace q1 := bk_below q1 hb4
      replace B2 := bl_self B2 hb4
      obtain ⟨a0, a1⟩ := bx2 q1
      have z0 := bk_free q1 0
      have z1 := bk_free q1 1
      go_wp2_with fail
      refine bodyPost_ret (res_pairS rfl rfl rfl (set2_self q1)) rfl ⟨A4, c4, ?_, ?_, ?_, bl_set2 B2 (by omega)⟩
      · simp [Hx.out]
      · simpa [Hx.out] using hc4
      · show Rd smK _ _ A4 (eraseT t).args
        rw [← Hx.out]
        refine (hR4.set2 (g := w.heap.size + 1) (fun b hb => ?_)).mono (fun b hb _ => ?_)
        · rcases hb with hb | hb
          · exact hb.elim
          · omega
        · rcases hb with hb | hb
          · exact hb.elim
          · first | omega | exact .inr (by omega)
  · have h0' : (wfE t != 0) = true := by simpa using h0
    have e1 : eraseR t = zeroS := by unfold eraseR; simp [h0]
    have e2 : eraseE t = wfE t := by rw [eraseE, if_neg h0]
    rw [e1, e2]
    clear e1 e2
    go_enter Try.func32, Try.ntmps32
    go_wp2_with fail
    refine HW.out.use fun w1 hb1 => ?_
    replace q1 := bk_below q1 hb1
    obtain ⟨a0, a1⟩ := bx2 q1
    have z0 := bk_free q1 0
    have z1 := bk_free q1 1
    go_wp2_with fail
    exact bodyPost_ret (res_pairS rfl rfl rfl (set2_self q1)) rfl ⟨none, 0, rfl, Nat.le_refl _, Rd.nil _ _ _ _, bl_set2 (bl_self B2 hb1) (by omega)⟩
end Go.Proofs.Ytolooomphmcphaa
