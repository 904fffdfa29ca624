/- simple.erase, Erase. -/
import Derived.Test.YtolooomphmcphaaV1
namespace Go.Proofs.Ytolooomphmcphaa
open Go.RowKit

abbrev GivS (P : Program) (f : FuncId) (args : Array Value) (w : World) (S : Nat → Prop) (t : Sm) : Prop :=
  Calls P f args w fun e w' => ∃ A c, e = .returned (smV t A c) ∧ t.args.length ≤ c ∧ Rd smK w' (fun b => S b ∨ w.heap.size ≤ b) A t.args ∧ Below w.heap.size w w'
theorem GivS.use {P : Program} {f : FuncId} {args : Array Value} {w : World} {S : Nat → Prop} {t : Sm} {R : Ending → World → Prop} (h : GivS P f args w S t)
    (k : ∀ w' A c, t.args.length ≤ c → Rd smK w' (fun b => S b ∨ w.heap.size ≤ b) A t.args → Below w.heap.size w w' → R (.returned (smV t A c)) w') : Calls P f args w R :=
  h.mono (by rintro e w' ⟨A, c, rfl, hc, hr, hb⟩; exact k w' A c hc hr hb)
theorem res_simple {fn : Func} {r : Tmp} {tmps : Array Value} {w : World} {g : Nat} {v0 v1 : Value} (h : fn.results = #[.cell r 25]) (ht : tmps.getD r undef = .pointer (some ⟨g, 0, none⟩))
    (hk : w.heap[g]? = some (.cells #[v0, v1] 25 (0, 0))) : (results fn tmps).run Try.prog w = .ok (.agg #[v0, v1]) w := by
  obtain ⟨c0, c1⟩ := bx2 hk
  rw [Array.getD_eq_getD_getElem?] at ht
  simp [results, h, ht, go_sem, c0, c1]

def eraseT : Tm → Sm
  | .mk k s _ [a, b] => if k = 2 then .mk (eraseT b).fam (eraseT a :: (eraseT b).args) else .mk (if k = 1 then ⟨#[116, 121, 112, 101]⟩ else s) []
  | .mk k s _ _ => .mk (if k = 1 then ⟨#[116, 121, 112, 101]⟩ else s) []
theorem eraseT_pi {t : Tm} (hk : t.kind = 2) (hl : t.args.length = 2) : eraseT t = .mk (eraseT (t.args[1]'(by omega))).fam (eraseT (t.args[0]'(by omega)) :: (eraseT (t.args[1]'(by omega))).args) := by
  obtain ⟨k, s, i, a⟩ := t
  have hk : k = 2 := hk
  subst hk
  match a, hl with
  | [x, y], _ => simp [eraseT, Tm.args]
theorem eraseT_stop {t : Tm} (hk : t.kind ≠ 2) : eraseT t = .mk (if t.kind = 1 then ⟨#[116, 121, 112, 101]⟩ else t.name) [] := by
  obtain ⟨k, s, i, a⟩ := t
  have hk : k ≠ 2 := hk
  unfold eraseT
  split
  · rename_i h
    cases h
    exact if_neg hk
  · rename_i h
    cases h
    rfl
/-- a type or a kind -/
def tkB (t : Tm) : Bool := typB t || kndB t
theorem tk_pi {t : Tm} (h : tkB t = true) (hk : t.kind = 2) : t.args.length = 2 ∧ ∀ (h0 : 0 < t.args.length) (h1 : 1 < t.args.length), tkB t.args[0] = true ∧ tkB t.args[1] = true := by
  unfold tkB at h
  rcases Bool.or_eq_true _ _ ▸ h with h | h
  · rw [typB_eq] at h
    simp [atomB, hk] at h
    have hl := bound_len (n := 2) (t := t) h.1
    refine ⟨hl, fun h0 h1 => ?_⟩
    have := h.2
    rw [typBs_two hl h0 h1] at this
    simp at this
    simp [tkB, this.1, this.2]
  · rw [kndB_eq] at h
    simp [hk] at h
    have hl := bound_len (n := 2) (t := t) h.1
    refine ⟨hl, fun h0 h1 => ?_⟩
    have := h.2
    rw [kndBl_two hl h0 h1] at this
    simp at this
    simp [tkB, this.1, this.2]

set_option maxRecDepth 100000 in
set_option maxHeartbeats 4000000 in
theorem erase_calls (n : Nat) : ∀ (t : Tm) (A : Option Addr) (c : Nat) (w : World) (S : Nat → Prop), tsize t < n → tsize t < 100000000 → tkB t = true → Rd tmK w S A t.args →
    GivS Try.prog 68 #[tmV t A c] w (fun _ => False) (eraseT t) := by
  induction n with
  | zero => intro t A c w S h; omega
  | succ n ih =>
  intro t A c w S h1 h2 htk hr
  have H := Lib.hid ih
  clear ih
  have hr0 := hr.bound
  clear hr
  have hk := bk_alloc (bk_alloc (bk_new w (.cells (tmB t A c) 33)) (.cells #[.string ⟨#[]⟩, .slice none 0 0] 25)) (.cells #[.string ⟨#[]⟩, .slice none 0 0] 25)
  have hk1 := bk_alloc (bk_at (w := w.alloc (.cells (tmB t A c) 33)) (n := w.heap.size + 1) (by simp) (.cells #[.string ⟨#[]⟩, .slice none 0 0] 25)) (.cells #[.string ⟨#[]⟩, .slice none 0 0] 25)
  have hk2 := bk_at (w := (w.alloc (.cells (tmB t A c) 33)).alloc (.cells #[.string ⟨#[]⟩, .slice none 0 0] 25)) (n := w.heap.size + 1 + 1) (by simp) (.cells #[.string ⟨#[]⟩, .slice none 0 0] 25)
  have hB := bl_alloc (bl_alloc (bl_new w (.cells (tmB t A c) 33)) (.cells #[.string ⟨#[]⟩, .slice none 0 0] 25)) (.cells #[.string ⟨#[]⟩, .slice none 0 0] 25)
  have Htk := Lib.hid htk
  clear htk
  go_enter Try.func68, Try.ntmps68
  go_wp2_with fail
  go_loopg [] (tsize t) (fun k w' => ∃ (u : Tm) (A' : Option Addr) (c' : Nat) (v : Value) (done : List Sm), tsize u ≤ k ∧ k ≤ tsize t ∧ done.length + tsize u ≤ tsize t ∧ Hid (tkB u = true ∧ eraseT t = .mk (eraseT u).fam (done ++ (eraseT u).args)) ∧
    w'.heap[w.heap.size]? = some (.cells (tmB u A' c') 33 (0, 0)) ∧ Rd tmK w' (fun b => S b ∧ b < w.heap.size) A' u.args ∧
    w'.heap[w.heap.size + 1]? = some (.cells #[.string ⟨#[]⟩, .slice none 0 0] 25 (0, 0)) ∧
    w'.heap[w.heap.size + 1 + 1]? = some (.cells #[.string ⟨#[]⟩, v] 25 (0, 0)) ∧
    Own smK 25 (w.heap.size + 3) w' (fun b => w.heap.size + 3 ≤ b) v done ∧ w.heap.size + 3 ≤ w'.heap.size ∧ Below w.heap.size w w')
  case atStart => exact ⟨t, A, c, _, [], by omega, by omega, by simp, Lib.hid ⟨Htk.out, by simp [Sm.eta]⟩, hk, (hr0.below hB).mono (fun b hb _ => ⟨hb.1, hb.2.lt⟩), hk1, hk2, Own.nil _ _ _ _ _, by simp, hB⟩
  case round =>
    clear hk hk1 hk2 hB
    obtain ⟨u, A', c', v, done, hu1, hu2, hu3, Hu, hk, hR, hk1, hk2, hO, hsz, hB⟩ := hrel
    obtain ⟨c0, c1, c2, c3⟩ := bx4 hk
    cases h2k : (u.kind == 2)
    · have hne : u.kind ≠ 2 := by simpa using h2k
      have Hst := Lib.hid (eraseT_stop hne)
      clear hne
      obtain ⟨A3, k3, rfl, hk3, hR3⟩ := hO.read (S' := fun b => w.heap.size + 3 ≤ b) (fun _ h => h) (fun _ h => h)
      obtain ⟨d0, d1⟩ := bx2 hk2
      obtain ⟨f0, f1⟩ := bx2 hk1
      have z0 := bk_free hk2 0
      have z1 := bk_free hk1 0
      have z2 := bk_free hk1 1
      have fin : ∀ (W : World) (s : ByteArray), Hid ((eraseT u) = .mk s []) → W.heap[w.heap.size + 1]? = some (.cells #[.string ⟨#[]⟩, .slice none 0 0] 25 (0, 0)) → (∀ b, w.heap.size + 3 ≤ b → W.heap[b]? = wr.heap[b]?) → Below w.heap.size w W →
          ∃ A c, Ending.returned (.agg #[.string s, .slice A3 done.length k3]) = .returned (smV (eraseT t) A c) ∧ (eraseT t).args.length ≤ c ∧ Rd smK (set2 W (w.heap.size + 1) (.string s) (.slice A3 done.length k3)) (fun b => False ∨ w.heap.size ≤ b) A (eraseT t).args ∧ Below w.heap.size w (set2 W (w.heap.size + 1) (.string s) (.slice A3 done.length k3)) := by
        intro W s hs hW hfar hbw
        have e : eraseT t = .mk s done := by rw [Hu.out.2, hs.out]; simp [Sm.fam, Sm.args]
        rw [e]
        refine ⟨A3, k3, rfl, hk3, ?_, bl_set2 hbw (by omega)⟩
        refine hR3.move (fun y hy _ => (set2_far (by omega)).trans (hfar y hy)) (fun y hy _ => .inr (by omega))
      have Hfin := Lib.hid fin
      clear fin
      cases h1k : (u.kind == 1)
      · have Hs : Hid (eraseT u = .mk u.name []) := Lib.hid (by rw [Hst.out, if_neg (by simpa using h1k)])
        have r1 := bk_far hk1 (p := ⟨w.heap.size + 1 + 1, 0, none⟩) (by show w.heap.size + 1 ≠ w.heap.size + 1 + 1; omega) (.string u.name)
        go_wp2_with fail
        refine bodyPost_ret (res_simple rfl rfl (set2_self r1)) rfl (Hfin.out _ _ Hs r1 (fun y hy => Below.heap_setCell _ _ _ _ (by show y ≠ w.heap.size + 1 + 1; omega)) (bl_set hB (by show w.heap.size ≤ w.heap.size + 1 + 1; omega) _))
      · have Hs : Hid (eraseT u = .mk ⟨#[116, 121, 112, 101]⟩ []) := Lib.hid (by rw [Hst.out, if_pos (by simpa using h1k)])
        have r1 := bk_far (bk_far hk1 (p := ⟨w.heap.size + 1 + 1, 0, none⟩) (by show w.heap.size + 1 ≠ w.heap.size + 1 + 1; omega) (.string u.name)) (p := ⟨w.heap.size + 1 + 1, 0, none⟩) (by show w.heap.size + 1 ≠ w.heap.size + 1 + 1; omega) (.string ⟨#[116, 121, 112, 101]⟩)
        go_wp2_with fail
        refine bodyPost_ret (res_simple rfl rfl (set2_self r1)) rfl (Hfin.out _ _ Hs r1 (fun y hy => (Below.heap_setCell _ _ _ _ (by show y ≠ w.heap.size + 1 + 1; omega)).trans (Below.heap_setCell _ _ _ _ (by show y ≠ w.heap.size + 1 + 1; omega))) (bl_set (bl_set hB (by show w.heap.size ≤ w.heap.size + 1 + 1; omega) _) (by show w.heap.size ≤ w.heap.size + 1 + 1; omega) _))
    · have hku : u.kind = 2 := by simpa using h2k
      obtain ⟨hl2, hsub⟩ := tk_pi Hu.out.1 hku
      have hl0 : 0 < u.args.length := by omega
      have hl1 : 1 < u.args.length := by omega
      have Hsub := Lib.hid (hsub hl0 hl1)
      have Hpi : Hid (eraseT u = .mk (eraseT u.args[1]).fam (eraseT u.args[0] :: (eraseT u.args[1]).args)) := Lib.hid (eraseT_pi hku hl2)
      clear hsub hku
      have hI0 : (0 : Int) < (u.args.length : Int) := by omega
      have hI1 : (1 : Int) < (u.args.length : Int) := by omega
      obtain ⟨b, o, A1, c1', rfl, hSb, e0, e1, e2, e3, hl', hr1⟩ := hR.tm0 hl0
      obtain ⟨A2, c2', -, f0, f1, f2, f3, hl2', hr2⟩ := hR.tmb1 hl1
      have hs0 := tsizes_mem u.args 0 hl0
      have hs1 := tsizes_mem u.args 1 hl1
      have hs01 : tsize u.args[0] + tsize u.args[1] ≤ tsizes u.args := by
        have := tsizes_take u.args 1 hl1
        have := tsizes_take u.args 0 hl0
        have := tsizes_take_le u.args 2
        simp [tsizes] at *
        omega
      have hus := tsize_eq u
      clear hl2
      go_wp2_with fail
      have hobl := hO.block
      have HS : ∀ w' : World, w'.heap[w.heap.size]? = wr.heap[w.heap.size]? → w'.heap[w.heap.size + 1 + 1]? = some (.cells #[.string ⟨#[]⟩, v] 25 (0, 0)) → w'.heap[b]? = wr.heap[b]? →
          w'.cell? ⟨w.heap.size + 1 + 1, 1, none⟩ = some v ∧ w'.cell? ⟨w.heap.size, 3, none⟩ = some (.slice (some ⟨b, o, none⟩) u.args.length c') ∧ w'.cell? ⟨b, o, none⟩ = some (.int .i64 u.args[0].kind) ∧ w'.cell? ⟨b, o + 1, none⟩ = some (.string u.args[0].name) ∧
            w'.cell? ⟨b, o + 2, none⟩ = some (.int .i64 u.args[0].idx) ∧ w'.cell? ⟨b, o + 3, none⟩ = some (.slice A1 u.args[0].args.length c1') :=
        fun w' h1 h2 h3 => ⟨(bx2 h2).2, cl_block c3 h1, cl_block e0 h3, cl_block e1 h3, cl_block e2 h3, cl_block e3 h3⟩
      replace HS := Lib.hid HS
      have hbl : b < w.heap.size := hSb.2
      have hsz0 := hsz
      refine wp_region_mixN 10 (fun w' => w'.cell? ⟨w.heap.size + 1 + 1, 1, none⟩ = some v ∧ w'.cell? ⟨w.heap.size, 3, none⟩ = some (.slice (some ⟨b, o, none⟩) u.args.length c') ∧ w'.cell? ⟨b, o, none⟩ = some (.int .i64 u.args[0].kind) ∧ w'.cell? ⟨b, o + 1, none⟩ = some (.string u.args[0].name) ∧
            w'.cell? ⟨b, o + 2, none⟩ = some (.int .i64 u.args[0].idx) ∧ w'.cell? ⟨b, o + 3, none⟩ = some (.slice A1 u.args[0].args.length c1'))
        [(true, 0), (true, 1), (true, 2), (true, 3), (true, 4), (true, 5), (false, 6), (false, 7), (false, 8), (true, 9)] (by kernel_rfl) rfl (by kernel_rfl) (HS.out _ rfl hk2 rfl) ?_
      repeat (refine wpMix_soft (v := ?_) rfl rfl ?_ ?_; rotate_left; (focus (intro w' hS; go_simp; with_reducible rfl)); simp only [Act.put, List.setIfInBounds_toArray, List.set_cons_zero, List.set_cons_succ])
      refine wpMix_hard rfl rfl ?_
      go_wp2_with fail
      refine (H.out u.args[0] A1 c1' _ (fun b => S b ∧ b < w.heap.size) (by omega) (by omega) Hsub.out.1 (Rd.drew hr1)).use fun w2 A3 c3' hc3 hR3 hb2 => ?_
      obtain ⟨x, Hx⟩ : ∃ x, Hid (x = eraseT u.args[0]) := ⟨_, Lib.hid rfl⟩
      rw [← Hx.out] at hc3 hR3 ⊢
      have hb2' := bl_undrew hb2
      have hsz2 := hb2'.size
      have q0 : w2.heap[w.heap.size]? = wr.heap[w.heap.size]? := hb2'.block _ (by omega)
      have qb : w2.heap[b]? = wr.heap[b]? := hb2'.block _ (by omega)
      have q1 := bk_below hk1 hb2'
      have q2 := bk_below hk2 hb2'
      have hO1 := hO.below hb2'
      have hB1 := bl_self hB hb2'
      go_wp2_with fail
      refine mixQ_normal (HS.out _ q0 q2 qb) ?_
      refine wpMix_hard rfl rfl ?_
      go_wp2_with fail
      have hlt0 : w.heap.size < w2.heap.size := by omega
      have hltb : b < w2.heap.size := by omega
      replace q0 := ((bl_new w2 (.cells #[.string x.fam, .slice A3 x.args.length c3'] 25)).block _ hlt0).trans q0
      replace qb := ((bl_new w2 (.cells #[.string x.fam, .slice A3 x.args.length c3'] 25)).block _ hltb).trans qb
      replace q1 := bk_alloc q1 (.cells #[.string x.fam, .slice A3 x.args.length c3'] 25)
      replace q2 := bk_alloc q2 (.cells #[.string x.fam, .slice A3 x.args.length c3'] 25)
      replace hO1 := hO1.alloc (.cells #[.string x.fam, .slice A3 x.args.length c3'] 25)
      replace hB1 := bl_alloc hB1 (.cells #[.string x.fam, .slice A3 x.args.length c3'] 25)
      refine mixQ_normal (HS.out _ q0 q2 qb) ?_
      refine wpMix_hard rfl rfl ?_
      refine wp_snoc (d := smK) rfl (.tmp 8) (.tmp 14) _ rfl (e := 25) (bytes := 40) (z := .agg #[.string ⟨#[]⟩, .slice none 0 0]) (by kernel_rfl) (by kernel_rfl) (by rfl) (by decide) rfl hO1 (by omega) (by simp; omega) rfl (bk_new _ _) (EK.mono (EK.below (smK_of x hc3 hR3) (bl_new _ _)) ?_) ?_
      · intro y hy hl
        have hy' : wr.heap.size ≤ y := by simpa using hy
        refine ⟨by omega, hl, fun he => ?_⟩
        have := (hobl y he).2
        omega
      intro g cap w3 hO3 hgrow hcap hlt3 hBg
      have n0 : ∀ k, k < w.heap.size + 3 → some k ≠ Value.ownBlock v := fun k hk he => by have := (hobl k he.symm).1; omega
      have hsz3 : w2.heap.size + 1 ≤ w3.heap.size := by simpa using hgrow.size
      replace q0 := (hgrow.block w.heap.size (by simp; omega) (n0 _ (by omega))).trans q0
      replace qb := (hgrow.block b (by simp; omega) (n0 _ (by omega))).trans qb
      replace q1 := bk_grown q1 hgrow (n0 _ (by omega))
      replace q2 := bk_grown q2 hgrow (n0 _ (by omega))
      replace hB1 := bl_grown hB1 hgrow (fun k hk => by have := (hobl k hk).1; omega)
      refine mixQ_normal (HS.out _ q0 q2 qb) ?_
      simp only [Act.put, List.setIfInBounds_toArray, List.set_cons_zero, List.set_cons_succ]
      repeat (refine wpMix_soft (v := ?_) rfl rfl ?_ ?_; rotate_left; (focus (intro w' hS; go_simp; with_reducible rfl)); simp only [Act.put, List.setIfInBounds_toArray, List.set_cons_zero, List.set_cons_succ])
      refine wpMix_done (cutQ_normal ?_)
      obtain ⟨x0, x1⟩ := bx2 q2
      have z1 := bk_free q2 1
      go_wp2_with fail
      refine NoPanic.normal ?_
      have r0 : (w3.setCell ⟨w.heap.size + 1 + 1, 1, none⟩ (.slice (some ⟨g, 0, none⟩) (done.length + 1) cap)).heap[w.heap.size]? = wr.heap[w.heap.size]? := (Below.heap_setCell _ _ _ _ (by show w.heap.size ≠ w.heap.size + 1 + 1; omega)).trans q0
      have rb : (w3.setCell ⟨w.heap.size + 1 + 1, 1, none⟩ (.slice (some ⟨g, 0, none⟩) (done.length + 1) cap)).heap[b]? = wr.heap[b]? := (Below.heap_setCell _ _ _ _ (by show b ≠ w.heap.size + 1 + 1; omega)).trans qb
      have r1 := bk_far q1 (p := ⟨w.heap.size + 1 + 1, 1, none⟩) (by show w.heap.size + 1 ≠ w.heap.size + 1 + 1; omega) (.slice (some ⟨g, 0, none⟩) (done.length + 1) cap)
      have r2 := bk_set q2 1 (.slice (some ⟨g, 0, none⟩) (done.length + 1) cap)
      have hO4 := hO3.store (p := ⟨w.heap.size + 1 + 1, 1, none⟩) (by show ¬ w.heap.size + 3 ≤ w.heap.size + 1 + 1; omega) (by show w.heap.size + 1 + 1 < w.heap.size + 3; omega) (.slice (some ⟨g, 0, none⟩) (done.length + 1) cap)
      have hB4 := bl_set hB1 (p := ⟨w.heap.size + 1 + 1, 1, none⟩) (by show w.heap.size ≤ w.heap.size + 1 + 1; omega) (.slice (some ⟨g, 0, none⟩) (done.length + 1) cap)
      have rk := r0.trans hk
      obtain ⟨y0, y1, y2, y3⟩ := bx4 rk
      have f0' := cl_block f0 rb
      have f1' := cl_block f1 rb
      have f2' := cl_block f2 rb
      have f3' := cl_block f3 rb
      have l0 := bk_free rk 0
      have l1 := bk_free rk 1
      have l2 := bk_free rk 2
      have l3 := bk_free rk 3
      have hr2' : Rd tmK (w3.setCell ⟨w.heap.size + 1 + 1, 1, none⟩ (.slice (some ⟨g, 0, none⟩) (done.length + 1) cap)) (fun b => S b ∧ b < w.heap.size) A2 u.args[1].args := by
        refine hr2.move (fun y hy hl => ?_) (fun _ h _ => h)
        have hy2 : y < w.heap.size := hy.2
        rw [Below.heap_setCell _ _ _ _ (by show y ≠ w.heap.size + 1 + 1; omega), hgrow.block y (by simp; omega) (n0 _ (by omega)), (bl_new w2 _).block y (by omega), hb2'.block y (by omega)]
      go_wp2_with fail
      go_roundg (tsize u.args[1])
      case measure => omega
      case rel =>
        refine ⟨u.args[1], A2, c2', _, done ++ [x], Nat.le_refl _, by omega, by simp; omega, Lib.hid ⟨Hsub.out.2, ?_⟩, set4_self rk, hr2'.set4 (fun y hy => by have := hy.2; omega), (set4_far (by omega)).trans r1, (set4_far (by omega)).trans r2, hO4.set4 (fun y hy => by omega) (by omega), by rw [set4_size, World.size_setCell]; omega, bl_set4 hB4 (Nat.le_refl _)⟩
        rw [Hu.out.2, Hpi.out, Hx.out]
        simp [Sm.fam, Sm.args]
end Go.Proofs.Ytolooomphmcphaa
