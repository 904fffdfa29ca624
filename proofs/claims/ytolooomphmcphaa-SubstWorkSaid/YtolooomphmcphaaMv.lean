/- lfcheckref06.Move: the free variables from a place on are moved. -/
import Derived.Handy
import Derived.Test.YtolooomphmcphaaK2
import Derived.Test.YtolooomphmcphaaR6
namespace Go.Proofs.Ytolooomphmcphaa
open Go.RowKit

/-- the call returns a term; what it leads to lies in S or was made by the call -/
abbrev GivT (P : Program) (f : FuncId) (args : Array Value) (w : World) (S : Nat → Prop) (t : Tm) : Prop :=
  Calls P f args w fun e w' => ∃ A c, e = .returned (tmV t A c) ∧ t.args.length ≤ c ∧ Rd tmK w' (fun b => S b ∨ w.heap.size ≤ b) A t.args ∧ Below w.heap.size w w'
theorem GivT.use {P : Program} {f : FuncId} {args : Array Value} {w : World} {S : Nat → Prop} {t : Tm} {R : Ending → World → Prop} (h : GivT P f args w S t)
    (k : ∀ w' A c, t.args.length ≤ c → Rd tmK w' (fun b => S b ∨ w.heap.size ≤ b) A t.args → Below w.heap.size w w' → R (.returned (tmV t A c)) w') : Calls P f args w R :=
  h.mono (by rintro e w' ⟨A, c, rfl, hc, hr, hb⟩; exact k w' A c hc hr hb)

theorem res_term {fn : Func} {r : Tmp} {tmps : Array Value} {w : World} {g : Nat} {v0 v1 v2 v3 : Value} (h : fn.results = #[.cell r 33]) (ht : tmps.getD r undef = .pointer (some ⟨g, 0, none⟩))
    (hk : w.heap[g]? = some (.cells #[v0, v1, v2, v3] 33 (0, 0))) : (results fn tmps).run Try.prog w = .ok (.agg #[v0, v1, v2, v3]) w := by
  obtain ⟨c0, c1, c2, c3⟩ := bx4 hk
  rw [Array.getD_eq_getD_getElem?] at ht
  simp [results, h, ht, go_sem, c0, c1, c2, c3]
mutual
def mv (d fr : Int) : Tm → Tm | .mk k s i a => .mk k s (if k = 5 ∧ fr ≤ i then i + d else i) (mvs d fr k 0 a)
def mvs (d fr k : Int) (j : Nat) : List Tm → List Tm | [] => [] | t :: r => mv d (fr + underN k j) t :: mvs d fr k (j + 1) r
end
mutual
/-- all indices are small -/
def ixT (n : Int) : Tm → Prop | .mk _ _ i a => -n ≤ i ∧ i ≤ n ∧ ixTs n a
def ixTs (n : Int) : List Tm → Prop | [] => True | t :: r => ixT n t ∧ ixTs n r
end
theorem ixT_eq (n : Int) (t : Tm) : ixT n t ↔ -n ≤ t.idx ∧ t.idx ≤ n ∧ ixTs n t.args := by cases t; simp [ixT, Tm.idx, Tm.args]
theorem ixTs_get {n : Int} : ∀ {a : List Tm}, ixTs n a → ∀ (m : Nat) (h : m < a.length), ixT n a[m]
  | t :: r, h, 0, _ => by rw [ixTs] at h; exact h.1
  | t :: r, h, m + 1, hm => by rw [ixTs] at h; exact ixTs_get h.2 m (by simpa using hm)
theorem mvs_len (d fr k : Int) : ∀ (j : Nat) (a : List Tm), (mvs d fr k j a).length = a.length
  | _, [] => rfl
  | j, t :: r => by simp [mvs, mvs_len d fr k (j + 1) r]
theorem mvs_append (d fr k : Int) : ∀ (j : Nat) (a b : List Tm), mvs d fr k j (a ++ b) = mvs d fr k j a ++ mvs d fr k (j + a.length) b
  | _, [], _ => by simp [mvs]
  | j, t :: r, b => by simp [mvs, mvs_append d fr k (j + 1) r b, Nat.add_comm, Nat.add_left_comm]
theorem mvs_take (d fr k : Int) (a : List Tm) (m : Nat) (h : m < a.length) : mvs d fr k 0 (a.take (m + 1)) = mvs d fr k 0 (a.take m) ++ [mv d (fr + underN k m) a[m]] := by
  rw [List.take_succ_eq_append_getElem h, mvs_append]
  simp [mvs, Nat.min_eq_left (Nat.le_of_lt h)]
theorem mv_eq (d fr : Int) (t : Tm) : mv d fr t = .mk t.kind t.name (if t.kind = 5 ∧ fr ≤ t.idx then t.idx + d else t.idx) (mvs d fr t.kind 0 t.args) := by cases t; rfl
theorem underN_le (k j : Int) : 0 ≤ underN k j ∧ underN k j ≤ 1 := by unfold underN; split <;> omega

set_option maxRecDepth 100000 in
set_option maxHeartbeats 4000000 in
theorem refMove_calls (n : Nat) : ∀ (t : Tm) (A : Option Addr) (c : Nat) (d fr : Int) (w : World) (S : Nat → Prop), tsize t < n → tsize t < 1000000000 → ixT 1000000000000 t → 0 ≤ d → d ≤ 1000000000000 → 0 ≤ fr → fr + tsize t ≤ 1000000000000 → Rd tmK w S A t.args →
    GivT Try.prog 13 #[tmV t A c, .int .i64 d, .int .i64 fr] w (fun _ => False) (mv d fr t) := by
  induction n with
  | zero => intro t A c d fr w S h; omega
  | succ n ih =>
  intro t A c d fr w S h1 h2 hix hd0 hd1 hf0 hf1 hr
  have hts1 : tsizes t.args < tsize t := by have := tsize_eq t; omega
  have hla := len_le_tsizes t.args
  have hix := (ixT_eq _ _).1 hix
  obtain ⟨hi0, hi1, hixs⟩ := hix
  have Hix := Lib.hid hixs
  clear hixs
  have H := Lib.hid ih
  clear ih
  obtain ⟨gs, Hgs⟩ : ∃ gs : Nat → List Tm, Hid (∀ j, gs j = mvs d fr t.kind 0 (t.args.take j)) := ⟨_, Lib.hid fun _ => rfl⟩
  have hk := bk_new w (.cells (tmB t A c) 33)
  have hB := bl_new w (.cells (tmB t A c) 33)
  cases hk5 : (t.kind == 5) <;> cases hfi : decide (fr ≤ t.idx)
  all_goals (
    go_enter Try.func13, Try.ntmps13
    go_wp2_with fail
    go_loopw [8] (fun i w' => ∃ (m : Nat) (v : Value) (k' i' : Int), Hid (k' = t.kind) ∧ Hid (i' = (mv d fr t).idx) ∧ m ≤ t.args.length ∧ i = .int .i64 m ∧
        w'.heap[w.heap.size]? = some (.cells #[.int .i64 k', .string t.name, .int .i64 t.idx, .slice A t.args.length c] 33 (0, 0)) ∧
        w'.heap[w.heap.size + 1]? = some (.cells #[.int .i64 0, .string ⟨#[]⟩, .int .i64 0, .slice none 0 0] 33 (0, 0)) ∧
        w'.heap[w.heap.size + 1 + 1]? = some (.cells #[.int .i64 k', .string t.name, .int .i64 i', v] 33 (0, 0)) ∧
        Own tmK 33 (w.heap.size + 3) w' (fun b => w.heap.size + 3 ≤ b) v (gs m) ∧ w.heap.size + 3 ≤ w'.heap.size ∧ Below w.heap.size w w') (fun i _ => t.args.length - (intOf i).toNat)
    case atStart =>
      exact ⟨0, .slice none 0 0, t.kind, _, Lib.hid rfl, Lib.hid (by rw [mv_eq]; show _ = (if _ then _ else _); simp_all <;> omega), Nat.zero_le _, rfl, bk_alloc (bk_alloc hk _) _, bk_alloc (bk_at (by simp) _) _, bk_at (by simp) _,
        by rw [Hgs.out]; exact Own.nil _ _ _ _ _, by simp, bl_alloc (bl_alloc hB _) _⟩
    case round =>
      clear hk hB
      obtain ⟨m, v, k', i', Hk, Hi, hm, rfl, hk0, hk1, hk2, hO, hsz, hB⟩ := hrel
      obtain ⟨c0, c1, c2, c3⟩ := bx4 hk0
      obtain ⟨d0, d1, d2, d3⟩ := bx4 hk2
      obtain ⟨f0, f1, f2, f3⟩ := bx4 hk1
      by_cases hlt : m < t.args.length
      · obtain ⟨b, o, A', c', rfl, ⟨_, hbl⟩, e0, e1, e2, e3, hl', hr'⟩ := (hr.bound.below hB).tm m hlt
        have hbl := hbl.lt
        have hm1 := tsizes_mem t.args m hlt
        obtain ⟨u, Hu, hu0, hu1⟩ : ∃ u, Hid (u = underN k' m) ∧ 0 ≤ u ∧ u ≤ 1 := ⟨_, Lib.hid rfl, underN_le k' m⟩
        have HU : ∀ w, Giv Try.prog 31 #[.agg #[.int .i64 k', .string t.name, .int .i64 t.idx, .slice (some ⟨b, o, none⟩) t.args.length c], .int .i64 m] w (.int .i64 u) := fun w => by
          rw [Hu.out]; exact under_calls (.mk k' t.name t.idx t.args) _ c m w
        have HS : ∀ w', Below (w.heap.size + 3) wr w' → w'.cell? ⟨w.heap.size, 0, none⟩ = some (.int .i64 k') ∧ w'.cell? ⟨w.heap.size, 1, none⟩ = some (.string t.name) ∧ w'.cell? ⟨w.heap.size, 2, none⟩ = some (.int .i64 t.idx) ∧
            w'.cell? ⟨w.heap.size, 3, none⟩ = some (.slice (some ⟨b, o, none⟩) t.args.length c) ∧ w'.cell? ⟨w.heap.size + 1 + 1, 3, none⟩ = some v ∧
            w'.cell? ⟨b, o + m * 4, none⟩ = some (.int .i64 t.args[m].kind) ∧ w'.cell? ⟨b, o + m * 4 + 1, none⟩ = some (.string t.args[m].name) ∧
            w'.cell? ⟨b, o + m * 4 + 2, none⟩ = some (.int .i64 t.args[m].idx) ∧ w'.cell? ⟨b, o + m * 4 + 3, none⟩ = some (.slice A' t.args[m].args.length c') := by
          intro w' hb
          have l1 : w.heap.size < w.heap.size + 3 := by omega
          have l2 : w.heap.size + 1 + 1 < w.heap.size + 3 := by omega
          have l3 : b < w.heap.size + 3 := by omega
          exact ⟨cl_belowB c0 l1 hb, cl_belowB c1 l1 hb, cl_belowB c2 l1 hb, cl_belowB c3 l1 hb, cl_belowB d3 l2 hb, cl_belowB e0 l3 hb, cl_belowB e1 l3 hb, cl_belowB e2 l3 hb, cl_belowB e3 l3 hb⟩
        replace HS := Lib.hid HS
        have hfu : IntKind.i64.wrap (fr + u) = fr + u := IntWalk.i64_in _ ⟨by omega, by omega⟩
        have hixm := ixTs_get Hix.out m hlt
        have b0 := bl_drew (w.heap.size + 3) wr
        have g3 := bk_free hk2 3
        go_wp2_with fail
        refine wp_region_mixN 17 (fun w' => w'.cell? ⟨w.heap.size, 0, none⟩ = some (.int .i64 k') ∧ w'.cell? ⟨w.heap.size, 1, none⟩ = some (.string t.name) ∧ w'.cell? ⟨w.heap.size, 2, none⟩ = some (.int .i64 t.idx) ∧
            w'.cell? ⟨w.heap.size, 3, none⟩ = some (.slice (some ⟨b, o, none⟩) t.args.length c) ∧ w'.cell? ⟨w.heap.size + 1 + 1, 3, none⟩ = some v ∧
            w'.cell? ⟨b, o + m * 4, none⟩ = some (.int .i64 t.args[m].kind) ∧ w'.cell? ⟨b, o + m * 4 + 1, none⟩ = some (.string t.args[m].name) ∧
            w'.cell? ⟨b, o + m * 4 + 2, none⟩ = some (.int .i64 t.args[m].idx) ∧ w'.cell? ⟨b, o + m * 4 + 3, none⟩ = some (.slice A' t.args[m].args.length c'))
          [(true, 0), (true, 1), (true, 2), (true, 3), (true, 4), (true, 5), (true, 6), (true, 7), (true, 8), (true, 9), (true, 10), (false, 11), (true, 12), (false, 13), (false, 14), (false, 15), (true, 16)]
          (by kernel_rfl) rfl (by kernel_rfl) (HS.out _ b0) ?_
        repeat (
          refine wpMix_soft (v := ?_) rfl rfl ?_ ?_
          rotate_left
          focus (intro w' hS; go_simp; with_reducible rfl)
          simp only [Act.put, List.setIfInBounds_toArray, List.set_cons_zero, List.set_cons_succ])
        -- Under
        refine wpMix_hard rfl rfl ?_
        go_wp2_with fail
        refine (HU _).use fun w1 hb1 => ?_
        replace b0 := bl_next b0 hb1 hsz
        go_wp2_with fail
        refine mixQ_normal (HS.out _ b0) ?_
        repeat (
          refine wpMix_soft (v := ?_) rfl rfl ?_ ?_
          rotate_left
          focus (intro w' hS; go_simp; with_reducible rfl)
          simp only [Act.put, List.setIfInBounds_toArray, List.set_cons_zero, List.set_cons_succ])
        -- Move
        refine wpMix_hard rfl rfl ?_
        go_wp2_with fail
        refine (H.out t.args[m] A' c' d (fr + u) _ (fun b => S b ∧ Live w b) (by omega) (by omega) hixm hd0 hd1 (by omega) (by omega) ?_).use fun w2 A2 c2 hc2 hR2 hb2 => ?_
        · exact (Rd.drew hr').below hb1
        replace b0 := bl_next b0 hb2 hsz
        go_wp2_with fail
        refine mixQ_normal (HS.out _ b0) ?_
        -- buildSlice
        refine wpMix_hard rfl rfl ?_
        go_wp2_with fail
        have b1 := bl_allocB b0 (.cells #[.int .i64 (mv d (fr + u) t.args[m]).kind, .string (mv d (fr + u) t.args[m]).name, .int .i64 (mv d (fr + u) t.args[m]).idx, .slice A2 (mv d (fr + u) t.args[m]).args.length c2] 33) hsz
        refine mixQ_normal (HS.out _ b1) ?_
        -- append
        refine wpMix_hard rfl rfl ?_
        have hs1 := hb1.size
        have hs2 := hb2.size
        have hs0 := b0.size
        have hO1 := ((hO.drew.below hb1).below hb2).alloc (.cells #[.int .i64 (mv d (fr + u) t.args[m]).kind, .string (mv d (fr + u) t.args[m]).name, .int .i64 (mv d (fr + u) t.args[m]).idx, .slice A2 (mv d (fr + u) t.args[m]).args.length c2] 33)
        have hobl := hO.block
        refine wp_snoc (d := tmK) rfl (.tmp 38) (.tmp 51) _ rfl (e := 33) (bytes := 56) (z := .agg #[.int .i64 0, .string ⟨#[]⟩, .int .i64 0, .slice none 0 0]) (by kernel_rfl) (by kernel_rfl) (by rfl) (by decide) rfl hO1 ?_ ?_ rfl (bk_new _ _) (EK.mono (EK.below (tmK_of _ hc2 hR2) (bl_new _ _)) ?_) ?_
        · rw [Hgs.out, mvs_len]; simp; omega
        · simp; omega
        · intro b hb hl
          have hs3 : wr.drew.heap.size = wr.heap.size := rfl
          have hb' : w1.heap.size ≤ b := by simpa using hb
          refine ⟨by omega, hl, fun he => ?_⟩
          have := (hobl b he).2
          omega
        intro g cap w3 hO3 hgrow hcap hlt3 hBg
        have b3 := bl_grownB b1 hgrow hsz (fun k hk => (hobl k hk).1)
        refine mixQ_normal (HS.out _ b3) ?_
        simp only [Act.put, List.setIfInBounds_toArray, List.set_cons_zero, List.set_cons_succ]
        repeat (
          refine wpMix_soft (v := ?_) rfl rfl ?_ ?_
          rotate_left
          focus (intro w' hS; go_simp; with_reducible rfl)
          simp only [Act.put, List.setIfInBounds_toArray, List.set_cons_zero, List.set_cons_succ])
        refine wpMix_done (cutQ_normal ?_)
        have k0 := bk_belowB hk0 (by omega) b3
        have k1 := bk_belowB hk1 (by omega) b3
        have k2 := bk_belowB hk2 (by omega) b3
        obtain ⟨d0, d1, d2, d3⟩ := bx4 k2
        have g3 := bk_free k2 3
        have hsz3 := b3.size
        go_wp2_with fail
        refine NoPanic.normal ?_
        go_wp2_with fail
        go_roundw
        case rel =>
          refine ⟨m + 1, _, k', i', Hk, Hi, by omega, by go_num, bk_far k0 (by show w.heap.size ≠ w.heap.size + 1 + 1; omega) _, bk_far k1 (by show w.heap.size + 1 ≠ w.heap.size + 1 + 1; omega) _, bk_set k2 3 _, ?_, by rw [World.size_setCell]; omega, ?_⟩
          · have e : gs (m + 1) = gs m ++ [mv d (fr + u) t.args[m]] := by
              rw [Hgs.out, Hgs.out, mvs_take _ _ _ _ _ hlt, Hu.out, Hk.out]
            rw [e]
            exact hO3.store (p := ⟨w.heap.size + 1 + 1, 3, none⟩) (by show ¬ w.heap.size + 3 ≤ w.heap.size + 1 + 1; omega) (by show w.heap.size + 1 + 1 < w.heap.size + 3; omega) _
          · exact bl_set (hB.trans (b3.mono (by omega))) (p := ⟨w.heap.size + 1 + 1, 3, none⟩) (by show w.heap.size ≤ w.heap.size + 1 + 1; omega) _
        case measure => simp [intOf]; omega
      · obtain rfl : m = t.args.length := by omega
        obtain ⟨A2, c2, rfl, hc2, hR⟩ := hO.read (S' := fun b => w.heap.size + 3 ≤ b) (fun _ h => h) (fun _ h => h)
        have g0 := bk_free hk1 0
        have g1 := bk_free hk1 1
        have g2 := bk_free hk1 2
        have g3 := bk_free hk1 3
        go_wp2_with fail
        have hkF := bk_set (bk_set (bk_set (bk_set hk1 0 (.int .i64 k')) 1 (.string t.name)) 2 (.int .i64 i')) 3 (.slice A2 (gs t.args.length).length c2)
        have e1 : (mv d fr t).args = gs t.args.length := by rw [Hgs.out, List.take_length, mv_eq]; rfl
        have e2 : (mv d fr t).kind = k' := by rw [Hk.out, mv_eq]; rfl
        have e3 : (mv d fr t).name = t.name := by rw [mv_eq]; rfl
        refine bodyPost_ret (res_term rfl rfl hkF) rfl ⟨A2, c2, ?_, by rw [e1]; exact hc2, ?_, ?_⟩
        · show _ = Ending.returned (.agg #[.int .i64 (mv d fr t).kind, .string (mv d fr t).name, .int .i64 (mv d fr t).idx, .slice A2 (mv d fr t).args.length c2])
          rw [e1, e2, e3, ← Hi.out]
        · rw [e1]
          have far : ∀ b, w.heap.size + 3 ≤ b → b ≠ w.heap.size + 1 := fun b hb => by omega
          refine hR.move (fun b hb _ => ?_) (fun b hb _ => .inr (by omega))
          rw [Below.heap_setCell _ _ _ b (far b hb), Below.heap_setCell _ _ _ b (far b hb), Below.heap_setCell _ _ _ b (far b hb), Below.heap_setCell _ _ _ b (far b hb)]
        · have l : w.heap.size ≤ w.heap.size + 1 := by omega
          exact bl_set (bl_set (bl_set (bl_set hB l _) l _) l _) l _)
end Go.Proofs.Ytolooomphmcphaa
