/- lfcheckref07.Long. -/
import Derived.Test.YtolooomphmcphaaDoorQ5
import Derived.Test.YtolooomphmcphaaDoorMv
namespace Go.Proofs.YtolooomphmcphaaDoor
open Go.RowKit

theorem mv_vr (d j : Int) (h : 0 ≤ j) : mv d 0 (vr j) = vr (j + d) := by
  rw [mv, mvs, if_pos ⟨rfl, h⟩]
theorem mv_head (d fr : Int) (t : Tm) : (mv d fr t).kind = t.kind ∧ (mv d fr t).name = t.name ∧ (mv d fr t).args.length = t.args.length := by
  rw [mv_eq]
  exact ⟨rfl, rfl, mvs_len _ _ _ _ _⟩
set_option maxRecDepth 100000 in
set_option maxHeartbeats 1000000 in
theorem long_calls (n : Nat) : ∀ (h : Tm) (s : Sm) (A A2 : Option Addr) (c c2 : Nat) (w : World) (S S2 : Nat → Prop), ssize s < n → ssize s < 50000000 → tsize h < 50000000 → ixT 1000000000000 h → Rd tmK w S A h.args → Rd smK w S2 A2 s.args →
    GivT Tryd.prog 64 #[tmV h A c, smV s A2 c2] w (fun _ => False) (expandT (mv s.args.length 0 h) s) := by
  induction n with
  | zero => intro h s A A2 c c2 w S S2 h1; omega
  | succ n ih =>
  intro h s A A2 c c2 w S S2 h1 h2 h3 hix hr hr2
  have hts1 : ssizes s.args < ssize s := by have := ssize_eq s; omega
  have hla := len_le_ssizes s.args
  have H := Lib.hid ih
  clear ih
  have hr0 := hr.bound
  have hr20 := hr2.bound
  clear hr hr2
  have q1 := bk_alloc (bk_at (w := w.alloc (.cells (tmB h A c) 30)) (n := w.heap.size + 1) (by simp) (.cells (smB s A2 c2) 26)) (.cells #[.int .i64 0, .string ⟨#[]⟩, .int .i64 0, .slice none 0 0] 30)
  have q2 := bk_at (w := (w.alloc (.cells (tmB h A c) 30)).alloc (.cells (smB s A2 c2) 26)) (n := w.heap.size + 1 + 1) (by simp) (.cells #[.int .i64 0, .string ⟨#[]⟩, .int .i64 0, .slice none 0 0] 30)
  have B := bl_alloc (bl_alloc (bl_new w (.cells (tmB h A c) 30)) (.cells (smB s A2 c2) 26)) (.cells #[.int .i64 0, .string ⟨#[]⟩, .int .i64 0, .slice none 0 0] 30)
  have hsz : w.heap.size + 3 ≤ (((w.alloc (.cells (tmB h A c) 30)).alloc (.cells (smB s A2 c2) 26)).alloc (.cells #[.int .i64 0, .string ⟨#[]⟩, .int .i64 0, .slice none 0 0] 30)).heap.size := by simp
  have hsz0 := hsz
  obtain ⟨x, Hx⟩ : ∃ x, Hid (mv s.args.length 0 h = x) := ⟨_, Lib.hid rfl⟩
  have hxl : x.args.length < 50000000 := by rw [← Hx.out, (mv_head _ _ _).2.2]; have := tsize_eq h; have := len_le_tsizes h.args; omega
  go_enter Tryd.func64, Tryd.ntmps64
  go_wp2_with fail
  refine (refMove_calls (tsize h + 1) h A c s.args.length 0 _ _ (by omega) (by omega) hix (by omega) (by omega) (by omega) (by omega) (hr0.below B)).use fun w1 A3 c3 hc3 hR3 hb1 => ?_
  rw [Hx.out] at hc3 hR3 ⊢
  have hR3' := hR3.mono (S' := fun b => w.heap.size + 3 ≤ b) (fun b hb _ => by rcases hb with hb | hb; exact hb.elim; omega)
  replace q1 := bk_below q1 hb1; replace q2 := bk_below q2 hb1; replace B := bl_self B hb1; replace hsz := Nat.le_trans hsz hb1.size; clear hb1
  clear hR3
  go_wp2_with fail
  refine (with_calls x [] A3 none c3 0 _ _ (by omega) (by simp) hc3 hR3' (Rd.nil _ _ _ _)).use fun w2 A4 c4 hc4 hR4 hb2 => ?_
  rw [List.append_nil, Tm.eta] at hc4 hR4 ⊢
  replace hR4 := hR4.bound.mono (S' := fun b => w.heap.size + 3 ≤ b ∧ b < w2.heap.size) (fun b hb _ => ⟨by rcases hb.1 with hb | hb <;> omega, hb.2.lt⟩)
  clear hR3' hc3
  replace q1 := bk_below q1 hb2; replace q2 := bk_below q2 hb2; replace B := bl_self B hb2; replace hsz := Nat.le_trans hsz hb2.size; clear hb2
  have hg6 : w.heap.size + 3 ≤ w2.heap.size := hsz
  replace hR4 := hR4.below (bl_new w2 (.cells #[.int .i64 x.kind, .string x.name, .int .i64 x.idx, .slice A4 x.args.length c4] 30))
  have q6 := bk_new w2 (.cells #[.int .i64 x.kind, .string x.name, .int .i64 x.idx, .slice A4 x.args.length c4] 30); replace q1 := bk_alloc q1 (.cells #[.int .i64 x.kind, .string x.name, .int .i64 x.idx, .slice A4 x.args.length c4] 30); replace q2 := bk_alloc q2 (.cells #[.int .i64 x.kind, .string x.name, .int .i64 x.idx, .slice A4 x.args.length c4] 30); replace B := bl_alloc B (.cells #[.int .i64 x.kind, .string x.name, .int .i64 x.idx, .slice A4 x.args.length c4] 30); replace hsz := Nat.le_trans hsz (bl_new w2 (.cells #[.int .i64 x.kind, .string x.name, .int .i64 x.idx, .slice A4 x.args.length c4] 30)).size
  obtain ⟨gs, Hgs⟩ : ∃ gs : Nat → List Tm, Hid (∀ j, gs j = x.args ++ expArgs s.args.length 0 (s.args.take j)) := ⟨_, Lib.hid fun _ => rfl⟩
  have Hgl : Hid (∀ m, m ≤ s.args.length → (gs m).length = x.args.length + m) := Lib.hid fun m hm => by rw [Hgs.out, List.length_append, expArgs_len]; simp; omega
  go_wp2_with fail
  go_loopw [7] (fun i w' => ∃ (m : Nat) (A5 : Option Addr) (c5 : Nat), m ≤ s.args.length ∧ i = .int .i64 m ∧ w'.heap[w.heap.size + 1]? = some (.cells (smB s A2 c2) 26 (0, 0)) ∧ w'.heap[w.heap.size + 1 + 1]? = some (.cells #[.int .i64 0, .string ⟨#[]⟩, .int .i64 0, .slice none 0 0] 30 (0, 0)) ∧
      w'.heap[w2.heap.size]? = some (.cells #[.int .i64 x.kind, .string x.name, .int .i64 x.idx, .slice A5 (gs m).length c5] 30 (0, 0)) ∧ (gs m).length ≤ c5 ∧
      Rd tmK w' (fun b => w.heap.size + 3 ≤ b ∧ b ≠ w2.heap.size) A5 (gs m) ∧ w2.heap.size + 1 ≤ w'.heap.size ∧ Below w.heap.size w w') (fun i _ => s.args.length - (intOf i).toNat)
  case atStart =>
    have e0 : gs 0 = x.args := by rw [Hgs.out]; simp [expArgs]
    exact ⟨0, A4, c4, by omega, rfl, q1, q2, by rw [e0]; exact q6, by rw [e0]; exact hc4, by rw [e0]; exact hR4.mono (fun b hb _ => ⟨hb.1, by have := hb.2; omega⟩), by simp, B⟩
  case round =>
    clear q1 q2 q6 B hR4 hsz hc4
    obtain ⟨m, A5, c5, hm, rfl, q1, q2, q6, hc5, hR5, hs6, B⟩ := hrel
    by_cases hlt : m < s.args.length
    · obtain ⟨b, o, A', c', rfl, ⟨_, hbl⟩, e0, e1, hl', hr'⟩ := (hr20.below B).sm m hlt
      have hbl := hbl.lt
      have hm1 := ssizes_mem s.args m hlt
      have hw1 : IntKind.i64.wrap ((s.args.length : Int) - 1) = (s.args.length : Int) - 1 := IntWalk.i64_in _ ⟨by omega, by omega⟩
      have hw2 : IntKind.i64.wrap ((s.args.length : Int) - 1 - m) = (s.args.length : Int) - 1 - m := IntWalk.i64_in _ ⟨by omega, by omega⟩
      have hml := Hgl.out m hm
      have HS : ∀ w' : World, w'.heap[w2.heap.size]? = some (.cells #[.int .i64 x.kind, .string x.name, .int .i64 x.idx, .slice A5 (gs m).length c5] 30 (0, 0)) → w'.heap[w.heap.size + 1]? = some (.cells (smB s (some ⟨b, o, none⟩) c2) 26 (0, 0)) → w'.heap[b]? = wr.heap[b]? →
          (w'.cell? ⟨w2.heap.size, 0, none⟩ = some (.int .i64 x.kind) ∧ w'.cell? ⟨w2.heap.size, 1, none⟩ = some (.string x.name) ∧ w'.cell? ⟨w2.heap.size, 2, none⟩ = some (.int .i64 x.idx) ∧ w'.cell? ⟨w2.heap.size, 3, none⟩ = some (.slice A5 (gs m).length c5)) ∧ w'.cell? ⟨w.heap.size + 1, 1, none⟩ = some (.slice (some ⟨b, o, none⟩) s.args.length c2) ∧ w'.cell? ⟨b, o + m * 2, none⟩ = some (.string s.args[m].fam) ∧ w'.cell? ⟨b, o + m * 2 + 1, none⟩ = some (.slice A' s.args[m].args.length c') := fun w' h1 h2 h3 => ⟨bx4 h1, (bx2 h2).2, cl_block e0 h3, cl_block e1 h3⟩
      replace HS := Lib.hid HS
      have Hml := Lib.hid hml
      have hmb : (gs m).length < 100000000 := by omega
      clear hml
      go_wp2_with fail
      refine wp_region_mixN 14 (fun w' => (w'.cell? ⟨w2.heap.size, 0, none⟩ = some (.int .i64 x.kind) ∧ w'.cell? ⟨w2.heap.size, 1, none⟩ = some (.string x.name) ∧ w'.cell? ⟨w2.heap.size, 2, none⟩ = some (.int .i64 x.idx) ∧ w'.cell? ⟨w2.heap.size, 3, none⟩ = some (.slice A5 (gs m).length c5)) ∧ w'.cell? ⟨w.heap.size + 1, 1, none⟩ = some (.slice (some ⟨b, o, none⟩) s.args.length c2) ∧ w'.cell? ⟨b, o + m * 2, none⟩ = some (.string s.args[m].fam) ∧ w'.cell? ⟨b, o + m * 2 + 1, none⟩ = some (.slice A' s.args[m].args.length c')) [(true, 0), (true, 1), (true, 2), (true, 3), (true, 4), (true, 5), (true, 6), (true, 7), (true, 8), (true, 9), (true, 10), (false, 11), (false, 12), (false, 13)] (by kernel_rfl) rfl (by kernel_rfl) (HS.out _ q6 q1 rfl) ?_
      repeat (refine wpMix_soft (v := ?_) rfl rfl ?_ ?_; rotate_left; (focus (intro w' hS; go_simp; with_reducible rfl)); simp only [Act.put, List.setIfInBounds_toArray, List.set_cons_zero, List.set_cons_succ])
      refine wpMix_hard rfl rfl ?_
      go_wp2_with fail
      refine (H.out (vr ((s.args.length : Int) - 1 - m)) s.args[m] none A' 0 c' _ (fun _ => False) (fun b => S2 b ∧ Live w b) (by omega) (by omega) (by simp [tsize, tsizes]) ((ixT_eq _ _).2 ⟨by show _ ≤ (s.args.length : Int) - 1 - m; omega, by show (s.args.length : Int) - 1 - m ≤ _; omega, trivial⟩) (Rd.nil _ _ _ _) (Rd.drew hr')).use fun w3 A7 c7 hc7 hR7 hb3 => ?_
      obtain ⟨z, Hz⟩ : ∃ z, Hid (expandT (mv s.args[m].args.length 0 (vr ((s.args.length : Int) - 1 - m))) s.args[m] = z) := ⟨_, Lib.hid rfl⟩
      rw [Hz.out] at hc7 hR7 ⊢
      replace hb3 := bl_undrew hb3
      have hs3 := hb3.size
      have hR7' : Rd tmK w3 (fun b => wr.heap.size ≤ b) A7 z.args := hR7.mono (fun b hb _ => by rcases hb with hb | hb; exact hb.elim; exact hb)
      have qb : w3.heap[b]? = wr.heap[b]? := hb3.block _ (by omega)
      replace q1 := bk_below q1 hb3; replace q2 := bk_below q2 hb3; replace q6 := bk_below q6 hb3; replace B := bl_self B hb3; replace hR5 := hR5.below hb3; clear hb3
      go_wp2_with fail
      refine mixQ_normal (HS.out _ q6 q1 qb) ?_
      refine wpMix_hard rfl rfl ?_
      go_wp2_with fail
      have hRz := Rd.one (e := 30) (S' := fun b => w.heap.size + 3 ≤ b ∧ b ≠ w2.heap.size) (tmK_of z hc7 hR7') (fun b hb => ⟨by omega, by omega⟩) ⟨by omega, by omega⟩
      replace qb : (w3.alloc (.cells #[.int .i64 z.kind, .string z.name, .int .i64 z.idx, .slice A7 z.args.length c7] 30)).heap[b]? = wr.heap[b]? := ((bl_new w3 (.cells #[.int .i64 z.kind, .string z.name, .int .i64 z.idx, .slice A7 z.args.length c7] 30)).block _ (by omega)).trans qb
      have hs4 : w3.heap.size + 1 ≤ (w3.alloc (.cells #[.int .i64 z.kind, .string z.name, .int .i64 z.idx, .slice A7 z.args.length c7] 30)).heap.size := by simp
      have q7 := bk_new w3 (.cells #[.int .i64 z.kind, .string z.name, .int .i64 z.idx, .slice A7 z.args.length c7] 30); replace q1 := bk_alloc q1 (.cells #[.int .i64 z.kind, .string z.name, .int .i64 z.idx, .slice A7 z.args.length c7] 30); replace q2 := bk_alloc q2 (.cells #[.int .i64 z.kind, .string z.name, .int .i64 z.idx, .slice A7 z.args.length c7] 30); replace q6 := bk_alloc q6 (.cells #[.int .i64 z.kind, .string z.name, .int .i64 z.idx, .slice A7 z.args.length c7] 30); replace B := bl_alloc B (.cells #[.int .i64 z.kind, .string z.name, .int .i64 z.idx, .slice A7 z.args.length c7] 30); replace hR5 := hR5.below (bl_new w3 (.cells #[.int .i64 z.kind, .string z.name, .int .i64 z.idx, .slice A7 z.args.length c7] 30))
      refine mixQ_normal (HS.out _ q6 q1 qb) ?_
      refine wpMix_hard rfl rfl ?_
      go_wp2_with fail
      refine (with_calls (.mk x.kind x.name x.idx (gs m)) [z] A5 (some ⟨w3.heap.size, 0, none⟩) c5 1 _ (fun b => w.heap.size + 3 ≤ b ∧ b ≠ w2.heap.size) (by show (gs m).length < _; omega) (by simp) hc5 hR5 hRz).use fun w4 A8 c8 hc8 hR8 hb4 => ?_
      have e : gs m ++ [z] = gs (m + 1) := by
        rw [Hgs.out, Hgs.out, expArgs_take _ _ _ hlt, ← Hz.out, mv_vr _ _ (by omega), List.append_assoc]
      have hlm := Hgl.out (m + 1) (by omega)
      have hRn : Rd tmK w4 (fun b => w.heap.size + 3 ≤ b ∧ b ≠ w2.heap.size) A8 (gs (m + 1)) := by
        rw [← e]
        exact hR8.mono (fun b hb _ => by rcases hb with hb | hb; exact hb; exact ⟨by omega, by omega⟩)
      have hcn : (gs (m + 1)).length ≤ c8 := by rw [← e]; exact hc8
      have eV : tmV (.mk (Tm.mk x.kind x.name x.idx (gs m)).kind (Tm.mk x.kind x.name x.idx (gs m)).name (Tm.mk x.kind x.name x.idx (gs m)).idx ((Tm.mk x.kind x.name x.idx (gs m)).args ++ [z])) A8 c8 = .agg #[.int .i64 x.kind, .string x.name, .int .i64 x.idx, .slice A8 (gs (m + 1)).length c8] := by
        show Value.agg #[.int .i64 x.kind, .string x.name, .int .i64 x.idx, .slice A8 (gs m ++ [z]).length c8] = _
        rw [e]
      rw [eV]
      clear hR8 hc8 hRz e eV hlm
      have hs5 := hb4.size
      replace qb := (hb4.block _ (by omega)).trans qb
      replace q1 := bk_below q1 hb4; replace q2 := bk_below q2 hb4; replace q6 := bk_below q6 hb4; replace B := bl_self B hb4; clear hb4
      go_wp2_with fail
      refine mixQ_normal (HS.out _ q6 q1 qb) ?_
      refine wpMix_done (cutQ_normal ?_)
      obtain ⟨x0, x1, x2, x3⟩ := bx4 q6
      have z0 := bk_free q6 0
      have z1 := bk_free q6 1
      have z2 := bk_free q6 2
      have z3 := bk_free q6 3
      go_wp2_with fail
      refine NoPanic.normal ?_
      go_wp2_with fail
      go_roundw
      case rel => exact ⟨m + 1, A8, c8, by omega, by go_num, (set4_far (by omega)).trans q1, (set4_far (by omega)).trans q2, set4_self q6, hcn, hRn.set4 (fun b hb => hb.2), by rw [set4_size]; omega, bl_set4 B (by omega)⟩
      case measure => simp [intOf]; omega
    · have Hm : Hid (m = s.args.length) := Lib.hid (by omega)
      obtain ⟨u0, Hu0⟩ : ∃ u0, Hid (Tm.mk x.kind x.name x.idx (gs m) = u0) := ⟨_, Lib.hid rfl⟩
      have hu0 : u0 = Tm.mk x.kind x.name x.idx (gs m) := Hu0.out.symm
      have hfin : Hid (expandT x s = lamsT s.args.length u0) := Lib.hid (by rw [expandT_eq, hu0, Hgs.out, Hm.out, List.take_length])
      go_wp2_with fail
      go_loopw [8] (fun i w' => ∃ (k : Nat) (u : Tm) (A5 : Option Addr) (c5 : Nat), k ≤ s.args.length ∧ i = .int .i64 k ∧ Hid (u = lamsT k u0) ∧ w'.heap[w.heap.size + 1 + 1]? = some (.cells #[.int .i64 0, .string ⟨#[]⟩, .int .i64 0, .slice none 0 0] 30 (0, 0)) ∧
          w'.heap[w2.heap.size]? = some (.cells #[.int .i64 u.kind, .string u.name, .int .i64 u.idx, .slice A5 u.args.length c5] 30 (0, 0)) ∧ u.args.length ≤ c5 ∧
          Rd tmK w' (fun b => w.heap.size + 3 ≤ b ∧ b ≠ w2.heap.size) A5 u.args ∧ w2.heap.size + 1 ≤ w'.heap.size ∧ Below w.heap.size w w') (fun i _ => s.args.length - (intOf i).toNat)
      case atStart => exact ⟨0, u0, A5, c5, by omega, rfl, Lib.hid rfl, q2, by rw [hu0]; exact q6, by rw [hu0]; exact hc5, by rw [hu0]; exact hR5, hs6, B⟩
      case round =>
        clear q1 q2 q6 hc5 hR5 hs6 B hu0
        obtain ⟨k, u, A5, c5, hk, rfl, Hu, q2, q6, hc5, hR5, hs6, B⟩ := hrel
        have p2 := bk_alloc q2 (.cells #[.int .i64 u.kind, .string u.name, .int .i64 u.idx, .slice A5 u.args.length c5] 30)
        have p6 := bk_alloc q6 (.cells #[.int .i64 u.kind, .string u.name, .int .i64 u.idx, .slice A5 u.args.length c5] 30)
        by_cases hlt2 : k < s.args.length
        · obtain ⟨x0, x1, x2, x3⟩ := bx4 p6
          obtain ⟨y0, y1, y2, y3⟩ := bx4 q6
          have z0 := bk_free p6 0
          have z1 := bk_free p6 1
          have z2 := bk_free p6 2
          have z3 := bk_free p6 3
          have hRz := Rd.one (e := 30) (S' := fun b => w.heap.size + 3 ≤ b ∧ b ≠ w2.heap.size) (tmK_of u hc5 hR5) (fun b hb => hb) ⟨by omega, by omega⟩
          go_wp2_with fail
          go_roundw
          case rel => exact ⟨k + 1, .mk 3 ⟨#[]⟩ 0 [u], some ⟨wr.heap.size, 0, none⟩, 1, by omega, by go_num, Lib.hid (by rw [lamsT, Hu.out]), (set4_far (by omega)).trans p2, set4_self p6, Nat.le_refl _, hRz.set4 (fun b hb => hb.2), by rw [set4_size, World.size_alloc]; omega, bl_set4 (bl_alloc B _) (by omega)⟩
          case measure => simp [intOf]; omega
        · have hk2 : Hid (expandT x s = u) := Lib.hid (by rw [hfin.out, Hu.out]; congr 1; omega)
          obtain ⟨y0, y1, y2, y3⟩ := bx4 q6
          obtain ⟨x0, x1, x2, x3⟩ := bx4 q2
          have z0 := bk_free q2 0
          have z1 := bk_free q2 1
          have z2 := bk_free q2 2
          have z3 := bk_free q2 3
          have hkk : (k : Int) = (s.args.length : Int) := by omega
          have Hkk := Lib.hid hkk
          clear hkk
          go_wp2_with fail
          refine bodyPost_ret (res_term rfl rfl (set4_self q2)) rfl ⟨A5, c5, by rw [Hx.out, hk2.out], by rw [Hx.out, hk2.out]; exact hc5, ?_, bl_set4 B (by omega)⟩
          rw [Hx.out, hk2.out]
          exact (hR5.set4 (fun b hb => by have := hb.1; omega)).mono (fun b hb _ => .inr (by have := hb.1; omega))
end Go.Proofs.YtolooomphmcphaaDoor
