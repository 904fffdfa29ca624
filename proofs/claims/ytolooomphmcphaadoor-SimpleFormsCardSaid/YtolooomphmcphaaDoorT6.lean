/- lfcheckmade.Term: some term of a bounded size. -/
import Derived.Deep.DeepCutAuto
import Derived.Deep.CutBlock
import Derived.Test.YtolooomphmcphaaDoorT2
import Derived.Test.YtolooomphmcphaaDoorQ7
namespace Go.Proofs.YtolooomphmcphaaDoor
open Go.RowKit

def nm6 (k : Nat) : ByteArray := match k with | 0 => ⟨#[120]⟩ | 1 => ⟨#[121]⟩ | 2 => ⟨#[78]⟩ | 3 => ⟨#[102]⟩ | 4 => ⟨#[95]⟩ | _ => ⟨#[]⟩
/-- the package variable names holds its six texts -/
def Nms (w : World) (gb go cN : Nat) : Prop := w.cell? ⟨0, 0, none⟩ = some (.slice (some ⟨gb, go, none⟩) 6 cN) ∧ ∀ k, k < 6 → w.cell? ⟨gb, go + k, none⟩ = some (.string (nm6 k))
theorem Nms.grown {w w' : World} {gb go cN g : Nat} (h : Nms w gb go cN) (hg : w.grownBy w' (some g)) (h0 : 0 ≠ g) (h1 : gb ≠ g) : Nms w' gb go cN := by
  obtain ⟨h2, h3⟩ := h
  exact ⟨cl_grown h2 hg (by simpa using h0), fun k hk => cl_grown (h3 k hk) hg (by simpa using h1)⟩
theorem Nms.below {w w' : World} {gb go cN : Nat} (h : Nms w gb go cN) (hb : Below w.heap.size w w') : Nms w' gb go cN := by
  obtain ⟨h2, h3⟩ := h
  exact ⟨cl_below h2 hb, fun k hk => cl_below (h3 k hk) hb⟩
theorem Nms.lt {w : World} {gb go cN : Nat} (h : Nms w gb go cN) : 0 < w.heap.size ∧ gb < w.heap.size := by
  obtain ⟨h2, h3⟩ := h
  exact ⟨cl_lt h2, cl_lt (h3 0 (by omega))⟩
theorem Nms.setc {w : World} {gb go cN : Nat} (h : Nms w gb go cN) {p : Addr} (h0 : 0 ≠ p.block) (h1 : gb ≠ p.block) (u : Value) : Nms (w.setCell p u) gb go cN := by
  obtain ⟨h2, h3⟩ := h
  exact ⟨cl_set h2 h0, fun k hk => cl_set (h3 k hk) h1⟩
theorem Nms.row {w w' : World} {gb go cN : Nat} {row : Option Nat} (h : Nms w gb go cN) (hg : w.grownBy w' row) (h0 : some 0 ≠ row) (h1 : some gb ≠ row) : Nms w' gb go cN := by
  obtain ⟨h2, h3⟩ := h
  exact ⟨cl_grown h2 hg h0, fun k hk => cl_grown (h3 k hk) hg h1⟩
theorem Tape.set4 {w : World} {g k B : Nat} {S : Nat → Prop} {T : List Int} {v0 v1 v2 v3 : Value} (h : Tape w g (fun b => S b ∧ b < B) T) (hg : k ≠ g) (hk : B ≤ k) (hng : ¬ S g) : Tape (set4 w k v0 v1 v2 v3) g S T :=
  ((((h.setc (p := ⟨k, 0, none⟩) hg (fun h => Nat.lt_irrefl _ (Nat.lt_of_lt_of_le h.2 hk)) _).setc (p := ⟨k, 1, none⟩) hg (fun h => Nat.lt_irrefl _ (Nat.lt_of_lt_of_le h.2 hk)) _).setc (p := ⟨k, 2, none⟩) hg (fun h => Nat.lt_irrefl _ (Nat.lt_of_lt_of_le h.2 hk)) _).setc (p := ⟨k, 3, none⟩) hg (fun h => Nat.lt_irrefl _ (Nat.lt_of_lt_of_le h.2 hk)) _).mono (fun _ hb => hb.1) hng
/-- some term of at most N nodes, made out of the tape in block g -/
def MkTP (w : World) (g : Nat) (S : Nat → Prop) (N : Nat) (e : Ending) (w' : World) : Prop :=
  ∃ t A c T, e = .returned (tmV t A c) ∧ t.args.length ≤ c ∧ Rd tmK w' (fun b => w.heap.size ≤ b) A t.args ∧ tsize t ≤ N ∧ ixT 2000000 t ∧ Tape w' g S T ∧ w.grownBy w' (some g)
/-- the call makes some term of at most N nodes out of the tape in block g -/
abbrev MkT (P : Program) (f : FuncId) (args : Array Value) (w : World) (g : Nat) (S : Nat → Prop) (N : Nat) : Prop :=
  Calls P f args w (MkTP w g S N)
theorem MkT.use {P : Program} {f : FuncId} {args : Array Value} {w : World} {g : Nat} {S : Nat → Prop} {N : Nat} {R : Ending → World → Prop} (h : MkT P f args w g S N)
    (k : ∀ w' t A c T, t.args.length ≤ c → Rd tmK w' (fun b => w.heap.size ≤ b) A t.args → tsize t ≤ N → ixT 2000000 t → Tape w' g S T → w.grownBy w' (some g) → R (.returned (tmV t A c)) w') : Calls P f args w R :=
  h.mono (by rintro e w' ⟨t, A, c, T, rfl, hc, hr, hn, hi, ht, hg⟩; exact k w' t A c T hc hr hn hi ht hg)
def kk5 (k : Nat) : Int := match k with | 0 => 3 | 1 => 4 | 2 => 4 | 3 => 5 | _ => 6
set_option maxRecDepth 100000 in
set_option maxHeartbeats 1000000 in
theorem mkT_calls (d : Nat) : ∀ (dp vars metas : Int) (g : Nat) (T : List Int) (w : World) (S : Nat → Prop) (gb go cN : Nat), dp ≤ d → -1000 ≤ dp → 0 ≤ vars → vars + d ≤ 1000000 → 0 ≤ metas → metas ≤ 1000000 → d ≤ 20 → 0 ≠ g → gb ≠ g → Nms w gb go cN → Tape w g S T →
    MkT Tryd.prog 27 #[.pointer (some ⟨g, 0, none⟩), .int .i64 dp, .int .i64 vars, .int .i64 metas] w g S (2 ^ (d + 1) - 1) := by
  induction d using Nat.strongRecOn with
  | _ d ih =>
  intro dp vars metas g T w S gb go cN hd hd0 hv0 hv1 hm0 hm1 hd20 h0g hbg hN hT0
  have hT := hT0.bound
  have hng := hT0.ng
  have H := Lib.hid ih
  clear hT0 ih
  have q8 := bk_alloc (bk_new w (.cells #[.int .i64 0, .string ⟨#[]⟩, .int .i64 0, .slice none 0 0] 30)) (.cells #[.int .i64 3, .int .i64 4, .int .i64 4, .int .i64 5, .int .i64 6] 3)
  have q1 := bk_at (w := w.alloc (.cells #[.int .i64 0, .string ⟨#[]⟩, .int .i64 0, .slice none 0 0] 30)) (n := w.heap.size + 1) (by simp) (.cells #[.int .i64 3, .int .i64 4, .int .i64 4, .int .i64 5, .int .i64 6] 3)
  have B := bl_alloc (bl_new w (.cells #[.int .i64 0, .string ⟨#[]⟩, .int .i64 0, .slice none 0 0] 30)) (.cells #[.int .i64 3, .int .i64 4, .int .i64 4, .int .i64 5, .int .i64 6] 3)
  have hT2 := hT.below B
  have hN2 := hN.below B
  have hgl := hT.lt
  have hNl := hN.lt
  have hG := gr_below B (some g)
  have hsz : w.heap.size + 2 ≤ ((w.alloc (.cells #[.int .i64 0, .string ⟨#[]⟩, .int .i64 0, .slice none 0 0] 30)).alloc (.cells #[.int .i64 3, .int .i64 4, .int .i64 4, .int .i64 5, .int .i64 6] 3)).heap.size := by simp
  go_enter Tryd.func27, Tryd.ntmps27
  go_wp2_with fail
  refine (next_calls g _ 5 _ (by omega) (by omega) _ hT2).mono ?_
  rintro e w1 ⟨rfl, hT1, hG1⟩
  obtain ⟨k, hk, hk5⟩ : ∃ k : Nat, nxV T 5 = k ∧ k < 5 := ⟨(nxV T 5).toNat, by have := nxV_nonneg T (n := 5) (by omega); omega, by have := nxV_lt T (n := 5) (by omega); omega⟩
  rw [hk]
  clear hk
  replace q8 := bk_grown q8 hG1 (by simp; omega)
  replace q1 := bk_grown q1 hG1 (by simp; omega)
  replace hN2 := hN2.grown hG1 h0g hbg
  replace hG := gr_trans hG hG1
  replace hsz := Nat.le_trans hsz hG1.size
  clear hG1 hT2
  have ck : w1.cell? ⟨w.heap.size + 1, k, none⟩ = some (.int .i64 (kk5 k)) := bk_cell q1 k (by rcases k with _ | _ | _ | _ | _ | k <;> first | rfl | omega)
  obtain ⟨K0, HK0, hK0⟩ : ∃ K0, Hid (kk5 k = K0) ∧ (K0 = 3 ∨ K0 = 4 ∨ K0 = 5 ∨ K0 = 6) := ⟨_, Lib.hid rfl, by rcases k with _ | _ | _ | _ | _ | k <;> first | simp [kk5] | omega⟩
  rw [HK0.out] at ck
  replace hK0 := Lib.hid hK0
  clear HK0
  obtain ⟨U1, HU1⟩ : ∃ U1, Hid ((decide (dp ≤ 0) && (K0 == 3)) = U1) := ⟨_, Lib.hid rfl⟩
  go_upto_region 3 with (fail)
  go_cut [26] (fun s26 wc => s26 = .bool U1 ∧ w1 = wc)
  case first =>
    cases a1 : decide (dp ≤ 0) <;> cases a2 : (K0 == 3)
    all_goals
      go_wp2_with fail
      go_meet
      exact ⟨by rw [← HU1.out]; simp [a1, a2], rfl⟩
  case rest =>
  obtain ⟨rfl, rfl⟩ := hcut
  obtain ⟨K1, HK1⟩ : ∃ K1 : Int, Hid ((if U1 then 4 else K0) = K1) := ⟨_, Lib.hid rfl⟩
  go_upto_if 26 with (fail)
  go_cut [10] (fun s10 wc => s10 = .int .i64 K1 ∧ w1 = wc)
  case first =>
    cases hU1 : U1
    all_goals
      go_wp2_with fail
      go_meet
      exact ⟨by rw [← HK1.out, hU1]; rfl, rfl⟩
  case rest =>
  obtain ⟨rfl, rfl⟩ := hcut
  obtain ⟨U2, HU2⟩ : ∃ U2, Hid (((K1 == 5) && (vars == 0) || ((K1 == 6) && (metas == 0))) = U2) := ⟨_, Lib.hid rfl⟩
  go_upto_region 5 with (fail)
  go_cut [40] (fun s40 wc => s40 = .bool U2 ∧ w1 = wc)
  case first =>
    cases a1 : (K1 == 5) <;> cases a2 : (vars == 0) <;> cases a3 : (K1 == 6) <;> cases a4 : (metas == 0)
    all_goals
      go_wp2_with fail
      go_meet
      exact ⟨by rw [← HU2.out]; simp [a1, a2, a3, a4], rfl⟩
  case rest =>
  obtain ⟨rfl, rfl⟩ := hcut
  obtain ⟨K2, HK2⟩ : ∃ K2 : Int, Hid ((if U2 then 4 else K1) = K2) := ⟨_, Lib.hid rfl⟩
  go_upto_if 40 with (fail)
  go_cut [10] (fun s10 wc => s10 = .int .i64 K2 ∧ w1 = wc)
  case first =>
    cases hU2 : U2
    all_goals
      go_wp2_with fail
      go_meet
      exact ⟨by rw [← HK2.out, hU2]; rfl, rfl⟩
  case rest =>
  obtain ⟨rfl, rfl⟩ := hcut
  have hKs : K2 = 3 ∧ 0 < dp ∨ K2 = 4 ∨ K2 = 5 ∧ 0 < vars ∨ K2 = 6 ∧ 0 < metas := by
    have h1 := hK0.out
    have h2 := HU1.out
    have h3 := HK1.out
    have h4 := HU2.out
    have h5 := HK2.out
    cases U1 <;> cases U2 <;> simp at h2 h3 h4 h5 <;> omega
  have hsz1 := hsz
  have hne1 : w1.heap.size ≠ g := by omega
  have hT11 := hT1.below (bl_new w1 (.cells #[.int .i64 K2, .string ⟨#[]⟩, .int .i64 0, .slice none 0 0] 30))
  have hN11 := hN2.below (bl_new w1 (.cells #[.int .i64 K2, .string ⟨#[]⟩, .int .i64 0, .slice none 0 0] 30))
  have hG11 := gr_alloc hG (.cells #[.int .i64 K2, .string ⟨#[]⟩, .int .i64 0, .slice none 0 0] 30)
  have q11 := bk_new w1 (.cells #[.int .i64 K2, .string ⟨#[]⟩, .int .i64 0, .slice none 0 0] 30); replace q8 := bk_alloc q8 (.cells #[.int .i64 K2, .string ⟨#[]⟩, .int .i64 0, .slice none 0 0] 30)
  clear ck q1 hN2 hT1 hG
  go_upto_block 0 with (fail)
  go_cut [] (fun wc => ∃ (nm : ByteArray) (ix : Int) (T' : List Int), 0 ≤ ix ∧ ix ≤ 1000000 ∧ wc.heap[w.heap.size]? = some (.cells #[.int .i64 0, .string ⟨#[]⟩, .int .i64 0, .slice none 0 0] 30 (0, 0)) ∧ wc.heap[w1.heap.size]? = some (.cells #[.int .i64 K2, .string nm, .int .i64 ix, .slice none 0 0] 30 (0, 0)) ∧ Tape wc g (fun b => S b ∧ b < w.heap.size) T' ∧ Nms wc gb go cN ∧ w.grownBy wc (some g) ∧ w1.heap.size + 1 ≤ wc.heap.size)
  case first =>
    rcases hKs with ⟨rfl, hdp⟩ | rfl | ⟨rfl, hvp⟩ | ⟨rfl, hmp⟩
    · obtain ⟨k6, hk6, hk66⟩ : ∃ k6 : Nat, nxV T.tail 6 = k6 ∧ k6 < 6 := ⟨(nxV T.tail 6).toNat, by have := nxV_nonneg T.tail (n := 6) (by omega); omega, by have := nxV_lt T.tail (n := 6) (by omega); omega⟩
      have HS : Hid (∀ w' : World, Nms w' gb go cN → w'.cell? ⟨0, 0, none⟩ = some (.slice (some ⟨gb, go, none⟩) 6 cN) ∧ w'.cell? ⟨gb, go + k6, none⟩ = some (.string (nm6 k6))) := Lib.hid fun w' h => ⟨h.1, h.2 k6 hk66⟩
      have HK6 := Lib.hid hk6
      clear hk6
      obtain ⟨d, rfl⟩ : ∃ j, d = j + 1 := ⟨d - 1, by omega⟩
      have hw1 : IntKind.i64.wrap (dp - 1) = dp - 1 := IntWalk.i64_in _ ⟨by omega, by omega⟩
      have hw2 : IntKind.i64.wrap (vars + 1) = vars + 1 := IntWalk.i64_in _ ⟨by omega, by omega⟩
      have hk6I : (k6 : Int) < 6 := by omega
      go_wp2_with fail
      refine wp_region_mixN 8 (fun w' => w'.cell? ⟨0, 0, none⟩ = some (.slice (some ⟨gb, go, none⟩) 6 cN) ∧ w'.cell? ⟨gb, go + k6, none⟩ = some (.string (nm6 k6))) [(true, 0), (true, 1), (true, 2), (true, 3), (false, 4), (true, 5), (true, 6), (true, 7)] (by kernel_rfl) rfl (by kernel_rfl) (HS.out _ hN11) ?_
      repeat (refine wpMix_soft (v := ?_) rfl rfl ?_ ?_; rotate_left; (focus (intro w' hS; go_simp; with_reducible rfl)); simp only [Act.put, List.setIfInBounds_toArray, List.set_cons_zero, List.set_cons_succ])
      refine wpMix_hard rfl rfl ?_
      go_wp2_with fail
      refine (next_calls g _ 6 _ (by omega) (by omega) _ (hT11.below (bl_drew _ _))).mono ?_
      rintro e w2 ⟨rfl, hT2, hG2⟩
      rw [HK6.out]
      replace hG2 := gr_undrew hG2
      have p8 := bk_grown q8 hG2 (by simp; omega)
      have p11 := bk_grown q11 hG2 (by simp; omega)
      have hN2 := hN11.grown hG2 h0g hbg
      have hG12 := gr_trans hG11 hG2
      have hs2 : w1.heap.size + 1 ≤ w2.heap.size := by simpa using hG2.size
      go_wp2_with fail
      refine mixQ_normal (HS.out _ hN2) ?_
      repeat (refine wpMix_soft (v := ?_) rfl rfl ?_ ?_; rotate_left; (focus (intro w' hS; go_simp; with_reducible rfl)); simp only [Act.put, List.setIfInBounds_toArray, List.set_cons_zero, List.set_cons_succ])
      refine wpMix_done (cutQ_normal ?_)
      obtain ⟨x0, x1, x2, x3⟩ := bx4 p11
      have z1 := bk_free p11 1
      go_wp2_with fail
      refine NoPanic.normal ?_
      clear x0 x1 x2 x3 z1
      replace p8 := bk_far p8 (p := ⟨w1.heap.size, 1, none⟩) (by show w.heap.size ≠ w1.heap.size; omega) (.string (nm6 k6))
      replace p11 := bk_set p11 1 (.string (nm6 k6))
      replace hN2 := hN2.setc (p := ⟨w1.heap.size, 1, none⟩) (by show 0 ≠ w1.heap.size; omega) (by show gb ≠ w1.heap.size; omega) (.string (nm6 k6))
      replace hT2 := hT2.setc (p := ⟨w1.heap.size, 1, none⟩) (by show w1.heap.size ≠ g; omega) (by show ¬ (S w1.heap.size ∧ w1.heap.size < w.heap.size); omega) (.string (nm6 k6))
      replace hG12 := gr_set hG12 (p := ⟨w1.heap.size, 1, none⟩) (by show w.heap.size ≤ w1.heap.size; omega) (.string (nm6 k6))
      go_wp2_with fail
      refine (H.out d (by omega) (dp - 1) (vars + 1) metas g _ _ _ gb go cN (by omega) (by omega) (by omega) (by omega) hm0 hm1 (by omega) h0g hbg hN2 hT2).use fun w3 t A c T3 hc hR hn hi hT3 hG3 => ?_
      have hs3 : w2.heap.size ≤ w3.heap.size := by simpa using hG3.size
      replace p8 := bk_grown p8 hG3 (by simp; omega)
      replace p11 := bk_grown p11 hG3 (by simp; omega)
      replace hG12 := gr_trans hG12 hG3
      have r8 := bk_alloc p8 (.cells #[.int .i64 t.kind, .string t.name, .int .i64 t.idx, .slice A t.args.length c] 30)
      have r11 := bk_alloc p11 (.cells #[.int .i64 t.kind, .string t.name, .int .i64 t.idx, .slice A t.args.length c] 30)
      obtain ⟨x0, x1, x2, x3⟩ := bx4 r11
      have z1 := bk_free r11 3
      obtain ⟨y0, y1, y2, y3⟩ := bx4 r8
      have v0 := bk_free r8 0
      have v1 := bk_free r8 1
      have v2 := bk_free r8 2
      have v3 := bk_free r8 3
      go_wp2_with fail
      have hR' := (Rd.one (e := 30) (S' := fun b => w1.heap.size + 1 ≤ b) (tmK_of t hc hR) (fun b hb => by simp at hb; omega) (by omega)).setc (p := ⟨w1.heap.size, 3, none⟩) (fun b hb => by show b ≠ w1.heap.size; omega) (.slice (some ⟨w3.heap.size, 0, none⟩) 1 1)
      have hT3' := (hT3.below (bl_new w3 (.cells #[.int .i64 t.kind, .string t.name, .int .i64 t.idx, .slice A t.args.length c] 30))).setc (p := ⟨w1.heap.size, 3, none⟩) (by show w1.heap.size ≠ g; omega) (by show ¬ (S w1.heap.size ∧ w1.heap.size < w.heap.size); omega) (.slice (some ⟨w3.heap.size, 0, none⟩) 1 1)
      have hp2 : 0 < 2 ^ (d + 1) := Nat.two_pow_pos _
      refine bodyPost_ret (res_term rfl rfl (set4_self (bk_far r8 (p := ⟨w1.heap.size, 3, none⟩) (by show w.heap.size ≠ w1.heap.size; omega) _))) rfl ⟨.mk 3 (nm6 k6) 0 [t], some ⟨w3.heap.size, 0, none⟩, 1, T3, rfl, Nat.le_refl _, (hR'.set4 (fun b hb => by omega)).mono (fun b hb _ => by omega), by simp only [tsize, tsizes]; rw [Nat.pow_succ]; omega, ⟨by omega, by omega, hi, trivial⟩, hT3'.set4 (by omega) (by omega) hng, gr_set4 (gr_set (gr_alloc hG12 _) (by show w.heap.size ≤ w1.heap.size; omega) _) (Nat.le_refl _)⟩
    · have p8 := bk_alloc q8 (.cells #[.string ⟨#[122]⟩, .string ⟨#[115]⟩, .string ⟨#[99]⟩, .string ⟨#[97, 112, 112]⟩] 9)
      have p11 := bk_alloc q11 (.cells #[.string ⟨#[122]⟩, .string ⟨#[115]⟩, .string ⟨#[99]⟩, .string ⟨#[97, 112, 112]⟩] 9)
      have p12 := bk_new (w1.alloc (.cells #[.int .i64 4, .string ⟨#[]⟩, .int .i64 0, .slice none 0 0] 30)) (.cells #[.string ⟨#[122]⟩, .string ⟨#[115]⟩, .string ⟨#[99]⟩, .string ⟨#[97, 112, 112]⟩] 9)
      rw [show (w1.alloc (.cells #[.int .i64 4, .string ⟨#[]⟩, .int .i64 0, .slice none 0 0] 30)).heap.size = w1.heap.size + 1 by simp] at p12
      have hT12 := hT11.below (bl_new _ (.cells #[.string ⟨#[122]⟩, .string ⟨#[115]⟩, .string ⟨#[99]⟩, .string ⟨#[97, 112, 112]⟩] 9))
      have hN12 := hN11.below (bl_new _ (.cells #[.string ⟨#[122]⟩, .string ⟨#[115]⟩, .string ⟨#[99]⟩, .string ⟨#[97, 112, 112]⟩] 9))
      have hG12 := gr_alloc hG11 (.cells #[.string ⟨#[122]⟩, .string ⟨#[115]⟩, .string ⟨#[99]⟩, .string ⟨#[97, 112, 112]⟩] 9)
      go_wp2_with fail
      refine (next_calls g _ 4 _ (by omega) (by omega) _ hT12).mono ?_
      rintro e w2 ⟨rfl, hT2, hG2⟩
      obtain ⟨j, hj, hj4⟩ : ∃ j : Nat, nxV T.tail 4 = j ∧ j < 4 := ⟨(nxV T.tail 4).toNat, by have := nxV_nonneg T.tail (n := 4) (by omega); omega, by have := nxV_lt T.tail (n := 4) (by omega); omega⟩
      rw [hj]
      clear hj
      obtain ⟨nm, hnm⟩ : ∃ nm : ByteArray, #[Value.string ⟨#[122]⟩, .string ⟨#[115]⟩, .string ⟨#[99]⟩, .string ⟨#[97, 112, 112]⟩][j]? = some (.string nm) := by
        rcases j with _ | _ | _ | _ | j
        · exact ⟨_, rfl⟩
        · exact ⟨_, rfl⟩
        · exact ⟨_, rfl⟩
        · exact ⟨_, rfl⟩
        · omega
      have cj : w2.cell? ⟨w1.heap.size + 1, j, none⟩ = some (.string nm) := bk_cell (bk_grown p12 hG2 (by simp; omega)) j hnm
      clear hnm
      replace p8 := bk_grown p8 hG2 (by simp; omega)
      replace p11 := bk_grown p11 hG2 (by simp; omega)
      obtain ⟨x0, x1, x2, x3⟩ := bx4 p11
      have z1 := bk_free p11 1
      have hs2 : w1.heap.size + 2 ≤ w2.heap.size := by simpa using hG2.size
      go_wp2_with fail
      go_meet
      exact ⟨nm, 0, _, by omega, by omega, bk_far p8 (by show w.heap.size ≠ w1.heap.size; omega) _, bk_set p11 1 _, hT2.setc (by show w1.heap.size ≠ g; omega) (by show ¬ (S w1.heap.size ∧ w1.heap.size < w.heap.size); omega) _, (hN12.grown hG2 h0g hbg).setc (by show 0 ≠ w1.heap.size; omega) (by show gb ≠ w1.heap.size; omega) _, gr_set (gr_trans hG12 hG2) (by show w.heap.size ≤ w1.heap.size; omega) _, by rw [World.size_setCell]; omega⟩
    all_goals
      go_wp2_with fail
      refine (next_calls g _ _ _ (by assumption) (by omega) _ hT11).mono ?_
      rintro e w2 ⟨rfl, hT2, hG2⟩
      obtain ⟨ix, Hix, hix0, hix1⟩ : ∃ ix : Int, Hid (nxV T.tail _ = ix) ∧ 0 ≤ ix ∧ ix ≤ 1000000 := ⟨_, Lib.hid rfl, nxV_nonneg _ (by assumption), Int.le_of_lt (Int.lt_of_lt_of_le (nxV_lt _ (by assumption)) (by omega))⟩
      rw [Hix.out]
      clear Hix
      have p8 := bk_grown q8 hG2 (by simp; omega)
      have p11 := bk_grown q11 hG2 (by simp; omega)
      obtain ⟨x0, x1, x2, x3⟩ := bx4 p11
      have z2 := bk_free p11 2
      have hs2 : w1.heap.size + 1 ≤ w2.heap.size := by simpa using hG2.size
      go_wp2_with fail
      go_meet
      exact ⟨_, ix, _, hix0, hix1, bk_far p8 (by show w.heap.size ≠ w1.heap.size; omega) _, bk_set p11 2 _, hT2.setc (by show w1.heap.size ≠ g; omega) (by show ¬ (S w1.heap.size ∧ w1.heap.size < w.heap.size); omega) _, (hN11.grown hG2 h0g hbg).setc (by show 0 ≠ w1.heap.size; omega) (by show gb ≠ w1.heap.size; omega) _, gr_set (gr_trans hG11 hG2) (by show w.heap.size ≤ w1.heap.size; omega) _, by rw [World.size_setCell]; omega⟩
  case rest =>
  clear q8 q11 hT11 hN11 hG11 hsz
  obtain ⟨nm, ix, T', hix0, hix1, q8, q11, hT1, hN1, hG1, hs1⟩ := hcut
  by_cases hdp : 0 < dp
  · obtain ⟨d, rfl⟩ : ∃ j, d = j + 1 := ⟨d - 1, by omega⟩
    have hdw : IntKind.i64.wrap (dp - 1) = dp - 1 := IntWalk.i64_in _ ⟨by omega, by omega⟩
    go_wp2_with fail
    refine (next_calls g _ 3 _ (by omega) (by omega) _ hT1).mono ?_
    rintro e w2 ⟨rfl, hT2, hG2⟩
    obtain ⟨N, hN, hN3⟩ : ∃ N : Nat, nxV T' 3 = N ∧ N < 3 := ⟨(nxV T' 3).toNat, by have := nxV_nonneg T' (n := 3) (by omega); omega, by have := nxV_lt T' (n := 3) (by omega); omega⟩
    rw [hN]
    clear hN
    replace q8 := bk_grown q8 hG2 (by simp; omega)
    replace q11 := bk_grown q11 hG2 (by simp; omega)
    replace hN1 := hN1.grown hG2 h0g hbg
    replace hG1 := gr_trans hG1 hG2
    replace hs1 := Nat.le_trans hs1 hG2.size
    clear hG2 hT1
    go_wp2_with fail
    go_loopw [12] (fun i w' => ∃ (m : Nat) (v : Value) (T2 : List Int) (done : List Tm), m ≤ N ∧ i = .int .i64 m ∧ done.length + m = N ∧ tsizes done ≤ done.length * (2 ^ (d + 1) - 1) ∧ Hid (ixTs 2000000 done) ∧
      w'.heap[w.heap.size]? = some (.cells #[.int .i64 0, .string ⟨#[]⟩, .int .i64 0, .slice none 0 0] 30 (0, 0)) ∧
      w'.heap[w1.heap.size]? = some (.cells #[.int .i64 K2, .string nm, .int .i64 ix, v] 30 (0, 0)) ∧ Tape w' g (fun b => S b ∧ b < w.heap.size) T2 ∧ Nms w' gb go cN ∧
      Own tmK 30 (w1.heap.size + 1) w' (fun b => w1.heap.size + 1 ≤ b) v done ∧ w1.heap.size + 1 ≤ w'.heap.size ∧ w.grownBy w' (some g)) (fun i _ => (intOf i).toNat)
    case atStart => exact ⟨N, _, _, [], Nat.le_refl _, rfl, Nat.zero_add _, by simp [tsizes], Lib.hid trivial, q8, q11, hT2, hN1, Own.nil _ _ _ _ _, hs1, hG1⟩
    case round =>
      clear q8 q11 hT2 hN1 hG1 hs1
      obtain ⟨m, v, T2, done, hm, rfl, hdl, hds, Hdx, q8, q11, hT2, hN1, hO, hs1, hG1⟩ := hrel
      obtain ⟨c0, c1, c2, c3⟩ := bx4 q11
      by_cases hlt : 0 < m
      · obtain ⟨m, rfl⟩ : ∃ j, m = j + 1 := ⟨m - 1, by omega⟩
        have hobl := hO.block
        go_wp2_with fail
        refine wp_region_mixN 11 (fun w' => w'.cell? ⟨w1.heap.size, 3, none⟩ = some v) [(true, 0), (true, 1), (true, 2), (true, 3), (true, 4), (true, 5), (true, 6), (false, 7), (false, 8), (false, 9), (true, 10)] (by kernel_rfl) rfl (by kernel_rfl) c3 ?_
        repeat (refine wpMix_soft (v := ?_) rfl rfl ?_ ?_; rotate_left; (focus (intro w' hS; go_simp; with_reducible rfl)); simp only [Act.put, List.setIfInBounds_toArray, List.set_cons_zero, List.set_cons_succ])
        refine wpMix_hard rfl rfl ?_
        go_wp2_with fail
        refine (H.out d (by omega) (dp - 1) vars metas g _ _ _ gb go cN (by omega) (by omega) (by omega) (by omega) hm0 hm1 (by omega) h0g hbg (hN1.below (bl_drew _ _)) (hT2.below (bl_drew _ _))).use fun w3 x A' c' T3 hc' hR' hxn hxi hT3 hG3 => ?_
        replace hG3 : wr.grownBy w3 (some g) := gr_undrew hG3
        have hR3 : Rd tmK w3 (fun b => wr.heap.size ≤ b) A' x.args := hR'
        have hs3 := hG3.size
        replace q8 := bk_grown q8 hG3 (by simp; omega)
        replace q11 := bk_grown q11 hG3 (by simp; omega)
        replace hN1 := hN1.grown hG3 h0g hbg
        replace hO := hO.grown hG3 (fun b hb => by omega) (by omega)
        replace hG1 := gr_trans hG1 hG3
        go_wp2_with fail
        refine mixQ_normal (bx4 q11).2.2.2 ?_
        refine wpMix_hard rfl rfl ?_
        go_wp2_with fail
        replace q8 := bk_alloc q8 (.cells #[.int .i64 x.kind, .string x.name, .int .i64 x.idx, .slice A' x.args.length c'] 30)
        replace q11 := bk_alloc q11 (.cells #[.int .i64 x.kind, .string x.name, .int .i64 x.idx, .slice A' x.args.length c'] 30)
        replace hO := hO.alloc (.cells #[.int .i64 x.kind, .string x.name, .int .i64 x.idx, .slice A' x.args.length c'] 30)
        replace hT3 := hT3.below (bl_new _ (.cells #[.int .i64 x.kind, .string x.name, .int .i64 x.idx, .slice A' x.args.length c'] 30))
        replace hN1 := hN1.below (bl_new _ (.cells #[.int .i64 x.kind, .string x.name, .int .i64 x.idx, .slice A' x.args.length c'] 30))
        replace hG1 := gr_alloc hG1 (.cells #[.int .i64 x.kind, .string x.name, .int .i64 x.idx, .slice A' x.args.length c'] 30)
        refine mixQ_normal (bx4 q11).2.2.2 ?_
        refine wpMix_hard rfl rfl ?_
        refine wp_snoc (d := tmK) (v := v) rfl (.tmp 93) (.tmp 100) _ rfl (e := 30) (bytes := 56) (z := .agg #[.int .i64 0, .string ⟨#[]⟩, .int .i64 0, .slice none 0 0]) (by kernel_rfl) (by kernel_rfl) (by rfl) (by decide) rfl hO (by omega) (by simp; omega) rfl (bk_new _ _) (EK.mono (EK.below (tmK_of x hc' hR3) (bl_new _ _)) ?_) ?_
        · intro b hb hl
          refine ⟨by omega, hl, fun he => ?_⟩
          have := (hobl b he).2
          omega
        intro g3 cap w5 hO5 hgrow hcap hlt5 hBg
        have n0 : ∀ k, k < w1.heap.size + 1 → some k ≠ Value.ownBlock v := fun k hk he => by have := (hobl k he.symm).1; omega
        replace q8 := bk_grown q8 hgrow (n0 _ (by omega))
        replace q11 := bk_grown q11 hgrow (n0 _ (by omega))
        have hT5 := hT3.grown hgrow (fun k hk => by have := (hobl k hk).1; exact ⟨by omega, fun h => by have := h.2; omega⟩)
        have hN5 := hN1.row hgrow (n0 _ (by omega)) (n0 _ (by omega))
        have hs5 : w3.heap.size + 1 ≤ w5.heap.size := by simpa using hgrow.size
        have G5 : w.grownBy w5 (some g) := gr_own hG1 hgrow (fun k hk => by have := (hobl k hk).1; omega)
        refine mixQ_normal (bx4 q11).2.2.2 ?_
        simp only [Act.put, List.setIfInBounds_toArray, List.set_cons_zero, List.set_cons_succ]
        repeat (refine wpMix_soft (v := ?_) rfl rfl ?_ ?_; rotate_left; (focus (intro w' hS; go_simp; with_reducible rfl)); simp only [Act.put, List.setIfInBounds_toArray, List.set_cons_zero, List.set_cons_succ])
        refine wpMix_done (cutQ_normal ?_)
        obtain ⟨d0, d1, d2, d3⟩ := bx4 q11
        have z3 := bk_free q11 3
        go_wp2_with fail
        refine NoPanic.normal ?_
        go_wp2_with fail
        go_roundw
        case rel =>
          refine ⟨m, _, _, done ++ [x], by omega, by go_num, by simp; omega, ?_, Lib.hid ?_, bk_far q8 (by show w.heap.size ≠ w1.heap.size; omega) _, bk_set q11 3 _, hT5.setc (by show w1.heap.size ≠ g; omega) (by show ¬ (S w1.heap.size ∧ w1.heap.size < w.heap.size); omega) _, hN5.setc (by show 0 ≠ w1.heap.size; omega) (by show gb ≠ w1.heap.size; omega) _, ?_, by rw [World.size_setCell]; omega, gr_set G5 (by show w.heap.size ≤ w1.heap.size; omega) _⟩
          · rw [tsizes_append, List.length_append, Nat.add_mul]
            simp only [tsizes, List.length_cons, List.length_nil]
            omega
          · rw [ixTs_iff]
            intro y hy
            have hdx := (ixTs_iff _ _).1 Hdx.out
            rcases List.mem_append.1 hy with hy | hy
            · exact hdx y hy
            · rw [List.mem_singleton.1 hy]; exact hxi
          · simpa using hO5.store (p := ⟨w1.heap.size, 3, none⟩) (by show ¬ w1.heap.size + 1 ≤ w1.heap.size; omega) (by show w1.heap.size < w1.heap.size + 1; omega) _
        case measure => simp [intOf]
      · obtain rfl : m = 0 := by omega
        obtain ⟨A3, c3', rfl, hc3, hR⟩ := hO.read (S' := fun b => w1.heap.size + 1 ≤ b) (fun _ h => h) (fun _ h => h)
        obtain ⟨x0, x1, x2, x3⟩ := bx4 q8
        have z0 := bk_free q8 0
        have z1 := bk_free q8 1
        have z2 := bk_free q8 2
        have z3 := bk_free q8 3
        go_wp2_with fail
        have hp2 : 0 < 2 ^ (d + 1) := Nat.two_pow_pos _
        have hdl2 : done.length * (2 ^ (d + 1) - 1) ≤ 2 * (2 ^ (d + 1) - 1) := Nat.mul_le_mul_right _ (by omega)
        refine bodyPost_ret (res_term rfl rfl (set4_self q8)) rfl ⟨.mk K2 nm ix done, A3, c3', T2, rfl, hc3, (hR.set4 (fun b hb => by omega)).mono (fun b hb _ => by omega), by simp only [tsize]; rw [Nat.pow_succ]; omega, ⟨by omega, by omega, Hdx.out⟩, hT2.set4 (by omega) (Nat.le_refl _) hng, gr_set4 hG1 (Nat.le_refl _)⟩
  · have hdn : decide (0 < dp) = false := decide_eq_false hdp
    obtain ⟨c0, c1, c2, c3⟩ := bx4 q11
    obtain ⟨x0, x1, x2, x3⟩ := bx4 q8
    have z0 := bk_free q8 0
    have z1 := bk_free q8 1
    have z2 := bk_free q8 2
    have z3 := bk_free q8 3
    have hp2 : 0 < 2 ^ d := Nat.two_pow_pos _
    go_wp2_with fail
    refine bodyPost_ret (res_term rfl rfl (set4_self q8)) rfl ⟨.mk K2 nm ix [], none, 0, T', rfl, Nat.le_refl _, Rd.nil _ _ _ _, by simp only [tsize, tsizes]; rw [Nat.pow_succ]; omega, ⟨by omega, by omega, trivial⟩, hT1.set4 (by omega) (Nat.le_refl _) hng, gr_set4 hG1 (Nat.le_refl _)⟩
end Go.Proofs.YtolooomphmcphaaDoor
