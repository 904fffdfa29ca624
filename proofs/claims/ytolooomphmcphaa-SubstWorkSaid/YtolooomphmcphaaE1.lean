/- simple.lams, slices.Clone, simple.expand. -/
import Derived.WalkSpells
import Derived.Test.YtolooomphmcphaaS2
import Derived.Test.YtolooomphmcphaaK3
namespace Go.Proofs.Ytolooomphmcphaa
open Go.RowKit

def lamsT : Nat → Tm → Tm | 0, t => t | n + 1, t => .mk 3 ⟨#[]⟩ 0 [lamsT n t]
theorem lams_calls (t : Tm) (A : Option Addr) (c n : Nat) (w : World) (S : Nat → Prop) (hn : n < 1000000000) (hl : t.args.length ≤ c) (hr : Rd tmK w S A t.args) :
    GivT Try.prog 62 #[tmV t A c, .int .i64 n] w S (lamsT n t) := by
  replace hr := hr.bound
  obtain ⟨gs, Hgs⟩ : ∃ gs : Nat → Tm, Hid (∀ j, gs j = lamsT j t) := ⟨_, Lib.hid fun _ => rfl⟩
  have hk := bk_new w (.cells (tmB t A c) 33)
  have hB := bl_new w (.cells (tmB t A c) 33)
  go_enter Try.func62, Try.ntmps62
  go_wp2_with fail
  go_loopw [6] (fun i w' => ∃ (m : Nat) (k' i' : Int) (s' : ByteArray) (v' : Value) (A' : Option Addr) (c' : Nat), m ≤ n ∧ i = .int .i64 m ∧ Hid (k' = (gs m).kind ∧ s' = (gs m).name ∧ i' = (gs m).idx) ∧ Hid (v' = .slice A' (gs m).args.length c') ∧
      w'.heap[w.heap.size]? = some (.cells #[.int .i64 k', .string s', .int .i64 i', v'] 33 (0, 0)) ∧ (gs m).args.length ≤ c' ∧
      Rd tmK w' (fun b => (S b ∧ b < w.heap.size) ∨ w.heap.size + 2 ≤ b) A' (gs m).args ∧
      w'.heap[w.heap.size + 1]? = some (.cells #[.int .i64 0, .string ⟨#[]⟩, .int .i64 0, .slice none 0 0] 33 (0, 0)) ∧ w.heap.size + 2 ≤ w'.heap.size ∧ Below w.heap.size w w') (fun i _ => n - (intOf i).toNat)
  case atStart =>
    refine ⟨0, t.kind, t.idx, t.name, .slice A t.args.length c, A, c, by omega, rfl, Lib.hid (by rw [Hgs.out]; exact ⟨rfl, rfl, rfl⟩), Lib.hid (by rw [Hgs.out]; rfl), bk_alloc hk _, by rw [Hgs.out]; exact hl, ?_, bk_at (by simp) _, by simp, bl_alloc hB _⟩
    rw [Hgs.out]
    exact ((hr.below (bl_new _ _)).below (bl_new _ _)).mono (fun b hb _ => .inl ⟨hb.1, hb.2.lt⟩)
  case round =>
    clear hk hB
    obtain ⟨m, k', i', s', v', A', c', hm, rfl, Hh, Hv, hk0, hc', hR, hk1, hsz, hB⟩ := hrel
    obtain ⟨c0, c1, c2, c3⟩ := bx4 hk0
    by_cases hlt : m < n
    · have q0 := bk_alloc hk0 (.cells #[.int .i64 k', .string s', .int .i64 i', v'] 33)
      obtain ⟨d0, d1, d2, d3⟩ := bx4 q0
      have g0 := bk_free q0 0
      have g1 := bk_free q0 1
      have g2 := bk_free q0 2
      have g3 := bk_free q0 3
      go_wp2_with fail
      go_roundw
      case rel =>
        have hK : tmK.K wr (fun b => (S b ∧ b < w.heap.size) ∨ w.heap.size + 2 ≤ b) (gs m) [.int .i64 k', .string s', .int .i64 i', v'] := by
          have := tmK_of (gs m) hc' hR
          rw [Hv.out, Hh.out.1, Hh.out.2.1, Hh.out.2.2]
          exact this
        have e : gs (m + 1) = .mk 3 ⟨#[]⟩ 0 [gs m] := by rw [Hgs.out, Hgs.out]; rfl
        refine ⟨m + 1, 3, 0, ⟨#[]⟩, _, some ⟨wr.heap.size, 0, none⟩, 1, by omega, by go_num, Lib.hid (by rw [e]; exact ⟨rfl, rfl, rfl⟩), Lib.hid (by rw [e]; rfl), set4_self q0, by rw [e]; exact Nat.le_refl 1, ?_, ?_, by rw [set4_size]; simp; omega, bl_set4 (bl_alloc hB _) (Nat.le_refl _)⟩
        · rw [e]
          exact (Rd.one (e := 33) hK (fun _ h => h) (.inr hsz)).set4 (fun b hb => by rcases hb with hb | hb <;> omega)
        · rw [set4_far (by omega)]
          exact bk_alloc hk1 _
      case measure => simp [intOf]; omega
    · obtain rfl : m = n := by omega
      have f0 := bk_free hk1 0
      have f1 := bk_free hk1 1
      have f2 := bk_free hk1 2
      have f3 := bk_free hk1 3
      obtain ⟨d0, d1, d2, d3⟩ := bx4 hk1
      have hv1 := Hv.out
      subst hv1
      go_wp2_with fail
      refine bodyPost_ret (res_term rfl rfl (set4_self hk1)) rfl ⟨A', c', ?_, ?_, ?_, bl_set4 hB (by omega)⟩
      · rw [Hh.out.1, Hh.out.2.1, Hh.out.2.2, Hgs.out]
      · rw [← Hgs.out]; exact hc'
      · rw [← Hgs.out]
        exact (hR.set4 (fun b hb => by rcases hb with hb | hb <;> omega)).mono (fun b hb _ => by rcases hb with hb | hb; exact .inl hb.1; exact .inr (by omega))

/-- the call returns a slice of its own -/
theorem clone_calls (xs : List Tm) (A : Option Addr) (c : Nat) (w : World) (S : Nat → Prop) (hlen : xs.length < 1000000000) (hr : Rd tmK w S A xs) :
    Calls Try.prog 61 #[.slice A xs.length c] w fun e w' => ∃ v, e = .returned v ∧ Own tmK 33 w.heap.size w' (fun b => S b ∧ b < w.heap.size) v xs ∧ Below w.heap.size w w' := by
  cases A with
  | none =>
    have hx : xs = [] := by
      rcases hr with h | ⟨b, o, cs, h, _⟩
      · exact h
      · cases h
    subst hx
    have hq : ∀ (n c : Nat) (w : World), (binOp .eql 31 (.slice none n c) (.slice none 0 0)).run Try.prog w = .ok (.bool true) w := fun n c w => Lib.run_eql_slice_nil w _ 33 _ _ _ _ _ (by kernel_rfl)
    go_enter Try.func61, Try.ntmps61
    go_wp2_with fail
    go_ret
    exact ⟨_, rfl, Own.nil _ _ _ _ _, Below.refl _ _⟩
  | some a =>
    have hq : ∀ (n c : Nat) (w : World), (binOp .eql 31 (.slice (some a) n c) (.slice none 0 0)).run Try.prog w = .ok (.bool false) w := fun n c w => Lib.run_eql_slice_nil w _ 33 _ _ _ _ _ (by kernel_rfl)
    have hown : (w.alloc (.cells #[] 33)).ownsRow w.heap.size 33 4 (.slice (some ⟨w.heap.size, 0, none⟩) 0 0) 0 [] := ⟨by simp, .inr ⟨w.heap.size, 0, #[], rfl, Nat.le_refl _, bk_new w _, Nat.le_refl _, by decide, rfl, rfl⟩⟩
    have hS0 : ∀ b, (S b ∧ b < w.heap.size) → Value.ownBlock (.slice (some ⟨w.heap.size, 0, none⟩) 0 0) ≠ some b := fun b hb he => by have := hb.2; simp [Value.ownBlock] at he; omega
    have hR : Rd tmK (w.alloc (.cells #[] 33)) (fun b => S b ∧ b < w.heap.size) (some a) xs := (hr.bound.below (bl_new _ _)).mono fun b hb _ => ⟨hb.1, hb.2.lt⟩
    go_enter Try.func61, Try.ntmps61
    go_wp2_with (at_builtin; refine wp_clone (d := tmK) (v := .slice (some ⟨w.heap.size, 0, none⟩) 0 0) rfl (.tmp 5) (.tmp 6) _ rfl (B := w.heap.size) (e := 33) (bytes := 56) (z := .agg #[.int .i64 0, .string ⟨#[]⟩, .int .i64 0, .slice none 0 0]) (by kernel_rfl) (by kernel_rfl) (by rfl) (by decide) rfl hown hlen (by simp) rfl hR hS0 ?_; intro v' w' hO hg)
    go_ret
    exact ⟨_, rfl, hO, bl_grown (bl_new _ _) hg (fun k hk => Nat.le_of_eq (by simpa [Value.ownBlock] using hk))⟩

mutual
def expandT (h : Tm) : Sm → Tm | .mk _ a => lamsT a.length (.mk h.kind h.name h.idx (h.args ++ expArgs a.length 0 a))
def expArgs (n k : Nat) : List Sm → List Tm | [] => [] | s :: r => expandT (.mk 5 ⟨#[]⟩ ((n : Int) - 1 - k + s.args.length) []) s :: expArgs n (k + 1) r
end
theorem expandT_eq (h : Tm) (s : Sm) : expandT h s = lamsT s.args.length (.mk h.kind h.name h.idx (h.args ++ expArgs s.args.length 0 s.args)) := by cases s; rw [expandT]; rfl
theorem expArgs_append (n : Nat) : ∀ (k : Nat) (a b : List Sm), expArgs n k (a ++ b) = expArgs n k a ++ expArgs n (k + a.length) b
  | _, [], _ => by simp [expArgs]
  | k, s :: r, b => by simp [expArgs, expArgs_append n (k + 1) r b, Nat.add_comm, Nat.add_left_comm]
theorem expArgs_take (n : Nat) (a : List Sm) (m : Nat) (h : m < a.length) : expArgs n 0 (a.take (m + 1)) = expArgs n 0 (a.take m) ++ [expandT (.mk 5 ⟨#[]⟩ ((n : Int) - 1 - m + a[m].args.length) []) a[m]] := by
  rw [List.take_succ_eq_append_getElem h, expArgs_append]
  simp [expArgs, Nat.min_eq_left (Nat.le_of_lt h)]
theorem expArgs_len (n : Nat) : ∀ (k : Nat) (a : List Sm), (expArgs n k a).length = a.length
  | _, [] => rfl
  | k, s :: r => by simp [expArgs, expArgs_len n (k + 1) r]

set_option maxRecDepth 100000 in
set_option maxHeartbeats 4000000 in
theorem expand_calls (n : Nat) : ∀ (h : Tm) (s : Sm) (A A2 : Option Addr) (c c2 : Nat) (w : World) (S S2 : Nat → Prop), ssize s < n → ssize s < 100000000 → h.args.length < 100000000 → h.args.length ≤ c → Rd tmK w S A h.args → Rd smK w S2 A2 s.args →
    GivT Try.prog 25 #[tmV h A c, smV s A2 c2] w S (expandT h s) := by
  induction n with
  | zero => intro h s A A2 c c2 w S S2 h1; omega
  | succ n ih =>
  intro h s A A2 c c2 w S S2 h1 h2 h3 hl hr hr2
  have hts1 : ssizes s.args < ssize s := by have := ssize_eq s; omega
  have hla := len_le_ssizes s.args
  have H := Lib.hid ih
  clear ih
  obtain ⟨gs, Hgs⟩ : ∃ gs : Nat → List Tm, Hid (∀ j, gs j = h.args ++ expArgs s.args.length 0 (s.args.take j)) := ⟨_, Lib.hid fun _ => rfl⟩
  have hr0 := hr.bound
  clear hr
  have hk := bk_alloc (bk_alloc (bk_new w (.cells (tmB h A c) 33)) (.cells (smB s A2 c2) 25)) (.cells #[.int .i64 0, .string ⟨#[]⟩, .int .i64 0, .slice none 0 0] 33)
  have hk1 := bk_alloc (bk_at (w := w.alloc (.cells (tmB h A c) 33)) (n := w.heap.size + 1) (by simp) (.cells (smB s A2 c2) 25)) (.cells #[.int .i64 0, .string ⟨#[]⟩, .int .i64 0, .slice none 0 0] 33)
  have hk2 := bk_at (w := (w.alloc (.cells (tmB h A c) 33)).alloc (.cells (smB s A2 c2) 25)) (n := w.heap.size + 1 + 1) (by simp) (.cells #[.int .i64 0, .string ⟨#[]⟩, .int .i64 0, .slice none 0 0] 33)
  have hB := bl_alloc (bl_alloc (bl_new w (.cells (tmB h A c) 33)) (.cells (smB s A2 c2) 25)) (.cells #[.int .i64 0, .string ⟨#[]⟩, .int .i64 0, .slice none 0 0] 33)
  have hr1 := hr0.below hB
  go_enter Try.func25, Try.ntmps25
  go_wp2_with fail
  refine (clone_calls h.args A c _ _ (by omega) hr1).mono ?_
  rintro e w1 ⟨v, rfl, hO, hb1⟩
  obtain ⟨A1, c1, rfl, hc1, _⟩ := hO.len
  have hsz : w.heap.size + 3 ≤ w1.heap.size := by have := hb1.size; simp at this; omega
  replace hO : Own tmK 33 (w.heap.size + 3) w1 (fun b => (S b ∧ b < w.heap.size) ∨ w.heap.size + 3 ≤ b) (.slice A1 h.args.length c1) h.args := by
    have e3 : (((w.alloc (.cells (tmB h A c) 33)).alloc (.cells (smB s A2 c2) 25)).alloc (.cells #[.int .i64 0, .string ⟨#[]⟩, .int .i64 0, .slice none 0 0] 33)).heap.size = w.heap.size + 3 := by simp
    rw [e3] at hO
    exact hO.mono fun b hb _ => .inl ⟨hb.1.1, hb.1.2.lt⟩
  replace hk := bk_below hk hb1
  replace hk1 := bk_below hk1 hb1
  replace hk2 := bk_below hk2 hb1
  replace hB := bl_self hB hb1
  clear hb1
  obtain ⟨c0, c1', c2', c3⟩ := bx4 hk
  obtain ⟨d0, d1⟩ := bx2 hk1
  have g3 := bk_free hk 3
  go_wp2_with fail
  go_loopw [18] (fun i w' => ∃ (m : Nat) (v : Value), m ≤ s.args.length ∧ i = .int .i64 m ∧
      w'.heap[w.heap.size]? = some (.cells #[.int .i64 h.kind, .string h.name, .int .i64 h.idx, v] 33 (0, 0)) ∧
      w'.heap[w.heap.size + 1 + 1]? = some (.cells #[.int .i64 0, .string ⟨#[]⟩, .int .i64 0, .slice none 0 0] 33 (0, 0)) ∧
      Own tmK 33 (w.heap.size + 3) w' (fun b => (S b ∧ b < w.heap.size) ∨ w.heap.size + 3 ≤ b) v (gs m) ∧ w.heap.size + 3 ≤ w'.heap.size ∧ Below w.heap.size w w') (fun i _ => s.args.length - (intOf i).toNat)
  case atStart =>
    exact ⟨0, _, by omega, rfl, bk_set hk 3 _, bk_far hk2 (by show w.heap.size + 1 + 1 ≠ w.heap.size; omega) _,
      by rw [Hgs.out]; simp only [List.take_zero, expArgs, List.append_nil]; exact hO.store (p := ⟨w.heap.size, 3, none⟩) (by show ¬ ((S w.heap.size ∧ w.heap.size < w.heap.size) ∨ w.heap.size + 3 ≤ w.heap.size); omega) (by show w.heap.size < w.heap.size + 3; omega) _,
      by rw [World.size_setCell]; exact hsz, bl_set hB (Nat.le_refl _) _⟩
  case round =>
    clear hk hk1 hk2 hB hO c0 c1' c2' c3 d0 d1 g3 hsz hr1
    obtain ⟨m, v, hm, rfl, hk, hk2, hO, hsz, hB⟩ := hrel
    obtain ⟨c0, c1', c2', c3⟩ := bx4 hk
    have Hgl : Hid ((gs m).length = h.args.length + m) := Lib.hid (by rw [Hgs.out, List.length_append, expArgs_len]; simp; omega)
    by_cases hlt : m < s.args.length
    · obtain ⟨b, o, A', c', rfl, ⟨_, hbl⟩, e0, e1, hl', hr'⟩ := (hr2.bound.below hB).sm m hlt
      have hbl := hbl.lt
      have hm1 := ssizes_mem s.args m hlt
      have hm2 := ssize_eq s.args[m]
      have hm3 := len_le_ssizes s.args[m].args
      go_wp2_with fail
      have q0 := bk_alloc hk (.cells #[.string s.args[m].fam, .slice A' s.args[m].args.length c'] 25)
      have q7 := bk_new wr (.cells #[.string s.args[m].fam, .slice A' s.args[m].args.length c'] 25)
      have q2 := bk_alloc hk2 (.cells #[.string s.args[m].fam, .slice A' s.args[m].args.length c'] 25)
      have hO1 := hO.alloc (.cells #[.string s.args[m].fam, .slice A' s.args[m].args.length c'] 25)
      have hB1 := bl_alloc hB (.cells #[.string s.args[m].fam, .slice A' s.args[m].args.length c'] 25)
      have hrS := hr'.below (bl_new wr (.cells #[.string s.args[m].fam, .slice A' s.args[m].args.length c'] 25))
      have hobl := hO.block
      have HS : ∀ w' : World, w'.heap[w.heap.size]? = some (.cells #[.int .i64 h.kind, .string h.name, .int .i64 h.idx, v] 33 (0, 0)) → w'.heap[wr.heap.size]? = some (.cells #[.string s.args[m].fam, .slice A' s.args[m].args.length c'] 25 (0, 0)) →
          w'.cell? ⟨w.heap.size, 3, none⟩ = some v ∧ w'.cell? ⟨wr.heap.size, 0, none⟩ = some (.string s.args[m].fam) ∧ w'.cell? ⟨wr.heap.size, 1, none⟩ = some (.slice A' s.args[m].args.length c') :=
        fun w' h1 h2 => ⟨(bx4 h1).2.2.2, (bx2 h2).1, (bx2 h2).2⟩
      replace HS := Lib.hid HS
      have hw1 : IntKind.i64.wrap ((s.args.length : Int) - 1) = (s.args.length : Int) - 1 := IntWalk.i64_in _ ⟨by omega, by omega⟩
      have hw2 : IntKind.i64.wrap ((s.args.length : Int) - 1 - m) = (s.args.length : Int) - 1 - m := IntWalk.i64_in _ ⟨by omega, by omega⟩
      have hw3 : IntKind.i64.wrap ((s.args.length : Int) - 1 - m + s.args[m].args.length) = (s.args.length : Int) - 1 - m + s.args[m].args.length := IntWalk.i64_in _ ⟨by omega, by omega⟩
      refine wp_region_mixN 16 (fun w' => w'.cell? ⟨w.heap.size, 3, none⟩ = some v ∧ w'.cell? ⟨wr.heap.size, 0, none⟩ = some (.string s.args[m].fam) ∧ w'.cell? ⟨wr.heap.size, 1, none⟩ = some (.slice A' s.args[m].args.length c'))
        [(true, 0), (true, 1), (true, 2), (true, 3), (true, 4), (true, 5), (true, 6), (true, 7), (true, 8), (true, 9), (true, 10), (true, 11), (false, 12), (false, 13), (false, 14), (true, 15)]
        (by kernel_rfl) rfl (by kernel_rfl) (HS.out _ q0 q7) ?_
      repeat (refine wpMix_soft (v := ?_) rfl rfl ?_ ?_; rotate_left; (focus (intro w' hS; go_simp; with_reducible rfl)); simp only [Act.put, List.setIfInBounds_toArray, List.set_cons_zero, List.set_cons_succ])
      -- expand
      refine wpMix_hard rfl rfl ?_
      go_wp2_with fail
      refine (H.out (.mk 5 ⟨#[]⟩ ((s.args.length : Int) - 1 - m + s.args[m].args.length) []) s.args[m] none A' 0 c' _ (fun _ => False) (fun b => S2 b ∧ Live w b) (by omega) (by omega) (by show 0 < 100000000; omega) (Nat.le_refl _) (Rd.nil _ _ _ _) (Rd.drew hrS)).use fun w2 A2' c2'' hc2 hR2 hb2 => ?_
      obtain ⟨x, Hx⟩ : ∃ x, Hid (x = expandT (.mk 5 ⟨#[]⟩ ((s.args.length : Int) - 1 - m + s.args[m].args.length) []) s.args[m]) := ⟨_, Lib.hid rfl⟩
      rw [← Hx.out] at hc2 hR2 ⊢
      have hb2' : Below (wr.alloc (.cells #[.string s.args[m].fam, .slice A' s.args[m].args.length c'] 25)).heap.size (wr.alloc (.cells #[.string s.args[m].fam, .slice A' s.args[m].args.length c'] 25)) w2 := bl_undrew hb2
      have hsz2 := hb2'.size
      have hsz1 : (wr.alloc (.cells #[.string s.args[m].fam, .slice A' s.args[m].args.length c'] 25)).heap.size = wr.heap.size + 1 := by simp
      replace q0 := bk_below q0 hb2'
      replace q7 := bk_below q7 hb2'
      replace q2 := bk_below q2 hb2'
      replace hO1 := hO1.below hb2'
      replace hB1 := bl_self hB1 hb2'
      go_wp2_with fail
      refine mixQ_normal (HS.out _ q0 q7) ?_
      -- buildSlice
      refine wpMix_hard rfl rfl ?_
      go_wp2_with fail
      replace q0 := bk_alloc q0 (.cells #[.int .i64 x.kind, .string x.name, .int .i64 x.idx, .slice A2' x.args.length c2''] 33)
      replace q7 := bk_alloc q7 (.cells #[.int .i64 x.kind, .string x.name, .int .i64 x.idx, .slice A2' x.args.length c2''] 33)
      replace q2 := bk_alloc q2 (.cells #[.int .i64 x.kind, .string x.name, .int .i64 x.idx, .slice A2' x.args.length c2''] 33)
      replace hO1 := hO1.alloc (.cells #[.int .i64 x.kind, .string x.name, .int .i64 x.idx, .slice A2' x.args.length c2''] 33)
      replace hB1 := bl_alloc hB1 (.cells #[.int .i64 x.kind, .string x.name, .int .i64 x.idx, .slice A2' x.args.length c2''] 33)
      refine mixQ_normal (HS.out _ q0 q7) ?_
      -- append
      refine wpMix_hard rfl rfl ?_
      refine wp_snoc (d := tmK) rfl (.tmp 24) (.tmp 36) _ rfl (e := 33) (bytes := 56) (z := .agg #[.int .i64 0, .string ⟨#[]⟩, .int .i64 0, .slice none 0 0]) (by kernel_rfl) (by kernel_rfl) (by rfl) (by decide) rfl hO1 (by rw [Hgl.out]; omega) (by simp; omega) rfl (bk_new _ _) (EK.mono (EK.below (tmK_of x hc2 hR2) (bl_new _ _)) ?_) ?_
      · intro b hb hl
        have hb' : wr.heap.size + 1 ≤ b := by simpa using hb
        refine ⟨.inr (by omega), hl, fun he => ?_⟩
        have := (hobl b he).2
        omega
      intro g cap w3 hO3 hgrow hcap hlt3 hBg
      have n0 : ∀ k, k < w.heap.size + 3 → some k ≠ Value.ownBlock v := fun k hk he => by have := (hobl k he.symm).1; omega
      have n7 : some wr.heap.size ≠ Value.ownBlock v := fun he => by have := (hobl _ he.symm).2; omega
      replace q0 := bk_grown q0 hgrow (n0 _ (by omega))
      replace q2 := bk_grown q2 hgrow (n0 _ (by omega))
      replace q7 := bk_grown q7 hgrow n7
      have hsz3 := hgrow.size
      replace hB1 := bl_grown hB1 hgrow (fun k hk => by have := (hobl k hk).1; omega)
      refine mixQ_normal (HS.out _ q0 q7) ?_
      simp only [Act.put, List.setIfInBounds_toArray, List.set_cons_zero, List.set_cons_succ]
      repeat (refine wpMix_soft (v := ?_) rfl rfl ?_ ?_; rotate_left; (focus (intro w' hS; go_simp; with_reducible rfl)); simp only [Act.put, List.setIfInBounds_toArray, List.set_cons_zero, List.set_cons_succ])
      refine wpMix_done (cutQ_normal ?_)
      obtain ⟨d0, d1, d2, d3⟩ := bx4 q0
      have g3 := bk_free q0 3
      go_wp2_with fail
      refine NoPanic.normal ?_
      go_wp2_with fail
      go_roundw
      case rel =>
        refine ⟨m + 1, _, by omega, by go_num, bk_set q0 3 _, bk_far q2 (by show w.heap.size + 1 + 1 ≠ w.heap.size; omega) _, ?_, by rw [World.size_setCell]; simp at hsz3; omega, bl_set hB1 (Nat.le_refl _) _⟩
        have e : gs (m + 1) = gs m ++ [x] := by rw [Hgs.out, Hgs.out, expArgs_take _ _ _ hlt, Hx.out, List.append_assoc]
        rw [e]
        exact hO3.store (p := ⟨w.heap.size, 3, none⟩) (by show ¬ ((S w.heap.size ∧ w.heap.size < w.heap.size) ∨ w.heap.size + 3 ≤ w.heap.size); omega) (by show w.heap.size < w.heap.size + 3; omega) _
      case measure => simp [intOf]; omega
    · obtain rfl : m = s.args.length := by omega
      obtain ⟨A3, k3, rfl, hk3, hR⟩ := hO.read (S' := fun b => (S b ∧ b < w.heap.size) ∨ w.heap.size + 3 ≤ b) (fun _ h => .inr h) (fun _ h => h)
      have hL := lams_calls (.mk h.kind h.name h.idx (gs s.args.length)) A3 k3 s.args.length wr _ (by omega) hk3 hR
      have e : expandT h s = lamsT s.args.length (.mk h.kind h.name h.idx (gs s.args.length)) := by rw [expandT_eq, Hgs.out, List.take_length]
      have HL := Lib.hid hL
      clear hL
      have f0 := bk_free hk2 0
      go_wp2_with fail
      refine HL.out.use fun w2 A4 c4 hc4 hR4 hb4 => ?_
      obtain ⟨x, Hx⟩ : ∃ x, Hid (x = expandT h s) := ⟨_, Lib.hid rfl⟩
      rw [← e, ← Hx.out] at hc4 hR4 ⊢
      replace hk2 := bk_below hk2 hb4
      replace hB := bl_self hB hb4
      obtain ⟨d0, d1, d2, d3⟩ := bx4 hk2
      have g0 := bk_free hk2 0
      have g1 := bk_free hk2 1
      have g2 := bk_free hk2 2
      have g3 := bk_free hk2 3
      go_wp2_with fail
      refine bodyPost_ret (res_term rfl rfl (set4_self hk2)) rfl ⟨A4, c4, by rw [← Hx.out], by rw [← Hx.out]; exact hc4, ?_, bl_set4 hB (by omega)⟩
      rw [← Hx.out]
      refine (hR4.set4 (fun b hb => ?_)).mono (fun b hb _ => ?_)
      · rcases hb with (hb | hb) | hb <;> omega
      · rcases hb with (hb | hb) | hb
        · exact .inl hb.1
        · exact .inr (by omega)
        · exact .inr (by omega)
end Go.Proofs.Ytolooomphmcphaa
