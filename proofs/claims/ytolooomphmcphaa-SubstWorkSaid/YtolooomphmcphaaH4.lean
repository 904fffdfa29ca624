/- subst.node: a node with new arguments. -/
import Derived.Test.YtolooomphmcphaaH3
import Derived.OwnWalk
namespace Go.Proofs.Ytolooomphmcphaa
open Go.RowKit

def mdK : EK Tm := EK.iso (EK.pair tmK (EK.pair intK intK)) (fun t => (t, ((tsize t : Int), (tdep t : Int))))
theorem mdK_of {w : World} {S : Nat → Prop} (t : Tm) {A : Option Addr} {c : Nat} (hl : t.args.length ≤ c) (h : Rd tmK w S A t.args) : mdK.K w S t [.int .i64 t.kind, .string t.name, .int .i64 t.idx, .slice A t.args.length c, .int .i64 (tsize t), .int .i64 (tdep t)] :=
  ⟨[.int .i64 t.kind, .string t.name, .int .i64 t.idx, .slice A t.args.length c], [.int .i64 (tsize t), .int .i64 (tdep t)], rfl, tmK_of t hl h, [.int .i64 (tsize t)], [.int .i64 (tdep t)], rfl, rfl, rfl⟩
theorem mdK_open {w : World} {S : Nat → Prop} {t : Tm} {cs : List Value} (h : mdK.K w S t cs) : ∃ A c, cs = [.int .i64 t.kind, .string t.name, .int .i64 t.idx, .slice A t.args.length c, .int .i64 (tsize t), .int .i64 (tdep t)] ∧ t.args.length ≤ c ∧ Rd tmK w S A t.args := by
  obtain ⟨c1, c2, rfl, h1, c3, c4, rfl, h3, h4⟩ := h
  obtain ⟨A, c, rfl, hl, hr⟩ := tmK_open h1
  have e3 : c3 = [.int .i64 (tsize t)] := h3
  have e4 : c4 = [.int .i64 (tdep t)] := h4
  subst e3 e4
  exact ⟨A, c, rfl, hl, hr⟩
/-- make([]T, 0, n): an empty slice that the call owns -/
theorem wp_make {α : Type} {d : EK α} {P : Program} {ops : Array Oper} {Q : Exit → Act → World → Prop} {rest : List Oper} {o : Oper} {a : Act} {w : World} (hgd : o.guard = none) (l c : Operand) (t : TypeId) (ho : o.op = Op.makeSlice t l c)
    {B : Nat} {e : TypeId} {bytes : Nat} {z : Value} {S : Nat → Prop} {kl kc : IntKind} {n : Nat} (ht : P.underlying t = some (.slice e)) (hi : (P.info? e).map (fun i => (i.zero, i.size, i.bytes)) = some (some z, d.sz, bytes)) (hby : bytes ≤ 1000)
    (hl : a.eval l = .int kl 0) (hc : a.eval c = .int kc (n : Int)) (hn : n < 1000000000) (hB : B ≤ w.heap.size)
    (h : ∀ w', Own d e B w' S (.slice (some ⟨w.heap.size, 0, none⟩) 0 n) ([] : List α) → Below w.heap.size w w' → w.heap.size + 1 ≤ w'.heap.size → wpList P ops Q rest (a.put o.dst (.slice (some ⟨w.heap.size, 0, none⟩) 0 n)) w') : wpList P ops Q (o :: rest) a w := by
  obtain ⟨i, h2, h3, h4, h5⟩ := info_parts hi
  have hb : i.bytes * n ≤ 1000 * 1000000000 := Nat.mul_le_mul (by omega) (by omega)
  refine wpList_make_own w hgd l c t ho B e i z d.sz ht h2 h3 h4 kl kc (n : Int) n hl hc rfl (by omega) (by simp [maxLen]; omega) hB ?_
  intro w' hown hg
  have hO : Own d e B w' S (.slice (some ⟨w.heap.size, 0, none⟩) 0 n) ([] : List α) := ⟨[], hown, rfl⟩
  exact h w' hO (bl_grown (Below.refl _ _) hg (fun k hk => by cases hk)) (hO.block _ rfl).2
/-- a made term, or the panic with its error -/
def MdP (w : World) (S : Nat → Prop) (r : Res) (e : Ending) (w' : World) : Prop :=
  (r.1 = 0 ∧ ∃ A c, e = .returned (mdV r.2.2 A c (tsize r.2.2) (tdep r.2.2)) ∧ r.2.2.args.length ≤ c ∧ Rd tmK w' (fun b => S b ∨ w.heap.size ≤ b) A r.2.2.args) ∨ (r.1 ≠ 0 ∧ e = errE r.1)
theorem Rd.md {w : World} {S : Nat → Prop} {A : Option Addr} {ts : List Tm} (h : Rd mdK w S A ts) (j : Nat) (hj : j < ts.length) :
    ∃ b o A' c', A = some ⟨b, o, none⟩ ∧ S b ∧ w.cell? ⟨b, o + j * 6, none⟩ = some (.int .i64 ts[j].kind) ∧ w.cell? ⟨b, o + j * 6 + 1, none⟩ = some (.string ts[j].name) ∧
      w.cell? ⟨b, o + j * 6 + 2, none⟩ = some (.int .i64 ts[j].idx) ∧ w.cell? ⟨b, o + j * 6 + 3, none⟩ = some (.slice A' ts[j].args.length c') ∧ w.cell? ⟨b, o + j * 6 + 4, none⟩ = some (.int .i64 (tsize ts[j])) ∧
      w.cell? ⟨b, o + j * 6 + 5, none⟩ = some (.int .i64 (tdep ts[j])) ∧ ts[j].args.length ≤ c' ∧ Rd tmK w S A' ts[j].args := by
  obtain ⟨b, o, c, e, hb, hk, hc⟩ := h.at j hj
  obtain ⟨A', c', rfl, hl, hr⟩ := mdK_open hk
  exact ⟨b, o, A', c', e, hb, hc 0 _ rfl, hc 1 _ rfl, hc 2 _ rfl, hc 3 _ rfl, hc 4 _ rfl, hc 5 _ rfl, hl, hr⟩
abbrev md6 (t : Tm) (A : Option Addr) (c : Nat) (s d : Int) : Array Value := #[.int .i64 t.kind, .string t.name, .int .i64 t.idx, .slice A t.args.length c, .int .i64 s, .int .i64 d]
set_option maxRecDepth 100000 in
set_option maxHeartbeats 2000000 in
theorem node_calls (t : Tm) (A B0 : Option Addr) (c k : Nat) (W : Nat) (xs : List Tm) (w : World) (S : Nat → Prop) (h2 : tsizes xs < 1000000000) (hr : Rd mdK w S B0 xs) :
    Calls Try.prog 95 #[tmV t A c, .slice B0 xs.length k] w fun e w' => MdP w S (chkT W (.mk t.kind t.name t.idx xs)) e w' ∧ Below w.heap.size w w' := by
  have hla := len_le_tsizes xs
  have hr0 := hr.bound
  clear hr
  go_enter Try.func95, Try.ntmps95
  go_upto_region 1 with (fail)
  go_cut [5] (fun s5 wc => s5 = .pointer (some ⟨w.heap.size + 1 + 1, 0, none⟩) ∧ wc.heap[w.heap.size]? = some (.cells (tmB t A c) 33 (0, 0)) ∧ wc.heap[w.heap.size + 1]? = some (.cells #[.int .i64 0, .string ⟨#[]⟩, .int .i64 0, .slice none 0 0, .int .i64 0, .int .i64 0] 74 (0, 0)) ∧
    wc.heap[w.heap.size + 1 + 1]? = some (.cells (md6 t A c 1 0) 74 (0, 0)) ∧ w.heap.size + 3 ≤ wc.heap.size ∧ Below w.heap.size w wc)
  case first =>
    go_wp2_with fail
    go_meet
    exact ⟨rfl, bk_alloc (bk_alloc (bk_new w _) _) _, bk_alloc (bk_at (by simp) _) _, bk_at (by simp) _, by simp, bl_alloc (bl_alloc (bl_new w _) _) _⟩
  case rest =>
  obtain ⟨rfl, q0, q1, q2, hsz, B⟩ := hcut
  obtain ⟨c0, c1, c2, c3, c4, c5⟩ := bx6 q2
  obtain ⟨z0, z1, z2, z3, z4, z5⟩ : _ ∧ _ ∧ _ ∧ _ ∧ _ ∧ _ := ⟨bk_free q2 0, bk_free q2 1, bk_free q2 2, bk_free q2 3, bk_free q2 4, bk_free q2 5⟩
  have hn : xs.length < 1000000000 := by omega
  go_upto_region 3 with (at_make; refine wp_make (d := tmK) (e := 33) (bytes := 56) (z := .agg #[.int .i64 0, .string ⟨#[]⟩, .int .i64 0, .slice none 0 0]) (S := fun b => (S b ∧ b < w.heap.size) ∨ w.heap.size + 3 ≤ b) rfl _ _ _ rfl (by kernel_rfl) (by kernel_rfl) (by decide) rfl rfl hn hsz ?_; intro w1 hO hb1 hs1; clear c0 c1 c2 c3 c4 c5 z0 z1 z2 z3 z4 z5; replace q0 := bk_below q0 hb1; replace q1 := bk_below q1 hb1; replace q2 := bk_below q2 hb1; replace B := bl_self B hb1; have z3 := bk_free q2 3; obtain ⟨c0, c1, c2, c3, c4, c5⟩ := bx6 q2)
  have hsw : w.heap.size + 3 ≤ w1.heap.size := by omega
  have hO1 := hO.store (p := ⟨w.heap.size + 1 + 1, 3, none⟩) (by show ¬ ((S (w.heap.size + 1 + 1) ∧ w.heap.size + 1 + 1 < w.heap.size) ∨ w.heap.size + 3 ≤ w.heap.size + 1 + 1); omega) (by show w.heap.size + 1 + 1 < w.heap.size + 3; omega) (.slice (some ⟨wc.heap.size, 0, none⟩) 0 xs.length)
  replace q0 := bk_far q0 (p := ⟨w.heap.size + 1 + 1, 3, none⟩) (by show w.heap.size ≠ w.heap.size + 1 + 1; omega) (.slice (some ⟨wc.heap.size, 0, none⟩) 0 xs.length)
  replace q1 := bk_far q1 (p := ⟨w.heap.size + 1 + 1, 3, none⟩) (by show w.heap.size + 1 ≠ w.heap.size + 1 + 1; omega) (.slice (some ⟨wc.heap.size, 0, none⟩) 0 xs.length)
  replace q2 := bk_set q2 3 (.slice (some ⟨wc.heap.size, 0, none⟩) 0 xs.length)
  replace B := bl_set B (p := ⟨w.heap.size + 1 + 1, 3, none⟩) (by show w.heap.size ≤ w.heap.size + 1 + 1; omega) (.slice (some ⟨wc.heap.size, 0, none⟩) 0 xs.length)
  clear hO c0 c1 c2 c3 c4 c5
  go_wp2_with fail
  go_loopw [17] (fun i w' => ∃ (m : Nat) (v : Value) (sz dp : Int), m ≤ xs.length ∧ i = .int .i64 m ∧ Hid (sz = 1 + tsizes (xs.take m)) ∧ Hid (dp = tdeps (xs.take m)) ∧ w'.heap[w.heap.size]? = some (.cells (tmB t A c) 33 (0, 0)) ∧
      w'.heap[w.heap.size + 1]? = some (.cells #[.int .i64 0, .string ⟨#[]⟩, .int .i64 0, .slice none 0 0, .int .i64 0, .int .i64 0] 74 (0, 0)) ∧
      w'.heap[w.heap.size + 1 + 1]? = some (.cells #[.int .i64 t.kind, .string t.name, .int .i64 t.idx, v, .int .i64 sz, .int .i64 dp] 74 (0, 0)) ∧
      Own tmK 33 (w.heap.size + 3) w' (fun b => (S b ∧ b < w.heap.size) ∨ w.heap.size + 3 ≤ b) v (xs.take m) ∧ w.heap.size + 3 ≤ w'.heap.size ∧ Below w.heap.size w w') (fun i _ => xs.length - (intOf i).toNat)
  case atStart =>
    exact ⟨0, _, 1, 0, by omega, rfl, Lib.hid (by simp [tsizes]), Lib.hid (by simp [tdeps]), q0, q1, q2, hO1, by simp; omega, B⟩
  case round =>
    clear q0 q1 q2 hO1 B hsw hs1 z3
    obtain ⟨m, v, sz, dp, hm, rfl, Hz, Hd, q0, q1, q2, hO, hsz, B⟩ := hrel
    obtain ⟨c0, c1, c2, c3, c4, c5⟩ := bx6 q2
    by_cases hlt : m < xs.length
    · obtain ⟨b, o, A', c', rfl, ⟨hSb, hbl⟩, e0, e1, e2, e3, e4, e5, hl', hr'⟩ := (hr0.below B).md m hlt
      have hm1 := tsizes_mem xs m hlt
      have hm2 := tsizes_take_le xs m
      have hd1 := tdeps_le (xs.take m)
      have hd2 := tdep_le xs[m]
      have HZ' : Hid (sz + tsize xs[m] = 1 + tsizes (xs.take (m + 1))) := Lib.hid (by rw [Hz.out, tsizes_take xs m hlt]; omega)
      have HD' : Hid ((if dp ≤ tdep xs[m] then (tdep xs[m] : Int) else dp) = tdeps (xs.take (m + 1))) := Lib.hid (by rw [Hd.out, tdeps_take xs m hlt]; split <;> omega)
      have hws : IntKind.i64.wrap (sz + tsize xs[m]) = sz + tsize xs[m] := IntWalk.i64_in _ ⟨by have := Hz.out; omega, by have := Hz.out; omega⟩
      have hobl := hO.block
      have hne : ∀ j, j ≤ w.heap.size + 1 + 1 → some j ≠ v.ownBlock := fun j hj he => by have := (hobl j he.symm).1; omega
      have hne2 : some wr.heap.size ≠ v.ownBlock := fun he => by have := (hobl _ he.symm).2; omega
      have hO0 := hO.alloc (.cells (md6 xs[m] A' c' (tsize xs[m]) (tdep xs[m])) 74)
      have hr1 := hr'.below (bl_new wr (.cells (md6 xs[m] A' c' (tsize xs[m]) (tdep xs[m])) 74))
      have q7 := bk_new wr (.cells (md6 xs[m] A' c' (tsize xs[m]) (tdep xs[m])) 74); replace q0 := bk_alloc q0 (.cells (md6 xs[m] A' c' (tsize xs[m]) (tdep xs[m])) 74); replace q1 := bk_alloc q1 (.cells (md6 xs[m] A' c' (tsize xs[m]) (tdep xs[m])) 74); replace q2 := bk_alloc q2 (.cells (md6 xs[m] A' c' (tsize xs[m]) (tdep xs[m])) 74); replace B := bl_alloc B (.cells (md6 xs[m] A' c' (tsize xs[m]) (tdep xs[m])) 74)
      have hO1 := hO0.alloc (.cells (tmB xs[m] A' c') 33)
      have hb1 := bk_at (w := wr.alloc (.cells (md6 xs[m] A' c' (tsize xs[m]) (tdep xs[m])) 74)) (n := wr.heap.size + 1) (by simp) (.cells (tmB xs[m] A' c') 33)
      have hk1 : tmK.K ((wr.alloc (.cells (md6 xs[m] A' c' (tsize xs[m]) (tdep xs[m])) 74)).alloc (.cells (tmB xs[m] A' c') 33)) (fun b => ((S b ∧ b < w.heap.size) ∨ w.heap.size + 3 ≤ b) ∧ Live ((wr.alloc (.cells (md6 xs[m] A' c' (tsize xs[m]) (tdep xs[m])) 74)).alloc (.cells (tmB xs[m] A' c') 33)) b ∧ v.ownBlock ≠ some b) xs[m] [.int .i64 xs[m].kind, .string xs[m].name, .int .i64 xs[m].idx, .slice A' xs[m].args.length c'] := by
        refine EK.mono (EK.below (tmK_of xs[m] hl' hr1) (bl_new _ _)) (fun b hb hl => ⟨.inl ⟨hb.1, hb.2.lt⟩, hl, fun he => ?_⟩)
        have := (hobl b he).1
        have := hb.2.lt
        omega
      have hlen : (xs.take m).length < 1000000000 := by simp; omega
      have hB1 : w.heap.size + 3 ≤ ((wr.alloc (.cells (md6 xs[m] A' c' (tsize xs[m]) (tdep xs[m])) 74)).alloc (.cells (tmB xs[m] A' c') 33)).heap.size := by simp; omega
      have p0 := bk_alloc q0 (.cells (tmB xs[m] A' c') 33)
      have p1 := bk_alloc q1 (.cells (tmB xs[m] A' c') 33)
      have p2 := bk_alloc q2 (.cells (tmB xs[m] A' c') 33)
      have p7 := bk_alloc q7 (.cells (tmB xs[m] A' c') 33)
      have B' := bl_alloc B (.cells (tmB xs[m] A' c') 33)
      clear c0 c1 c2 c3 c4 c5
      obtain ⟨c0, c1, c2, c3, c4, c5⟩ := bx6 q2
      obtain ⟨d0, d1, d2, d3, d4, d5⟩ := bx6 q7
      go_upto_region 7 with (at_builtin; go_loud (refine wp_snoc (d := tmK) (v := v) rfl (.tmp 23) (.tmp 26) _ rfl (e := 33) (bytes := 56) (z := .agg #[.int .i64 0, .string ⟨#[]⟩, .int .i64 0, .slice none 0 0]) (by kernel_rfl) (by kernel_rfl) (by rfl) (by decide) rfl hO1 hlen hB1 rfl hb1 hk1 ?_; intro g cap w5 hO5 hgrow hcap hlt5 hBg; have r2 := bk_grown p2 hgrow (hne _ (Nat.le_refl _)); have r7 := bk_grown p7 hgrow hne2; clear c0 c1 c2 c3 c4 c5; obtain ⟨c0, c1, c2, c3, c4, c5⟩ := bx6 r2; clear d0 d1 d2 d3 d4 d5; obtain ⟨d0, d1, d2, d3, d4, d5⟩ := bx6 r7; have y3 := bk_free r2 3))
      have hl : (xs.take m).length = m := by simp; omega
      rw [hl] at hO5
      have r0 := bk_grown p0 hgrow (hne _ (by omega))
      have r1 := bk_grown p1 hgrow (hne _ (by omega))
      have B5 := bl_grown B' hgrow (fun j hj => by have := (hobl j hj).1; omega)
      have hs5 : w.heap.size + 3 ≤ w5.heap.size := Nat.le_trans hB1 hgrow.size
      replace r0 := bk_far r0 (p := ⟨w.heap.size + 1 + 1, 3, none⟩) (by show w.heap.size ≠ w.heap.size + 1 + 1; omega) (.slice (some ⟨g, 0, none⟩) (m + 1) cap)
      replace r1 := bk_far r1 (p := ⟨w.heap.size + 1 + 1, 3, none⟩) (by show w.heap.size + 1 ≠ w.heap.size + 1 + 1; omega) (.slice (some ⟨g, 0, none⟩) (m + 1) cap)
      replace r2 := bk_set r2 3 (.slice (some ⟨g, 0, none⟩) (m + 1) cap)
      replace r7 := bk_far r7 (p := ⟨w.heap.size + 1 + 1, 3, none⟩) (by show wr.heap.size ≠ w.heap.size + 1 + 1; omega) (.slice (some ⟨g, 0, none⟩) (m + 1) cap)
      replace B5 := bl_set B5 (p := ⟨w.heap.size + 1 + 1, 3, none⟩) (by show w.heap.size ≤ w.heap.size + 1 + 1; omega) (.slice (some ⟨g, 0, none⟩) (m + 1) cap)
      have hO6 := hO5.store (p := ⟨w.heap.size + 1 + 1, 3, none⟩) (by show ¬ ((S (w.heap.size + 1 + 1) ∧ w.heap.size + 1 + 1 < w.heap.size) ∨ w.heap.size + 3 ≤ w.heap.size + 1 + 1); omega) (by show w.heap.size + 1 + 1 < w.heap.size + 3; omega) (.slice (some ⟨g, 0, none⟩) (m + 1) cap)
      replace hs5 : w.heap.size + 3 ≤ (w5.setCell ⟨w.heap.size + 1 + 1, 3, none⟩ (.slice (some ⟨g, 0, none⟩) (m + 1) cap)).heap.size := by rw [World.size_setCell]; exact hs5
      generalize w5.setCell ⟨w.heap.size + 1 + 1, 3, none⟩ (.slice (some ⟨g, 0, none⟩) (m + 1) cap) = w6 at *
      clear c0 c1 c2 c3 c4 c5 d0 d1 d2 d3 d4 d5 y3 p0 p1 p2 p7 hO5
      obtain ⟨c0, c1, c2, c3, c4, c5⟩ := bx6 r2
      obtain ⟨d0, d1, d2, d3, d4, d5⟩ := bx6 r7
      have y4 := bk_free r2 4
      have y5 := bk_free r2 5
      go_wp2_with fail
      go_roundw
      case rel =>
        have hS : ¬ ((S (w.heap.size + 1 + 1) ∧ w.heap.size + 1 + 1 < w.heap.size) ∨ w.heap.size + 3 ≤ w.heap.size + 1 + 1) := by omega
        have e : xs.take (m + 1) = xs.take m ++ [xs[m]] := List.take_succ_eq_append_getElem hlt
        refine ⟨m + 1, _, _, _, by omega, by go_num, HZ', Lib.hid (by rw [← HD'.out]; split <;> split <;> omega), bk_far (bk_far r0 (by show w.heap.size ≠ w.heap.size + 1 + 1; omega) _) (by show w.heap.size ≠ w.heap.size + 1 + 1; omega) _,
          bk_far (bk_far r1 (by show w.heap.size + 1 ≠ w.heap.size + 1 + 1; omega) _) (by show w.heap.size + 1 ≠ w.heap.size + 1 + 1; omega) _, bk_set (bk_set r2 4 _) 5 _, ?_, by rw [World.size_setCell, World.size_setCell]; exact hs5, bl_set (bl_set B5 (by show w.heap.size ≤ w.heap.size + 1 + 1; omega) _) (by show w.heap.size ≤ w.heap.size + 1 + 1; omega) _⟩
        rw [e]
        exact (hO6.store (p := ⟨w.heap.size + 1 + 1, 4, none⟩) hS (by show w.heap.size + 1 + 1 < w.heap.size + 3; omega) _).store (p := ⟨w.heap.size + 1 + 1, 5, none⟩) hS (by show w.heap.size + 1 + 1 < w.heap.size + 3; omega) _
      case measure => simp [intOf]; omega
    · obtain rfl : m = xs.length := by omega
      rw [List.take_length] at Hz Hd hO
      obtain ⟨A7, c7, rfl, hc7, hR7⟩ := hO.read (S' := fun b => (S b ∧ b < w.heap.size) ∨ w.heap.size + 3 ≤ b) (fun b hb => .inr hb) (fun b hb => hb)
      have hd1 := tdeps_le xs
      have hwd : IntKind.i64.wrap (dp + 1) = dp + 1 := IntWalk.i64_in _ ⟨by have := Hd.out; omega, by have := Hd.out; omega⟩
      have z5 := bk_free q2 5
      go_upto_region 11 with (fail)
      replace q1 := bk_far q1 (p := ⟨w.heap.size + 1 + 1, 5, none⟩) (by show w.heap.size + 1 ≠ w.heap.size + 1 + 1; omega) (.int .i64 (dp + 1))
      replace q2 := bk_set q2 5 (.int .i64 (dp + 1))
      replace B := bl_set B (p := ⟨w.heap.size + 1 + 1, 5, none⟩) (by show w.heap.size ≤ w.heap.size + 1 + 1; omega) (.int .i64 (dp + 1))
      replace hR7 := hR7.setc (p := ⟨w.heap.size + 1 + 1, 5, none⟩) (fun b hb => by show b ≠ w.heap.size + 1 + 1; omega) (.int .i64 (dp + 1))
      replace hsz : w.heap.size + 3 ≤ (wr.setCell ⟨w.heap.size + 1 + 1, 5, none⟩ (.int .i64 (dp + 1))).heap.size := by rw [World.size_setCell]; exact hsz
      clear c0 c1 c2 c3 c4 c5 hO z5 q0
      generalize wr.setCell ⟨w.heap.size + 1 + 1, 5, none⟩ (.int .i64 (dp + 1)) = w6 at *
      obtain ⟨c0, c1, c2, c3, c4, c5⟩ := bx6 q2
      have hC := checked_calls (.mk t.kind t.name t.idx xs) A7 c7 sz (dp + 1) w6
      have HC := Lib.hid hC
      clear hC
      have e1 : sz = ((tsize (.mk t.kind t.name t.idx xs) : Nat) : Int) := by rw [tsize, Hz.out]; omega
      have e2 : dp + 1 = ((tdep (.mk t.kind t.name t.idx xs) : Nat) : Int) := by rw [tdep, Hd.out]; omega
      have E1 := Lib.hid e1
      have E2 := Lib.hid e2
      clear e1 e2
      go_wp2_with fail
      refine HC.out.mono ?_
      rintro e w7 ⟨rfl, hb7⟩
      replace B := bl_self B hb7
      replace q1 := bk_below q1 hb7
      replace hR7 := hR7.below hb7
      by_cases hs : sz ≤ 4096 ∧ dp + 1 ≤ 128
      · rw [if_pos hs]
        have hs' : tsize (.mk t.kind t.name t.idx xs) ≤ 4096 ∧ tdep (.mk t.kind t.name t.idx xs) ≤ 128 := by have := E1.out; have := E2.out; omega
        obtain ⟨z0, z1, z2, z3, z4, z5⟩ : _ ∧ _ ∧ _ ∧ _ ∧ _ ∧ _ := ⟨bk_free q1 0, bk_free q1 1, bk_free q1 2, bk_free q1 3, bk_free q1 4, bk_free q1 5⟩
        obtain ⟨x0, x1, x2, x3, x4, x5⟩ := bx6 q1
        have Hs' := Lib.hid hs'
        clear hs hs'
        go_wp2_with fail
        refine bodyPost_ret (res_made rfl rfl (set6_self q1)) rfl ⟨.inl ⟨?_, A7, c7, ?_, ?_, ?_⟩, bl_set6 B (by omega)⟩
        · unfold chkT; rw [if_pos Hs'.out]
        · unfold chkT; rw [if_pos Hs'.out, ← E1.out, ← E2.out]
        · unfold chkT; rw [if_pos Hs'.out]; exact hc7
        · unfold chkT; rw [if_pos Hs'.out]
          exact (rd_set6 hR7 (fun b hb => by omega)).mono (fun b hb _ => by rcases hb with hb | hb; exact .inl hb.1; exact .inr (by omega))
      · rw [if_neg hs]
        have hs' : ¬ (tsize (.mk t.kind t.name t.idx xs) ≤ 4096 ∧ tdep (.mk t.kind t.name t.idx xs) ≤ 128) := by have := E1.out; have := E2.out; omega
        have Hs' := Lib.hid hs'
        clear hs hs'
        go_wp2_with fail
        refine ⟨rfl, .inr ⟨?_, ?_⟩, B⟩
        · unfold chkT; rw [if_neg Hs'.out]; exact (by decide : (2 : Int) ≠ 0)
        · unfold chkT; rw [if_neg Hs'.out]; rfl
end Go.Proofs.Ytolooomphmcphaa
