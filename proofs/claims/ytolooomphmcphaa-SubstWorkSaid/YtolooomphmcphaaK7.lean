/- append of a slice that is read to a slice that the call owns, at a region's list. No program in sight. -/
import Derived.Test.YtolooomphmcphaaK3
namespace Go.Proofs.Ytolooomphmcphaa
open Go.RowKit

theorem append_none {P : Program} {w : World} {B : Nat} {e t ty : TypeId} {i : TypeInfo} {n : Nat} {v : Value} {cs : List Value} {size : Nat} (ht : P.underlying t = some (.slice e)) (hi : P.info? e = some i) (h : w.ownsRow B e size v n cs) (c : Nat) :
    (Builtin.append_ #[t, t] ty #[v, .slice none 0 c]).run P w = .ok v w := by
  rcases h.2 with ⟨h1, h2⟩ | ⟨g, cap, cur, h1, -, -, h2, -⟩
  · subst h1 h2
    simp [Builtin.append_, run_underlying ht, sizeOf, typeInfo, hi, Builtin.lenOf, Builtin.firstCells]
  · subst h1
    simp [Builtin.append_, run_underlying ht, sizeOf, typeInfo, hi, Builtin.lenOf, Builtin.firstCells, h2, storeCells]
theorem wp_ext {α : Type} {d : EK α} {P : Program} {ops : Array Oper} {Q : Exit → Act → World → Prop} {rest : List Oper} {o : Oper} {a : Act} {w : World} (hgd : o.guard = none) (s y : Operand) (t : TypeId)
    (ho : o.op = .call { callee := .builtin .append, args := #[s, y], argTypes := #[t, t] })
    {B : Nat} {e : TypeId} {bytes : Nat} {z : Value} {S S' : Nat → Prop} {v : Value} {xs ys : List α}
    (ht : P.underlying t = some (.slice e)) (hi : (P.info? e).map (fun i => (i.zero, i.size, i.bytes)) = some (some z, d.sz, bytes)) (hz : z.cells.size = d.sz) (hby : bytes ≤ 1000)
    (hs : a.eval s = v) (hown : Own d e B w S v xs) (hlx : xs.length < 1000000000) (hly : ys.length < 1000000000) (hB : B ≤ w.heap.size)
    {A : Option Addr} {cap : Nat} (hx : a.eval y = .slice A ys.length cap) (hr : Rd d w S' A ys) (hS : ∀ b, S' b → v.ownBlock ≠ some b)
    (h : ∀ v' w', Own d e B w' (fun b => S b ∨ S' b) v' (xs ++ ys) → w.grownBy w' v.ownBlock → (v'.ownBlock = v.ownBlock ∨ v'.ownBlock = some w.heap.size) → wpList P ops Q rest (a.put o.dst v') w') :
    wpList P ops Q (o :: rest) a w := by
  cases hI : P.info? e with
  | none => rw [hI] at hi; cases hi
  | some i =>
    rw [hI] at hi
    simp only [Option.map_some, Option.some.injEq, Prod.mk.injEq] at hi
    obtain ⟨hz0, hz1, hz2⟩ := hi
    cases A with
    | none =>
      have hy : ys = [] := by
        rcases hr with hr | ⟨b, o, cs, e1, _⟩
        · exact hr
        · cases e1
      subst hy
      obtain ⟨cs, h1, h2⟩ := id hown
      refine wpList_plain hgd fun K hK => ?_
      have hrun := append_none (P := P) (ty := o.type) ht hI h1 cap
      unfold Oper.wp execOp
      simp only [ho, resolve, invoke, builtin, Sem.run_bind, Sem.run_pure, Result.andThen_ok, List.map_toArray, List.map_cons, List.map_nil, hs, hx, List.length_nil, hrun]
      exact hK _ _ (h v w (by rw [List.append_nil]; exact hown.mono fun b hb _ => .inl hb) (World.grownBy.refl w _) (.inl rfl))
    | some A =>
      have key : ∃ cs, Cs (d.K w S') ys cs ∧ ∀ j u, cs[j]? = some u → w.cell? (A.add j) = some u := by
        rcases hr with hr | ⟨b, o, cs, e1, hb, hc, hm⟩
        · subst hr
          exact ⟨[], rfl, by simp⟩
        · refine ⟨cs, hc, fun j u hj => ?_⟩
          have e1 : A = ⟨b, o, none⟩ := by simpa using e1
          subst e1
          have := hm j u hj
          by_cases h0 : j = 0
          · subst h0; simpa [Addr.add] using this
          · simpa [Addr.add, h0] using this
      obtain ⟨ds, hc, hm⟩ := key
      obtain ⟨cs, h1, h2⟩ := hown
      have hl := hc.length (fun _ _ hk => d.len hk)
      have hbig : (xs.length + ys.length) * bytes ≤ 2000000000 * 1000 := Nat.mul_le_mul (by omega) hby
      refine wpList_append_own_at w hgd s y t ho B e i z d.sz bytes ht hI hz0 hz1 hz2 hz d.pos v xs.length cs hs h1 A ys.length cap ds hx hl hm (hc.mem fun _ _ hk => d.one hk) (by simp [maxLen]; omega) (by omega) hB ?_
      intro v' w' hown' hgrow _ hat
      have live : ∀ b, Live w b → v.ownBlock ≠ some b → Live w' b := fun b hl hne => by
        obtain ⟨cc, t, f, hh⟩ := hl
        exact ⟨cc, t, f, (hgrow.block b (bk_lt hh) (fun he => hne he.symm)).trans hh⟩
      have away : ∀ b, Live w b → v.ownBlock ≠ some b → v'.ownBlock ≠ some b := fun b hl hne he => by
        rcases hat with hat | hat
        · exact hne (hat ▸ he)
        · rw [hat] at he
          have := hl.lt
          simp at he
          omega
      refine h v' w' ⟨cs ++ ds, by rw [List.length_append]; exact hown', Cs.append (hc.imp fun x c hk => d.move (fun b hb hl => hgrow.block b hl.lt (fun h => hS b hb h.symm)) (fun b hb hl => ⟨.inr hb, live b hl (hS b hb), away b hl (hS b hb)⟩) hk)
        (h2.imp fun x c hk => d.move (fun b hb hl => hgrow.block b hl.lt (fun h => hb.2.2 h.symm)) (fun b hb hl => ⟨.inl hb.1, live b hl hb.2.2, away b hl hb.2.2⟩) hk)⟩ hgrow hat
end Go.Proofs.Ytolooomphmcphaa
