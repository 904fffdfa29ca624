/- Hereditary substitution: what subst and lfcheckref08 compute, with the work counted. No program in sight. -/
import Derived.Test.YtolooomphmcphaaMv
import Derived.Test.YtolooomphmcphaaE1
import Derived.Test.YtolooomphmcphaaR7
namespace Go.Proofs.Ytolooomphmcphaa
open Go.RowKit

abbrev Res := Int × Nat × Tm
def nilT : Tm := .mk 0 ⟨#[]⟩ 0 []
def errT (e : Int) (W : Nat) : Res := (e, W, nilT)
/-- a result that is small enough -/
def chkT (W : Nat) (t : Tm) : Res := if tsize t ≤ 4096 ∧ tdep t ≤ 128 then (0, W, t) else errT 2 W
def undI (k : Int) (i : Nat) : Nat := if k = 3 ∨ k = 2 ∧ i = 1 then 1 else 0
/-- the arguments, from number i on, one by one -/
def subL (F : Nat → Tm → Nat → Res) (k : Int) (deep : Nat) : Nat → Nat → List Tm → Int × Nat × List Tm
  | W, _, [] => (0, W, [])
  | W, i, a :: r =>
    if (F W a (deep + undI k i)).1 ≠ 0 then ((F W a (deep + undI k i)).1, (F W a (deep + undI k i)).2.1, []) else
    if (subL F k deep (F W a (deep + undI k i)).2.1 (i + 1) r).1 ≠ 0 then ((subL F k deep (F W a (deep + undI k i)).2.1 (i + 1) r).1, (subL F k deep (F W a (deep + undI k i)).2.1 (i + 1) r).2.1, [])
    else (0, (subL F k deep (F W a (deep + undI k i)).2.1 (i + 1) r).2.1, (F W a (deep + undI k i)).2.2 :: (subL F k deep (F W a (deep + undI k i)).2.1 (i + 1) r).2.2)
/-- application to arguments, one by one; G: substitution of one object in a body -/
def appL (G : Nat → Tm → Tm → Sm → Res) : Nat → Tm → List Sm → List Tm → Res
  | W, m, [], _ => if m.kind = 3 then errT 6 W else chkT W m
  | W, _, _ :: _, [] => errT 6 W
  | W, m, s :: q, a :: r =>
    if m.kind ≠ 3 then errT 6 W else
    if (G W (m.args.getD 0 nilT) a s).1 ≠ 0 then errT (G W (m.args.getD 0 nilT) a s).1 (G W (m.args.getD 0 nilT) a s).2.1 else appL G (G W (m.args.getD 0 nilT) a s).2.1 (G W (m.args.getD 0 nilT) a s).2.2 q r
/-- what a node becomes, behind its arguments -/
def nodeT (G : Nat → Tm → Tm → Sm → Res) (W : Nat) (t : Tm) (xs : List Tm) (ms : List Tm) (ss : List Sm) (deep : Nat) : Res :=
  if t.kind ≠ 5 ∨ t.idx < deep then chkT W (.mk t.kind t.name t.idx xs) else
  if (t.idx - deep).toNat < ms.length then
    if shOk deep 0 0 (ms.getD (t.idx - deep).toNat nilT) then
      if xs.length = (ss.getD (t.idx - deep).toNat (.mk ⟨#[]⟩ [])).args.length then appL G W (mv deep 0 (ms.getD (t.idx - deep).toNat nilT)) (ss.getD (t.idx - deep).toNat (.mk ⟨#[]⟩ [])).args xs else errT 6 W
    else errT 5 W
  else chkT W (.mk t.kind t.name (t.idx - ms.length) xs)
/-- substitution in a term within deep binders; W: the work done so far; the first number: fuel -/
def subT : Nat → Nat → Tm → List Tm → List Sm → Nat → Res
  | 0, W, _, _, _, _ => errT 2 (W + 1)
  | f + 1, W, t, ms, ss, deep =>
    if 262144 < W + 1 then errT 2 (W + 1) else
    if (subL (fun W a d => subT f W a ms ss d) t.kind deep (W + 1) 0 t.args).1 ≠ 0 then errT (subL (fun W a d => subT f W a ms ss d) t.kind deep (W + 1) 0 t.args).1 (subL (fun W a d => subT f W a ms ss d) t.kind deep (W + 1) 0 t.args).2.1 else
    nodeT (fun W t a s => subT f W t [a] [s] 0) (subL (fun W a d => subT f W a ms ss d) t.kind deep (W + 1) 0 t.args).2.1 t (subL (fun W a d => subT f W a ms ss d) t.kind deep (W + 1) 0 t.args).2.2 ms ss deep
end Go.Proofs.Ytolooomphmcphaa
