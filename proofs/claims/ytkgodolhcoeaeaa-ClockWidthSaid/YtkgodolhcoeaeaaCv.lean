/- Words: the builtin max of four longs, at one go. No condition. -/
import Derived.Test.YtkgodolhcoeaeaaKmax
namespace Go.Proofs.Ytkgodolhcoeaeaa
open Go.RowKit

theorem run_max4 {P : Program} (ats : Array TypeId) (ty : TypeId) (p q r s : Int) (w : World) : (Builtin.max_ ats ty #[.int .i64 p, .int .i64 q, .int .i64 r, .int .i64 s]).run P w = .ok (.int .i64 (max (max (max p q) r) s)) w := by
  have key : ∀ a b : Int, (Builtin.max2 (.int .i64 a) (.int .i64 b)).run P w = .ok (.int .i64 (max a b)) w := fun a b => by
    by_cases h : a < b
    · simp [Builtin.max2, go_sem, h]
      try omega
    · simp [Builtin.max2, go_sem, h]
      try omega
  simp only [Builtin.max_, List.foldlM_cons, List.foldlM_nil, Sem.run_bind, Sem.run_pure, Result.andThen_ok, key]

theorem wpList_max4 {P : Program} {ops : Array Oper} {rest : List Oper} {o : Oper} {a : Act} {w : World} {Q : Exit → Act → World → Prop} (hgd : o.guard = none) (x y z u : Operand) (t : Array TypeId)
    (ho : o.op = .call { callee := .builtin .max, args := #[x, y, z, u], argTypes := t }) (p q r s : Int) (hx : a.eval x = .int .i64 p) (hy : a.eval y = .int .i64 q) (hz : a.eval z = .int .i64 r) (hu : a.eval u = .int .i64 s)
    (h : wpList P ops Q rest (a.put o.dst (.int .i64 (max (max (max p q) r) s))) w) : wpList P ops Q (o :: rest) a w := by
  refine wpList_plain hgd fun K hK => ?_
  unfold Oper.wp execOp
  simp only [ho, resolve, invoke, builtin, Sem.run_bind, Sem.run_pure, Result.andThen_ok, List.map_toArray, List.map_cons, List.map_nil, hx, hy, hz, hu, run_max4]
  exact hK _ _ h

end Go.Proofs.Ytkgodolhcoeaeaa
