/- Words: the builtins max and min of two longs, at one go. No condition. -/
import Derived.Test.YtkgodolhcoeaeaaKtwo
import Derived.Deep.AppendLies
namespace Go.Proofs.Ytkgodolhcoeaeaa
open Go.RowKit

theorem run_max {P : Program} (ats : Array TypeId) (ty : TypeId) (p q : Int) (w : World) : (Builtin.max_ ats ty #[.int .i64 p, .int .i64 q]).run P w = .ok (.int .i64 (max p q)) w := by
  by_cases h : p < q
  · simp [Builtin.max_, Builtin.max2, go_sem, h]
    try omega
  · simp [Builtin.max_, Builtin.max2, go_sem, h]
    try omega

theorem run_min {P : Program} (ats : Array TypeId) (ty : TypeId) (p q : Int) (w : World) : (Builtin.min_ ats ty #[.int .i64 p, .int .i64 q]).run P w = .ok (.int .i64 (min p q)) w := by
  by_cases h : q < p
  · simp [Builtin.min_, Builtin.min2, go_sem, h]
    try omega
  · simp [Builtin.min_, Builtin.min2, go_sem, h]
    try omega

theorem step_max {P : Program} {ops : Array Oper} {o : Oper} {a : Act} {w : World} {K : Act → World → Prop} {Q : Exit → Act → World → Prop} {E : Prop} (hgd : o.guard = none) (x y : Operand) (t : TypeId)
    (ho : o.op = .call { callee := .builtin .max, args := #[x, y], argTypes := #[t, t] }) (p q : Int) (hx : a.eval x = .int .i64 p) (hy : a.eval y = .int .i64 q) (h : K (a.put o.dst (.int .i64 (max p q))) w) :
    if Region.wanted o (yielded ops a.tmps) = true then Oper.wp P o a w K Q else E := by
  have hw : Region.wanted o (yielded ops a.tmps) = true := by simp [Region.wanted, hgd]
  rw [if_pos hw]
  unfold Oper.wp execOp
  simp only [ho, resolve, invoke, builtin, Sem.run_bind, Sem.run_pure, Result.andThen_ok, List.map_toArray, List.map_cons, List.map_nil, hx, hy, run_max]
  exact h

theorem step_min {P : Program} {ops : Array Oper} {o : Oper} {a : Act} {w : World} {K : Act → World → Prop} {Q : Exit → Act → World → Prop} {E : Prop} (hgd : o.guard = none) (x y : Operand) (t : TypeId)
    (ho : o.op = .call { callee := .builtin .min, args := #[x, y], argTypes := #[t, t] }) (p q : Int) (hx : a.eval x = .int .i64 p) (hy : a.eval y = .int .i64 q) (h : K (a.put o.dst (.int .i64 (min p q))) w) :
    if Region.wanted o (yielded ops a.tmps) = true then Oper.wp P o a w K Q else E := by
  have hw : Region.wanted o (yielded ops a.tmps) = true := by simp [Region.wanted, hgd]
  rw [if_pos hw]
  unfold Oper.wp execOp
  simp only [ho, resolve, invoke, builtin, Sem.run_bind, Sem.run_pure, Result.andThen_ok, List.map_toArray, List.map_cons, List.map_nil, hx, hy, run_min]
  exact h

end Go.Proofs.Ytkgodolhcoeaeaa
