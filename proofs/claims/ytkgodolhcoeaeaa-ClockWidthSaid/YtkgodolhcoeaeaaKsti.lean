/- Words: steps of a still region, one at a time, with the guards told apart. No condition. -/
import Derived.Test.YtkgodolhcoeaeaaKtwo
import Derived.StillTailTactics
namespace Go.Proofs.Ytkgodolhcoeaeaa
open Go.RowKit

theorem still_plain {P : Program} {ops : Array Oper} {w : World} {Q : Act → Prop} {a : Act} {o : Oper} {rest : List Oper} (hg : o.guard = none)
    (h : ∀ K : Act → Prop, Hid (∀ a, wpStill P ops w Q rest a → K a) → o.still P a w K) : wpStill P ops w Q (o :: rest) a := by
  have hw : Region.wanted o (yielded ops a.tmps) = true := by simp [Region.wanted, hg]
  unfold wpStill
  rw [if_pos hw]
  exact h _ (fun _ h => h)

theorem still_on {P : Program} {ops : Array Oper} {w : World} {Q : Act → Prop} {a : Act} {o : Oper} {rest : List Oper} {j : Nat} {want : Bool} (hg : o.guard = some (j, want)) (hy : yielded ops a.tmps j = some want)
    (h : ∀ K : Act → Prop, Hid (∀ a, wpStill P ops w Q rest a → K a) → o.still P a w K) : wpStill P ops w Q (o :: rest) a := by
  have hw : Region.wanted o (yielded ops a.tmps) = true := by simp [Region.wanted, hg, hy]
  unfold wpStill
  rw [if_pos hw]
  exact h _ (fun _ h => h)

theorem still_off {P : Program} {ops : Array Oper} {w : World} {Q : Act → Prop} {a : Act} {o : Oper} {rest : List Oper} {j : Nat} {want : Bool} (hg : o.guard = some (j, want)) (hy : yielded ops a.tmps j = some (!want))
    (h : wpStill P ops w Q rest (a.put o.dst undef)) : wpStill P ops w Q (o :: rest) a := by
  have hw : ¬ Region.wanted o (yielded ops a.tmps) = true := by cases want <;> simp [Region.wanted, hg, hy]
  unfold wpStill
  rw [if_neg hw]
  exact h

end Go.Proofs.Ytkgodolhcoeaeaa
