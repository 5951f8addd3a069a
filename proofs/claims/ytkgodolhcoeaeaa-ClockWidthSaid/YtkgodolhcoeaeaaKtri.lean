/- The walk's laws on maps that read as association lists. No condition. -/
import Derived.Test.YtkgodolhcoeaeaaKtwo
import Derived.Maps.Own
import Derived.Maps.OwnOps
import Derived.Maps.OwnSet
import Derived.Deep.AppendLies
import Derived.Deep.RegionHeld3
import Derived.Deep.RegionLaw
namespace Go.Proofs.Ytkgodolhcoeaeaa
open Go.RowKit

section
variable {κ ν : Type} [DecidableEq κ] {P : Program} {w : World} {ops : Array Oper} {rest : List Oper} {o : Oper} {a : Act} {Q : Exit → Act → World → Prop}

omit [DecidableEq κ] in
theorem MapAt.turn {ek : κ → Value} {ev : ν → Value} {l : List (κ × ν)} {F : List Nat} {b : Nat} {w w' : World} (h : MapAt w b ek ev l) (ht : Turn F w w') (hF : b ∉ F) : MapAt w' b ek ev l :=
  h.same (ht.block b h.lt hF)

theorem wpList_mapUpdate_al (hg : o.guard = none) (m x v : Operand) (t : TypeId) (hop : o.op = Op.mapUpdate t m x v)
    (k e : TypeId) {ek : κ → Value} {ev : ν → Value} (K : MKey P k ek) (ht : P.underlying t = some (.map k e)) (b : Nat) (l : List (κ × ν)) (hown : MapAt w b ek ev l) (kx : κ) (vy : ν)
    (hm : a.eval m = .map (some b)) (hx : a.eval x = ek kx) (hv : a.eval v = ev vy)
    (hK : ∀ w', MapAt w' b ek ev (aput kx vy l) → Turn [b] w w' → w'.heap.size = w.heap.size → wpList P ops Q rest (a.put o.dst undef) w') :
    wpList P ops Q (o :: rest) a w := by
  refine wpList_plain hg fun K' hK' => ?_
  obtain ⟨es, c, hrun, r1⟩ := hown.update K ht kx vy
  unfold Oper.wp
  simp [execOp, hop, hm, hx, hv, hrun, Result.andThen]
  exact hK' _ _ (hK _ r1 ((Turn.refl [b] w).setMap (.inl (by simp)) es c) (setMap_size w b es c))

theorem wpList_lookup_al (hg : o.guard = none) (m x : Operand) (t : TypeId) (ok : Bool) (hop : o.op = Op.lookup t m x ok)
    (k e : TypeId) {ek : κ → Value} {ev : ν → Value} (K : MKey P k ek) (ht : P.underlying t = some (.map k e)) (z : Value) (hz : (zeroValue e).run P w = .ok z w) (b : Nat) (l : List (κ × ν)) (hown : MapAt w b ek ev l) (kx : κ)
    (hm : a.eval m = .map (some b)) (hx : a.eval x = ek kx)
    (hK : wpList P ops Q rest (a.put o.dst (if ok then .tuple #[((aget kx l).map ev).getD z, .bool (aget kx l).isSome] else ((aget kx l).map ev).getD z)) w) :
    wpList P ops Q (o :: rest) a w := by
  refine wpList_plain hg fun K' hK' => ?_
  have hrun := hown.lookup K ht hz kx ok
  unfold Oper.wp
  simp [execOp, hop, hm, hx, hrun, Result.andThen]
  exact hK' _ _ hK

theorem wpList_delete_al (hg : o.guard = none) (m x : Operand) (t t2 : TypeId) (hop : o.op = Op.call { callee := Callee.builtin Builtin.delete, args := #[m, x], argTypes := #[t, t2] })
    (k e : TypeId) {ek : κ → Value} {ev : ν → Value} (K : MKey P k ek) (ht : P.underlying t = some (.map k e)) (b : Nat) (l : List (κ × ν)) (hown : MapAt w b ek ev l) (kx : κ)
    (hm : a.eval m = .map (some b)) (hx : a.eval x = ek kx)
    (hK : ∀ w', MapAt w' b ek ev (adel kx l) → Turn [b] w w' → w'.heap.size = w.heap.size → wpList P ops Q rest (a.put o.dst (.tuple #[])) w') :
    wpList P ops Q (o :: rest) a w := by
  refine wpList_plain hg fun K' hK' => ?_
  obtain ⟨es, c, hrun, r1⟩ := hown.delete K ht kx t2 o.type
  unfold Oper.wp execOp
  simp only [hop, resolve, invoke, builtin, Sem.run_bind, Sem.run_pure, Result.andThen_ok, List.map_toArray, List.map_cons, List.map_nil, hm, hx, hrun]
  exact hK' _ _ (hK _ r1 ((Turn.refl [b] w).setMap (.inl (by simp)) es c) (setMap_size w b es c))
end

end Go.Proofs.Ytkgodolhcoeaeaa
