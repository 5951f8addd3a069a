/- The walk's word for a region of a round's body (a range over a function) that draws its order and reads but for its last operations: one walk of the text's order, at the wide fence. No condition. -/
import Derived.Test.YtljkijolehalcaaKext
import Derived.OrdersIn
import Derived.RangeFuncCalls
import Derived.StillTailTactics
namespace Go.Proofs.Ytljkijolehalcaa
open Go.RowKit

section
variable {P : Program} {n l : Nat} {ops : Array Oper} {Q : Exit → Act → World → Prop}

theorem uponIn_of_upon {o : Oper} {a : Act} {K : Act → World → Prop} {r : Result Next} (h : o.upon P a K Q r) : o.uponIn (Fence.wide.inRound l) n P a K Q r := by
  match r, h with
  | .ok (.value v) w', h => exact h
  | .ok .skip w', h => exact h
  | .ok (.defer d) w', h => exact h
  | .ok (.enter f args) w', h => exact ⟨(fun hd => by simp [Fence.inRound, Fence.wide] at hd), CallsIn.inRound l (callsIn_wide.2 h)⟩
  | .ok (.row row args) w', h =>
    refine ⟨(fun hd => by simp [Fence.inRound, Fence.wide] at hd), fun c cs _ => ?_⟩
    obtain ⟨v, w'', r, s⟩ := (show Rows _ _ _ _ _ from h) c cs
    exact ⟨v, w'', r, stepsIn_wide.2 s⟩
  | .halt (.panic v) w', h => exact h

theorem wpOpIn_of_wpOp (hno : ¬ LetsOut Q) (hnd : ∀ (i : Nat) (o : Oper), ops[i]? = some o → ∀ c, o.op ≠ Op.defer c) {i : Nat} {K : Act → World → Prop} {a : Act} {w : World} (h : wpOp P ops Q i K a w) : wpOpIn (Fence.wide.inRound l) n P ops Q i K a w := by
  unfold wpOp at h
  unfold wpOpIn
  cases hi : ops[i]? with
  | none => rw [hi] at h; exact h
  | some o =>
    rw [hi] at h
    simp only at h ⊢
    split
    · rename_i hw
      rw [if_pos hw] at h
      rcases h with h | ⟨_, h⟩
      · refine ⟨fun _ _ => trivial, ?_⟩
        rw [Oper.semAt_eq _ _ _ (hnd i o hi)]
        exact uponIn_of_upon h
      · exact absurd h hno
    · rename_i hw
      rw [if_neg hw] at h
      exact ⟨fun _ _ => trivial, h⟩

theorem wpAnyIn_of_wpAny {md : Region.Mode} (hno : ¬ LetsOut Q) (hnd : ∀ (i : Nat) (o : Oper), ops[i]? = some o → ∀ c, o.op ≠ Op.defer c) : ∀ (fuel : Nat) (listed : Array Bool) (a : Act) (w : World), wpAny P md ops Q fuel listed a w → wpAnyIn (Fence.wide.inRound l) n P md ops Q fuel listed a w
  | 0, _, _, _, h => h
  | fuel + 1, _, _, _, h => ⟨h.1, fun i hi => wpOpIn_mono (fun a w h' => wpAnyIn_of_wpAny hno hnd fuel _ a w h') (wpOpIn_of_wpOp hno hnd (h.2 i hi))⟩

def noDefer (l : List Oper) : Bool := l.all fun o => match o.op with | .defer _ => false | _ => true

theorem noDefer_spec {l : List Oper} (h : noDefer l = true) : ∀ (i : Nat) (o : Oper), l.toArray[i]? = some o → ∀ c, o.op ≠ Op.defer c := by
  intro i o hi c e
  have := List.all_eq_true.1 h o (List.mem_of_getElem? (by simpa using hi))
  rw [e] at this
  cases this

theorem wpIn_region_still_tail {id : Nat} {a : Act} {w : World} {l' : List Oper} (m : Nat) (hno : ¬ LetsOut Q) (hnd : noDefer l' = true) (hm : P.follows .mixedOrders = true) (hB : Region.lexTailB .any l'.toArray m = true)
    (h : wpStill P l'.toArray { w with drawn := w.drawn + 1 } (fun a' => wpList P l'.toArray Q (l'.drop m) a' { w with drawn := w.drawn + 1 }) (l'.take m) a) : (Code.region id l'.toArray true).wpIn (Fence.wide.inRound l) n P Q a w := by
  simp only [Region.lexTailB, Bool.and_eq_true, decide_eq_true_eq] at hB
  obtain ⟨⟨⟨⟨hsel, hn⟩, hs⟩, hc⟩, hlex⟩ := hB
  have hn' : m < l'.length := by simpa using hn
  have htl : (l'.take m).length = m := by simp; omega
  have hdl : (l'.drop m).length = l'.toArray.size - m := by simp
  have inv0 : HeadInv .any l'.toArray m (Array.replicate l'.toArray.size false) :=
    ⟨by simp, fun j oj _ hl => (by rw [getD_replicate_false] at hl; cases hl), fun t _ ht => getD_in (by simpa using ht) (getD_replicate_false _ _)⟩
  have H := wpAnyL_lex (md := .any) (g := l'.toArray.size - m) hsel hs hc hn (l'.take m) 0 _ a (fun j hj => by
    have hj' : j < m := by rw [htl] at hj; exact hj
    simp [hj']) (by simpa using htl) inv0 (by rw [htl]; exact hlex) h
  refine wpIn_region_any hm (wpAnyIn_of_wpAny hno (noDefer_spec hnd) _ _ _ _ ?_)
  have := wpAny_of_head (Q' := Q) (g := l'.toArray.size - m) (fun listed a' hL => by
    have := wpAny_of_seq (md := .any) (Q' := Q) (l'.drop m) m listed a' { w with drawn := w.drawn + 1 } (fun j => by simp [List.getElem?_drop]) (by rw [hdl]; exact hL.1) hL.2
    rwa [hdl] at this) _ _ _ H
  rw [htl, show m + (l'.toArray.size - m) = l'.toArray.size by omega] at this
  exact this
end

end Go.Proofs.Ytljkijolehalcaa
