/- Drift: append of points onto a row that is owned. No condition. -/
import Derived.Test.YtigepekcjigpaaaDm
namespace Go.Proofs.Ytigepekcjigpaaa
open Go.RowKit

theorem run_append_pts (w : World) (ty B : Nat) (v : Value) (gs1 gs2 : List (Int × Int)) (n1 : Nat) (hn1 : n1 = gs1.length) (hown : w.ownsRow B 30 2 v n1 (gs1.flatMap cellsP)) (a : Option Addr) (m c : Nat) (hm : m = gs2.length) (hnil : a = none → m = 0 ∧ c = 0)
    (hG : PtsIn w a gs2) (hlen : gs1.length + gs2.length ≤ 1000) (hB : B ≤ w.heap.size) :
    ∃ v' w', (Builtin.append_ #[27, 27] ty #[v, .slice a m c]).run Try.prog w = .ok v' w' ∧ w'.ownsRow B 30 2 v' (gs1 ++ gs2).length ((gs1 ++ gs2).flatMap cellsP) ∧ w.grownBy w' v.ownBlock := by
  obtain ⟨i0, hi, hz0, hz1, hz2⟩ := info_parts infoPt
  subst hn1
  cases a with
  | none =>
    obtain ⟨rfl, rfl⟩ := hnil rfl
    have : gs2 = [] := List.length_eq_zero_iff.1 hm.symm
    subst this
    exact ⟨v, w, run_append_owned_none (P := Try.prog) w B 27 ty 30 i0 2 Try.underlying27 hi v gs1.length _ hown, by simpa using hown, ⟨rfl, rfl, rfl, Nat.le_refl _, fun _ _ _ => rfl⟩⟩
  | some ad =>
    obtain ⟨v', w', hr, ho, hg, _⟩ := run_append_own (P := Try.prog) w B 27 ty 30 i0 _ 2 16 Try.underlying27 hi hz0 hz1 hz2 rfl (by omega) v gs1.length _ hown ad m c (gs2.flatMap cellsP) (by rw [cellsP_len, hm]) (news_of_pts hG) (cellsP_one gs2) (by unfold maxLen; omega) (by omega) hB
    refine ⟨v', w', hr, ?_, hg⟩
    rw [List.length_append, List.flatMap_append, ← hm]
    exact ho

theorem wp_append_pts {o : Oper} {ac : Act} {w : World} {K : Act → World → Prop} {Q : Exit → Act → World → Prop} (s x : Operand)
    (ho : o.op = .call { callee := .builtin .append, args := #[s, x], argTypes := #[27, 27] })
    (B : Nat) (v : Value) (gs1 gs2 : List (Int × Int)) (n1 : Nat) (hn1 : n1 = gs1.length) (hs : ac.eval s = v) (hown : w.ownsRow B 30 2 v n1 (gs1.flatMap cellsP)) (a : Option Addr) (m c : Nat) (hx : ac.eval x = .slice a m c) (hm : m = gs2.length) (hnil : a = none → m = 0 ∧ c = 0)
    (hG : PtsIn w a gs2) (hlen : gs1.length + gs2.length ≤ 1000) (hB : B ≤ w.heap.size)
    (h : ∀ v' w', w'.ownsRow B 30 2 v' (gs1 ++ gs2).length ((gs1 ++ gs2).flatMap cellsP) → w.grownBy w' v.ownBlock → K (ac.put o.dst v') w') : o.wp Try.prog ac w K Q := by
  obtain ⟨v', w', hr, h2, h3⟩ := run_append_pts w o.type B v gs1 gs2 n1 hn1 hown a m c hm hnil hG hlen hB
  unfold Oper.wp execOp
  simp only [ho, resolve, invoke, builtin, Sem.run_bind, Sem.run_pure, Result.andThen_ok, List.map_toArray, List.map_cons, List.map_nil, hs, hx, hr]
  exact h v' w' h2 h3

theorem wpList_append_pts {ops : Array Oper} {rest : List Oper} {o : Oper} {ac : Act} {w : World} {Q : Exit → Act → World → Prop} (hgd : o.guard = none) (s x : Operand)
    (ho : o.op = .call { callee := .builtin .append, args := #[s, x], argTypes := #[27, 27] })
    (B : Nat) (v : Value) (gs1 gs2 : List (Int × Int)) (n1 : Nat) (hn1 : n1 = gs1.length) (hs : ac.eval s = v) (hown : w.ownsRow B 30 2 v n1 (gs1.flatMap cellsP)) (a : Option Addr) (m c : Nat) (hx : ac.eval x = .slice a m c) (hm : m = gs2.length) (hnil : a = none → m = 0 ∧ c = 0)
    (hG : PtsIn w a gs2) (hlen : gs1.length + gs2.length ≤ 1000) (hB : B ≤ w.heap.size)
    (h : ∀ v' w', w'.ownsRow B 30 2 v' (gs1 ++ gs2).length ((gs1 ++ gs2).flatMap cellsP) → w.grownBy w' v.ownBlock → wpList Try.prog ops Q rest (ac.put o.dst v') w') : wpList Try.prog ops Q (o :: rest) ac w :=
  wpList_plain hgd fun _ hK => wp_append_pts s x ho B v gs1 gs2 n1 hn1 hs hown a m c hx hm hnil hG hlen hB fun v' w' h2 h3 => hK _ _ (h v' w' h2 h3)

theorem step_append_pts {ops : Array Oper} {o : Oper} {ac : Act} {w : World} {K : Act → World → Prop} {Q : Exit → Act → World → Prop} {E : Prop} (hgd : o.guard = none) (s x : Operand)
    (ho : o.op = .call { callee := .builtin .append, args := #[s, x], argTypes := #[27, 27] })
    (B : Nat) (v : Value) (gs1 gs2 : List (Int × Int)) (n1 : Nat) (hn1 : n1 = gs1.length) (hs : ac.eval s = v) (hown : w.ownsRow B 30 2 v n1 (gs1.flatMap cellsP)) (a : Option Addr) (m c : Nat) (hx : ac.eval x = .slice a m c) (hm : m = gs2.length) (hnil : a = none → m = 0 ∧ c = 0)
    (hG : PtsIn w a gs2) (hlen : gs1.length + gs2.length ≤ 1000) (hB : B ≤ w.heap.size)
    (h : ∀ v' w', w'.ownsRow B 30 2 v' (gs1 ++ gs2).length ((gs1 ++ gs2).flatMap cellsP) → w.grownBy w' v.ownBlock → K (ac.put o.dst v') w') : if Region.wanted o (yielded ops ac.tmps) = true then Oper.wp Try.prog o ac w K Q else E := by
  have hw : Region.wanted o (yielded ops ac.tmps) = true := by simp [Region.wanted, hgd]
  rw [if_pos hw]
  exact wp_append_pts s x ho B v gs1 gs2 n1 hn1 hs hown a m c hx hm hnil hG hlen hB h

theorem PtsIn.slicedAt {w : World} {ad : Addr} {gs : List (Int × Int)} (hG : PtsIn w (some ad) gs) {k c : Nat} (hk : k ≤ gs.length) (hc : gs.length ≤ c) : PtsIn w (some (if c = k then ad else ad.add (k * 2))) (gs.drop k) := by
  intro i hi
  rw [List.length_drop] at hi
  rw [if_neg (by omega)]
  obtain ⟨b', off', hA, hb, hg⟩ := hG (k + i) (by omega)
  cases hA
  have hadd : (⟨b', off', none⟩ : Addr).add (k * 2) = ⟨b', off' + k * 2, none⟩ := by
    unfold Addr.add
    split
    · rename_i h0; have h1 : k * 2 = 0 := by simpa using h0
      simp [h1]
    · simp
  rw [hadd]
  refine ⟨b', off' + k * 2, rfl, hb, ?_⟩
  rw [List.getElem_drop, show off' + k * 2 + i * 2 = off' + (k + i) * 2 by omega]
  exact hg


end Go.Proofs.Ytigepekcjigpaaa
