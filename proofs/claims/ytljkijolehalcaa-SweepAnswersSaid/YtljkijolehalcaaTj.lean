/- Sweep: append of gaps onto a row that is owned. No condition. -/
import Derived.Test.YtljkijolehalcaaTf
namespace Go.Proofs.Ytljkijolehalcaa
open Go.RowKit

theorem cellsG_get (gs : List (Int × Int)) (i : Nat) (hi : i < gs.length) (j : Nat) (hj : j < 2) : (gs.flatMap cellsG)[i * 2 + j]? = (cellsG gs[i])[j]? := by
  have h1 : gs = gs.take i ++ gs[i] :: gs.drop (i + 1) := by rw [← List.drop_eq_getElem_cons hi, List.take_append_drop]
  have h2 : ((gs.take i).flatMap cellsG).length = i * 2 := by rw [cellsG_len, List.length_take, Nat.min_eq_left (by omega)]
  conv => lhs; rw [h1]
  rw [List.flatMap_append, List.flatMap_cons, List.getElem?_append_right (by rw [h2]; omega), h2, show i * 2 + j - i * 2 = j by omega, List.getElem?_append_left (by show j < 2; omega)]

theorem cellsG_one (gs : List (Int × Int)) : ∀ u ∈ gs.flatMap cellsG, u.oneCell' = true := by
  intro u hu
  obtain ⟨g, _, h⟩ := List.mem_flatMap.1 hu
  simp [cellsG] at h
  rcases h with rfl | rfl <;> rfl

theorem news_of_gaps {w : World} {ad : Addr} {gs : List (Int × Int)} (hG : GapsIn w (some ad) gs) : ∀ j u, (gs.flatMap cellsG)[j]? = some u → w.cell? (ad.add j) = some u := by
  intro j u hu
  have hj : j < gs.length * 2 := by rw [← cellsG_len]; exact (List.getElem?_eq_some_iff.1 hu).1
  have hi : j / 2 < gs.length := by omega
  obtain ⟨b, off, hA, hb, hg⟩ := hG (j / 2) hi
  cases hA
  have hadd : (⟨b, off, none⟩ : Addr).add j = ⟨b, off + j, none⟩ := by
    unfold Addr.add
    split
    · rename_i h0; have h1 : j = 0 := by simpa using h0
      simp [h1]
    · simp
  rw [hadd]
  have h1 := cellsG_get gs (j / 2) hi (j % 2) (by omega)
  rw [show j / 2 * 2 + j % 2 = j by omega, hu] at h1
  rcases Nat.mod_two_eq_zero_or_one j with h | h
  · rw [h] at h1
    have h2 := hg.c0
    rw [show off + j / 2 * 2 = off + j by omega] at h2
    rw [h2]; simpa [cellsG] using h1.symm
  · rw [h] at h1
    have h2 := hg.c1
    rw [show off + j / 2 * 2 + 1 = off + j by omega] at h2
    rw [h2]; simpa [cellsG] using h1.symm

theorem run_append_gaps (w : World) (ty B : Nat) (v : Value) (gs1 gs2 : List (Int × Int)) (n1 : Nat) (hn1 : n1 = gs1.length) (hown : w.ownsRow B 25 2 v n1 (gs1.flatMap cellsG)) (a : Option Addr) (m c : Nat) (hm : m = gs2.length) (hnil : a = none → m = 0 ∧ c = 0)
    (hG : GapsIn w a gs2) (hlen : gs1.length + gs2.length ≤ 1000) (hB : B ≤ w.heap.size) :
    ∃ v' w', (Builtin.append_ #[22, 22] ty #[v, .slice a m c]).run Try.prog w = .ok v' w' ∧ w'.ownsRow B 25 2 v' (gs1 ++ gs2).length ((gs1 ++ gs2).flatMap cellsG) ∧ w.grownBy w' v.ownBlock := by
  obtain ⟨i0, hi, hz0, hz1, hz2⟩ := info_parts info25
  subst hn1
  cases a with
  | none =>
    obtain ⟨rfl, rfl⟩ := hnil rfl
    have : gs2 = [] := List.length_eq_zero_iff.1 hm.symm
    subst this
    exact ⟨v, w, run_append_owned_none (P := Try.prog) w B 22 ty 25 i0 2 Try.underlying22 hi v gs1.length _ hown, by simpa using hown, ⟨rfl, rfl, rfl, Nat.le_refl _, fun _ _ _ => rfl⟩⟩
  | some ad =>
    obtain ⟨v', w', hr, ho, hg, _⟩ := run_append_own (P := Try.prog) w B 22 ty 25 i0 _ 2 16 Try.underlying22 hi hz0 hz1 hz2 rfl (by omega) v gs1.length _ hown ad m c (gs2.flatMap cellsG) (by rw [cellsG_len, hm]) (news_of_gaps hG) (cellsG_one gs2) (by unfold maxLen; omega) (by omega) hB
    refine ⟨v', w', hr, ?_, hg⟩
    rw [List.length_append, List.flatMap_append, ← hm]
    exact ho

theorem wp_append_gaps {o : Oper} {ac : Act} {w : World} {K : Act → World → Prop} {Q : Exit → Act → World → Prop} (s x : Operand)
    (ho : o.op = .call { callee := .builtin .append, args := #[s, x], argTypes := #[22, 22] })
    (B : Nat) (v : Value) (gs1 gs2 : List (Int × Int)) (n1 : Nat) (hn1 : n1 = gs1.length) (hs : ac.eval s = v) (hown : w.ownsRow B 25 2 v n1 (gs1.flatMap cellsG)) (a : Option Addr) (m c : Nat) (hx : ac.eval x = .slice a m c) (hm : m = gs2.length) (hnil : a = none → m = 0 ∧ c = 0)
    (hG : GapsIn w a gs2) (hlen : gs1.length + gs2.length ≤ 1000) (hB : B ≤ w.heap.size)
    (h : ∀ v' w', w'.ownsRow B 25 2 v' (gs1 ++ gs2).length ((gs1 ++ gs2).flatMap cellsG) → w.grownBy w' v.ownBlock → K (ac.put o.dst v') w') : o.wp Try.prog ac w K Q := by
  obtain ⟨v', w', hr, h2, h3⟩ := run_append_gaps w o.type B v gs1 gs2 n1 hn1 hown a m c hm hnil hG hlen hB
  unfold Oper.wp execOp
  simp only [ho, resolve, invoke, builtin, Sem.run_bind, Sem.run_pure, Result.andThen_ok, List.map_toArray, List.map_cons, List.map_nil, hs, hx, hr]
  exact h v' w' h2 h3

theorem wpList_append_gaps {ops : Array Oper} {rest : List Oper} {o : Oper} {ac : Act} {w : World} {Q : Exit → Act → World → Prop} (hgd : o.guard = none) (s x : Operand)
    (ho : o.op = .call { callee := .builtin .append, args := #[s, x], argTypes := #[22, 22] })
    (B : Nat) (v : Value) (gs1 gs2 : List (Int × Int)) (n1 : Nat) (hn1 : n1 = gs1.length) (hs : ac.eval s = v) (hown : w.ownsRow B 25 2 v n1 (gs1.flatMap cellsG)) (a : Option Addr) (m c : Nat) (hx : ac.eval x = .slice a m c) (hm : m = gs2.length) (hnil : a = none → m = 0 ∧ c = 0)
    (hG : GapsIn w a gs2) (hlen : gs1.length + gs2.length ≤ 1000) (hB : B ≤ w.heap.size)
    (h : ∀ v' w', w'.ownsRow B 25 2 v' (gs1 ++ gs2).length ((gs1 ++ gs2).flatMap cellsG) → w.grownBy w' v.ownBlock → wpList Try.prog ops Q rest (ac.put o.dst v') w') : wpList Try.prog ops Q (o :: rest) ac w :=
  wpList_plain hgd fun _ hK => wp_append_gaps s x ho B v gs1 gs2 n1 hn1 hs hown a m c hx hm hnil hG hlen hB fun v' w' h2 h3 => hK _ _ (h v' w' h2 h3)

theorem step_append_gaps {ops : Array Oper} {o : Oper} {ac : Act} {w : World} {K : Act → World → Prop} {Q : Exit → Act → World → Prop} {E : Prop} (hgd : o.guard = none) (s x : Operand)
    (ho : o.op = .call { callee := .builtin .append, args := #[s, x], argTypes := #[22, 22] })
    (B : Nat) (v : Value) (gs1 gs2 : List (Int × Int)) (n1 : Nat) (hn1 : n1 = gs1.length) (hs : ac.eval s = v) (hown : w.ownsRow B 25 2 v n1 (gs1.flatMap cellsG)) (a : Option Addr) (m c : Nat) (hx : ac.eval x = .slice a m c) (hm : m = gs2.length) (hnil : a = none → m = 0 ∧ c = 0)
    (hG : GapsIn w a gs2) (hlen : gs1.length + gs2.length ≤ 1000) (hB : B ≤ w.heap.size)
    (h : ∀ v' w', w'.ownsRow B 25 2 v' (gs1 ++ gs2).length ((gs1 ++ gs2).flatMap cellsG) → w.grownBy w' v.ownBlock → K (ac.put o.dst v') w') : if Region.wanted o (yielded ops ac.tmps) = true then Oper.wp Try.prog o ac w K Q else E := by
  have hw : Region.wanted o (yielded ops ac.tmps) = true := by simp [Region.wanted, hgd]
  rw [if_pos hw]
  exact wp_append_gaps s x ho B v gs1 gs2 n1 hn1 hs hown a m c hx hm hnil hG hlen hB h

/-- A row that is owned, of some gaps, as a slice. -/
theorem GapsIn.part {w : World} {b off : Nat} {gs : List (Int × Int)} (hG : GapsIn w (some ⟨b, off, none⟩) gs) (k : Nat) : GapsIn w (some ⟨b, off + k * 2, none⟩) (gs.drop k) ∧ GapsIn w (some ⟨b, off, none⟩) (gs.take k) := by
  refine ⟨fun i hi => ?_, fun i hi => ?_⟩
  · rw [List.length_drop] at hi
    obtain ⟨b', off', hA, hb, hg⟩ := hG (k + i) (by omega)
    cases hA
    refine ⟨b, off + k * 2, rfl, hb, ?_⟩
    rw [List.getElem_drop, show off + k * 2 + i * 2 = off + (k + i) * 2 by omega]
    exact hg
  · rw [List.length_take] at hi
    obtain ⟨b', off', hA, hb, hg⟩ := hG i (by omega)
    cases hA
    refine ⟨b, off, rfl, hb, ?_⟩
    rw [List.getElem_take]
    exact hg

end Go.Proofs.Ytljkijolehalcaa
