/- Sweep: the plain law, second part: what Best's walk along the edges has found. No condition. -/
import Derived.Test.YtljkijolehalcaaSm
namespace Go.Proofs.Ytljkijolehalcaa

/-- What Best holds behind k edges. -/
structure BInv (es : List (Int × Bool)) (k : Nat) (s : BS) : Prop where
  ge : ∀ j x, j < k → es[j]? = some (x, false) → votesAt es j ≤ s.most
  nonneg : 0 ≤ s.most
  zero : s.most = 0 → s = ⟨0, 0, 0, false⟩
  pos : 0 < s.most → ∃ i, i < k ∧ es[i]? = some (s.lo, false) ∧ votesAt es i = s.most ∧ (∀ j x, j < i → es[j]? = some (x, false) → votesAt es j < s.most) ∧
    ((s.op = true ∧ ∀ j x, i < j → j < k → es[j]? ≠ some (x, true)) ∨ (s.op = false ∧ ∃ j, i < j ∧ j < k ∧ es[j]? = some (s.hi, true) ∧ ∀ j' x, i < j' → j' < j → es[j']? ≠ some (x, true)))

theorem BInv.start (es : List (Int × Bool)) : BInv es 0 ⟨0, 0, 0, false⟩ := ⟨fun j x h => by omega, Int.le_refl _, fun _ => rfl, fun h => absurd h (by decide)⟩

theorem BInv.step {es : List (Int × Bool)} {k : Nat} {s : BS} (h : BInv es k s) (hk : k < es.length) : BInv es (k + 1) (bStep s (walkF es k)) := by
  have hw : walkF es k = (es[k], votesAt es k) := by unfold walkF; rw [List.getElem?_eq_getElem hk]; rfl
  have hek : es[k]? = some es[k] := List.getElem?_eq_getElem hk
  have hlast : ∀ j, j < k + 1 → j < k ∨ j = k := fun j hj => by omega
  rw [hw]
  obtain ⟨lo, hi, most, op⟩ := s
  obtain ⟨hge, hnn, hz, hpos⟩ := h
  simp only at hge hnn hz hpos
  have hvk : votesAt es k = votesAt es k := rfl
  generalize hv : votesAt es k = v
  generalize hee : es[k] = e at hek
  obtain ⟨x, en⟩ := e
  clear hw hvk
  cases en
  · by_cases hlt : most < v
    · have hb : bStep ⟨lo, hi, most, op⟩ ((x, false), v) = ⟨x, 0, v, true⟩ := by unfold bStep; rw [if_pos (show _ ∧ _ from ⟨rfl, hlt⟩)]
      rw [hb]
      refine ⟨fun j y hj hy => ?_, by show (0 : Int) ≤ v; omega, fun h0 => absurd (show v = 0 from h0) (by omega), fun _ => ⟨k, by omega, hek, hv, fun j y hj hy => ?_, .inl ⟨rfl, fun j y h1 h2 => by omega⟩⟩⟩
      · rcases hlast j hj with h | rfl
        · exact Int.le_trans (hge j y h hy) (Int.le_of_lt hlt)
        · exact Int.le_of_eq hv
      · exact Int.lt_of_le_of_lt (hge j y hj hy) hlt
    · have hb : bStep ⟨lo, hi, most, op⟩ ((x, false), v) = ⟨lo, hi, most, op⟩ := by unfold bStep; rw [if_neg (by simp; omega), if_neg (by simp)]
      rw [hb]
      refine ⟨fun j y hj hy => ?_, hnn, hz, fun h0 => ?_⟩
      · rcases hlast j hj with h | rfl
        · exact hge j y h hy
        · rw [hv]; show v ≤ most; omega
      · obtain ⟨i, h1, h2, h3, h4, h5⟩ := hpos h0
        refine ⟨i, by omega, h2, h3, h4, ?_⟩
        rcases h5 with ⟨h5, h6⟩ | ⟨h5, j, h6, h7, h8, h9⟩
        · refine .inl ⟨h5, fun j y hj1 hj2 => ?_⟩
          rcases hlast j hj2 with h | rfl
          · exact h6 j y hj1 h
          · rw [hek]; simp
        · exact .inr ⟨h5, j, h6, by omega, h8, h9⟩
  · cases op
    · have hb : bStep ⟨lo, hi, most, false⟩ ((x, true), v) = ⟨lo, hi, most, false⟩ := by unfold bStep; rw [if_neg (by simp), if_neg (by simp)]
      rw [hb]
      refine ⟨fun j y hj hy => ?_, hnn, hz, fun h0 => ?_⟩
      · rcases hlast j hj with h | rfl
        · exact hge j y h hy
        · rw [hek] at hy; simp at hy
      · obtain ⟨i, h1, h2, h3, h4, h5⟩ := hpos h0
        refine ⟨i, by omega, h2, h3, h4, ?_⟩
        rcases h5 with ⟨h5, h6⟩ | ⟨h5, j, h6, h7, h8, h9⟩
        · cases h5
        · exact .inr ⟨h5, j, h6, by omega, h8, h9⟩
    · have hb : bStep ⟨lo, hi, most, true⟩ ((x, true), v) = ⟨lo, x, most, false⟩ := by unfold bStep; rw [if_neg (by simp), if_pos (by simp)]
      rw [hb]
      refine ⟨fun j y hj hy => ?_, hnn, fun h0 => ?_, fun h0 => ?_⟩
      · rcases hlast j hj with h | rfl
        · exact hge j y h hy
        · rw [hek] at hy; simp at hy
      · have := hz h0; simp at this
      · obtain ⟨i, h1, h2, h3, h4, h5⟩ := hpos h0
        refine ⟨i, by omega, h2, h3, h4, ?_⟩
        rcases h5 with ⟨h5, h6⟩ | ⟨h5, j, h6, h7, h8, h9⟩
        · exact .inr ⟨rfl, k, h1, by omega, hek, fun j' y h7 h8 => h6 j' y h7 h8⟩
        · cases h5

theorem BInv.all (es : List (Int × Bool)) : ∀ k, k ≤ es.length → BInv es k (bFold (upto (walkF es) k))
  | 0, _ => BInv.start es
  | k + 1, h => by
    rw [upto_succ, bFold_snoc]
    exact (BInv.all es k (by omega)).step (by omega)

end Go.Proofs.Ytljkijolehalcaa
