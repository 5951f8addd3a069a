/- Sweep: the plain law, fourth part: edges and gaps. No condition. -/
import Derived.Test.YtljkijolehalcaaSo
namespace Go.Proofs.Ytljkijolehalcaa

theorem mem_edgesL (gs : List (Int × Int)) (e : Int × Bool) : e ∈ edgesL gs ↔ ∃ g ∈ gs, g.1 ≤ g.2 ∧ ((e = (g.1, false)) ∨ (e = (g.2, true))) := by
  unfold edgesL
  rw [List.mem_flatMap]
  constructor
  · rintro ⟨g, hg, he⟩
    unfold edgesG okG at he
    by_cases h : g.1 ≤ g.2
    · simp [h] at he; exact ⟨g, hg, h, he⟩
    · simp [h] at he
  · rintro ⟨g, hg, h, he⟩
    refine ⟨g, hg, ?_⟩
    unfold edgesG okG
    simp [h]
    exact he

/-- What stands ahead of a begin and ends, ends below it. -/
theorem ends_ahead {es : List (Int × Bool)} (hs : es.Pairwise leE) {k : Nat} (hk : k < es.length) (hb : es[k].2 = false) : ∀ f ∈ es.take k, f.2 = true → f.1 < es[k].1 := by
  intro f hf h
  obtain ⟨i, hi, rfl⟩ := List.getElem_of_mem hf
  rw [List.length_take] at hi
  rw [List.getElem_take] at h ⊢
  have := List.pairwise_iff_getElem.1 hs i k (by omega) hk (by omega)
  unfold leE at this
  rcases this with h1 | ⟨_, h1 | h1⟩
  · exact h1
  · rw [h] at h1; cases h1
  · rw [hb] at h1; cases h1

/-- The last begin at a number: its votes are the number's. -/
theorem last_begin {es : List (Int × Bool)} (hs : es.Pairwise leE) {x : Int} (hx : (x, false) ∈ es) : ∃ k, ∃ hk : k < es.length, es[k] = (x, false) ∧ ∀ f ∈ es.drop (k + 1), f.2 = false → x < f.1 := by
  have key : ∀ n j, n = es.length - j → ∀ hj : j < es.length, es[j] = (x, false) → ∃ k, ∃ hk : k < es.length, es[k] = (x, false) ∧ ∀ f ∈ es.drop (k + 1), f.2 = false → x < f.1 := by
    intro n
    induction n using Nat.strongRecOn with
    | _ n ih =>
      intro j hn hj he
      by_cases h : ∀ f ∈ es.drop (j + 1), f.2 = false → x < f.1
      · exact ⟨j, hj, he, h⟩
      · simp only [Classical.not_forall] at h
        obtain ⟨f, hf, hf2, hf3⟩ := h
        obtain ⟨i, hi, rfl⟩ := List.getElem_of_mem hf
        rw [List.length_drop] at hi
        rw [List.getElem_drop] at hf2 hf3
        have h1 := sorted_le hs hj (show j + 1 + i < es.length by omega) (by omega)
        rw [he] at h1
        simp only at h1
        refine ih (es.length - (j + 1 + i)) (by omega) (j + 1 + i) rfl (by omega) ?_
        exact Prod.ext (by show es[j + 1 + i].1 = x; omega) hf2
  obtain ⟨j, hj, he⟩ := List.getElem_of_mem hx
  exact key _ j rfl hj he

end Go.Proofs.Ytljkijolehalcaa
