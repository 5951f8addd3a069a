/- Sweep: the plain law, sixth part: the document's least number is an ok gap's begin. No condition. -/
import Derived.Test.YtljkijolehalcaaSq
namespace Go.Proofs.Ytljkijolehalcaa

/-- Of some gaps with begins at most at x one begins last. -/
theorem greatest_lo : ∀ (l : List (Int × Int)) (x : Int), (∃ g ∈ l, hasG x g = true) → ∃ g ∈ l, hasG x g = true ∧ ∀ g' ∈ l, hasG x g' = true → g'.1 ≤ g.1
  | [], x, h => by obtain ⟨g, hg, _⟩ := h; simp at hg
  | g :: l, x, h => by
    by_cases hl : ∃ g ∈ l, hasG x g = true
    · obtain ⟨g1, h1, h2, h3⟩ := greatest_lo l x hl
      by_cases hg : hasG x g = true ∧ g1.1 < g.1
      · refine ⟨g, by simp, hg.1, fun g' hg' hh => ?_⟩
        rcases List.mem_cons.1 hg' with rfl | h'
        · exact Int.le_refl _
        · have := h3 g' h' hh; omega
      · refine ⟨g1, by simp [h1], h2, fun g' hg' hh => ?_⟩
        rcases List.mem_cons.1 hg' with rfl | h'
        · have : ¬ g1.1 < g'.1 := fun h => hg ⟨hh, h⟩
          omega
        · exact h3 g' h' hh
    · obtain ⟨g1, h1, h2⟩ := h
      rcases List.mem_cons.1 h1 with rfl | h'
      · refine ⟨g1, by simp, h2, fun g' hg' hh => ?_⟩
        rcases List.mem_cons.1 hg' with rfl | h'
        · exact Int.le_refl _
        · exact absurd ⟨g', h', hh⟩ hl
      · exact absurd ⟨g1, h', h2⟩ hl

/-- A number's votes are those of an ok gap's begin, at most at it, or fewer. -/
theorem down_to_lo {gs : List (Int × Int)} {x : Int} (h : 0 < votesL x gs) : ∃ g ∈ gs, g.1 ≤ g.2 ∧ g.1 ≤ x ∧ votesL x gs ≤ votesL g.1 gs := by
  obtain ⟨g0, h0, h0a, h0b⟩ := has_lo h
  obtain ⟨g, hg, hh, hm⟩ := greatest_lo gs x ⟨g0, h0, by unfold hasG; simp [h0a, h0b]⟩
  have hh' := hh
  unfold hasG at hh'
  simp at hh'
  refine ⟨g, hg, by omega, hh'.1, ?_⟩
  unfold votesL
  refine List.countP_mono_left fun g' hg' h' => ?_
  have := hm g' hg' h'
  unfold hasG at h' ⊢
  simp at h' ⊢
  omega

end Go.Proofs.Ytljkijolehalcaa
