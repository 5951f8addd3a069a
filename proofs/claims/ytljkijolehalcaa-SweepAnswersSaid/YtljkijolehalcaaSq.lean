/- Sweep: the plain law, fifth part: the walk's most is the greatest number of votes. No condition. -/
import Derived.Test.YtljkijolehalcaaSp
namespace Go.Proofs.Ytljkijolehalcaa

theorem has_lo {gs : List (Int × Int)} {x : Int} (h : 0 < votesL x gs) : ∃ g ∈ gs, g.1 ≤ x ∧ x ≤ g.2 := by
  unfold votesL at h
  obtain ⟨g, hg, hh⟩ := List.countP_pos_iff.1 h
  unfold hasG at hh
  simp at hh
  exact ⟨g, hg, hh⟩

theorem lo_votes {gs : List (Int × Int)} {g : Int × Int} (hg : g ∈ gs) (hok : g.1 ≤ g.2) : 0 < votesL g.1 gs := by
  unfold votesL
  exact List.countP_pos_iff.2 ⟨g, hg, by unfold hasG; simp [hok]⟩

/-- A begin's number with its votes is reached by the walk. -/
theorem reach {gs : List (Int × Int)} {es : List (Int × Bool)} (hs : es.Pairwise leE) (hp : es.Perm (edgesL gs)) {g : Int × Int} (hg : g ∈ gs) (hok : g.1 ≤ g.2) :
    ∃ k, ∃ hk : k < es.length, es[k] = (g.1, false) ∧ votesAt es k = votesL g.1 gs ∧ ∀ f ∈ es.drop (k + 1), f.2 = false → g.1 < f.1 := by
  obtain ⟨k, hk, he, h1⟩ := last_begin hs (x := g.1) (hp.mem_iff.2 ((mem_edgesL gs _).2 ⟨g, hg, hok, .inl rfl⟩))
  refine ⟨k, hk, he, ?_, h1⟩
  have := votesAt_full hs hp hk (by rw [he]; exact h1) (ends_ahead hs hk (by rw [he]))
  rw [he] at this
  exact this

end Go.Proofs.Ytljkijolehalcaa
