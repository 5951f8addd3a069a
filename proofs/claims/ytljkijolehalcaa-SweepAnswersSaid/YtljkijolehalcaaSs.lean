/- Sweep: the plain law, seventh part: Best's walk finds what the document says. No condition. -/
import Derived.Test.YtljkijolehalcaaSr
namespace Go.Proofs.Ytljkijolehalcaa

/-- The document's least number with the most votes is an ok gap's begin. -/
theorem rinv_lo {gs : List (Int × Int)} {s : Nat × (Int × Int)} (h : RInv gs gs s) (h0 : 0 < s.1) : ∃ g ∈ gs, g.1 ≤ g.2 ∧ g.1 = s.2.1 := by
  obtain ⟨_, h2, h3⟩ := h.pos h0
  obtain ⟨g, hg, hok, hle, hv⟩ := down_to_lo (gs := gs) (x := s.2.1) (by omega)
  have h4 := h.ge g hg
  have h5 := h3 g hg (by omega)
  exact ⟨g, hg, hok, by omega⟩

/-- The most votes are the same. -/
theorem most_eq {gs : List (Int × Int)} {es : List (Int × Bool)} (hs : es.Pairwise leE) (hp : es.Perm (edgesL gs)) {s : BS} (hb : BInv es es.length s) {R : Nat × (Int × Int)} (hr : RInv gs gs R) : s.most = R.1 := by
  have h1 : (R.1 : Int) ≤ s.most := by
    by_cases h0 : 0 < R.1
    · obtain ⟨g, hg, hok, hx⟩ := rinv_lo hr h0
      obtain ⟨k, hk, he, hv, _⟩ := reach hs hp hg hok
      have := hb.ge k g.1 hk (by rw [List.getElem?_eq_getElem hk, he])
      rw [hv, hx, (hr.pos h0).2.1] at this
      exact this
    · have := hb.nonneg; omega
  have h2 : s.most ≤ R.1 := by
    by_cases h0 : 0 < s.most
    · obtain ⟨i, hi, he, hv, _, _⟩ := hb.pos h0
      have he' : es[i] = (s.lo, false) := by rw [List.getElem?_eq_getElem hi] at he; simpa using he
      have h3 := votesAt_le hs hp hi
      rw [he', hv] at h3
      obtain ⟨g, hg, hok, h4⟩ := (mem_edgesL gs (s.lo, false)).1 (hp.mem_iff.1 (by rw [← he']; exact List.getElem_mem hi))
      have h5 := hr.ge g hg
      rcases h4 with h4 | h4
      · simp at h4; rw [← h4] at h5; simp only at h3; omega
      · simp at h4
    · omega
  omega

end Go.Proofs.Ytljkijolehalcaa
