/- Sweep: the plain law, eighth part: the least number with the most votes. No condition. -/
import Derived.Test.YtljkijolehalcaaSs
namespace Go.Proofs.Ytljkijolehalcaa

theorem get_of {es : List (Int × Bool)} {i : Nat} {e : Int × Bool} (h : es[i]? = some e) : ∃ hi : i < es.length, es[i] = e := List.getElem?_eq_some_iff.1 h

theorem lo_eq {gs : List (Int × Int)} {es : List (Int × Bool)} (hs : es.Pairwise leE) (hp : es.Perm (edgesL gs)) {s : BS} (hb : BInv es es.length s) {R : Nat × (Int × Int)} (hr : RInv gs gs R) (h0 : 0 < R.1) : s.lo = R.2.1 := by
  have hm := most_eq hs hp hb hr
  obtain ⟨i, hi, he, hv, hlt, _⟩ := hb.pos (by omega)
  obtain ⟨_, he'⟩ := get_of he
  obtain ⟨g, hg, hok, hx⟩ := rinv_lo hr h0
  obtain ⟨k, hk, hek, hvk, _⟩ := reach hs hp hg hok
  have hik : i ≤ k := by
    rcases Nat.lt_or_ge k i with h | h
    · have := hlt k g.1 h (by rw [List.getElem?_eq_getElem hk, hek])
      rw [hvk, hx, (hr.pos h0).2.1] at this
      omega
    · exact h
  have h1 := sorted_le hs hi hk hik
  rw [he', hek] at h1
  simp only at h1
  have h3 := votesAt_le hs hp hi
  rw [he', hv] at h3
  simp only at h3
  obtain ⟨g2, hg2, hok2, h4⟩ := (mem_edgesL gs (s.lo, false)).1 (hp.mem_iff.1 (by rw [← he']; exact List.getElem_mem hi))
  have h4' : s.lo = g2.1 := by
    rcases h4 with h4 | h4
    · simpa using h4
    · simp at h4
  have h5 := hr.ge g2 hg2
  rw [← h4'] at h5
  have h6 := (hr.pos h0).2.2 g2 hg2 (by rw [← h4']; omega)
  omega

end Go.Proofs.Ytljkijolehalcaa
