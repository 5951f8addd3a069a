/- Sweep: the plain law, tenth part: Best is the document's Best. No condition. -/
import Derived.Test.YtljkijolehalcaaSu
namespace Go.Proofs.Ytljkijolehalcaa

/-- An end's edge of an ok gap that has a number lies behind each begin at it. -/
theorem end_behind {es : List (Int × Bool)} (hs : es.Pairwise leE) {i : Nat} (hi : i < es.length) {x y : Int} (he : es[i] = (x, false)) (hxy : x ≤ y) (hy : (y, true) ∈ es) : ∃ j, i < j ∧ ∃ hj : j < es.length, es[j] = (y, true) := by
  obtain ⟨j, hj, hej⟩ := List.getElem_of_mem hy
  refine ⟨j, ?_, hj, hej⟩
  rcases Nat.lt_trichotomy i j with h | h | h
  · exact h
  · subst h; rw [he] at hej; simp at hej
  · have := List.pairwise_iff_getElem.1 hs j i hj hi h
    rw [he, hej] at this
    unfold leE at this
    simp at this
    omega

theorem hi_eq {gs : List (Int × Int)} {es : List (Int × Bool)} (hs : es.Pairwise leE) (hp : es.Perm (edgesL gs)) {s : BS} (hb : BInv es es.length s) {R : Nat × (Int × Int)} (hr : RInv gs gs R) (h0 : 0 < R.1)
    (hmax : ∀ g ∈ gs, g.2 ≤ 9223372036854775807) : s.hi = gs.foldl (rb2 R.2.1) 9223372036854775807 := by
  have hm := most_eq hs hp hb hr
  have hlo := lo_eq hs hp hb hr h0
  obtain ⟨i, hi, he, hv, hlt, hop⟩ := hb.pos (by omega)
  obtain ⟨_, he'⟩ := get_of he
  rw [hlo] at he'
  generalize R.2.1 = x at *
  obtain ⟨f1, f2, f3⟩ := rb2_fold x gs 9223372036854775807
  have memE : ∀ g ∈ gs, okG g = true → (g.2, true) ∈ es := fun g hg hok => hp.mem_iff.2 ((mem_edgesL gs _).2 ⟨g, hg, by unfold okG at hok; simpa using hok, .inr rfl⟩)
  obtain ⟨g1, hg1, hok1, h4⟩ := (mem_edgesL gs (x, false)).1 (hp.mem_iff.1 (by rw [← he']; exact List.getElem_mem hi))
  have h4' : x = g1.1 := by
    rcases h4 with h4 | h4
    · simpa using h4
    · simp at h4
  rcases hop with ⟨_, hno⟩ | ⟨_, j, hij, hj, hej, hbet⟩
  · obtain ⟨j, hij, hj, hej⟩ := end_behind hs hi he' (y := g1.2) (by omega) (memE g1 hg1 (by unfold okG; simpa using hok1))
    exact absurd (by rw [List.getElem?_eq_getElem hj, hej]) (hno j g1.2 hij hj)
  · obtain ⟨_, hej'⟩ := get_of hej
    -- no begin stands between: j = i + 1
    have hj1 : j = i + 1 := by
      rcases Nat.lt_or_ge (i + 1) j with h | h
      · have hk : i + 1 < es.length := by omega
        have h5 : es[i + 1].2 = false := by
          cases h6 : es[i + 1].2
          · rfl
          · exact absurd (by rw [List.getElem?_eq_getElem hk, ← h6]) (hbet (i + 1) es[i + 1].1 (by omega) h)
        have h6 := hb.ge (i + 1) es[i + 1].1 hk (by rw [List.getElem?_eq_getElem hk, ← h5])
        rw [votesAt_eq es (i + 1) hk, countP_step _ es (i + 1) hk, countP_step _ es i hi] at h6
        rw [votesAt_eq es i hi] at hv
        rw [countP_step _ es i hi] at hv
        have h8 := countP_step (fun e => e.2) es i hi
        simp [h5, he'] at h6 hv h8
        omega
      · omega
    subst hj1
    obtain ⟨g0, hg0, hok0, h7⟩ := (mem_edgesL gs (s.hi, true)).1 (hp.mem_iff.1 (by rw [← hej']; exact List.getElem_mem hj))
    have h7' : s.hi = g0.2 := by
      rcases h7 with h7 | h7
      · simp at h7
      · simpa using h7
    have hxh : x ≤ s.hi := by
      have := sorted_le hs hi hj (by omega)
      rw [he', hej'] at this
      exact this
    have hg0x : g0.1 ≤ x := by
      obtain ⟨b, hb1, hb2⟩ := List.getElem_of_mem (hp.mem_iff.2 ((mem_edgesL gs (g0.1, false)).2 ⟨g0, hg0, hok0, .inl rfl⟩))
      rcases Nat.lt_or_ge i b with h | h
      · rcases Nat.lt_or_eq_of_le (show i + 1 ≤ b from h) with h | h
        · have := List.pairwise_iff_getElem.1 hs (i + 1) b hj hb1 h
          rw [hej', hb2] at this
          unfold leE at this
          simp at this
          omega
        · subst h; rw [hej'] at hb2; simp at hb2
      · have := sorted_le hs hb1 hi h
        rw [he', hb2] at this
        exact this
    have hle : gs.foldl (rb2 x) 9223372036854775807 ≤ s.hi := by
      rw [h7']
      exact f2 g0 hg0 (by unfold okG; simpa using hok0) hg0x (by omega)
    have hge : s.hi ≤ gs.foldl (rb2 x) 9223372036854775807 := by
      rcases f3 with f3 | ⟨g, hg, hok, ha, hb', f3⟩
      · rw [f3, h7']; exact hmax g0 hg0
      · obtain ⟨j, hij, hj2, hej2⟩ := end_behind hs hi he' hb' (memE g hg hok)
        have := sorted_le hs hj hj2 (by omega)
        rw [hej', hej2] at this
        rw [f3]
        exact this
    omega

end Go.Proofs.Ytljkijolehalcaa
