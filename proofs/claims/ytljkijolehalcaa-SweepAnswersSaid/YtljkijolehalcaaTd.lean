/- Sweep: the plain law of what Most and Truth say. No condition. -/
import Derived.Test.YtljkijolehalcaaTc
import Derived.Test.YtljkijolehalcaaTe
namespace Go.Proofs.Ytljkijolehalcaa

theorem best_right {gs : List (Int × Int)} {b : Int × Int} {n : Nat} (h : IsBest gs b n) (h0 : 0 < n) : b.1 ≤ b.2 := by
  obtain ⟨g, _, hh, he⟩ := h.at_ h0
  unfold hasG at hh; simp at hh; omega

theorem best_mid {gs : List (Int × Int)} {b : Int × Int} {n : Nat} (h : IsBest gs b n) (h0 : 0 < n) {y : Int} (h1 : b.1 ≤ y) (h2 : y ≤ b.2) : votesL y gs = n := by
  refine Nat.le_antisymm (h.le y) ?_
  rw [← h.has h0]
  unfold votesL
  refine List.countP_mono_left fun g hg hh => ?_
  have := h.hi h0 g hg hh
  unfold hasG at hh ⊢
  simp at hh ⊢
  omega

def meetF (gs : List (Int × Int)) : Int × Int := gs.foldl meetStep (-9223372036854775808, 9223372036854775807)
def meetL (gs : List (Int × Int)) : (Int × Int) × Int := meetAll gs
theorem meetL_eq (gs : List (Int × Int)) : meetL gs = if gs.all okG = true then (if (meetF gs).2 < (meetF gs).1 then ((0, 0), 13) else (meetF gs, 0)) else ((0, 0), 10) := rfl

theorem meet_inv : ∀ (l : List (Int × Int)) (s : Int × Int), s.1 ≤ (l.foldl meetStep s).1 ∧ (l.foldl meetStep s).2 ≤ s.2 ∧ (∀ g ∈ l, g.1 ≤ (l.foldl meetStep s).1 ∧ (l.foldl meetStep s).2 ≤ g.2) ∧
    ((l.foldl meetStep s).1 = s.1 ∨ ∃ g ∈ l, g.1 = (l.foldl meetStep s).1) ∧ ((l.foldl meetStep s).2 = s.2 ∨ ∃ g ∈ l, g.2 = (l.foldl meetStep s).2)
  | [], s => by simp
  | g :: l, s => by
    rw [List.foldl_cons]
    obtain ⟨h1, h2, h3, h4, h5⟩ := meet_inv l (meetStep s g)
    generalize l.foldl meetStep (meetStep s g) = t at *
    have e1 : (meetStep s g).1 = max s.1 g.1 := rfl
    have e2 : (meetStep s g).2 = min s.2 g.2 := rfl
    rw [e1] at h1 h4
    rw [e2] at h2 h5
    refine ⟨by clear h4 h5; omega, by clear h4 h5; omega, fun g' hg' => ?_, ?_, ?_⟩
    · rcases List.mem_cons.1 hg' with rfl | h
      · clear h4 h5; omega
      · exact h3 g' h
    · clear h5
      rcases h4 with h4 | ⟨g', hg', he⟩
      · rcases Int.le_total s.1 g.1 with h | h
        · exact .inr ⟨g, by simp, by omega⟩
        · exact .inl (by omega)
      · exact .inr ⟨g', by simp [hg'], he⟩
    · clear h4
      rcases h5 with h5 | ⟨g', hg', he⟩
      · rcases Int.le_total s.2 g.2 with h | h
        · exact .inl (by omega)
        · exact .inr ⟨g, by simp, by omega⟩
      · exact .inr ⟨g', by simp [hg'], he⟩

theorem votes_all {gs : List (Int × Int)} {x : Int} : votesL x gs = gs.length ↔ ∀ g ∈ gs, hasG x g = true := List.countP_eq_length

theorem agree_meet {gs : List (Int × Int)} (hr : ∀ g ∈ gs, inR g) : refAgree gs = (decide (0 < gs.length) && decide ((meetL gs).2 = 0)) ∧ (refAgree gs = true → (meetL gs).1 = (refBest gs).1) := by
  have hb := isBest gs fun g hg => (hr g hg).2.2.2
  obtain ⟨m1, m2, m3, m4, m5⟩ := meet_inv gs (-9223372036854775808, 9223372036854775807)
  have em : gs.foldl meetStep (-9223372036854775808, 9223372036854775807) = meetF gs := rfl
  rw [em] at m1 m2 m3 m4 m5
  simp only at m1 m2 m3 m4 m5
  by_cases h0 : gs.length = 0
  · have : gs = [] := List.length_eq_zero_iff.1 h0
    subst this
    exact ⟨rfl, fun h => absurd h (by decide)⟩
  · have hpos : 0 < gs.length := by omega
    by_cases hn : (refBest gs).2 = gs.length
    · have ha : refAgree gs = true := by unfold refAgree; simp [hpos, hn]
      have hh := votes_all.1 ((hb.has (by omega)).trans hn)
      have hok : gs.all okG = true := List.all_eq_true.2 fun g hg => by have := hh g hg; unfold hasG at this; unfold okG; simp at this ⊢; omega
      obtain ⟨g0, hg0, hh0, he0⟩ := hb.at_ (by omega)
      have r0 := hr g0 hg0
      unfold inR at r0
      have k0 := hh g0 hg0
      unfold hasG at k0
      simp at k0
      have l1 : (meetF gs).1 ≤ (refBest gs).1.1 := by
        rcases m4 with m4 | ⟨g, hg, he⟩
        · omega
        · have := hh g hg; unfold hasG at this; simp at this; omega
      have l2 : (refBest gs).1.1 ≤ (meetF gs).2 := by
        rcases m5 with m5 | ⟨g, hg, he⟩
        · omega
        · have := hh g hg; unfold hasG at this; simp at this; omega
      have l3 : (refBest gs).1.1 ≤ (meetF gs).1 := by
        rcases Int.lt_or_le (meetF gs).1 (refBest gs).1.1 with h | h
        · have h4 := hb.least _ h (by omega)
          rw [hn] at h4
          have h5 : votesL (meetF gs).1 gs = gs.length := votes_all.2 fun g hg => by
            have := m3 g hg
            unfold hasG; simp; omega
          omega
        · exact h
      have l4 : (meetF gs).2 = (refBest gs).1.2 := by
        have h6 := (m3 g0 hg0).2
        rcases m5 with m5 | ⟨g, hg, he⟩
        · omega
        · have := hb.hi (by omega) g hg (hh g hg); omega
      have hm : meetL gs = (meetF gs, 0) := by rw [meetL_eq]; rw [if_pos hok, if_neg (by omega)]
      rw [ha, hm]
      exact ⟨by simp [hpos], fun _ => Prod.ext (by show (meetF gs).1 = _; omega) l4⟩
    · have ha : refAgree gs = false := by unfold refAgree; simp [hn]
      rw [ha]
      refine ⟨?_, fun h => absurd h (by decide)⟩
      have : ¬ (meetL gs).2 = 0 := by
        rw [meetL_eq]
        by_cases hok : gs.all okG = true
        · rw [if_pos hok]
          by_cases hm : (meetF gs).2 < (meetF gs).1
          · rw [if_pos hm]; decide
          · exfalso
            apply hn
            have h5 : votesL (meetF gs).1 gs = gs.length := votes_all.2 fun g hg => by
              have := m3 g hg
              unfold hasG; simp; omega
            have h6 := hb.le (meetF gs).1
            by_cases h7 : 0 < (refBest gs).2
            · have h8 := hb.has h7
              have h9 : votesL (refBest gs).1.1 gs ≤ gs.length := votesL_le _ gs
              omega
            · omega
        · rw [if_neg hok]; decide
      simp [this]

/-- What Without is, by votes alone. -/
theorem without_has {gs : List (Int × Int)} {f : Int} (h0 : 0 ≤ f) (h1 : f < rightL gs) {x : Int} (hx : (rightL gs : Int) - f ≤ votesL x gs) : (refWithout f gs).2 = true ∧ hasG x (refWithout f gs).1 = true := by
  obtain ⟨b1, b2, b3, b4, b5, b6⟩ := rwAll_inv f gs
  obtain ⟨g, hg, ho, hle, hv⟩ := down_to_lo (gs := gs) (x := x) (by omega)
  obtain ⟨g', hg', ho', hle', hv'⟩ := up_to_hi (gs := gs) (x := x) (by omega)
  have e1 := b1 g hg ho (by omega)
  have e2 := b2 g' hg' ho' (by omega)
  have hok : okG (rwAll f gs) = true := by unfold okG; simp; omega
  unfold refWithout
  rw [if_neg (by omega), if_pos hok]
  exact ⟨rfl, by unfold hasG; simp; omega⟩

theorem without_none {gs : List (Int × Int)} {f : Int} (h : (refWithout f gs).2 = false) : (refWithout f gs).1 = (0, 0) := by
  unfold refWithout at *
  split
  · rfl
  · rename_i hc
    rw [if_neg hc] at h
    split
    · rename_i hk; rw [if_pos hk] at h; cases h
    · rfl

theorem without_some {gs : List (Int × Int)} (hr : ∀ g ∈ gs, inR g) {f : Int} (h : (refWithout f gs).2 = true) :
    0 ≤ f ∧ f < rightL gs ∧ okG (refWithout f gs).1 = true ∧ (rightL gs : Int) - f ≤ votesL (refWithout f gs).1.1 gs ∧ (rightL gs : Int) - f ≤ votesL (refWithout f gs).1.2 gs := by
  obtain ⟨b1, b2, b3, b4, b5, b6⟩ := rwAll_inv f gs
  by_cases hc : f < 0 ∨ (rightL gs : Int) ≤ f
  · unfold refWithout at h; rw [if_pos hc] at h; cases h
  · by_cases hk : okG (rwAll f gs) = true
    · have e : (refWithout f gs).1 = rwAll f gs := by unfold refWithout; rw [if_neg hc, if_pos hk]
      rw [e]
      have hk' := hk
      unfold okG at hk'
      simp at hk'
      refine ⟨by omega, by omega, hk, ?_, ?_⟩
      · rcases b5 with h5 | ⟨g, hg, ho, hv, he⟩
        · rcases b6 with h6 | ⟨g, hg, ho, hv, he⟩
          · omega
          · obtain ⟨g', hg', ho', hle', hv'⟩ := down_to_lo (gs := gs) (x := g.2) (by omega)
            have h7 := b1 g' hg' ho' (by omega)
            have h8 := hr g' hg'
            unfold inR at h8
            have : (rwAll f gs).1 = g'.1 := by omega
            rw [this]; omega
        · rw [he]; exact hv
      · rcases b6 with h6 | ⟨g, hg, ho, hv, he⟩
        · rcases b5 with h5 | ⟨g, hg, ho, hv, he⟩
          · omega
          · obtain ⟨g', hg', ho', hle', hv'⟩ := up_to_hi (gs := gs) (x := g.1) (by omega)
            have h7 := b2 g' hg' ho' (by omega)
            have h8 := hr g' hg'
            unfold inR at h8
            have : (rwAll f gs).2 = g'.2 := by omega
            rw [this]; omega
        · rw [he]; exact hv
    · unfold refWithout at h; rw [if_neg hc, if_neg hk] at h; cases h

theorem without_wider {gs : List (Int × Int)} (hr : ∀ g ∈ gs, inR g) {f : Int} (h : (refWithout f gs).2 = true) (h1 : f + 1 < rightL gs) :
    (refWithout (f + 1) gs).2 = true ∧ (refWithout (f + 1) gs).1.1 ≤ (refWithout f gs).1.1 ∧ (refWithout f gs).1.2 ≤ (refWithout (f + 1) gs).1.2 := by
  obtain ⟨k0, k1, k2, k3, k4⟩ := without_some hr h
  have e1 := without_has (gs := gs) (f := f + 1) (by omega) h1 (x := (refWithout f gs).1.1) (by omega)
  have e2 := without_has (gs := gs) (f := f + 1) (by omega) h1 (x := (refWithout f gs).1.2) (by omega)
  have e3 := e1.2
  have e4 := e2.2
  unfold hasG at e3 e4
  simp at e3 e4
  exact ⟨e1.1, by omega, by omega⟩

end Go.Proofs.Ytljkijolehalcaa
