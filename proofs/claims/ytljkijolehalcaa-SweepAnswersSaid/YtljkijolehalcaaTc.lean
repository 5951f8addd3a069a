/- Sweep: the plain law: what Best is, by votes alone; its order makes no difference; a gap more that has all. No condition. -/
import Derived.Test.YtljkijolehalcaaSx
namespace Go.Proofs.Ytljkijolehalcaa

/-- What the best ones are. -/
structure IsBest (gs : List (Int × Int)) (b : Int × Int) (n : Nat) : Prop where
  le : ∀ x, votesL x gs ≤ n
  zero : n = 0 → b = (0, 0)
  has : 0 < n → votesL b.1 gs = n
  least : ∀ x, x < b.1 → 0 < n → votesL x gs < n
  hi : 0 < n → ∀ g ∈ gs, hasG b.1 g = true → b.2 ≤ g.2
  at_ : 0 < n → ∃ g ∈ gs, hasG b.1 g = true ∧ g.2 = b.2

theorem IsBest.unique {gs gs' : List (Int × Int)} (hp : gs.Perm gs') {b b' : Int × Int} {n n' : Nat} (h : IsBest gs b n) (h' : IsBest gs' b' n') : b = b' ∧ n = n' := by
  have hv : ∀ x, votesL x gs = votesL x gs' := fun x => hp.countP_eq _
  have hn : n = n' := by
    rcases Nat.lt_trichotomy n n' with hlt | he | hlt
    · have h1 := h'.has (by omega)
      have h2 := h.le b'.1
      rw [hv] at h2
      omega
    · exact he
    · have h1 := h.has (by omega)
      have h2 := h'.le b.1
      rw [← hv] at h2
      omega
  subst hn
  refine ⟨?_, rfl⟩
  by_cases h0 : n = 0
  · rw [h.zero h0, h'.zero h0]
  · have hpos : 0 < n := by omega
    have h1 : b.1 = b'.1 := by
      rcases Int.lt_trichotomy b.1 b'.1 with hlt | he | hlt
      · have := h'.least _ hlt hpos
        rw [← hv, h.has hpos] at this
        omega
      · exact he
      · have := h.least _ hlt hpos
        rw [hv, h'.has hpos] at this
        omega
    refine Prod.ext h1 ?_
    obtain ⟨g, hg, hh, he⟩ := h.at_ hpos
    obtain ⟨g', hg', hh', he'⟩ := h'.at_ hpos
    have e1 := h'.hi hpos g (hp.mem_iff.1 hg) (by rw [← h1]; exact hh)
    have e2 := h.hi hpos g' (hp.mem_iff.2 hg') (by rw [h1]; exact hh')
    show b.2 = b'.2
    omega

theorem rb2_le (lo : Int) : ∀ (l : List (Int × Int)) (hi : Int), l.foldl (rb2 lo) hi ≤ hi ∧ (∀ g ∈ l, hasG lo g = true → l.foldl (rb2 lo) hi ≤ g.2) ∧ (l.foldl (rb2 lo) hi = hi ∨ ∃ g ∈ l, hasG lo g = true ∧ g.2 = l.foldl (rb2 lo) hi)
  | [], hi => by simp
  | g :: l, hi => by
    rw [List.foldl_cons]
    obtain ⟨h1, h2, h3⟩ := rb2_le lo l (rb2 lo hi g)
    have key : rb2 lo hi g = if hasG lo g = true then min hi g.2 else hi := by
      unfold rb2 okG hasG
      by_cases ha : g.1 ≤ lo <;> by_cases hb : lo ≤ g.2 <;> simp [ha, hb] <;> omega
    generalize l.foldl (rb2 lo) (rb2 lo hi g) = z at *
    by_cases hc : hasG lo g = true
    · rw [if_pos hc] at key
      refine ⟨by omega, fun g' hg' hh => ?_, ?_⟩
      · rcases List.mem_cons.1 hg' with rfl | h
        · omega
        · exact h2 g' h hh
      · rcases h3 with h3 | ⟨g', hg', hh, he⟩
        · rcases Int.le_total hi g.2 with h | h
          · exact .inl (by omega)
          · exact .inr ⟨g, by simp, hc, by omega⟩
        · exact .inr ⟨g', by simp [hg'], hh, he⟩
    · rw [if_neg hc] at key
      refine ⟨by omega, fun g' hg' hh => ?_, ?_⟩
      · rcases List.mem_cons.1 hg' with rfl | h
        · exact absurd hh hc
        · exact h2 g' h hh
      · rcases h3 with h3 | ⟨g', hg', hh, he⟩
        · exact .inl (by omega)
        · exact .inr ⟨g', by simp [hg'], hh, he⟩

theorem isBest (gs : List (Int × Int)) (hmax : ∀ g ∈ gs, g.2 ≤ 9223372036854775807) : IsBest gs (refBest gs).1 (refBest gs).2 := by
  have hr := rbest1_inv gs
  have hle : ∀ x, votesL x gs ≤ (rbest1 gs).1 := fun x => by
    by_cases h : 0 < votesL x gs
    · obtain ⟨g, hg, _, _, hv⟩ := down_to_lo h
      exact Nat.le_trans hv (hr.ge g hg)
    · omega
  unfold refBest
  by_cases h0 : (rbest1 gs).1 = 0
  · rw [if_pos h0]
    exact ⟨fun x => by have := hle x; simp only; omega, fun _ => rfl, fun h => absurd h (by decide), fun _ _ h => absurd h (by decide), fun h => absurd h (by decide), fun h => absurd h (by decide)⟩
  · rw [if_neg h0]
    obtain ⟨hx, hv, hl⟩ := hr.pos (by omega)
    obtain ⟨k1, k2, k3⟩ := rb2_le (rbest1 gs).2.1 gs 9223372036854775807
    refine ⟨hle, fun h => absurd h h0, fun _ => hv, fun x hx' _ => ?_, fun _ => k2, fun _ => ?_⟩
    · simp only at hx' ⊢
      have := hle x
      rcases Nat.lt_or_eq_of_le this with h | h
      · exact h
      · obtain ⟨g, hg, _, h1, h2⟩ := down_to_lo (gs := gs) (x := x) (by omega)
        have := hl g hg (by have := hr.ge g hg; omega)
        omega
    · simp only
      rcases k3 with k3 | k3
      · obtain ⟨g, hg, h1, h2⟩ := has_lo (gs := gs) (x := (rbest1 gs).2.1) (by omega)
        have hh : hasG (rbest1 gs).2.1 g = true := by unfold hasG; simp [h1, h2]
        have := k2 g hg hh
        have := hmax g hg
        exact ⟨g, hg, hh, by omega⟩
      · exact k3

theorem refBest_perm {gs gs' : List (Int × Int)} (hp : gs.Perm gs') (hmax : ∀ g ∈ gs, g.2 ≤ 9223372036854775807) : refBest gs = refBest gs' := by
  obtain ⟨h1, h2⟩ := (isBest gs hmax).unique hp (isBest gs' fun g hg => hmax g (hp.mem_iff.2 hg))
  exact Prod.ext h1 h2

def inR (g : Int × Int) : Prop := -9223372036854775808 ≤ g.1 ∧ g.1 ≤ 9223372036854775807 ∧ -9223372036854775808 ≤ g.2 ∧ g.2 ≤ 9223372036854775807

def allG : Int × Int := (-9223372036854775808, 9223372036854775807)

/-- A gap more that has all. -/
theorem refBest_more {gs : List (Int × Int)} (hr : ∀ g ∈ gs, inR g) : (refBest (gs ++ [allG])).2 = (refBest gs).2 + 1 ∧ ((refBest gs).2 = 0 ∨ (refBest (gs ++ [allG])).1 = (refBest gs).1) := by
  have hb := isBest gs fun g hg => (hr g hg).2.2.2
  have hb' := isBest (gs ++ [allG]) fun g hg => by
    rcases List.mem_append.1 hg with h | h
    · exact (hr g h).2.2.2
    · simp at h; subst h; exact Int.le_refl _
  have hv : ∀ x, votesL x (gs ++ [allG]) = votesL x gs + (if hasG x allG = true then 1 else 0) := fun x => by
    unfold votesL; rw [List.countP_append]; simp [List.countP_cons]
  by_cases h0 : (refBest gs).2 = 0
  · have hI : IsBest (gs ++ [allG]) allG 1 := by
      have hz : ∀ x, votesL x gs = 0 := fun x => by have := hb.le x; omega
      refine ⟨fun x => by rw [hv, hz]; split <;> omega, fun h => absurd h (by decide), fun _ => by rw [hv, hz]; rfl, fun x hx _ => ?_, fun _ g hg hh => ?_, fun _ => ⟨allG, by simp, by decide, rfl⟩⟩
      · rw [hv, hz, if_neg]
        · omega
        · unfold hasG allG; unfold allG at hx; simp only at hx; simp; omega
      · rcases List.mem_append.1 hg with h | h
        · have : 0 < votesL allG.1 gs := List.countP_pos_iff.2 ⟨g, h, hh⟩
          rw [hz] at this; omega
        · simp at h; subst h; exact Int.le_refl _
    obtain ⟨e1, e2⟩ := hb'.unique (List.Perm.refl _) hI
    exact ⟨by omega, .inl h0⟩
  · have hpos : 0 < (refBest gs).2 := by omega
    obtain ⟨g, hg, hh, he⟩ := hb.at_ hpos
    have hin : -9223372036854775808 ≤ (refBest gs).1.1 ∧ (refBest gs).1.1 ≤ 9223372036854775807 := by
      have := hr g hg
      unfold inR at this
      unfold hasG at hh
      simp at hh
      omega
    have hI : IsBest (gs ++ [allG]) (refBest gs).1 ((refBest gs).2 + 1) := by
      refine ⟨fun x => by rw [hv]; have := hb.le x; split <;> omega, fun h => absurd h (by omega), fun _ => ?_, fun x hx _ => ?_, fun _ g' hg' hh' => ?_, fun _ => ⟨g, by simp [hg], hh, he⟩⟩
      · rw [hv, hb.has hpos, if_pos]
        unfold hasG allG; simp; exact hin
      · rw [hv]; have := hb.least x hx hpos; split <;> omega
      · rcases List.mem_append.1 hg' with h | h
        · exact hb.hi hpos g' h hh'
        · simp at h; subst h
          have := (hr g hg).2.2.2
          show (refBest gs).1.2 ≤ 9223372036854775807
          omega
    obtain ⟨e1, e2⟩ := hb'.unique (List.Perm.refl _) hI
    exact ⟨e2, .inr e1⟩

/-- The order makes no difference to Without. -/
theorem refWithout_perm {gs gs' : List (Int × Int)} (hp : gs.Perm gs') (f : Int) : refWithout f gs = refWithout f gs' := by
  have hv : ∀ x, votesL x gs = votesL x gs' := fun x => hp.countP_eq _
  have hrt : rightL gs = rightL gs' := hp.countP_eq _
  have hw : rwAll f gs = rwAll f gs' := by
    obtain ⟨a1, a2, a3, a4, a5, a6⟩ := rwAll_inv f gs
    obtain ⟨b1, b2, b3, b4, b5, b6⟩ := rwAll_inv f gs'
    generalize rwAll f gs = s at *
    generalize rwAll f gs' = t at *
    refine Prod.ext (Int.le_antisymm ?_ ?_) (Int.le_antisymm ?_ ?_)
    · rcases b5 with h | ⟨g, hg, ho, hq, h⟩
      · omega
      · have := a1 g (hp.mem_iff.2 hg) ho (by rw [hv, hrt]; exact hq); omega
    · rcases a5 with h | ⟨g, hg, ho, hq, h⟩
      · omega
      · have := b1 g (hp.mem_iff.1 hg) ho (by rw [← hv, ← hrt]; exact hq); omega
    · rcases a6 with h | ⟨g, hg, ho, hq, h⟩
      · omega
      · have := b2 g (hp.mem_iff.1 hg) ho (by rw [← hv, ← hrt]; exact hq); omega
    · rcases b6 with h | ⟨g, hg, ho, hq, h⟩
      · omega
      · have := a2 g (hp.mem_iff.2 hg) ho (by rw [hv, hrt]; exact hq); omega
  unfold refWithout
  rw [hrt, hw]

theorem refAgree_perm {gs gs' : List (Int × Int)} (hp : gs.Perm gs') (hmax : ∀ g ∈ gs, g.2 ≤ 9223372036854775807) : refAgree gs = refAgree gs' := by
  unfold refAgree
  rw [refBest_perm hp hmax, hp.length_eq]

end Go.Proofs.Ytljkijolehalcaa
