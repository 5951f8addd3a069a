/- Sweep: the plain law, third part: what the document's Best has found. No condition. -/
import Derived.Test.YtljkijolehalcaaSn
namespace Go.Proofs.Ytljkijolehalcaa

structure RInv (gs l : List (Int × Int)) (s : Nat × (Int × Int)) : Prop where
  ge : ∀ g ∈ l, votesL g.1 gs ≤ s.1
  pos : 0 < s.1 → (∃ g ∈ l, g.1 = s.2.1) ∧ votesL s.2.1 gs = s.1 ∧ ∀ g ∈ l, votesL g.1 gs = s.1 → s.2.1 ≤ g.1

theorem RInv.step {gs l : List (Int × Int)} {s : Nat × (Int × Int)} (h : RInv gs l s) (g : Int × Int) : RInv gs (l ++ [g]) (rb1 gs s g) := by
  obtain ⟨m, x, y⟩ := s
  obtain ⟨hge, hpos⟩ := h
  simp only at hge hpos
  unfold rb1
  split
  · rename_i hc
    simp only at hc
    refine ⟨fun g' hg' => ?_, fun h0 => ⟨⟨g, by simp, rfl⟩, rfl, fun g' hg' hv => ?_⟩⟩
    · rcases List.mem_append.1 hg' with h | h
      · have := hge g' h; show votesL g'.1 gs ≤ votesL g.1 gs; omega
      · simp at h; subst h; exact Nat.le_refl _
    · show g.1 ≤ g'.1
      rcases List.mem_append.1 hg' with h | h
      · have h1 := hge g' h
        simp only at hv
        rcases hc with hc | ⟨hc1, hc2, hc3⟩
        · omega
        · have := (hpos (by omega)).2.2 g' h (by omega); omega
      · simp at h; subst h; omega
  · rename_i hc
    simp only at hc
    refine ⟨fun g' hg' => ?_, fun h0 => ?_⟩
    · rcases List.mem_append.1 hg' with h | h
      · exact hge g' h
      · simp at h; subst h; show votesL g'.1 gs ≤ m; omega
    · simp only at h0
      obtain ⟨⟨g1, h1, h2⟩, h3, h4⟩ := hpos h0
      refine ⟨⟨g1, by simp [h1], h2⟩, h3, fun g' hg' hv => ?_⟩
      rcases List.mem_append.1 hg' with h | h
      · exact h4 g' h hv
      · simp at h; subst h; simp only at hv ⊢; omega

theorem RInv.all (gs : List (Int × Int)) : ∀ (l p : List (Int × Int)) (s : Nat × (Int × Int)), RInv gs p s → RInv gs (p ++ l) (l.foldl (rb1 gs) s)
  | [], p, s, h => by simpa using h
  | g :: l, p, s, h => by
    have := RInv.all gs l (p ++ [g]) _ (h.step g)
    simpa using this

theorem rbest1_inv (gs : List (Int × Int)) : RInv gs gs (rbest1 gs) := by
  have := RInv.all gs gs [] (0, (0, 0)) ⟨fun g h => by simp at h, fun h => absurd h (by decide)⟩
  rw [List.nil_append] at this
  exact this

end Go.Proofs.Ytljkijolehalcaa
