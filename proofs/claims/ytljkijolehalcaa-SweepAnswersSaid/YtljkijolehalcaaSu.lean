/- Sweep: the plain law, ninth part: the least end. No condition. -/
import Derived.Test.YtljkijolehalcaaSt
namespace Go.Proofs.Ytljkijolehalcaa

theorem rb2_fold (lo : Int) : ∀ (l : List (Int × Int)) (h : Int), (l.foldl (rb2 lo) h ≤ h) ∧ (∀ g ∈ l, okG g = true → g.1 ≤ lo → lo ≤ g.2 → l.foldl (rb2 lo) h ≤ g.2) ∧
    (l.foldl (rb2 lo) h = h ∨ ∃ g ∈ l, okG g = true ∧ g.1 ≤ lo ∧ lo ≤ g.2 ∧ l.foldl (rb2 lo) h = g.2)
  | [], h => ⟨Int.le_refl _, fun g hg => by simp at hg, .inl rfl⟩
  | g :: l, h => by
    rw [List.foldl_cons]
    obtain ⟨h1, h2, h3⟩ := rb2_fold lo l (rb2 lo h g)
    have hle : rb2 lo h g ≤ h := by unfold rb2; split <;> omega
    refine ⟨Int.le_trans h1 hle, fun g' hg' a b c => ?_, ?_⟩
    · rcases List.mem_cons.1 hg' with rfl | h'
      · refine Int.le_trans h1 ?_
        unfold rb2
        rw [if_pos ⟨a, b, c⟩]
        omega
      · exact h2 g' h' a b c
    · rcases h3 with h3 | ⟨g', h', h3⟩
      · rw [h3]
        unfold rb2
        split
        · rename_i hc
          rcases Int.le_total h g.2 with hh | hh
          · left; omega
          · right; exact ⟨g, by simp, hc.1, hc.2.1, hc.2.2, by omega⟩
        · exact .inl rfl
      · exact .inr ⟨g', by simp [h'], h3⟩

end Go.Proofs.Ytljkijolehalcaa
