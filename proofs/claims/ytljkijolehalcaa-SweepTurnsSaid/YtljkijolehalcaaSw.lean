/- Sweep: the plain law: Best is the document's Best. No condition. -/
import Derived.Test.YtljkijolehalcaaSv
namespace Go.Proofs.Ytljkijolehalcaa

theorem best_eq (gs : List (Int × Int)) (hmax : ∀ g ∈ gs, g.2 ≤ 9223372036854775807) : bestL gs = ((refBest gs).1, ((refBest gs).2 : Int)) := by
  have hs := sortE_sorted (edgesL gs)
  have hp := sortE_perm (edgesL gs)
  have hb := BInv.all (sortE (edgesL gs)) _ (Nat.le_refl _)
  have hl : (sortE (edgesL gs)).length = 2 * rightL gs := by rw [sortE_len, edgesL_len]
  have hr := rbest1_inv gs
  have e1 : bFold (upto (walkF (sortE (edgesL gs))) (sortE (edgesL gs)).length) = bestB gs := by rw [hl]; rfl
  rw [e1] at hb
  have hm := most_eq hs hp hb hr
  unfold bestL refBest
  by_cases h0 : (rbest1 gs).1 = 0
  · rw [if_pos h0, hb.zero (by omega)]
    rfl
  · rw [if_neg h0, hm, lo_eq hs hp hb hr (by omega), hi_eq hs hp hb hr (by omega) hmax]

theorem agree_eq (gs : List (Int × Int)) (hmax : ∀ g ∈ gs, g.2 ≤ 9223372036854775807) : agreeL gs = refAgree gs := by
  unfold agreeL refAgree
  rw [best_eq gs hmax]
  simp only
  by_cases h : (refBest gs).2 = gs.length
  · rw [h]; simp
  · have h1 : ((refBest gs).2 == gs.length) = false := by simpa using h
    have h2 : decide (((refBest gs).2 : Int) = gs.length) = false := by simp; omega
    rw [h1, h2]; simp

end Go.Proofs.Ytljkijolehalcaa
