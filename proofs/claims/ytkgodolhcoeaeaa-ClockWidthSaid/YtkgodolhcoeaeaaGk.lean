/- Clock: Agree walked. No condition. -/
import Derived.Test.YtkgodolhcoeaeaaGi
namespace Go.Proofs.Ytkgodolhcoeaeaa
open Go.RowKit

def agreeL (gs : List (Int × Int)) : Bool := decide (0 < (bestL gs).2) && decide ((bestL gs).2 = gs.length)

set_option maxHeartbeats 4000000 in
theorem agree15 (A : Option Addr) (n c : Nat) (gs : List (Int × Int)) (w : World) (hn : n = gs.length) (hn2 : n ≤ 1000) (hG : GapsIn w A gs) :
    Calls Try.prog 41 #[.slice A n c] w fun e w' => e = .returned (.bool (agreeL gs)) ∧ Below w.heap.size w w' := by
  have hre : agreeL gs = (decide (0 < (bestL gs).2) && decide ((bestL gs).2 = n)) := by unfold agreeL; rw [hn]
  have hc := best8 A n c gs w hn hn2 hG
  rw [hre]
  clear hG hn hre
  generalize (bestL gs).2 = m at *
  generalize (bestL gs).1 = g at *
  obtain ⟨x, y⟩ := g
  unfold encG at hc
  go_enter Try.func41, Try.ntmps41
  go_wp2_with fail
  refine hc.mono ?_
  rintro e w2 ⟨rfl, hB⟩
  have HB := Lib.hid hB
  clear hc hB
  by_cases h1 : 0 < m
  · by_cases h2 : m = n
    · subst h2
      go_wp2_with fail
      go_ret
      exact ⟨by simp, HB.out.alloc HB.out.size _⟩
    · have h3 : (m == (n : Int)) = false := by simpa using h2
      go_wp2_with fail
      go_ret
      exact ⟨by simp [h2], HB.out.alloc HB.out.size _⟩
  · go_wp2_with fail
    go_ret
    exact ⟨by simp; omega, HB.out.alloc HB.out.size _⟩

end Go.Proofs.Ytkgodolhcoeaeaa
