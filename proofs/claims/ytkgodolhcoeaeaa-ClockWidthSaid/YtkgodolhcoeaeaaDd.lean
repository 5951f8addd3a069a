/- Drift: bits.Len64, LeadingZeros64 and Div64 walked, at divisors from 900000 to 1100000. No condition. -/
import Derived.Test.YtkgodolhcoeaeaaDc
import Derived.Test.YtkgodolhcoeaeaaKtri
import Derived.Test.YtkgodolhcoeaeaaKext
import Derived.Test.YtkgodolhcoeaeaaProg
namespace Go.Proofs.Ytkgodolhcoeaeaa
open Go.RowKit

def len64 (y : Int) : Int := if y < 1048576 then 20 else 21

set_option maxRecDepth 100000 in
set_option maxHeartbeats 2000000 in
theorem len64_walk (y : Int) (h0 : 900000 ≤ y) (h1 : y ≤ 1100000) (w : World) : Calls Try.prog 55 #[.int .u64 y] w fun e w' => e = .returned (.int .i64 (len64 y)) ∧ w' = w := by
  go_enter Try.func55, Try.ntmps55
  have e1 : decide (y ≥ 4294967296) = false := by simp; omega
  have e2 : decide (y ≥ 65536) = true := by simp; omega
  have e3 : decide (y / 65536 ≥ 256) = false := by simp; omega
  have hy : y / 65536 = 13 ∨ y / 65536 = 14 ∨ y / 65536 = 15 ∨ y / 65536 = 16 := by omega
  have hl : len64 y = if y / 65536 = 16 then 21 else 20 := by unfold len64; split <;> split <;> omega
  rw [hl]
  clear hl
  rcases hy with hy | hy | hy | hy
  all_goals
    go_wp2_with fail
    go_ret
    exact ⟨by simp [hy]; kernel_rfl, rfl⟩

theorem lead64 (y : Int) (h0 : 900000 ≤ y) (h1 : y ≤ 1100000) (w : World) : Calls Try.prog 52 #[.int .u64 y] w fun e w' => e = .returned (.int .i64 (64 - len64 y)) ∧ w' = w := by
  have hl : len64 y = 20 ∨ len64 y = 21 := by unfold len64; split <;> simp
  go_enter Try.func52, Try.ntmps52
  go_wp2_with fail
  refine (len64_walk y h0 h1 _).mono ?_
  rintro e w' ⟨rfl, rfl⟩
  generalize hkk : len64 y = k at *
  have hk : 20 ≤ k ∧ k ≤ 21 := by omega
  obtain ⟨k1, k2⟩ := hk
  go_wp2_with fail
  go_ret
  exact ⟨by rw [hkk]; rfl, rfl⟩

set_option maxRecDepth 100000 in
set_option maxHeartbeats 4000000 in
theorem div64_0 (lo y : Int) (h0 : 900000 ≤ y) (h1 : y ≤ 1100000) (hl : 0 ≤ lo) (hl1 : lo < 18446744073709551616) (w : World) :
    Calls Try.prog 43 #[.int .u64 0, .int .u64 lo, .int .u64 y] w fun e w' => e = .returned (.tuple #[.int .u64 (lo / y), .int .u64 (lo % y)]) ∧ ∃ q, w' = w.drewN q := by
  have y0 : (y == 0) = false := by simp; omega
  have y1 : decide (y ≤ 0) = false := by simp; omega
  have yn : ¬ y = 0 := by omega
  go_enter Try.func43, Try.ntmps43
  go_wp2_with fail
  go_quiet (fail)
  go_wp2_with fail
  go_ret2
  exact ⟨rfl, nq, rfl⟩

end Go.Proofs.Ytkgodolhcoeaeaa
