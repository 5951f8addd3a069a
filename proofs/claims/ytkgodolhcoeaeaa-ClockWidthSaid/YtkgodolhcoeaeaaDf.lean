/- Drift: safe.Ratio and what it calls, walked. No condition. -/
import Derived.Test.YtkgodolhcoeaeaaDe
import Derived.Test.YtkgodolhcoeaeaaDl
import Derived.Test.YtkgodolhcoeaeaaDa
import Derived.Shelf.Spec.BitsCarry
namespace Go.Proofs.Ytkgodolhcoeaeaa
open Go.RowKit Go.Shelf

theorem add64_run (x : Int) (h0 : 0 ≤ x) (h1 : x < 9223372036854775808) (w : World) :
    (callFunc 44 #[.int .u64 x, .int .u64 1, .int .u64 0]).run Try.prog w = .ok (.value (.tuple #[.int .u64 (x + 1), .int .u64 0])) w := by
  have h := run_callFunc_extern (P := Try.prog) Try.func44 (by kernel_rfl) (by kernel_rfl) (by kernel_rfl) (e := add64Entry) (by kernel_rfl) (args := #[.int .u64 x, .int .u64 1, .int .u64 0]) (w := w)
  rw [h, run_add64 x 1 0 (by omega) (by omega) (by omega) (by omega)]
  rw [show (x + 1 + 0) % 18446744073709551616 = x + 1 by omega, show (x + 1 + 0) / 18446744073709551616 = 0 by omega]
  rfl

theorem mul64 (x y : Int) (hx0 : 0 ≤ x) (hx : x < 18446744073709551616) (hy0 : 0 ≤ y) (hy : y < 18446744073709551616) (w : World) :
    Calls Try.prog 51 #[.int .u64 x, .int .u64 y] w fun e w' => e = .returned (.tuple #[.int .u64 (x * y / 18446744073709551616), .int .u64 (x * y % 18446744073709551616)]) ∧ w' = w := by
  obtain ⟨n, rfl⟩ := Int.eq_ofNat_of_zero_le hx0
  obtain ⟨m, rfl⟩ := Int.eq_ofNat_of_zero_le hy0
  exact Any.bits_Mul64 Try.mul64 n m (by omega) (by omega) w

theorem magnitude (x : Int) (h0 : 0 ≤ x) (h1 : x < 9223372036854775808) (w : World) : Calls Try.prog 50 #[.int .i64 x] w fun e w' => e = .returned (.tuple #[.int .u64 x, .bool false]) ∧ w' = w := by
  have hd : decide (x < 0) = false := by simp; omega
  go_enter Try.func50, Try.ntmps50
  go_wp2_with fail
  go_ret2
  exact ⟨rfl, rfl⟩

set_option maxHeartbeats 2000000 in
theorem product (x y : Int) (hx0 : 0 ≤ x) (hx : x < 9223372036854775808) (hy0 : 0 ≤ y) (hy : y < 9223372036854775808) (w : World) :
    Calls Try.prog 42 #[.int .i64 x, .int .i64 y] w fun e w' => e = .returned (.tuple #[.agg #[.int .u64 (x * y / 18446744073709551616), .int .u64 (x * y % 18446744073709551616)], .bool false]) ∧ Below w.heap.size w w' := by
  have hm := fun w => mul64 x y hx0 (by omega) hy0 (by omega) w
  generalize x * y / 18446744073709551616 = p at *
  generalize x * y % 18446744073709551616 = q at *
  go_enter Try.func42, Try.ntmps42
  go_wp2_with fail
  refine (magnitude x hx0 hx _).mono ?_
  rintro e w1 ⟨rfl, rfl⟩
  go_wp2_with fail
  refine (magnitude y hy0 hy _).mono ?_
  rintro e w1 ⟨rfl, rfl⟩
  go_wp2_with fail
  refine (hm _).mono ?_
  rintro e w1 ⟨rfl, rfl⟩
  go_wp2_with fail
  have p4 : (w.alloc (.cells #[.int .u64 p, .int .u64 q] 70)).cell? ⟨w.heap.size, 0, none⟩ = some (.int .u64 p) := by simp
  have p5 : (w.alloc (.cells #[.int .u64 p, .int .u64 q] 70)).cell? ⟨w.heap.size, 1, none⟩ = some (.int .u64 q) := by simp
  exact bodyPost_ret (v := .tuple #[.agg #[.int .u64 p, .int .u64 q], .bool false]) (by simp [results, Try.results42, go_sem, p4, p5]) rfl ⟨rfl, (Below.refl _ w).alloc (Nat.le_refl _) _⟩

theorem long_walk (q : Int) (h0 : 0 ≤ q) (h1 : q < 9223372036854775808) (w : World) :
    Calls Try.prog 45 #[.agg #[.int .u64 0, .int .u64 q], .bool false] w fun e w' => e = .returned (.tuple #[.int .i64 q, .int .i64 0]) ∧ Below w.heap.size w w' := by
  have d1 : decide (q > 9223372036854775808) = false := by simp; omega
  have d2 : (q == 9223372036854775808) = false := by simp; omega
  go_enter Try.func45, Try.ntmps45
  go_wp2_with fail
  go_ret2
  exact ⟨rfl, (Below.refl _ w).alloc (Nat.le_refl _) _⟩

theorem div64 (hi lo y N : Int) (h0 : 900000 ≤ y) (h1 : y ≤ 1100000) (hh : 0 ≤ hi) (hh1 : hi < y) (hl : 0 ≤ lo) (hl1 : lo < 18446744073709551616) (hN : hi * 18446744073709551616 + lo = N) (w : World) :
    Calls Try.prog 43 #[.int .u64 hi, .int .u64 lo, .int .u64 y] w fun e w' => e = .returned (.tuple #[.int .u64 (N / y), .int .u64 (N % y)]) ∧ ∃ q, w' = w.drewN q := by
  subst hN
  by_cases hz : hi = 0
  · subst hz
    rw [Int.zero_mul, Int.zero_add]
    exact div64_0 lo y h0 h1 hl hl1 w
  · by_cases hy : y < 1048576
    · exact (div64_44 hi lo y h0 h1 hy (by omega) hh1 hl hl1 w).mono fun e w' ⟨a, b⟩ => ⟨a, 0, b⟩
    · exact (div64_43 hi lo y h0 h1 (by omega) (by omega) hh1 hl hl1 w).mono fun e w' ⟨a, b⟩ => ⟨a, 0, b⟩

def ratioL (a b c : Int) (up : Bool) : Int := if up = true then cdiv (a * b) c else a * b / c

set_option maxHeartbeats 4000000 in
theorem ratio (a b c : Int) (up : Bool) (ha0 : 0 ≤ a) (ha : a ≤ 4611686018427387905) (hb0 : 0 ≤ b) (hb : b ≤ 1000000) (hc0 : 900000 ≤ c) (hc : c ≤ 1100000) (w : World) :
    Calls Try.prog 33 #[.int .i64 a, .int .i64 b, .int .i64 c, .bool up] w fun e w' => e = .returned (.tuple #[.int .i64 (ratioL a b c up), .int .i64 0]) ∧ Below w.heap.size w w' := by
  have hp := fun w => product a b ha0 (by omega) hb0 (by omega) w
  have hab0 : 0 ≤ a * b := Int.mul_nonneg ha0 hb0
  have hab : a * b ≤ 4611686018427387905 * 1000000 := Int.mul_le_mul ha hb hb0 (by omega)
  have hr : ratioL a b c up = if up = true ∧ ¬ a * b % c = 0 then a * b / c + 1 else a * b / c := by
    unfold ratioL cdiv
    cases up
    · simp
    · by_cases h : a * b % c = 0 <;> simp [h]
  generalize ratioL a b c up = V at hr ⊢
  generalize a * b = N at *
  have hN : N / 18446744073709551616 * 18446744073709551616 + N % 18446744073709551616 = N := by omega
  have hd := fun w => div64 (N / 18446744073709551616) (N % 18446744073709551616) c N hc0 hc (by omega) (by omega) (by omega) (by omega) hN w
  have hge : decide (N / 18446744073709551616 ≥ c) = false := by simp; omega
  generalize N / 18446744073709551616 = hi at *
  generalize N % 18446744073709551616 = lo at *
  have hq0 : 0 ≤ N / c := Int.ediv_nonneg hab0 (by omega)
  have hq1 : N / c < 9223372036854775806 := Int.ediv_lt_of_lt_mul (by omega) (by omega)
  have hr0 : 0 ≤ N % c := Int.emod_nonneg N (by omega)
  generalize N / c = Q at *
  generalize N % c = R at *
  have HV := Lib.hid hr
  clear hr
  have hc1 : decide (c < 1) = false := by simp; omega
  clear hN hab hab0
  go_enter Try.func33, Try.ntmps33
  go_wp2_with fail
  refine (hp _).mono ?_
  rintro e w1 ⟨rfl, hB1⟩
  have HB1 := Lib.hid hB1
  clear hB1 hp
  go_wp2_with fail
  refine (hd _).mono ?_
  rintro e w2 ⟨rfl, nq, rfl⟩
  have HB2 : Hid (Below w.heap.size w ((w1.alloc (.cells #[.int .u64 hi, .int .u64 lo] 70)).drewN nq)) := Lib.hid (by
    have h := HB1.out.alloc HB1.out.size (.cells #[.int .u64 hi, .int .u64 lo] 70)
    exact ⟨h.os, h.tape, h.output, h.size, h.block⟩)
  generalize (w1.alloc (.cells #[.int .u64 hi, .int .u64 lo] 70)).drewN nq = w3 at *
  clear hd HB1
  by_cases hR : R = 0
  · subst hR
    go_wp2_with fail
    refine (long_walk Q hq0 (by omega) _).mono ?_
    rintro e w4 ⟨rfl, hB4⟩
    have HB4 := Lib.hid (HB2.out.trans (hB4.mono HB2.out.size))
    clear hB4
    go_wp2_with fail
    go_ret2
    have hV : V = Q := by have := HV.out; simpa using this
    exact ⟨by rw [hV]; rfl, HB4.out⟩
  · have hR' : (R != 0) = true := by simpa using hR
    cases up
    · go_wp2_with fail
      refine (long_walk Q hq0 (by omega) _).mono ?_
      rintro e w4 ⟨rfl, hB4⟩
      have HB4 := Lib.hid (HB2.out.trans (hB4.mono HB2.out.size))
      clear hB4
      go_wp2_with fail
      go_ret2
      have hV : V = Q := by have := HV.out; simpa using this
      exact ⟨by rw [hV]; rfl, HB4.out⟩
    · go_wp2_with (simp only [add64_run Q hq0 (by omega)])
      refine (long_walk (Q + 1) (by omega) (by omega) _).mono ?_
      rintro e w4 ⟨rfl, hB4⟩
      have HB4 := Lib.hid (HB2.out.trans (hB4.mono HB2.out.size))
      clear hB4
      go_wp2_with fail
      go_ret2
      have hV : V = Q + 1 := by have := HV.out; simpa [hR] using this
      exact ⟨by rw [hV]; rfl, HB4.out⟩

end Go.Proofs.Ytkgodolhcoeaeaa
