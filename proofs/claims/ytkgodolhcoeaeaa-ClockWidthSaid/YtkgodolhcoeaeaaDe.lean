/- Drift: bits.Div64 walked, at divisors from 900000 to 1100000. No condition. -/
import Derived.Test.YtkgodolhcoeaeaaDd
import Derived.Laws.Bits64b
namespace Go.Proofs.Ytkgodolhcoeaeaa
open Go.RowKit

theorem wrapm (x : Int) : IntKind.u64.wrap x = x % 18446744073709551616 := by simp [IntKind.wrap, IntKind.signed, IntKind.bits]
theorem wrapu {x : Int} (h0 : 0 ≤ x) (h1 : x < 18446744073709551616) : IntKind.u64.wrap x = x := by rw [wrapm]; omega

theorem and32 {x : Int} (h0 : 0 ≤ x) (h1 : x < 18446744073709551616) : bits .and .u64 x 4294967295 = x % 4294967296 := by
  obtain ⟨n, rfl⟩ := Int.eq_ofNat_of_zero_le h0
  have := bits_and_u64_nat n 4294967295 (by omega) (by omega)
  rw [show ((4294967295 : Nat) : Int) = 4294967295 from rfl] at this
  rw [this, show (4294967295 : Nat) = 2 ^ 32 - 1 from rfl, Nat.and_two_pow_sub_one_eq_mod]
  rfl

theorem or_44 {a b : Int} (h0 : 0 ≤ a) (h1 : a * 17592186044416 < 18446744073709551616) (h2 : 0 ≤ b) (h3 : b < 17592186044416) : bits .or .u64 (a * 17592186044416) b = a * 17592186044416 + b := by
  obtain ⟨n, rfl⟩ := Int.eq_ofNat_of_zero_le h0
  obtain ⟨m, rfl⟩ := Int.eq_ofNat_of_zero_le h2
  have := bits_or_u64_nat (2 ^ 44 * n) m (by omega) (by omega)
  rw [← Nat.two_pow_add_eq_or_of_lt (by omega)] at this
  rw [show (n : Int) * 17592186044416 = ((2 ^ 44 * n : Nat) : Int) by omega, this]
  omega

theorem or_43 {a b : Int} (h0 : 0 ≤ a) (h1 : a * 8796093022208 < 18446744073709551616) (h2 : 0 ≤ b) (h3 : b < 8796093022208) : bits .or .u64 (a * 8796093022208) b = a * 8796093022208 + b := by
  obtain ⟨n, rfl⟩ := Int.eq_ofNat_of_zero_le h0
  obtain ⟨m, rfl⟩ := Int.eq_ofNat_of_zero_le h2
  have := bits_or_u64_nat (2 ^ 43 * n) m (by omega) (by omega)
  rw [← Nat.two_pow_add_eq_or_of_lt (by omega)] at this
  rw [show (n : Int) * 8796093022208 = ((2 ^ 43 * n : Nat) : Int) by omega, this]
  omega

set_option maxRecDepth 100000 in
set_option maxHeartbeats 8000000 in
theorem div64_44 (hi lo y : Int) (h0 : 900000 ≤ y) (h1 : y ≤ 1100000) (hy : y < 1048576) (hh : 0 < hi) (hh1 : hi < y) (hl : 0 ≤ lo) (hl1 : lo < 18446744073709551616) (w : World) :
    Calls Try.prog 43 #[.int .u64 hi, .int .u64 lo, .int .u64 y] w fun e w' => e = .returned (.tuple #[.int .u64 ((hi * 18446744073709551616 + lo) / y), .int .u64 ((hi * 18446744073709551616 + lo) % y)]) ∧ w' = w := by
  have y0 : (y == 0) = false := by simp; omega
  have y1 : decide (y ≤ hi) = false := by simp; omega
  have z0 : (hi == 0) = false := by simp; omega
  have f1 : bits .and .u64 (y * 17592186044416) 4294967295 = 0 := by rw [and32 (by omega) (by omega)]; omega
  have f2 : bits .or .u64 (hi * 17592186044416) (lo / 1048576) = hi * 17592186044416 + lo / 1048576 := or_44 (by omega) (by omega) (by omega) (by omega)
  obtain ⟨U, hU⟩ : ∃ U, hi * 17592186044416 + lo / 1048576 = U := ⟨_, rfl⟩
  rw [hU] at f2
  obtain ⟨Y, hY⟩ : ∃ Y, y * 4096 = Y := ⟨_, rfl⟩
  have f3 : y * 17592186044416 / 4294967296 = Y := by omega
  have hU0 : 0 ≤ U := by omega
  have hUY : U < Y * 4294967296 := by omega
  have hY0 : 0 < Y := by omega
  obtain ⟨q1, hq1⟩ : ∃ q, U / Y = q := ⟨_, rfl⟩
  have f4 : U.tdiv Y = q1 := by rw [Int.tdiv_eq_ediv_of_nonneg hU0]; exact hq1
  have g1 : 0 ≤ q1 := by rw [← hq1]; exact Int.ediv_nonneg hU0 (by omega)
  have g2 : q1 < 4294967296 := by rw [← hq1]; exact Int.ediv_lt_of_lt_mul hY0 (by omega)
  have hdm := Int.mul_ediv_add_emod U Y
  have hm0 := Int.emod_nonneg U (show Y ≠ 0 by omega)
  have hm1 := Int.emod_lt_of_pos U hY0
  rw [hq1] at hdm
  obtain ⟨rh, hrh⟩ : ∃ r, U % Y = r := ⟨_, rfl⟩
  rw [hrh] at hdm hm0 hm1
  obtain ⟨a, ha⟩ : ∃ a, q1 * y = a := ⟨_, rfl⟩
  have hYq : Y * q1 = a * 4096 := by rw [← hY, ← ha, Int.mul_right_comm, Int.mul_comm y q1]
  rw [hYq] at hdm
  have hqY : q1 * Y = a * 4096 := by rw [Int.mul_comm]; exact hYq
  have hqK : q1 * (y * 17592186044416) = a * 17592186044416 := by rw [← Int.mul_assoc, ha]
  have f5 : IntKind.u64.wrap q1 = q1 := wrapu (by omega) (by omega)
  have f6 : IntKind.u64.wrap (q1 * Y) = a * 4096 := by rw [hqY]; exact wrapu (by omega) (by omega)
  have f7 : IntKind.u64.wrap (U - a * 4096) = rh := by rw [show U - a * 4096 = rh by omega]; exact wrapu (by omega) (by omega)
  obtain ⟨V1, hV1⟩ : ∃ V, lo % 1048576 * 4096 = V := ⟨_, rfl⟩
  have f8 : IntKind.u64.wrap (lo * 17592186044416) = V1 * 4294967296 := by rw [wrapm]; omega
  have f9 : V1 * 4294967296 / 4294967296 = V1 := by omega
  have f10 : bits .and .u64 (V1 * 4294967296) 4294967295 = 0 := by rw [and32 (by omega) (by omega)]; omega
  have f11 : IntKind.u64.wrap (4294967296 * rh) = 4294967296 * rh := wrapu (by omega) (by omega)
  obtain ⟨T, hT⟩ : ∃ T, 4294967296 * rh + V1 = T := ⟨_, rfl⟩
  have g3 : 0 ≤ T := by omega
  have g4 : T < Y * 4294967296 := by omega
  have f12 : IntKind.u64.wrap (4294967296 * rh + V1) = T := by rw [hT]; exact wrapu (by omega) (by omega)
  have f13 : decide (q1 ≥ 4294967296) = false := by simp; omega
  have f14 : decide (0 > T) = false := by simp; omega
  obtain ⟨A1, hA1⟩ : ∃ A, IntKind.u64.wrap (U * 4294967296) = A := ⟨_, rfl⟩
  obtain ⟨A2, hA2⟩ : ∃ A, IntKind.u64.wrap (A1 + V1) = A := ⟨_, rfl⟩
  obtain ⟨B1, hB1⟩ : ∃ B, IntKind.u64.wrap (q1 * (y * 17592186044416)) = B := ⟨_, rfl⟩
  have f15 : IntKind.u64.wrap (A2 - B1) = T := by
    rw [← hA2, ← hA1, ← hB1, hqK, wrapm, wrapm, wrapm, wrapm]; omega
  obtain ⟨q0, hq0⟩ : ∃ q, T / Y = q := ⟨_, rfl⟩
  have f16 : T.tdiv Y = q0 := by rw [Int.tdiv_eq_ediv_of_nonneg g3]; exact hq0
  have g5 : 0 ≤ q0 := by rw [← hq0]; exact Int.ediv_nonneg g3 (by omega)
  have g6 : q0 < 4294967296 := by rw [← hq0]; exact Int.ediv_lt_of_lt_mul hY0 (by omega)
  have hdn := Int.mul_ediv_add_emod T Y
  have hn0 := Int.emod_nonneg T (show Y ≠ 0 by omega)
  have hn1 := Int.emod_lt_of_pos T hY0
  rw [hq0] at hdn
  obtain ⟨r0, hr0⟩ : ∃ r, T % Y = r := ⟨_, rfl⟩
  rw [hr0] at hdn hn0 hn1
  obtain ⟨b, hb⟩ : ∃ b, q0 * y = b := ⟨_, rfl⟩
  have hb0 : 0 ≤ b := by rw [← hb]; exact Int.mul_nonneg g5 (by omega)
  have hYq0 : Y * q0 = b * 4096 := by rw [← hY, ← hb, Int.mul_right_comm, Int.mul_comm y q0]
  rw [hYq0] at hdn
  have hqY0 : q0 * Y = b * 4096 := by rw [Int.mul_comm]; exact hYq0
  have hqK0 : q0 * (y * 17592186044416) = b * 17592186044416 := by rw [← Int.mul_assoc, hb]
  have f17 : IntKind.u64.wrap q0 = q0 := wrapu (by omega) (by omega)
  have f18 : IntKind.u64.wrap (q0 * Y) = b * 4096 := by rw [hqY0]; exact wrapu (by omega) (by omega)
  have f19 : IntKind.u64.wrap (T - b * 4096) = r0 := by rw [show T - b * 4096 = r0 by omega]; exact wrapu (by omega) (by omega)
  have f20 : decide (q0 ≥ 4294967296) = false := by simp; omega
  have f21 : IntKind.u64.wrap (4294967296 * r0) = 4294967296 * r0 := wrapu (by omega) (by omega)
  have f22 : decide (0 > 4294967296 * r0) = false := by simp; omega
  obtain ⟨D1, hD1⟩ : ∃ A, IntKind.u64.wrap (T * 4294967296) = A := ⟨_, rfl⟩
  obtain ⟨E1, hE1⟩ : ∃ B, IntKind.u64.wrap (q0 * (y * 17592186044416)) = B := ⟨_, rfl⟩
  have f23 : IntKind.u64.wrap (D1 - E1) = r0 * 4294967296 := by
    rw [← hD1, ← hE1, hqK0, wrapm, wrapm, wrapm]; omega
  have f24 : IntKind.u64.wrap D1 = D1 := by rw [← hD1, wrapm, wrapm]; omega
  have f25 : IntKind.u64.wrap (q1 * 4294967296) = q1 * 4294967296 := wrapu (by omega) (by omega)
  have f26 : IntKind.u64.wrap (q1 * 4294967296 + q0) = q1 * 4294967296 + q0 := wrapu (by omega) (by omega)
  have f27 : r0 * 4294967296 / 17592186044416 = r0 / 4096 := by omega
  have hres := div44 (hi := hi) (lo := lo) (y := y) (q1 := q1) (rh := rh) (q0 := q0) (r0 := r0) (by rw [ha, hU]; omega) (by rw [hb]; omega) hn0 (by omega)
  have HRES := Lib.hid hres
  have hk : len64 y = 20 := by unfold len64; rw [if_pos hy]
  have e0 : IntKind.u64.wrap (y * 17592186044416) = y * 17592186044416 := wrapu (by omega) (by omega)
  have e1 : IntKind.u64.wrap (hi * 17592186044416) = hi * 17592186044416 := wrapu (by omega) (by omega)
  have e2 : ¬ Y = 0 := by omega
  have g7 : 0 ≤ q1 * 4294967296 + q0 := by omega
  clear hres hU hY hUY hq1 hrh hdm hYq hqY hqK hV1 hT hq0 hr0 hdn hYq0 hqY0 hqK0 hb ha hb0 hh hh1 hl hl1 hU0 hY0 hm0 hm1 hn0 hn1
  go_enter Try.func43, Try.ntmps43
  go_wp2_with fail
  refine (lead64 y h0 h1 _).mono ?_
  rintro e w' ⟨rfl, rfl⟩
  rw [hk]
  clear h0 h1 hy hk
  go_wp2_with fail
  go_loopw [15, 16] (fun q r wr => q = .int .u64 q1 ∧ r = .int .u64 rh ∧ wr = w') (fun _ _ _ => 0)
  case atStart => exact ⟨rfl, rfl, rfl⟩
  case round =>
    obtain ⟨rfl, rfl, rfl⟩ := hrel
    go_wp2_with fail
    go_loopw [18, 16] (fun q r wr' => q = .int .u64 q0 ∧ r = .int .u64 r0 ∧ wr' = wr) (fun _ _ _ => 0)
    case atStart => exact ⟨rfl, rfl, rfl⟩
    case round =>
      obtain ⟨rfl, rfl, rfl⟩ := hrel
      go_wp2_with fail
      go_ret2
      rw [HRES.out.1, HRES.out.2]
      exact ⟨rfl, rfl⟩

set_option maxRecDepth 100000 in
set_option maxHeartbeats 8000000 in
theorem div64_43 (hi lo y : Int) (h0 : 900000 ≤ y) (h1 : y ≤ 1100000) (hy : 1048576 ≤ y) (hh : 0 < hi) (hh1 : hi < y) (hl : 0 ≤ lo) (hl1 : lo < 18446744073709551616) (w : World) :
    Calls Try.prog 43 #[.int .u64 hi, .int .u64 lo, .int .u64 y] w fun e w' => e = .returned (.tuple #[.int .u64 ((hi * 18446744073709551616 + lo) / y), .int .u64 ((hi * 18446744073709551616 + lo) % y)]) ∧ w' = w := by
  have y0 : (y == 0) = false := by simp; omega
  have y1 : decide (y ≤ hi) = false := by simp; omega
  have z0 : (hi == 0) = false := by simp; omega
  have f1 : bits .and .u64 (y * 8796093022208) 4294967295 = 0 := by rw [and32 (by omega) (by omega)]; omega
  have f2 : bits .or .u64 (hi * 8796093022208) (lo / 2097152) = hi * 8796093022208 + lo / 2097152 := or_43 (by omega) (by omega) (by omega) (by omega)
  obtain ⟨U, hU⟩ : ∃ U, hi * 8796093022208 + lo / 2097152 = U := ⟨_, rfl⟩
  rw [hU] at f2
  obtain ⟨Y, hY⟩ : ∃ Y, y * 2048 = Y := ⟨_, rfl⟩
  have f3 : y * 8796093022208 / 4294967296 = Y := by omega
  have hU0 : 0 ≤ U := by omega
  have hUY : U < Y * 4294967296 := by omega
  have hY0 : 0 < Y := by omega
  obtain ⟨q1, hq1⟩ : ∃ q, U / Y = q := ⟨_, rfl⟩
  have f4 : U.tdiv Y = q1 := by rw [Int.tdiv_eq_ediv_of_nonneg hU0]; exact hq1
  have g1 : 0 ≤ q1 := by rw [← hq1]; exact Int.ediv_nonneg hU0 (by omega)
  have g2 : q1 < 4294967296 := by rw [← hq1]; exact Int.ediv_lt_of_lt_mul hY0 (by omega)
  have hdm := Int.mul_ediv_add_emod U Y
  have hm0 := Int.emod_nonneg U (show Y ≠ 0 by omega)
  have hm1 := Int.emod_lt_of_pos U hY0
  rw [hq1] at hdm
  obtain ⟨rh, hrh⟩ : ∃ r, U % Y = r := ⟨_, rfl⟩
  rw [hrh] at hdm hm0 hm1
  obtain ⟨a, ha⟩ : ∃ a, q1 * y = a := ⟨_, rfl⟩
  have hYq : Y * q1 = a * 2048 := by rw [← hY, ← ha, Int.mul_right_comm, Int.mul_comm y q1]
  rw [hYq] at hdm
  have hqY : q1 * Y = a * 2048 := by rw [Int.mul_comm]; exact hYq
  have hqK : q1 * (y * 8796093022208) = a * 8796093022208 := by rw [← Int.mul_assoc, ha]
  have f5 : IntKind.u64.wrap q1 = q1 := wrapu (by omega) (by omega)
  have f6 : IntKind.u64.wrap (q1 * Y) = a * 2048 := by rw [hqY]; exact wrapu (by omega) (by omega)
  have f7 : IntKind.u64.wrap (U - a * 2048) = rh := by rw [show U - a * 2048 = rh by omega]; exact wrapu (by omega) (by omega)
  obtain ⟨V1, hV1⟩ : ∃ V, lo % 2097152 * 2048 = V := ⟨_, rfl⟩
  have f8 : IntKind.u64.wrap (lo * 8796093022208) = V1 * 4294967296 := by rw [wrapm]; omega
  have f9 : V1 * 4294967296 / 4294967296 = V1 := by omega
  have f10 : bits .and .u64 (V1 * 4294967296) 4294967295 = 0 := by rw [and32 (by omega) (by omega)]; omega
  have f11 : IntKind.u64.wrap (4294967296 * rh) = 4294967296 * rh := wrapu (by omega) (by omega)
  obtain ⟨T, hT⟩ : ∃ T, 4294967296 * rh + V1 = T := ⟨_, rfl⟩
  have g3 : 0 ≤ T := by omega
  have g4 : T < Y * 4294967296 := by omega
  have f12 : IntKind.u64.wrap (4294967296 * rh + V1) = T := by rw [hT]; exact wrapu (by omega) (by omega)
  have f13 : decide (q1 ≥ 4294967296) = false := by simp; omega
  have f14 : decide (0 > T) = false := by simp; omega
  obtain ⟨A1, hA1⟩ : ∃ A, IntKind.u64.wrap (U * 4294967296) = A := ⟨_, rfl⟩
  obtain ⟨A2, hA2⟩ : ∃ A, IntKind.u64.wrap (A1 + V1) = A := ⟨_, rfl⟩
  obtain ⟨B1, hB1⟩ : ∃ B, IntKind.u64.wrap (q1 * (y * 8796093022208)) = B := ⟨_, rfl⟩
  have f15 : IntKind.u64.wrap (A2 - B1) = T := by
    rw [← hA2, ← hA1, ← hB1, hqK, wrapm, wrapm, wrapm, wrapm]; omega
  obtain ⟨q0, hq0⟩ : ∃ q, T / Y = q := ⟨_, rfl⟩
  have f16 : T.tdiv Y = q0 := by rw [Int.tdiv_eq_ediv_of_nonneg g3]; exact hq0
  have g5 : 0 ≤ q0 := by rw [← hq0]; exact Int.ediv_nonneg g3 (by omega)
  have g6 : q0 < 4294967296 := by rw [← hq0]; exact Int.ediv_lt_of_lt_mul hY0 (by omega)
  have hdn := Int.mul_ediv_add_emod T Y
  have hn0 := Int.emod_nonneg T (show Y ≠ 0 by omega)
  have hn1 := Int.emod_lt_of_pos T hY0
  rw [hq0] at hdn
  obtain ⟨r0, hr0⟩ : ∃ r, T % Y = r := ⟨_, rfl⟩
  rw [hr0] at hdn hn0 hn1
  obtain ⟨b, hb⟩ : ∃ b, q0 * y = b := ⟨_, rfl⟩
  have hb0 : 0 ≤ b := by rw [← hb]; exact Int.mul_nonneg g5 (by omega)
  have hYq0 : Y * q0 = b * 2048 := by rw [← hY, ← hb, Int.mul_right_comm, Int.mul_comm y q0]
  rw [hYq0] at hdn
  have hqY0 : q0 * Y = b * 2048 := by rw [Int.mul_comm]; exact hYq0
  have hqK0 : q0 * (y * 8796093022208) = b * 8796093022208 := by rw [← Int.mul_assoc, hb]
  have f17 : IntKind.u64.wrap q0 = q0 := wrapu (by omega) (by omega)
  have f18 : IntKind.u64.wrap (q0 * Y) = b * 2048 := by rw [hqY0]; exact wrapu (by omega) (by omega)
  have f19 : IntKind.u64.wrap (T - b * 2048) = r0 := by rw [show T - b * 2048 = r0 by omega]; exact wrapu (by omega) (by omega)
  have f20 : decide (q0 ≥ 4294967296) = false := by simp; omega
  have f21 : IntKind.u64.wrap (4294967296 * r0) = 4294967296 * r0 := wrapu (by omega) (by omega)
  have f22 : decide (0 > 4294967296 * r0) = false := by simp; omega
  obtain ⟨D1, hD1⟩ : ∃ A, IntKind.u64.wrap (T * 4294967296) = A := ⟨_, rfl⟩
  obtain ⟨E1, hE1⟩ : ∃ B, IntKind.u64.wrap (q0 * (y * 8796093022208)) = B := ⟨_, rfl⟩
  have f23 : IntKind.u64.wrap (D1 - E1) = r0 * 4294967296 := by
    rw [← hD1, ← hE1, hqK0, wrapm, wrapm, wrapm]; omega
  have f24 : IntKind.u64.wrap D1 = D1 := by rw [← hD1, wrapm, wrapm]; omega
  have f25 : IntKind.u64.wrap (q1 * 4294967296) = q1 * 4294967296 := wrapu (by omega) (by omega)
  have f26 : IntKind.u64.wrap (q1 * 4294967296 + q0) = q1 * 4294967296 + q0 := wrapu (by omega) (by omega)
  have f27 : r0 * 4294967296 / 8796093022208 = r0 / 2048 := by omega
  have hres := div43 (hi := hi) (lo := lo) (y := y) (q1 := q1) (rh := rh) (q0 := q0) (r0 := r0) (by rw [ha, hU]; omega) (by rw [hb]; omega) hn0 (by omega)
  have HRES := Lib.hid hres
  have hk : len64 y = 21 := by unfold len64; rw [if_neg (by omega)]
  have e0 : IntKind.u64.wrap (y * 8796093022208) = y * 8796093022208 := wrapu (by omega) (by omega)
  have e1 : IntKind.u64.wrap (hi * 8796093022208) = hi * 8796093022208 := wrapu (by omega) (by omega)
  have e2 : ¬ Y = 0 := by omega
  have g7 : 0 ≤ q1 * 4294967296 + q0 := by omega
  clear hres hU hY hUY hq1 hrh hdm hYq hqY hqK hV1 hT hq0 hr0 hdn hYq0 hqY0 hqK0 hb ha hb0 hh hh1 hl hl1 hU0 hY0 hm0 hm1 hn0 hn1
  go_enter Try.func43, Try.ntmps43
  go_wp2_with fail
  refine (lead64 y h0 h1 _).mono ?_
  rintro e w' ⟨rfl, rfl⟩
  rw [hk]
  clear h0 h1 hy hk
  go_wp2_with fail
  go_loopw [15, 16] (fun q r wr => q = .int .u64 q1 ∧ r = .int .u64 rh ∧ wr = w') (fun _ _ _ => 0)
  case atStart => exact ⟨rfl, rfl, rfl⟩
  case round =>
    obtain ⟨rfl, rfl, rfl⟩ := hrel
    go_wp2_with fail
    go_loopw [18, 16] (fun q r wr' => q = .int .u64 q0 ∧ r = .int .u64 r0 ∧ wr' = wr) (fun _ _ _ => 0)
    case atStart => exact ⟨rfl, rfl, rfl⟩
    case round =>
      obtain ⟨rfl, rfl, rfl⟩ := hrel
      go_wp2_with fail
      go_ret2
      rw [HRES.out.1, HRES.out.2]
      exact ⟨rfl, rfl⟩

end Go.Proofs.Ytkgodolhcoeaeaa
