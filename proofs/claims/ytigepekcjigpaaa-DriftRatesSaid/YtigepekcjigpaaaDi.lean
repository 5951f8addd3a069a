/- Drift: wide.Times, wide.Cmp, a point's right and follows, walked. No condition. -/
import Derived.Test.YtigepekcjigpaaaDh
import Derived.Test.YtigepekcjigpaaaKbox
namespace Go.Proofs.Ytigepekcjigpaaa
open Go.RowKit

set_option maxHeartbeats 2000000 in
theorem times_walk (x y : Int) (hx0 : 0 ≤ x) (hx : x < 9223372036854775808) (hy0 : 0 ≤ y) (hy : y < 9223372036854775808) (w : World) :
    Calls Try.prog 36 #[.int .i64 x, .int .i64 y] w fun e w' => e = .returned (.agg #[.int .i64 (x * y / 18446744073709551616), .int .u64 (x * y % 18446744073709551616)]) ∧ Below w.heap.size w w' := by
  have hm := fun w => mul64 x y hx0 (by omega) hy0 (by omega) w
  have hp0 : 0 ≤ x * y := Int.mul_nonneg hx0 hy0
  have hp1 : x * y ≤ 9223372036854775807 * 9223372036854775807 := Int.mul_le_mul (by omega) (by omega) hy0 (by omega)
  have g0 : 0 ≤ x * y / 18446744073709551616 := by omega
  have g1 : x * y / 18446744073709551616 < 9223372036854775808 := by omega
  generalize x * y / 18446744073709551616 = p at *
  generalize x * y % 18446744073709551616 = q at *
  have d1 : decide (x < 0) = false := by simp; omega
  have d2 : decide (y < 0) = false := by simp; omega
  clear hp0 hp1
  go_enter Try.func36, Try.ntmps36
  go_wp2_with fail
  refine (hm _).mono ?_
  rintro e w1 ⟨rfl, rfl⟩
  go_wp2_with fail
  have p4 : (w.alloc (.cells #[.int .i64 p, .int .u64 q] 63)).cell? ⟨w.heap.size, 0, none⟩ = some (.int .i64 p) := by simp
  have p5 : (w.alloc (.cells #[.int .i64 p, .int .u64 q] 63)).cell? ⟨w.heap.size, 1, none⟩ = some (.int .u64 q) := by simp
  exact bodyPost_ret (v := .agg #[.int .i64 p, .int .u64 q]) (by simp [results, Try.results36, go_sem, p4, p5]) rfl ⟨rfl, (Below.refl _ w).alloc (Nat.le_refl _) _⟩

set_option maxRecDepth 100000 in
set_option maxHeartbeats 2000000 in
theorem cmp_walk (a1 a2 b1 b2 : Int) (w : World) : Calls Try.prog 35 #[.agg #[.int .i64 a1, .int .u64 a2], .agg #[.int .i64 b1, .int .u64 b2]] w fun e w' => e = .returned (.int .i64 (or2 (cmpI a1 b1) (cmpI a2 b2))) ∧ Below w.heap.size w w' := by
  have k1 := fun w => compareI a1 b1 w
  have k2 := fun w => compareU a2 b2 w
  generalize cmpI a1 b1 = u at *
  generalize cmpI a2 b2 = v at *
  go_enter Try.func35, Try.ntmps35
  obtain ⟨W0, hW0⟩ : ∃ W0, (w.alloc (.cells #[.int .i64 a1, .int .u64 a2] 63)).alloc (.cells #[.int .i64 b1, .int .u64 b2] 63) = W0 := ⟨_, rfl⟩
  have c0 : W0.drew.cell? ⟨w.heap.size, 0, none⟩ = some (.int .i64 a1) := by rw [← hW0]; simp
  have c1 : W0.drew.cell? ⟨w.heap.size, 1, none⟩ = some (.int .u64 a2) := by rw [← hW0]; simp
  have d0 : W0.drew.cell? ⟨w.heap.size + 1, 0, none⟩ = some (.int .i64 b1) := by rw [← hW0]; simp
  have d1 : W0.drew.cell? ⟨w.heap.size + 1, 1, none⟩ = some (.int .u64 b2) := by rw [← hW0]; simp
  have HB0 := Lib.hid ((((Below.refl w.heap.size w).alloc (Nat.le_refl _) (.cells #[.int .i64 a1, .int .u64 a2] 63)).alloc (by simp) (.cells #[.int .i64 b1, .int .u64 b2] 63)).drew)
  rw [hW0] at HB0
  go_wp2_with fail
  clear hW0
  refine wp_region_still_tail 10 (by kernel_rfl) (by kernel_rfl) ?_
  simp only [List.take_succ_cons, List.take_zero, List.drop_succ_cons, List.drop_zero]
  change wpStill _ _ W0.drew (fun a' => wpList _ _ _ _ a' W0.drew) _ _
  generalize W0.drew = W1 at *
  still_step
  still_step
  still_step
  still_step
  still_call (k1 _)
  still_step
  still_step
  still_step
  still_step
  still_call (k2 _)
  refine wpStill_nil ?_
  go_wp2_with fail
  refine (or_walk W1.heap.size u v _ (by simp) (by simp) (by simp)).mono ?_
  rintro e w3 ⟨rfl, rfl⟩
  go_wp2_with fail
  go_ret
  exact ⟨rfl, HB0.out.alloc HB0.out.size _⟩

/-- Whole numbers of two words are compared as they are. -/
theorem cmp_words (N M : Int) : or2 (cmpI (N / 18446744073709551616) (M / 18446744073709551616)) (cmpI (N % 18446744073709551616) (M % 18446744073709551616)) ≤ 0 ↔ N ≤ M := by
  unfold or2 cmpI
  by_cases h1 : N / 18446744073709551616 < M / 18446744073709551616
  · rw [if_pos h1]; simp; omega
  · by_cases h2 : M / 18446744073709551616 < N / 18446744073709551616
    · rw [if_neg h1, if_pos h2]; simp; omega
    · rw [if_neg h1, if_neg h2]
      by_cases h3 : N % 18446744073709551616 < M % 18446744073709551616
      · rw [if_pos h3]; simp; omega
      · by_cases h4 : M % 18446744073709551616 < N % 18446744073709551616
        · rw [if_neg h3, if_pos h4]; simp; omega
        · rw [if_neg h3, if_neg h4]; simp; omega

set_option maxHeartbeats 2000000 in
theorem right_walk (p : Int × Int) (w : World) : Calls Try.prog 17 #[.agg #[.int .i64 p.1, .int .i64 p.2]] w fun e w' => e = .returned (.bool (rightB p)) ∧ Below w.heap.size w w' := by
  obtain ⟨a, b⟩ := p
  unfold rightB
  go_enter Try.func17, Try.ntmps17
  by_cases h : a ≤ b
  · by_cases h0 : 0 ≤ a
    · go_wp2_with fail
      all_goals
        (go_ret
         exact ⟨by simp <;> omega, (Below.refl _ w).alloc (Nat.le_refl _) _⟩)
    · go_wp2_with fail
      all_goals
        (go_ret
         exact ⟨by simp <;> omega, (Below.refl _ w).alloc (Nat.le_refl _) _⟩)
  · by_cases h0 : 0 ≤ b
    · go_wp2_with fail
      all_goals
        (go_ret
         exact ⟨by simp <;> omega, (Below.refl _ w).alloc (Nat.le_refl _) _⟩)
    · go_wp2_with fail
      all_goals
        (go_ret
         exact ⟨by simp <;> omega, (Below.refl _ w).alloc (Nat.le_refl _) _⟩)

end Go.Proofs.Ytigepekcjigpaaa
