/- Drift: the first law (Rises) walked: it holds. No condition. -/
import Derived.Test.YtigepekcjigpaaaDq
namespace Go.Proofs.Ytigepekcjigpaaa
open Go.RowKit

theorem slack_range {x r : Int} (h0 : 0 ≤ r) (h1 : r ≤ 100000) (hx : 0 ≤ x) : 0 ≤ slackL x r ∧ slackL x r ≤ x := by
  unfold slackL
  have hx2 : 0 ≤ x * r := Int.mul_nonneg hx h0
  constructor
  · unfold cdiv
    have : 0 ≤ x * r / (1000000 - r) := Int.ediv_nonneg hx2 (by omega)
    split <;> omega
  · refine cdiv_le (by omega) ?_
    exact Int.mul_le_mul_of_nonneg_left (by omega) hx

set_option maxRecDepth 100000 in
set_option maxHeartbeats 8000000 in
theorem law_rises (x y r : Int) (w : World) : Calls Try.prog 3 #[.int .i64 x, .int .i64 y, .int .i64 r] w fun e w' => e = .returned (.bool true) ∧ Below w.heap.size w w' := by
  have hl := fun w => low_walk x r w
  have hh := fun w => high_walk x r w
  have hcl := fun w => low_walk y r w
  have hch := fun w => high_walk y r w
  go_enter Try.func3, Try.ntmps3
  go_wp2_with fail
  refine (alive_walk _).mono ?_
  rintro e w1 ⟨rfl, hB1⟩
  have HB1 := Lib.hid hB1
  clear hB1
  go_wp2_with fail
  refine (hl _).mono ?_
  rintro e w2 ⟨rfl, hB2⟩
  have HB2 := Lib.hid (HB1.out.trans (hB2.mono HB1.out.size))
  clear hl hB2 HB1
  go_wp2_with fail
  refine (hh _).mono ?_
  rintro e w3 ⟨rfl, hB3⟩
  have HB3 := Lib.hid (HB2.out.trans (hB3.mono HB2.out.size))
  clear hh hB3 HB2
  by_cases hbad : (farB x || !rateB r) = true
  · have h1 : lowR x r = (0, 11) := by unfold lowR; rw [if_pos hbad]
    have h2 : highR x r = (0, 11) := by unfold highR; rw [if_pos hbad]
    rw [h1, h2]
    clear h1 h2 hbad hcl hch
    go_wp2_with fail
    go_ret
    exact ⟨rfl, HB3.out⟩
  · have h1 : lowR x r = (lowL x r, 0) := by unfold lowR; rw [if_neg hbad]
    have h2 : highR x r = (highL x r, 0) := by unfold highR; rw [if_neg hbad]
    rw [h1, h2]
    have hf : farB x = false := by cases hq : farB x <;> simp_all
    have hr : rateB r = true := by cases hq : rateB r <;> simp_all
    have hrr := hr
    unfold rateB at hrr
    simp at hrr
    obtain ⟨r0, r1⟩ := hrr
    have k1 := low_high r0 r1 (x := x)
    have k2 := low_near r0 r1 (x := x)
    have k3 := high_near r0 r1 (x := x)
    have k4 := (low_le r0 r1 (x := x)).1
    have k5 := high_ge r0 r1 (x := x)
    have ks := slack_range r0 r1 (x := max x (-x)) (by omega)
    have a0 := (low_range hf hr).1
    have a1 := (low_range hf hr).2
    have b0 : -4611686018427387904 ≤ highL x r := by have := (low_range (x := -x) (by rw [farB_neg]; exact hf) hr).2; unfold highL; omega
    have b1 : highL x r ≤ 9223372036854775807 := by have := (low_range (x := -x) (by rw [farB_neg]; exact hf) hr).1; unfold highL; omega
    have hy : ¬ y < x → lowL x r ≤ lowL y r ∧ highL x r ≤ highL y r := fun h => ⟨low_mono r0 r1 (by omega), high_mono r0 r1 (by omega)⟩
    have hfx := hf
    unfold farB at hfx
    simp at hfx
    obtain ⟨x0, x1⟩ := hfx
    generalize lowL x r = a at *
    generalize highL x r = b at *
    have HR := Lib.hid hr
    clear h1 h2 hbad hf
    have hs := fun w => slack_walk (max x (-x)) r w
    rw [show slackR (max x (-x)) r = (slackL (max x (-x)) r, 0) by unfold slackR; rw [show decide (max x (-x) < 0) = false by simp; omega, show farB (max x (-x)) = false by unfold farB; simp; omega, hr]; rfl] at hs
    generalize slackL (max x (-x)) r = s at *
    have HKK := Lib.hid (And.intro k1 (And.intro k2 (And.intro k3 (And.intro k4 (And.intro k5 (And.intro ks (And.intro a0 (And.intro a1 (And.intro b0 b1)))))))))
    have HY := Lib.hid hy
    clear k1 k2 k3 k4 k5 ks a0 a1 b0 b1 hy hr
    go_wp2_with fail
    refine (hs _).mono ?_
    rintro e w4 ⟨rfl, hB4⟩
    have HB4 := Lib.hid (HB3.out.trans (hB4.mono HB3.out.size))
    clear hs hB4 HB3
    obtain ⟨k1, k2, k3, k4, k5, ks, a0, a1, b0, b1⟩ := HKK.out
    have d1 : decide (a > b) = false := by simp; omega
    have e1 : wrap64 (x - a) = x - a := by simp [wrap64]; omega
    have e2 : wrap64 (s + 2) = s + 2 := by simp [wrap64]; omega
    have e3 : wrap64 (b - x) = b - x := by simp [wrap64]; omega
    have e4 : wrap64 (x + 1) = x + 1 := by simp [wrap64]; omega
    have e5 : wrap64 (x - 1) = x - 1 := by simp [wrap64]; omega
    have d2 : decide (x - a > s + 2) = false := by simp; omega
    have d3 : decide (b - x > s + 2) = false := by simp; omega
    have d4 : decide (a > x + 1) = false := by simp; omega
    have d5 : decide (b < x - 1) = false := by simp; omega
    clear k1 k2 k3 k4 k5 ks a0 a1 b0 b1
    go_wp2_with fail
    refine (hcl _).mono ?_
    rintro e w5 ⟨rfl, hB5⟩
    have HB5 := Lib.hid (HB4.out.trans (hB5.mono HB4.out.size))
    clear hcl hB5 HB4
    go_wp2_with fail
    refine (hch _).mono ?_
    rintro e w6 ⟨rfl, hB6⟩
    have HB6 := Lib.hid (HB5.out.trans (hB6.mono HB5.out.size))
    clear hch hB6 HB5
    cases hfy : farB y
    · have hlv : lowR y r = (lowL y r, 0) := by unfold lowR; rw [hfy, HR.out]; rfl
      have hhv : highR y r = (highL y r, 0) := by unfold highR; rw [hfy, HR.out]; rfl
      rw [hlv, hhv]
      by_cases hyx : y < x
      · have d6 : decide (y < x) = true := by simpa using hyx
        go_wp2_with fail
        go_ret
        exact ⟨rfl, HB6.out⟩
      · have d6 : decide (y < x) = false := by simp; omega
        obtain ⟨m1, m2⟩ := HY.out (by omega)
        generalize lowL y r = cc at *
        generalize highL y r = dd at *
        have d7 : decide (cc ≥ a) = true := by simp; omega
        have d8 : decide (dd ≥ b) = true := by simp; omega
        clear hlv hhv
        go_wp2_with fail
        go_ret
        exact ⟨rfl, HB6.out⟩
    · have hlv : lowR y r = (0, 11) := by unfold lowR; rw [hfy]; rfl
      have hhv : highR y r = (0, 11) := by unfold highR; rw [hfy]; rfl
      rw [hlv, hhv]
      clear hlv hhv
      go_wp2_with fail
      go_ret
      exact ⟨rfl, HB6.out⟩

end Go.Proofs.Ytigepekcjigpaaa
