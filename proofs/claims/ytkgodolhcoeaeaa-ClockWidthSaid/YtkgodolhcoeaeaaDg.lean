/- Drift: Low, High and Slack walked. No condition. -/
import Derived.Test.YtkgodolhcoeaeaaDf
import Derived.Test.YtkgodolhcoeaeaaDb
namespace Go.Proofs.Ytkgodolhcoeaeaa
open Go.RowKit

def farB (x : Int) : Bool := decide (x < -4611686018427387904) || decide (x > 4611686018427387904)

theorem far_walk (x : Int) (w : World) : Calls Try.prog 31 #[.int .i64 x] w fun e w' => e = .returned (.bool (farB x)) ∧ w' = w := by
  unfold farB
  go_enter Try.func31, Try.ntmps31
  by_cases h : x < -4611686018427387904
  · go_wp2_with fail
    go_ret
    exact ⟨by simp [h], rfl⟩
  · go_wp2_with fail
    go_ret
    exact ⟨by simp; omega, rfl⟩

theorem rate_walk (x : Int) (w : World) : Calls Try.prog 32 #[.int .i64 x] w fun e w' => e = .returned (.bool (rateB x)) ∧ w' = w := by
  unfold rateB
  go_enter Try.func32, Try.ntmps32
  by_cases h : 0 ≤ x
  · go_wp2_with fail
    go_ret
    exact ⟨by simp [h], rfl⟩
  · go_wp2_with fail
    go_ret
    exact ⟨by simp; omega, rfl⟩

/-- What Low answers. -/
def lowR (x r : Int) : Int × Int := if (farB x || !rateB r) = true then (0, 11) else (lowL x r, 0)
def highR (x r : Int) : Int × Int := if (farB x || !rateB r) = true then (0, 11) else (highL x r, 0)
def slackR (a r : Int) : Int × Int := if (decide (a < 0) || farB a || !rateB r) = true then (0, 11) else (slackL a r, 0)

theorem low_range {x r : Int} (hx : farB x = false) (hr : rateB r = true) : -9223372036854775807 ≤ lowL x r ∧ lowL x r ≤ 4611686018427387904 := by
  unfold farB at hx
  unfold rateB at hr
  simp at hx hr
  have h1 := low_le hr.1 hr.2 (x := x)
  refine ⟨?_, by omega⟩
  unfold lowL
  by_cases h : x ≤ 0
  · rw [if_pos h]
    have : (1 - x) * 1000000 / (1000000 - r) ≤ 9223372036854775806 := by
      have := Int.ediv_lt_of_lt_mul (a := (1 - x) * 1000000) (b := 9223372036854775807) (c := 1000000 - r) (by omega) (by omega)
      omega
    omega
  · rw [if_neg h]; omega

set_option maxHeartbeats 4000000 in
theorem low_walk (x r : Int) (w : World) : Calls Try.prog 24 #[.int .i64 x, .int .i64 r] w fun e w' => e = .returned (.tuple #[.int .i64 (lowR x r).1, .int .i64 (lowR x r).2]) ∧ Below w.heap.size w w' := by
  go_enter Try.func24, Try.ntmps24
  go_wp2_with fail
  refine (far_walk x _).mono ?_
  rintro e w1 ⟨rfl, rfl⟩
  cases hf : farB x
  · go_wp2_with fail
    refine (rate_walk r _).mono ?_
    rintro e w1 ⟨rfl, rfl⟩
    cases hr : rateB r
    · have hl : lowR x r = (0, 11) := by unfold lowR; rw [hf, hr]; rfl
      have HL := Lib.hid hl
      clear hl
      go_wp2_with fail
      go_ret2
      exact ⟨by rw [HL.out]; rfl, Below.refl _ _⟩
    · have hl : lowR x r = (lowL x r, 0) := by unfold lowR; rw [hf, hr]; rfl
      have hrg := low_range hf hr
      have hf' := hf
      have hr' := hr
      unfold farB at hf'
      unfold rateB at hr'
      simp at hf' hr'
      obtain ⟨r0, r1⟩ := hr'
      obtain ⟨x0, x1⟩ := hf'
      have HL := Lib.hid hl
      clear hl
      by_cases hx : x ≤ 0
      · have hv : lowL x r = -(ratioL (1 - x) 1000000 (1000000 - r) false) := by unfold lowL ratioL; rw [if_pos hx]; rfl
        have hc := fun w => ratio (1 - x) 1000000 (1000000 - r) false (by omega) (by omega) (by omega) (by omega) (by omega) (by omega) w
        rw [hv] at hrg
        have HV := Lib.hid hv
        generalize ratioL (1 - x) 1000000 (1000000 - r) false = v at *
        obtain ⟨g0, g1⟩ := hrg
        clear hf hr hv
        go_wp2_with fail
        refine (hc _).mono ?_
        rintro e w2 ⟨rfl, hB⟩
        have HB := Lib.hid hB
        clear hc hB
        go_wp2_with fail
        go_ret2
        exact ⟨by rw [HL.out, HV.out]; rfl, HB.out⟩
      · have hv : lowL x r = max (ratioL (x - 1) 1000000 (1000000 + r) true) 1 := by unfold lowL ratioL; rw [if_neg hx]; rfl
        have hc := fun w => ratio (x - 1) 1000000 (1000000 + r) true (by omega) (by omega) (by omega) (by omega) (by omega) (by omega) w
        have HV := Lib.hid hv
        generalize ratioL (x - 1) 1000000 (1000000 + r) true = v at *
        clear hf hr hv hrg
        go_wp2_with fail
        refine (hc _).mono ?_
        rintro e w2 ⟨rfl, hB⟩
        have HB := Lib.hid hB
        clear hc hB
        by_cases h1 : v ≤ 1
        · go_wp2_with fail
          all_goals
            (go_ret2
             exact ⟨by rw [HL.out, HV.out]; simp <;> omega, HB.out⟩)
        · go_wp2_with fail
          all_goals
            (go_ret2
             exact ⟨by rw [HL.out, HV.out]; simp <;> omega, HB.out⟩)
  · have hl : lowR x r = (0, 11) := by unfold lowR; rw [hf]; rfl
    have HL := Lib.hid hl
    clear hl
    go_wp2_with fail
    go_ret2
    exact ⟨by rw [HL.out]; rfl, Below.refl _ _⟩

theorem farB_neg (x : Int) : farB (-x) = farB x := by
  unfold farB
  by_cases h1 : x < -4611686018427387904 <;> by_cases h2 : x > 4611686018427387904 <;> simp [h1, h2] <;> omega

set_option maxHeartbeats 4000000 in
theorem high_walk (x r : Int) (w : World) : Calls Try.prog 25 #[.int .i64 x, .int .i64 r] w fun e w' => e = .returned (.tuple #[.int .i64 (highR x r).1, .int .i64 (highR x r).2]) ∧ Below w.heap.size w w' := by
  go_enter Try.func25, Try.ntmps25
  go_wp2_with fail
  refine (far_walk x _).mono ?_
  rintro e w1 ⟨rfl, rfl⟩
  cases hf : farB x
  · have hv : highR x r = (-(lowR (-x) r).1, (lowR (-x) r).2) := by
      unfold highR lowR highL
      rw [farB_neg]
      split <;> rfl
    have hrg : -9223372036854775807 ≤ (lowR (-x) r).1 ∧ (lowR (-x) r).1 ≤ 4611686018427387904 := by
      unfold lowR
      rw [farB_neg, hf]
      cases hr : rateB r
      · simp
      · simp; exact low_range (by rw [farB_neg]; exact hf) hr
    have hc := fun w => low_walk (-x) r w
    have hf' := hf
    unfold farB at hf'
    simp at hf'
    obtain ⟨x0, x1⟩ := hf'
    generalize lowR (-x) r = z at *
    obtain ⟨v, e⟩ := z
    obtain ⟨g0, g1⟩ := hrg
    have HV := Lib.hid hv
    clear hv hf
    go_wp2_with fail
    refine (hc _).mono ?_
    rintro e w2 ⟨rfl, hB⟩
    have HB := Lib.hid hB
    clear hc hB
    go_wp2_with fail
    go_ret2
    exact ⟨by rw [HV.out]; rfl, HB.out⟩
  · have hl : highR x r = (0, 11) := by unfold highR; rw [hf]; rfl
    have HL := Lib.hid hl
    clear hl
    go_wp2_with fail
    go_ret2
    exact ⟨by rw [HL.out]; rfl, Below.refl _ _⟩

set_option maxHeartbeats 4000000 in
theorem slack_walk (a r : Int) (w : World) : Calls Try.prog 16 #[.int .i64 a, .int .i64 r] w fun e w' => e = .returned (.tuple #[.int .i64 (slackR a r).1, .int .i64 (slackR a r).2]) ∧ Below w.heap.size w w' := by
  go_enter Try.func16, Try.ntmps16
  by_cases ha : a < 0
  · have hl : slackR a r = (0, 11) := by unfold slackR; rw [decide_eq_true ha]; rfl
    have HL := Lib.hid hl
    clear hl
    go_wp2_with fail
    go_ret2
    exact ⟨by rw [HL.out]; rfl, Below.refl _ _⟩
  · go_wp2_with fail
    refine (far_walk a _).mono ?_
    rintro e w1 ⟨rfl, rfl⟩
    cases hf : farB a
    · go_wp2_with fail
      refine (rate_walk r _).mono ?_
      rintro e w1 ⟨rfl, rfl⟩
      cases hr : rateB r
      · have hl : slackR a r = (0, 11) := by unfold slackR; rw [hf, hr]; simp
        have HL := Lib.hid hl
        clear hl
        go_wp2_with fail
        go_ret2
        exact ⟨by rw [HL.out]; rfl, Below.refl _ _⟩
      · have hl : slackR a r = (slackL a r, 0) := by unfold slackR; rw [hf, hr, show decide (a < 0) = false by simp; omega]; rfl
        have hf' := hf
        have hr' := hr
        unfold farB at hf'
        unfold rateB at hr'
        simp at hf' hr'
        obtain ⟨r0, r1⟩ := hr'
        obtain ⟨x0, x1⟩ := hf'
        have hv : slackL a r = ratioL a r (1000000 - r) true := by unfold slackL ratioL; rfl
        have hc := fun w => ratio a r (1000000 - r) true (by omega) (by omega) (by omega) (by omega) (by omega) (by omega) w
        rw [hv] at hl
        have HL := Lib.hid hl
        generalize ratioL a r (1000000 - r) true = v at *
        clear hf hr hv hl
        go_wp2_with fail
        refine (hc _).mono ?_
        rintro e w2 ⟨rfl, hB⟩
        have HB := Lib.hid hB
        clear hc hB
        go_wp2_with fail
        go_ret2
        exact ⟨by rw [HL.out]; rfl, HB.out⟩
    · have hl : slackR a r = (0, 11) := by unfold slackR; rw [hf]; simp
      have HL := Lib.hid hl
      clear hl
      go_wp2_with fail
      go_ret2
      exact ⟨by rw [HL.out]; rfl, Below.refl _ _⟩

end Go.Proofs.Ytkgodolhcoeaeaa
