/- Drift: the plain law of Low, High and Slack. No condition. -/
namespace Go.Proofs.Ytkgodolhcoeaeaa

/-- A quotient of whole numbers not below 0, rounded up. -/
def cdiv (a d : Int) : Int := if a % d = 0 then a / d else a / d + 1

theorem cdiv_ge {a d : Int} (hd : 0 < d) : a ≤ cdiv a d * d := by
  have h := Int.mul_ediv_add_emod a d
  have h1 := Int.emod_nonneg a (Int.ne_of_gt hd)
  have h2 := Int.emod_lt_of_pos a hd
  unfold cdiv
  have hc : d * (a / d) = a / d * d := Int.mul_comm _ _
  split
  · omega
  · rw [Int.add_mul]; omega

theorem cdiv_le {a d k : Int} (hd : 0 < d) (h : a ≤ k * d) : cdiv a d ≤ k := by
  have h0 := Int.mul_ediv_add_emod a d
  have h1 := Int.emod_nonneg a (Int.ne_of_gt hd)
  have hc : d * (a / d) = a / d * d := Int.mul_comm _ _
  unfold cdiv
  split
  · have : a / d * d ≤ k * d := by omega
    exact Int.le_of_mul_le_mul_right this hd
  · have : a / d * d < k * d := by omega
    have := Int.lt_of_mul_lt_mul_right this (Int.le_of_lt hd)
    omega

theorem cdiv_mono {a b d : Int} (hd : 0 < d) (h : a ≤ b) : cdiv a d ≤ cdiv b d := cdiv_le hd (Int.le_trans h (cdiv_ge hd))

theorem fdiv_le {a d : Int} (hd : 0 < d) : a / d * d ≤ a := by
  have h0 := Int.mul_ediv_add_emod a d
  have h1 := Int.emod_nonneg a (Int.ne_of_gt hd)
  have hc : d * (a / d) = a / d * d := Int.mul_comm _ _
  omega

theorem le_fdiv {a d k : Int} (hd : 0 < d) (h : k * d ≤ a) : k ≤ a / d := (Int.le_ediv_iff_mul_le hd).2 h

theorem fdiv_lt {a d k : Int} (hd : 0 < d) (h : a < (k + 1) * d) : a / d ≤ k := by
  have := (Int.ediv_lt_iff_lt_mul hd).2 h
  omega

/-- How far true time is behind at least, at most, and a rate's slack. -/
def lowL (x r : Int) : Int := if x ≤ 0 then -((1 - x) * 1000000 / (1000000 - r)) else max (cdiv ((x - 1) * 1000000) (1000000 + r)) 1
def highL (x r : Int) : Int := -lowL (-x) r
def slackL (a r : Int) : Int := cdiv (a * r) (1000000 - r)

section
variable {x y r : Int} (h0 : 0 ≤ r) (h1 : r ≤ 100000)
include h0 h1

theorem low_mono (h : x ≤ y) : lowL x r ≤ lowL y r := by
  unfold lowL
  by_cases hx : x ≤ 0
  · rw [if_pos hx]
    by_cases hy : y ≤ 0
    · rw [if_pos hy]
      have : (1 - y) * 1000000 / (1000000 - r) ≤ (1 - x) * 1000000 / (1000000 - r) := Int.ediv_le_ediv (by omega) (by omega)
      omega
    · rw [if_neg hy]
      have : 0 ≤ (1 - x) * 1000000 / (1000000 - r) := Int.ediv_nonneg (by omega) (by omega)
      omega
  · rw [if_neg hx, if_neg (by omega)]
    have := cdiv_mono (a := (x - 1) * 1000000) (b := (y - 1) * 1000000) (d := 1000000 + r) (by omega) (by omega)
    omega

theorem high_mono (h : x ≤ y) : highL x r ≤ highL y r := by
  have := low_mono h0 h1 (x := -y) (y := -x) (by omega)
  unfold highL
  omega

theorem low_le : lowL x r ≤ x + 1 ∧ (x ≤ 0 → lowL x r ≤ x - 1) ∧ (0 < x → lowL x r ≤ x) := by
  unfold lowL
  by_cases hx : x ≤ 0
  · rw [if_pos hx]
    have : 1 - x ≤ (1 - x) * 1000000 / (1000000 - r) := le_fdiv (by omega) (by
      have h2 : (1 - x) * (1000000 - r) ≤ (1 - x) * 1000000 := Int.mul_le_mul_of_nonneg_left (by omega) (by omega)
      exact h2)
    omega
  · rw [if_neg hx]
    have : cdiv ((x - 1) * 1000000) (1000000 + r) ≤ x - 1 := cdiv_le (by omega) (by
      have h2 : (x - 1) * 1000000 ≤ (x - 1) * (1000000 + r) := Int.mul_le_mul_of_nonneg_left (by omega) (by omega)
      exact h2)
    omega

theorem low_high : lowL x r ≤ highL x r := by
  have a := low_le h0 h1 (x := x)
  have b := low_le h0 h1 (x := -x)
  unfold highL
  omega

theorem low_near : x - lowL x r ≤ slackL (max x (-x)) r + 2 := by
  unfold lowL slackL
  by_cases hx : x ≤ 0
  · rw [if_pos hx, show max x (-x) = -x by omega]
    have hs := cdiv_ge (a := -x * r) (d := 1000000 - r) (by omega)
    have : (1 - x) * 1000000 / (1000000 - r) ≤ 1 - x + cdiv (-x * r) (1000000 - r) := fdiv_lt (by omega) (by
      have e1 : (1 - x + cdiv (-x * r) (1000000 - r) + 1) * (1000000 - r) = (1 - x) * 1000000 - (1 - x) * r + cdiv (-x * r) (1000000 - r) * (1000000 - r) + (1000000 - r) := by
        rw [Int.add_mul, Int.add_mul, Int.mul_sub, Int.one_mul]
      have e2 : (1 - x) * r = r + -x * r := by rw [Int.sub_mul, Int.one_mul, Int.neg_mul]; omega
      rw [e1, e2]
      omega)
    omega
  · rw [if_neg hx, show max x (-x) = x by omega]
    have hs := cdiv_ge (a := x * r) (d := 1000000 - r) (by omega)
    have hl := cdiv_ge (a := (x - 1) * 1000000) (d := 1000000 + r) (by omega)
    generalize cdiv ((x - 1) * 1000000) (1000000 + r) = L at *
    generalize hS : cdiv (x * r) (1000000 - r) = S at *
    have hS0 : 0 ≤ S := by
      rw [← hS]
      unfold cdiv
      have : 0 ≤ x * r / (1000000 - r) := Int.ediv_nonneg (Int.mul_nonneg (by omega) h0) (by omega)
      split <;> omega
    rcases Int.lt_or_le L (x - S - 2) with hlt | hge
    · exfalso
      have h2 : L * (1000000 + r) ≤ (x - S - 3) * (1000000 + r) := Int.mul_le_mul_of_nonneg_right (by omega) (by omega)
      have e1 : (x - S - 3) * (1000000 + r) = x * 1000000 + x * r - S * 1000000 - S * r - 3000000 - 3 * r := by
        rw [Int.sub_mul, Int.sub_mul, Int.mul_add, Int.mul_add]; omega
      have e2 : S * (1000000 - r) = S * 1000000 - S * r := by rw [Int.mul_sub]
      have h3 : 0 ≤ S * r := Int.mul_nonneg hS0 h0
      omega
    · omega

theorem high_near : highL x r - x ≤ slackL (max x (-x)) r + 2 := by
  have := low_near h0 h1 (x := -x)
  rw [show max (-x) (- -x) = max x (-x) by omega] at this
  unfold highL
  omega

theorem high_ge : x - 1 ≤ highL x r := by
  have := (low_le h0 h1 (x := -x)).1
  unfold highL
  omega

/-- What an honest clock's readings say: d between in truth, c on the clock. -/
theorem sound {c d : Int} (hd : 0 ≤ d) (hc : 0 ≤ c) (hz : d = 0 → c = 0) (hoff : max (c - d) (d - c) - 1 ≤ 0 ∨ (max (c - d) (d - c) - 1) * 1000000 ≤ r * d) : lowL c r ≤ d ∧ d ≤ highL c r := by
  have hrd : 0 ≤ r * d := Int.mul_nonneg h0 hd
  have hk : (c - d - 1) * 1000000 ≤ r * d ∧ (d - c - 1) * 1000000 ≤ r * d := by omega
  have hcm : r * d = d * r := Int.mul_comm _ _
  constructor
  · unfold lowL
    by_cases h : c ≤ 0
    · rw [if_pos h]
      have : 0 ≤ (1 - c) * 1000000 / (1000000 - r) := Int.ediv_nonneg (by omega) (by omega)
      omega
    · rw [if_neg h]
      have : cdiv ((c - 1) * 1000000) (1000000 + r) ≤ d := cdiv_le (by omega) (by rw [Int.mul_add]; omega)
      omega
  · unfold highL lowL
    rw [if_pos (by omega)]
    have : d ≤ (1 - -c) * 1000000 / (1000000 - r) := le_fdiv (by omega) (by rw [Int.mul_sub]; omega)
    omega

end

end Go.Proofs.Ytkgodolhcoeaeaa
