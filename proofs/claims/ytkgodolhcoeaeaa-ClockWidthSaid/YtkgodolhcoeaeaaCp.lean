/- Clock: the plain law of a sample's interval, and of what all have together. No condition. -/
import Derived.Test.YtkgodolhcoeaeaaCf
import Derived.Test.YtkgodolhcoeaeaaCy
namespace Go.Proofs.Ytkgodolhcoeaeaa
open Go.RowKit

theorem atS_ok {s : Smp} {x r : Int} (h : (atS s x r).2 = 0) : rightS s = true ∧ timeB x = true ∧ rateB r = true ∧ (atS s x r).1 = (atLo s x r, atHi s x r) ∧ atLo s x r ≤ atHi s x r := by
  unfold atS at h ⊢
  cases h1 : rightS s
  · rw [h1] at h; simp at h
  · cases h2 : timeB x
    · rw [h1, h2] at h; simp at h
    · cases h3 : rateB r
      · rw [h1, h2, h3] at h; simp at h
      · rw [h1, h2, h3] at h
        simp only [Bool.true_eq_false, if_false] at h ⊢
        by_cases h4 : atHi s x r < atLo s x r
        · rw [if_pos h4] at h; simp at h
        · rw [if_neg h4]
          exact ⟨trivial, trivial, trivial, rfl, by omega⟩

theorem time_parts {x : Int} (h : timeB x = true) : 0 ≤ x ∧ x ≤ 4611686018427387903 := by
  unfold timeB at h; simp at h; exact h

theorem rate_parts {r : Int} (h : rateB r = true) : 0 ≤ r ∧ r ≤ 100000 := by
  unfold rateB at h; simp at h; omega

/-- The interval's ends, plainly. -/
theorem at_plain {s : Smp} {x r : Int} (h1 : rightS s = true) (h2 : timeB x = true) (h3 : rateB r = true) :
    atLo s x r = max (s.asked + lowL (x - s.got) r) 0 ∧ atHi s x r = min (s.came + highL (x - s.sent) r) 4611686018427387903 := by
  have p := rightS_parts h1
  have q := time_parts h2
  have f1 : farB (x - s.got) = false := by unfold farB; simp; omega
  have f2 : farB (-(x - s.sent)) = false := by unfold farB; simp; omega
  have a := low_range f1 h3
  have b := low_range f2 h3
  have e2 : highL (x - s.sent) r = -lowL (-(x - s.sent)) r := rfl
  unfold atLo atHi cutL
  constructor
  · split <;> omega
  · split <;> omega

theorem at_rises {s : Smp} {a b r : Int} (ha : (atS s a r).2 = 0) (hb : (atS s b r).2 = 0) (h : a ≤ b) : (atS s a r).1.1 ≤ (atS s b r).1.1 ∧ (atS s a r).1.2 ≤ (atS s b r).1.2 := by
  obtain ⟨a1, a2, a3, a4, -⟩ := atS_ok ha
  obtain ⟨-, b2, -, b4, -⟩ := atS_ok hb
  obtain ⟨c1, c2⟩ := at_plain a1 a2 a3
  obtain ⟨d1, d2⟩ := at_plain a1 b2 a3
  obtain ⟨r0, r1⟩ := rate_parts a3
  have m1 := low_mono r0 r1 (x := a - s.got) (y := b - s.got) (by omega)
  have m2 := high_mono r0 r1 (x := a - s.sent) (y := b - s.sent) (by omega)
  rw [a4, b4]
  simp only
  omega

theorem gapsOk_iff {l : List Smp} {x r : Int} : gapsOk l x r = true ↔ ∀ s ∈ l, (atS s x r).2 = 0 := by
  unfold gapsOk
  rw [List.all_eq_true]
  simp

/-- All gaps of a row that is whole are gaps. -/
theorem gaps_right {l : List Smp} {x r : Int} (h : gapsOk l x r = true) : ∀ g ∈ gapsL l x r, okG g = true ∧ 0 ≤ g.1 ∧ g.2 ≤ 4611686018427387903 := by
  intro g hg
  unfold gapsL at hg
  obtain ⟨s, hs, rfl⟩ := List.mem_map.1 hg
  have h0 := gapsOk_iff.1 h s hs
  obtain ⟨a1, a2, a3, a4, a5⟩ := atS_ok h0
  obtain ⟨c1, c2⟩ := at_plain a1 a2 a3
  rw [a4]
  refine ⟨by unfold okG; simpa using a5, ?_, ?_⟩
  · show 0 ≤ atLo s x r; omega
  · show atHi s x r ≤ 4611686018427387903; omega

def meetF (gs : List (Int × Int)) : Int × Int := gs.foldl meetStep (-9223372036854775808, 9223372036854775807)

theorem meetAll_eq {gs : List (Int × Int)} (h : ∀ g ∈ gs, okG g = true) : meetAll gs = endsL (meetF gs).1 (meetF gs).2 := by
  unfold meetAll foldG meetF
  rw [if_pos (List.all_eq_true.2 h)]

theorem meet_fold (gs : List (Int × Int)) : ∀ s : Int × Int, s.1 ≤ (gs.foldl meetStep s).1 ∧ (gs.foldl meetStep s).2 ≤ s.2 ∧ (∀ g ∈ gs, g.1 ≤ (gs.foldl meetStep s).1 ∧ (gs.foldl meetStep s).2 ≤ g.2) := by
  induction gs with
  | nil => intro s; simp
  | cons g l ih =>
    intro s
    rw [List.foldl_cons]
    obtain ⟨i1, i2, i3⟩ := ih (meetStep s g)
    have e1 : (meetStep s g).1 = max s.1 g.1 := rfl
    have e2 : (meetStep s g).2 = min s.2 g.2 := rfl
    refine ⟨by omega, by omega, fun x hx => ?_⟩
    rcases List.mem_cons.1 hx with rfl | hx
    · omega
    · exact i3 x hx

theorem meetF_snoc (gs : List (Int × Int)) (g : Int × Int) : meetF (gs ++ [g]) = meetStep (meetF gs) g := by unfold meetF; simp

/-- What a clock answers where it answers an error. -/
theorem atC_zero {l : List Smp} {x r : Int} (h : (atC l x r).2 ≠ 0) : (atC l x r).1 = (0, 0) := by
  unfold atC at h ⊢
  split
  · rfl
  · split
    · rfl
    · split
      · rfl
      · rename_i h1 h2 h3
        rw [if_neg h1, if_neg h2, if_neg h3] at h
        rw [meetAll_eq (fun g hg => (gaps_right (by cases hq : gapsOk l x r <;> simp_all) g hg).1)] at h ⊢
        unfold endsL at h ⊢
        split
        · rfl
        · rename_i h4
          rw [if_neg h4] at h
          exact absurd rfl h

theorem atC_bad {l : List Smp} {x r : Int} (h0 : 0 < l.length) (h : gapsOk l x r = false) : (atC l x r).2 = 11 ∨ (atC l x r).2 = 13 := by
  unfold atC
  rw [if_neg (by omega), h]
  cases timeB x <;> simp

theorem atC_all {l : List Smp} {x r : Int} (h0 : 0 < l.length) (h : gapsOk l x r = true) : atC l x r = meetAll (gapsL l x r) := by
  have ht : timeB x = true := by
    match l, h0 with
    | s :: l', _ => exact (atS_ok (gapsOk_iff.1 h s (by simp))).2.1
  unfold atC
  rw [if_neg (by omega), ht, h]
  rfl

/-- A clock's answer that is right: all its samples' are, and it is what they have together. -/
theorem atC_ok {l : List Smp} {x r : Int} (h : (atC l x r).2 = 0) : 0 < l.length ∧ timeB x = true ∧ gapsOk l x r = true ∧ (atC l x r).1 = meetF (gapsL l x r) ∧ (meetF (gapsL l x r)).1 ≤ (meetF (gapsL l x r)).2 := by
  unfold atC at h ⊢
  by_cases h0 : l.length = 0
  · rw [if_pos h0] at h; simp at h
  · rw [if_neg h0] at h ⊢
    cases h1 : timeB x
    · rw [h1] at h; simp at h
    · rw [h1] at h
      simp only [Bool.true_eq_false, if_false] at h ⊢
      cases h2 : gapsOk l x r
      · rw [h2] at h; simp at h
      · rw [h2] at h
        simp only [Bool.true_eq_false, if_false] at h ⊢
        rw [meetAll_eq (fun g hg => (gaps_right h2 g hg).1)] at h ⊢
        unfold endsL at h ⊢
        by_cases h3 : (meetF (gapsL l x r)).2 < (meetF (gapsL l x r)).1
        · rw [if_pos h3] at h; simp at h
        · rw [if_neg h3]
          exact ⟨by omega, trivial, trivial, rfl, by omega⟩

/-- A sample more makes it no wider. -/
theorem meet_more {l : List Smp} {s : Smp} {x r : Int} (h : (atC l x r).2 = 0) (h' : (atC (l ++ [s]) x r).2 = 0) :
    okG (atC (l ++ [s]) x r).1 = true ∧ (atC l x r).1.1 ≤ (atC (l ++ [s]) x r).1.1 ∧ (atC (l ++ [s]) x r).1.2 ≤ (atC l x r).1.2 := by
  obtain ⟨_, _, _, a4, _⟩ := atC_ok h
  obtain ⟨_, _, _, b4, b5⟩ := atC_ok h'
  rw [a4, b4]
  refine ⟨by unfold okG; simpa using b5, ?_⟩
  have : gapsL (l ++ [s]) x r = gapsL l x r ++ [(atS s x r).1] := by unfold gapsL; simp
  rw [this, meetF_snoc]
  have e1 : (meetStep (meetF (gapsL l x r)) (atS s x r).1).1 = max (meetF (gapsL l x r)).1 (atS s x r).1.1 := rfl
  have e2 : (meetStep (meetF (gapsL l x r)) (atS s x r).1).2 = min (meetF (gapsL l x r)).2 (atS s x r).1.2 := rfl
  omega

theorem slack_mono {a b r : Int} (h0 : 0 ≤ r) (h1 : r ≤ 100000) (h : a ≤ b) : slackL a r ≤ slackL b r := by
  unfold slackL
  exact cdiv_mono (by omega) (Int.mul_le_mul_of_nonneg_right h h0)

/-- A slack is a ninth of the distance, or less, and 1. -/
theorem slack_ninth {a r : Int} (h0 : 0 ≤ r) (h1 : r ≤ 100000) (ha : 0 ≤ a) : 0 ≤ slackL a r ∧ slackL a r ≤ a / 9 + 1 := by
  have hp : 0 ≤ a * r / (1000000 - r) := Int.ediv_nonneg (Int.mul_nonneg ha h0) (by omega)
  refine ⟨by unfold slackL cdiv; split <;> omega, ?_⟩
  unfold slackL
  refine cdiv_le (by omega) ?_
  have e1 : a ≤ 9 * (a / 9 + 1) := by omega
  have e2 : a * r ≤ 9 * (a / 9 + 1) * r := Int.mul_le_mul_of_nonneg_right e1 h0
  have e3 : (a / 9 + 1) * (9 * r) ≤ (a / 9 + 1) * (1000000 - r) := Int.mul_le_mul_of_nonneg_left (by omega) (by omega)
  have e4 : 9 * (a / 9 + 1) * r = (a / 9 + 1) * (9 * r) := by rw [Int.mul_comm 9 (a / 9 + 1), Int.mul_assoc]
  omega

def farS (s : Smp) (x : Int) : Int := max (max (max (x - s.got) (s.got - x)) (x - s.sent)) (s.sent - x)

theorem at_width {s : Smp} {x r : Int} (h : (atS s x r).2 = 0) : (atS s x r).1.2 - (atS s x r).1.1 ≤ tripS s + 2 * slackL (farS s x) r + 4 := by
  obtain ⟨a1, a2, a3, a4, -⟩ := atS_ok h
  obtain ⟨c1, c2⟩ := at_plain a1 a2 a3
  obtain ⟨r0, r1⟩ := rate_parts a3
  have n1 := low_near r0 r1 (x := x - s.got)
  have n2 := low_near r0 r1 (x := -(x - s.sent))
  have m1 := slack_mono r0 r1 (a := max (x - s.got) (-(x - s.got))) (b := farS s x) (by unfold farS; omega)
  have m2 := slack_mono r0 r1 (a := max (-(x - s.sent)) (-(-(x - s.sent)))) (b := farS s x) (by unfold farS; omega)
  have e2 : highL (x - s.sent) r = -lowL (-(x - s.sent)) r := rfl
  have e3 : tripS s = (s.came - s.asked) - (s.sent - s.got) := by unfold tripS; rw [if_pos a1]
  rw [a4, e3]
  simp only
  omega

/-- What is asked of each sample of a clock that answers. -/
theorem width_one {l : List Smp} {x r : Int} (h : (atC l x r).2 = 0) {s : Smp} (hs : s ∈ l) :
    (atS s x r).2 = 0 ∧ rightS s = true ∧ timeB x = true ∧ slackR (farS s x) r = (slackL (farS s x) r, 0) ∧ 0 ≤ farS s x ∧ farS s x ≤ 4611686018427387903 ∧
      okG (atC l x r).1 = true ∧ (atS s x r).1.1 ≤ (atC l x r).1.1 ∧ (atC l x r).1.2 ≤ (atS s x r).1.2 ∧ (atC l x r).1.2 - (atC l x r).1.1 ≤ tripS s + 2 * slackL (farS s x) r + 4 ∧
      0 ≤ (atC l x r).1.1 ∧ (atC l x r).1.2 ≤ 4611686018427387903 ∧ 0 ≤ slackL (farS s x) r ∧ slackL (farS s x) r ≤ 512409557603043102 ∧ -4611686018427387904 ≤ tripS s ∧ tripS s ≤ 4611686018427387903 := by
  obtain ⟨_, b2, b3, b4, b5⟩ := atC_ok h
  have h1 := gapsOk_iff.1 b3 s hs
  obtain ⟨a1, a2, a3, a4, a5⟩ := atS_ok h1
  have p := rightS_parts a1
  have q := time_parts a2
  obtain ⟨r0, r1⟩ := rate_parts a3
  have hf0 : 0 ≤ farS s x := by unfold farS; omega
  have hf1 : farS s x ≤ 4611686018427387903 := by unfold farS; omega
  have hn := slack_ninth r0 r1 hf0
  have hw := at_width h1
  obtain ⟨m1, m2, m3⟩ := meet_fold (gapsL l x r) (-9223372036854775808, 9223372036854775807)
  have hmem : (atS s x r).1 ∈ gapsL l x r := List.mem_map.2 ⟨s, hs, rfl⟩
  have hm := m3 _ hmem
  have hg := gaps_right b3 _ hmem
  have e3 : tripS s = (s.came - s.asked) - (s.sent - s.got) := by unfold tripS; rw [if_pos a1]
  have hfold : (gapsL l x r).foldl meetStep (-9223372036854775808, 9223372036854775807) = meetF (gapsL l x r) := rfl
  rw [hfold] at hm
  refine ⟨h1, a1, a2, ?_, hf0, hf1, by rw [b4]; unfold okG; simpa using b5, by rw [b4]; exact hm.1, by rw [b4]; exact hm.2, by rw [b4]; omega, by rw [b4]; omega, by rw [b4]; omega, hn.1, by omega, by omega, by omega⟩
  unfold slackR farB
  rw [a3, if_neg (by simp; omega)]

end Go.Proofs.Ytkgodolhcoeaeaa
