/- Clock: the law ClockRises walked. No condition. -/
import Derived.Test.YtkgodolhcoeaeaaCm
import Derived.Test.YtkgodolhcoeaeaaCp
namespace Go.Proofs.Ytkgodolhcoeaeaa
open Go.RowKit

set_option maxRecDepth 100000 in
set_option maxHeartbeats 8000000 in
theorem law_rises (s : Smp) (a b r : Int) (w : World) (_hs : inS s) (ha : inI a) (hb : inI b) :
    Calls Try.prog 3 #[encS s, .int .i64 a, .int .i64 b, .int .i64 r] w fun e w' => e = .returned (.bool true) ∧ Below w.heap.size w w' := by
  have hA := fun w => at_walk s a r ha w
  have hB := fun w => at_walk s b r hb w
  have hR := @at_rises s a b r
  generalize atS s a r = p at *
  generalize atS s b r = q at *
  obtain ⟨⟨p1, p2⟩, p3⟩ := p
  obtain ⟨⟨q1, q2⟩, q3⟩ := q
  obtain ⟨sa, sg, ss, sc⟩ := s
  unfold encS encG at *
  simp only at hA hB hR ⊢
  have HR := Lib.hid hR
  have HA := Lib.hid hA
  have HB := Lib.hid hB
  clear hA hB hR
  go_enter Try.func3, Try.ntmps3
  have HS0 := Lib.hid (Bx4.new w 23 ⟨sa, sg, ss, sc⟩)
  have HB0 := Lib.hid ((Below.refl w.heap.size w).alloc (Nat.le_refl _) (.cells #[.int .i64 sa, .int .i64 sg, .int .i64 ss, .int .i64 sc] 23))
  go_wp2_with fail
  refine (alive_walk _).mono ?_
  rintro e w1 ⟨rfl, hB1⟩
  have HS1 := Lib.hid (HS0.out.ext hB1)
  have HB1 := Lib.hid (HB0.out.trans (hB1.mono HB0.out.size))
  obtain ⟨s0, s1, s2, s3, s4⟩ := HS1.out.cells
  simp only at s0 s1 s2 s3
  clear hB1 HS0 HB0
  go_wp2_with fail
  refine (HA.out _).mono ?_
  rintro e w2 ⟨rfl, hB2⟩
  have HS2 := Lib.hid ((HS1.out.ext hB2).alloc (.cells #[.int .i64 p1, .int .i64 p2] 26))
  have HB2 := Lib.hid ((HB1.out.trans (hB2.mono HB1.out.size)).alloc (Nat.le_trans HB1.out.size hB2.size) (.cells #[.int .i64 p1, .int .i64 p2] 26))
  have HP2 := Lib.hid (Box2.new w2 26 p1 p2)
  clear hB2 HS1 HB1 s0 s1 s2 s3 s4
  obtain ⟨s0, s1, s2, s3, s4⟩ := HS2.out.cells
  simp only at s0 s1 s2 s3
  go_wp2_with fail
  generalize w2.alloc (.cells #[.int .i64 p1, .int .i64 p2] 26) = w3 at *
  generalize w2.heap.size = i2 at *
  refine (HB.out _).mono ?_
  rintro e w4 ⟨rfl, hB4⟩
  have HP4 := Lib.hid ((HP2.out.ext hB4).alloc (.cells #[.int .i64 q1, .int .i64 q2] 26))
  have HQ4 := Lib.hid (Box2.new w4 26 q1 q2)
  have HB4 := Lib.hid ((HB2.out.trans (hB4.mono HB2.out.size)).alloc (Nat.le_trans HB2.out.size hB4.size) (.cells #[.int .i64 q1, .int .i64 q2] 26))
  clear hB4 HP2 HS2 HB2 s0 s1 s2 s3 s4
  obtain ⟨c0, c1, -, c3⟩ := HP4.out.cells
  obtain ⟨d0, d1, -, d3⟩ := HQ4.out.cells
  by_cases z1 : p3 = 0
  · subst z1
    by_cases z2 : q3 = 0
    · subst z2
      by_cases z3 : b < a
      · go_wp2_with fail
        go_ret
        exact ⟨rfl, HB4.out⟩
      · obtain ⟨h1, h2⟩ := HR.out rfl rfl (by omega)
        go_wp2_with fail
        go_ret
        exact ⟨by simp [h1, h2], HB4.out⟩
    · have z2b : (q3 == 0) = false := by simpa using z2
      have z2c : (q3 != 0) = true := by simpa using z2
      go_wp2_with fail
      go_ret
      exact ⟨rfl, HB4.out⟩
  · have z1b : (p3 == 0) = false := by simpa using z1
    have z1c : (p3 != 0) = true := by simpa using z1
    go_wp2_with fail
    go_ret
    exact ⟨rfl, HB4.out⟩

end Go.Proofs.Ytkgodolhcoeaeaa
