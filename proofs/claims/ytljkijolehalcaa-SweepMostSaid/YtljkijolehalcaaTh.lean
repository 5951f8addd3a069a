/- Sweep: the fourth law (Most) walked: it holds. No condition. -/
import Derived.Test.YtljkijolehalcaaTf
namespace Go.Proofs.Ytljkijolehalcaa
open Go.RowKit

/-- What Most asks of the best ones. -/
structure MostF (gs : List (Int × Int)) (p q : Int) (m : Nat) : Prop where
  le : ∀ x, votesL x gs ≤ m
  zero : m = 0 → (p, q) = (0, 0)
  ok : 0 < m → p ≤ q
  mid : 0 < m → ∀ y, p ≤ y → y ≤ q → votesL y gs = m
  less : 0 < m → ∀ y, y < p → votesL y gs < m
  lo : 0 < m → -9223372036854775808 ≤ p
  hi : 0 < m → q ≤ 9223372036854775807
  len : m ≤ gs.length

theorem mostF {gs : List (Int × Int)} (hR : ∀ g ∈ gs, inR g) : MostF gs (refBest gs).1.1 (refBest gs).1.2 (refBest gs).2 := by
  have h := isBest gs fun g hg => (hR g hg).2.2.2
  have hin : 0 < (refBest gs).2 → -9223372036854775808 ≤ (refBest gs).1.1 ∧ (refBest gs).1.2 ≤ 9223372036854775807 := fun h0 => by
    obtain ⟨g, hg, hh, he⟩ := h.at_ h0
    have := hR g hg
    unfold inR at this
    unfold hasG at hh
    simp at hh
    omega
  refine ⟨h.le, h.zero, best_right h, fun h0 y h1 h2 => best_mid h h0 h1 h2, fun h0 y h1 => h.least y h1 h0, fun h0 => (hin h0).1, fun h0 => (hin h0).2, ?_⟩
  by_cases h0 : 0 < (refBest gs).2
  · have := h.has h0
    have := votesL_le (refBest gs).1.1 gs
    omega
  · omega

set_option maxHeartbeats 8000000 in
set_option maxRecDepth 100000 in
theorem law6 (A : Option Addr) (n c : Nat) (gs : List (Int × Int)) (x : Int) (w : World) (hn : n = gs.length) (hR : ∀ g ∈ gs, inR g) (hG : GapsIn w A gs) :
    Calls Try.prog 6 #[.slice A n c, .int .i64 x] w fun e w' => e = .returned (.bool true) ∧ Below w.heap.size w w' := by
  have HG := Lib.hid hG; clear hG
  have HN := Lib.hid hn; clear hn
  have HR := Lib.hid hR; clear hR
  go_enter Try.func6, Try.ntmps6
  go_wp2_with fail
  refine (alive7 _).mono ?_
  rintro e w1 ⟨rfl, hB1⟩
  have HB1 := Lib.hid hB1
  clear hB1
  by_cases h100 : 100 < n
  · have hd : decide ((n : Int) > 100) = true := by simp; omega
    go_wp2_with fail
    go_ret
    exact ⟨rfl, HB1.out⟩
  have hn2 : n ≤ 1000 := by omega
  have hd : decide ((n : Int) > 100) = false := by simp; omega
  have hc := best8 A n c gs _ HN.out hn2 (HG.out.turn HB1.out)
  rw [best_eq gs fun g hg => (HR.out g hg).2.2.2] at hc
  have hM := mostF HR.out
  have hA := agree_meet HR.out
  have hag := agree_eq gs fun g hg => (HR.out g hg).2.2.2
  generalize refBest gs = z at *
  obtain ⟨⟨p, q⟩, m⟩ := z
  have hmn : m ≤ n := by have := HN.out; have := hM.len; omega
  have HM : Hid (MostF gs p q m) := Lib.hid hM
  have HA := Lib.hid hA
  have HAG := Lib.hid hag
  clear hM hA hag
  go_wp2_with fail
  refine hc.mono ?_
  rintro e w2 ⟨rfl, hB2⟩
  have HB2 := Lib.hid (HB1.out.trans (hB2.mono HB1.out.size))
  have HB3 := Lib.hid (HB2.out.alloc HB2.out.size (.cells #[.int .i64 p, .int .i64 q] 25))
  have HQ3 := Lib.hid (Box2.new w2 25 p q)
  clear hc hB2 HB1 HB2
  unfold encG
  go_wp2_with fail
  generalize w2.alloc (.cells #[.int .i64 p, .int .i64 q] 25) = w3 at *
  generalize w2.heap.size = b3 at *
  have HG3 := Lib.hid (HG.out.turn HB3.out)
  refine (votes13 x A n c gs _ HN.out hn2 HG3.out).mono ?_
  rintro e w4 ⟨rfl, hB4⟩
  have HG4 := Lib.hid (HG3.out.turn hB4)
  have HB4 := Lib.hid (HB3.out.trans (hB4.mono HB3.out.size))
  have HQ4 := Lib.hid (HQ3.out.ext hB4)
  clear hB4 HG3 HB3 HQ3
  have hvx := HM.out.le x
  have hvd : decide ((votesL x gs : Int) > m) = false := by simp; omega
  obtain ⟨c0, c1, c2, c3⟩ := HQ4.out.cells
  by_cases hm0 : m = 0
  · have hz := HM.out.zero hm0
    cases hz
    subst hm0
    go_wp2_with fail
    go_ret
    exact ⟨rfl, HB4.out⟩
  have hmpos : 0 < m := by omega
  have hm0 : ((m : Int) == 0) = false := by simp; omega
  have kok : okG (p, q) = true := by have := HM.out.ok hmpos; simpa [okG] using this
  have kp := HM.out.mid hmpos p (Int.le_refl _) (HM.out.ok hmpos)
  have kq := HM.out.mid hmpos q (HM.out.ok hmpos) (Int.le_refl _)
  have km := HM.out.mid hmpos (p + (q - p) / 2) (by have := HM.out.ok hmpos; omega) (by have := HM.out.ok hmpos; omega)
  have KOK := Lib.hid kok
  have KP := Lib.hid kp
  have KQ := Lib.hid kq
  have KM := Lib.hid km
  have HVX := Lib.hid hvx
  generalize hvv : votesL x gs = vx at *
  have HVV := Lib.hid hvv
  clear kok kp kq km hvv
  go_wp2_with fail
  refine (right17 (p, q) _).mono ?_
  rintro e w5 ⟨rfl, hB5⟩
  have HG5 := Lib.hid (HG4.out.turn hB5)
  have HB5 := Lib.hid (HB4.out.trans (hB5.mono HB4.out.size))
  have HQ5 := Lib.hid (HQ4.out.ext hB5)
  clear hB5 HG4 HB4 HQ4 c0 c1 c2 c3
  obtain ⟨c0, c1, c2, c3⟩ := HQ5.out.cells
  rw [KOK.out]
  go_wp2_with fail
  refine (votes13 p A n c gs _ HN.out hn2 HG5.out).mono ?_
  rintro e w6 ⟨rfl, hB6⟩
  have HG6 := Lib.hid (HG5.out.turn hB6)
  have HB6 := Lib.hid (HB5.out.trans (hB6.mono HB5.out.size))
  have HQ6 := Lib.hid (HQ5.out.ext hB6)
  clear hB6 HG5 HB5 HQ5 c0 c1 c2 c3
  obtain ⟨c0, c1, c2, c3⟩ := HQ6.out.cells
  rw [KP.out]
  go_wp2_with fail
  refine (votes13 q A n c gs _ HN.out hn2 HG6.out).mono ?_
  rintro e w7 ⟨rfl, hB7⟩
  have HG7 := Lib.hid (HG6.out.turn hB7)
  have HB7 := Lib.hid (HB6.out.trans (hB7.mono HB6.out.size))
  have HQ7 := Lib.hid (HQ6.out.ext hB7)
  clear hB7 HG6 HB6 HQ6 c0 c1 c2 c3
  obtain ⟨c0, c1, c2, c3⟩ := HQ7.out.cells
  rw [KQ.out]
  go_wp2_with fail
  refine (mid20 (p, q) _ (HM.out.lo hmpos) (HM.out.hi hmpos) (HM.out.ok hmpos)).mono ?_
  rintro e w8 ⟨rfl, hB8⟩
  have HG8 := Lib.hid (HG7.out.turn hB8)
  have HB8 := Lib.hid (HB7.out.trans (hB8.mono HB7.out.size))
  have HQ8 := Lib.hid (HQ7.out.ext hB8)
  clear hB8 HG7 HB7 HQ7 c0 c1 c2 c3
  obtain ⟨c0, c1, c2, c3⟩ := HQ8.out.cells
  have KM' : Hid (votesL ((p, q).1 + ((p, q).2 - (p, q).1) / 2) gs = m) := KM
  generalize (p, q).1 + ((p, q).2 - (p, q).1) / 2 = md at *
  go_wp2_with fail
  refine (votes13 md A n c gs _ HN.out hn2 HG8.out).mono ?_
  rintro e w9 ⟨rfl, hB9⟩
  have HG9 := Lib.hid (HG8.out.turn hB9)
  have HB9 := Lib.hid (HB8.out.trans (hB9.mono HB8.out.size))
  have HQ9 := Lib.hid (HQ8.out.ext hB9)
  clear hB9 HG8 HB8 HQ8 c0 c1 c2 c3
  obtain ⟨c0, c1, c2, c3⟩ := HQ9.out.cells
  rw [KM'.out]
  go_wp2_with fail
  refine (has18 (p, q) x _).mono ?_
  rintro e w10 ⟨rfl, hB10⟩
  have HG10 := Lib.hid (HG9.out.turn hB10)
  have HB10 := Lib.hid (HB9.out.trans (hB10.mono HB9.out.size))
  have HQ10 := Lib.hid (HQ9.out.ext hB10)
  clear hB10 HG9 HB9 HQ9 c0 c1 c2 c3
  obtain ⟨c0, c1, c2, c3⟩ := HQ10.out.cells
  have hh : hasG x (p, q) = true → p ≤ x ∧ vx = m := fun h => by
    unfold hasG at h; simp at h
    exact ⟨h.1, by rw [← HVV.out]; exact HM.out.mid hmpos x h.1 h.2⟩
  have hl : x < p → ((vx : Int) == (m : Int)) = false := fun h => by
    have := HM.out.less hmpos x h
    have := HVV.out
    simp; omega
  have HH := Lib.hid hh
  have HL := Lib.hid hl
  clear hh hl
  cases hhas : hasG x (p, q)
  · by_cases hxp : x < p
    · have hne := HL.out hxp
      go_wp2_with fail
      refine (votes13 x A n c gs _ HN.out hn2 HG10.out).mono ?_
      rintro e w11 ⟨rfl, hB11⟩
      have HG11 := Lib.hid (HG10.out.turn hB11)
      have HB11 := Lib.hid (HB10.out.trans (hB11.mono HB10.out.size))
      have HQ11 := Lib.hid (HQ10.out.ext hB11)
      clear hB11 HG10 HB10 HQ10 c0 c1 c2 c3
      obtain ⟨c0, c1, c2, c3⟩ := HQ11.out.cells
      rw [HVV.out]
      go_wp2_with fail
      refine (meet21 A n c gs _ HN.out hn2 HG11.out).mono ?_
      rintro e w12 ⟨rfl, hB12⟩
      have ha := HA.out
      rw [show meetL gs = meetAll gs from rfl] at ha
      generalize meetAll gs = me at *
      obtain ⟨⟨p2, q2⟩, er⟩ := me
      have HA2 := Lib.hid ha
      clear HA ha
      have HG12 := Lib.hid (HG11.out.turn hB12)
      have HB12 := Lib.hid (HB11.out.trans (hB12.mono HB11.out.size))
      have HQ12 := Lib.hid (HQ11.out.ext hB12)
      have HG13 := Lib.hid (HG12.out.turn ((Below.refl _ w12).alloc (Nat.le_refl _) (.cells #[.int .i64 p2, .int .i64 q2] 25)))
      have HB13 := Lib.hid (HB12.out.alloc HB12.out.size (.cells #[.int .i64 p2, .int .i64 q2] 25))
      have HQ13 := Lib.hid (HQ12.out.alloc (.cells #[.int .i64 p2, .int .i64 q2] 25))
      have HR13 := Lib.hid (Box2.new w12 25 p2 q2)
      clear hB12 HG11 HB11 HQ11 HG12 HB12 HQ12 c0 c1 c2 c3
      unfold encG
      go_wp2_with fail
      generalize w12.alloc (.cells #[.int .i64 p2, .int .i64 q2] 25) = w13 at *
      generalize w12.heap.size = b13 at *
      refine (agree15 A n c gs _ HN.out hn2 HG13.out).mono ?_
      rintro e w14 ⟨rfl, hB14⟩
      have HG14 := Lib.hid (HG13.out.turn hB14)
      have HB14 := Lib.hid (HB13.out.trans (hB14.mono HB13.out.size))
      have HQ14 := Lib.hid (HQ13.out.ext hB14)
      have HR14 := Lib.hid (HR13.out.ext hB14)
      clear hB14 HG13 HB13 HQ13 HR13
      rw [HAG.out]
      have hc15 := agree15 A n c gs w14 HN.out hn2 HG14.out
      rw [HAG.out] at hc15
      obtain ⟨ha1, ha2⟩ := HA2.out
      have hng : decide (0 < gs.length) = true := by have := HN.out; simp; omega
      have hn0 : decide ((n : Int) > 0) = true := by simp; omega
      rw [hng] at ha1
      generalize refAgree gs = ag at *
      cases ag
      · have her : (er == 0) = false := by
          have : decide (er = 0) = false := by simpa using ha1.symm
          simpa using this
        clear HAG HA2 ha1 ha2 hng
        go_wp2_with fail
        refine hc15.mono ?_
        rintro e w15 ⟨rfl, hB15⟩
        have HB15 := Lib.hid (HB14.out.trans (hB15.mono HB14.out.size))
        clear hc15 hB15
        go_wp2_with fail
        go_ret
        exact ⟨rfl, HB15.out⟩
      · have her : er = 0 := by
          have : decide (er = 0) = true := by simpa using ha1.symm
          simpa using this
        have hpq := ha2 rfl
        cases hpq
        subst her
        clear HAG HA2 ha1 ha2 hng
        go_wp2_with fail
        refine hc15.mono ?_
        rintro e w15 ⟨rfl, hB15⟩
        have HB15 := Lib.hid (HB14.out.trans (hB15.mono HB14.out.size))
        obtain ⟨c0, c1, c2, c3⟩ := (HQ14.out.ext hB15).cells
        obtain ⟨d0, d1, d2, d3⟩ := (HR14.out.ext hB15).cells
        clear hc15 hB15
        go_wp2_with fail
        go_ret
        exact ⟨rfl, HB15.out⟩
    · go_wp2_with fail
      refine (meet21 A n c gs _ HN.out hn2 HG10.out).mono ?_
      rintro e w12 ⟨rfl, hB12⟩
      have ha := HA.out
      rw [show meetL gs = meetAll gs from rfl] at ha
      generalize meetAll gs = me at *
      obtain ⟨⟨p2, q2⟩, er⟩ := me
      have HA2 := Lib.hid ha
      clear HA ha
      have HG12 := Lib.hid (HG10.out.turn hB12)
      have HB12 := Lib.hid (HB10.out.trans (hB12.mono HB10.out.size))
      have HQ12 := Lib.hid (HQ10.out.ext hB12)
      have HG13 := Lib.hid (HG12.out.turn ((Below.refl _ w12).alloc (Nat.le_refl _) (.cells #[.int .i64 p2, .int .i64 q2] 25)))
      have HB13 := Lib.hid (HB12.out.alloc HB12.out.size (.cells #[.int .i64 p2, .int .i64 q2] 25))
      have HQ13 := Lib.hid (HQ12.out.alloc (.cells #[.int .i64 p2, .int .i64 q2] 25))
      have HR13 := Lib.hid (Box2.new w12 25 p2 q2)
      clear hB12 HG10 HB10 HQ10 HG12 HB12 HQ12 c0 c1 c2 c3
      unfold encG
      go_wp2_with fail
      generalize w12.alloc (.cells #[.int .i64 p2, .int .i64 q2] 25) = w13 at *
      generalize w12.heap.size = b13 at *
      refine (agree15 A n c gs _ HN.out hn2 HG13.out).mono ?_
      rintro e w14 ⟨rfl, hB14⟩
      have HG14 := Lib.hid (HG13.out.turn hB14)
      have HB14 := Lib.hid (HB13.out.trans (hB14.mono HB13.out.size))
      have HQ14 := Lib.hid (HQ13.out.ext hB14)
      have HR14 := Lib.hid (HR13.out.ext hB14)
      clear hB14 HG13 HB13 HQ13 HR13
      rw [HAG.out]
      have hc15 := agree15 A n c gs w14 HN.out hn2 HG14.out
      rw [HAG.out] at hc15
      obtain ⟨ha1, ha2⟩ := HA2.out
      have hng : decide (0 < gs.length) = true := by have := HN.out; simp; omega
      have hn0 : decide ((n : Int) > 0) = true := by simp; omega
      rw [hng] at ha1
      generalize refAgree gs = ag at *
      cases ag
      · have her : (er == 0) = false := by
          have : decide (er = 0) = false := by simpa using ha1.symm
          simpa using this
        clear HAG HA2 ha1 ha2 hng
        go_wp2_with fail
        refine hc15.mono ?_
        rintro e w15 ⟨rfl, hB15⟩
        have HB15 := Lib.hid (HB14.out.trans (hB15.mono HB14.out.size))
        clear hc15 hB15
        go_wp2_with fail
        go_ret
        exact ⟨rfl, HB15.out⟩
      · have her : er = 0 := by
          have : decide (er = 0) = true := by simpa using ha1.symm
          simpa using this
        have hpq := ha2 rfl
        cases hpq
        subst her
        clear HAG HA2 ha1 ha2 hng
        go_wp2_with fail
        refine hc15.mono ?_
        rintro e w15 ⟨rfl, hB15⟩
        have HB15 := Lib.hid (HB14.out.trans (hB15.mono HB14.out.size))
        obtain ⟨c0, c1, c2, c3⟩ := (HQ14.out.ext hB15).cells
        obtain ⟨d0, d1, d2, d3⟩ := (HR14.out.ext hB15).cells
        clear hc15 hB15
        go_wp2_with fail
        go_ret
        exact ⟨rfl, HB15.out⟩
  · obtain ⟨hxp, hvm⟩ := HH.out hhas
    subst hvm
    go_wp2_with fail
    refine (votes13 x A n c gs _ HN.out hn2 HG10.out).mono ?_
    rintro e w11 ⟨rfl, hB11⟩
    have HG11 := Lib.hid (HG10.out.turn hB11)
    have HB11 := Lib.hid (HB10.out.trans (hB11.mono HB10.out.size))
    have HQ11 := Lib.hid (HQ10.out.ext hB11)
    clear hB11 HG10 HB10 HQ10 c0 c1 c2 c3
    obtain ⟨c0, c1, c2, c3⟩ := HQ11.out.cells
    rw [HVV.out]
    go_wp2_with fail
    refine (meet21 A n c gs _ HN.out hn2 HG11.out).mono ?_
    rintro e w12 ⟨rfl, hB12⟩
    have ha := HA.out
    rw [show meetL gs = meetAll gs from rfl] at ha
    generalize meetAll gs = me at *
    obtain ⟨⟨p2, q2⟩, er⟩ := me
    have HA2 := Lib.hid ha
    clear HA ha
    have HG12 := Lib.hid (HG11.out.turn hB12)
    have HB12 := Lib.hid (HB11.out.trans (hB12.mono HB11.out.size))
    have HQ12 := Lib.hid (HQ11.out.ext hB12)
    have HG13 := Lib.hid (HG12.out.turn ((Below.refl _ w12).alloc (Nat.le_refl _) (.cells #[.int .i64 p2, .int .i64 q2] 25)))
    have HB13 := Lib.hid (HB12.out.alloc HB12.out.size (.cells #[.int .i64 p2, .int .i64 q2] 25))
    have HQ13 := Lib.hid (HQ12.out.alloc (.cells #[.int .i64 p2, .int .i64 q2] 25))
    have HR13 := Lib.hid (Box2.new w12 25 p2 q2)
    clear hB12 HG11 HB11 HQ11 HG12 HB12 HQ12 c0 c1 c2 c3
    unfold encG
    go_wp2_with fail
    generalize w12.alloc (.cells #[.int .i64 p2, .int .i64 q2] 25) = w13 at *
    generalize w12.heap.size = b13 at *
    refine (agree15 A n c gs _ HN.out hn2 HG13.out).mono ?_
    rintro e w14 ⟨rfl, hB14⟩
    have HG14 := Lib.hid (HG13.out.turn hB14)
    have HB14 := Lib.hid (HB13.out.trans (hB14.mono HB13.out.size))
    have HQ14 := Lib.hid (HQ13.out.ext hB14)
    have HR14 := Lib.hid (HR13.out.ext hB14)
    clear hB14 HG13 HB13 HQ13 HR13
    rw [HAG.out]
    have hc15 := agree15 A n c gs w14 HN.out hn2 HG14.out
    rw [HAG.out] at hc15
    obtain ⟨ha1, ha2⟩ := HA2.out
    have hng : decide (0 < gs.length) = true := by have := HN.out; simp; omega
    have hn0 : decide ((n : Int) > 0) = true := by simp; omega
    rw [hng] at ha1
    generalize refAgree gs = ag at *
    cases ag
    · have her : (er == 0) = false := by
        have : decide (er = 0) = false := by simpa using ha1.symm
        simpa using this
      clear HAG HA2 ha1 ha2 hng
      go_wp2_with fail
      refine hc15.mono ?_
      rintro e w15 ⟨rfl, hB15⟩
      have HB15 := Lib.hid (HB14.out.trans (hB15.mono HB14.out.size))
      clear hc15 hB15
      go_wp2_with fail
      go_ret
      exact ⟨rfl, HB15.out⟩
    · have her : er = 0 := by
        have : decide (er = 0) = true := by simpa using ha1.symm
        simpa using this
      have hpq := ha2 rfl
      cases hpq
      subst her
      clear HAG HA2 ha1 ha2 hng
      go_wp2_with fail
      refine hc15.mono ?_
      rintro e w15 ⟨rfl, hB15⟩
      have HB15 := Lib.hid (HB14.out.trans (hB15.mono HB14.out.size))
      obtain ⟨c0, c1, c2, c3⟩ := (HQ14.out.ext hB15).cells
      obtain ⟨d0, d1, d2, d3⟩ := (HR14.out.ext hB15).cells
      clear hc15 hB15
      go_wp2_with fail
      go_ret
      exact ⟨rfl, HB15.out⟩

end Go.Proofs.Ytljkijolehalcaa
