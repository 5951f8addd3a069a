/- Clock: the law ClockMeets walked. No condition. -/
import Derived.Test.YtkgodolhcoeaeaaCn
import Derived.Test.YtkgodolhcoeaeaaCp
namespace Go.Proofs.Ytkgodolhcoeaeaa
open Go.RowKit

/-- A clock that is asked again, with a sample more. -/
theorem more_law {c : Clk} {s : Smp} {x : Int} (hl : c.list.length ≤ 7) (ha : (addC c s).2 = 0) (h1 : (atC c.list x c.rho).2 = 0) (h2 : (atC (addC c s).1.list x (addC c s).1.rho).2 = 0) :
    okG (atC (addC c s).1.list x (addC c s).1.rho).1 = true ∧ (atC c.list x c.rho).1.1 ≤ (atC (addC c s).1.list x (addC c s).1.rho).1.1 ∧ (atC (addC c s).1.list x (addC c s).1.rho).1.2 ≤ (atC c.list x c.rho).1.2 := by
  rcases addC_cases c s with ⟨-, e⟩ | e | ⟨l, e, -⟩
  · rw [e] at ha; simp at ha
  · rw [e] at h2 ⊢
    have hd : addL c.list s = c.list ++ [s] := by
      unfold addL
      rw [show (c.list ++ [s]).length - 8 = 0 by rw [List.length_append]; simp; omega]; rfl
    simp only [hd] at h2 ⊢
    exact meet_more h1 h2
  · rw [e] at ha; simp at ha

set_option maxRecDepth 100000 in
set_option maxHeartbeats 16000000 in
theorem meets_ok (rho : Int) (A : Option Addr) (n cap : Nat) (l : List Smp) (s : Smp) (x : Int) (w : World) (hn : n = l.length) (hn2 : n ≤ 60) (hnb : newBad rho 2 = false) (hG : SmpsIn w A l) (hx : inI x) :
    Calls Try.prog 6 #[.int .i64 rho, .slice A n cap, encS s, .int .i64 x] w fun e w' => e = .returned (.bool true) ∧ Below w.heap.size w w' := by
  obtain ⟨i0, hi, hz0, hz1, hz2⟩ := info_parts infoGap
  obtain ⟨sa, sg, ss, sc⟩ := s
  unfold encS
  simp only
  have HBw := Lib.hid ((Below.refl w.heap.size w).alloc (Nat.le_refl _) (.cells #[.int .i64 sa, .int .i64 sg, .int .i64 ss, .int .i64 sc] 23))
  have HS0 := Lib.hid (Bx4.new w 23 ⟨sa, sg, ss, sc⟩)
  have HG := Lib.hid (hG.turn HBw.out)
  have HN := Lib.hid hn
  have HNB := Lib.hid hnb
  have HX := Lib.hid hx
  clear hG hn hnb hx
  have h60 : ¬ (60 : Int) < (n : Int) := by omega
  go_enter Try.func6, Try.ntmps6
  go_wp2_with fail
  generalize hW0 : w.alloc (.cells #[.int .i64 sa, .int .i64 sg, .int .i64 ss, .int .i64 sc] 23) = W0 at *
  have HW0 := Lib.hid hW0
  clear hW0
  refine (alive_walk _).mono ?_
  rintro e w1 ⟨rfl, hB1⟩
  have HB1 := Lib.hid hB1
  clear hB1
  go_wp2_with fail
  refine (newC_ok rho 2 HNB.out _).mono ?_
  rintro e w2 ⟨bc, rfl, hb2, hs2, hB2⟩
  have HL0 := Lib.hid (LInv.start (w := W0) hs2 (Nat.le_trans HB1.out.size hb2) (HB1.out.trans (hB2.mono HB1.out.size)))
  clear hb2 hs2 hB2 HB1
  go_wp2_with fail
  go_loopw [11] (fun i wr => ∃ (k : Nat) (c : Clk) (v : Value), k ≤ n ∧ i = .int .i64 k ∧ LInv W0 wr bc rho 2 k c v) (fun i _ => n - (intOf i).toNat)
  case atStart => exact ⟨0, _, _, Nat.zero_le _, rfl, HL0.out⟩
  case round =>
    clear HL0
    obtain ⟨k, c, v, hk, rfl, hL⟩ := hrel
    have HL := Lib.hid hL
    clear hL
    by_cases hlt : k < n
    · have hkl : k < l.length := by have := HN.out; omega
      obtain ⟨bb, off, hA, hbl, hg⟩ := HG.out k hkl
      subst hA
      obtain ⟨e0, e1, e2, e3⟩ := hg.turn hbl HL.out.inv.bel
      have hbw : bb < wr.heap.size := by have := HL.out.inv.bel.size; omega
      have hkw : wrap64 (0 + (k : Int)) = k := by simp [wrap64]; omega
      have hx0 : (0 : Int) ≤ (k : Int) := Int.natCast_nonneg _
      have hx1 : (k : Int) < (n : Int) := by omega
      generalize l[k] = s at e0 e1 e2 e3
      have hca := HL.out.add (by omega) s
      have HCA := Lib.hid hca
      clear hg hca
      go_wp2_with fail
      refine HCA.out.mono ?_
      rintro e w3 ⟨rfl, v3, hL3⟩
      have HL3 := Lib.hid hL3
      clear hL3 HCA hkw e0 e1 e2 e3
      go_wp2_with fail
      go_roundw
      case rel => exact ⟨k + 1, _, _, hlt, by simp, HL3.out⟩
      case measure => simp [intOf]; omega
    · obtain rfl : k = n := by omega
      obtain ⟨crho, cneed, cheld, cst, cl⟩ := c
      have hcr := HL.out.rho
      simp only at hcr
      subst hcr
      have hc2 := HL.out.len
      simp only at hc2
      go_wp2_with fail
      have hq := atC_walk bc _ v x wr HL.out.inv.st (by simp only; omega) HX.out
      simp only at hq
      have hml := @more_law ⟨crho, cneed, cheld, cst, cl⟩ ⟨sa, sg, ss, sc⟩ x
      have hz := @atC_bad cl x crho
      have ha := @atC_all cl x crho
      have he : cl.length = 0 → (atC cl x crho).2 = 19 := fun h => by unfold atC; rw [if_pos h]
      simp only at hml
      generalize atC cl x crho = g at *
      obtain ⟨⟨g1, g2⟩, f⟩ := g
      unfold encG at hq
      simp only at hq hml hz ha he
      have HML := Lib.hid hml
      have HZ := Lib.hid hz
      have HA := Lib.hid ha
      have HE := Lib.hid he
      clear hml hz ha he
      refine hq.mono ?_
      clear hq
      rintro e w4 ⟨rfl, hB4⟩
      have HL4 := Lib.hid ((HL.out.ext hB4).ext ((Below.refl _ w4).alloc (Nat.le_refl _) (.cells #[.int .i64 g1, .int .i64 g2] 26)))
      have HG4 := Lib.hid (Box2.new w4 26 g1 g2)
      have HF := Lib.hid ((HL.out.ext hB4).inv.st.foot_lt)
      clear hB4 HL
      go_wp2_with fail
      generalize w4.alloc (.cells #[.int .i64 g1, .int .i64 g2] 26) = w5 at *
      generalize w4.heap.size = i12 at *
      refine (samples_walk bc _ v w5 HL4.out.inv.st (by simp only; omega)).mono ?_
      rintro e w6 ⟨vl, rfl, hO, hB6⟩
      simp only at hO
      obtain ⟨AL, capl, rfl, -, -, -, hin, -⟩ := smps_of_row hO
      have HL6 := Lib.hid (HL4.out.ext hB6)
      have HG6 := Lib.hid (HG4.out.ext hB6)
      have HIN := Lib.hid hin
      clear hO hB6 hin HL4 HG4
      go_wp2_with fail
      have HO6 : Hid ((w6.alloc (.cells #[] 26)).ownsRow w6.heap.size 26 2 (.slice (some ⟨w6.heap.size, 0, none⟩) 0 0) 0 []) := ⟨by simp, .inr ⟨_, 0, #[], rfl, Nat.le_refl _, heap_alloc_new w6 _, by omega, by simp [maxLen], by simp, by simp⟩⟩
      have HB6 := Lib.hid ((Below.refl w6.heap.size w6).alloc (Nat.le_refl _) (.cells #[] 26))
      generalize w6.alloc (.cells #[] 26) = w7 at *
      generalize hm : cl.length = m at *
      have HM := Lib.hid hm
      clear hm
      go_loopw [15, 16] (fun u i wx => ∃ j : Nat, j ≤ m ∧ i = .int .i64 j ∧ gapsOk (cl.take j) x crho = true ∧ wx.ownsRow w6.heap.size 26 2 u j ((gapsL (cl.take j) x crho).flatMap cellsG) ∧ Below w6.heap.size w6 wx) (fun _ i _ => m - (intOf i).toNat)
      case atStart => exact ⟨0, Nat.zero_le _, rfl, rfl, by simpa [gapsL] using HO6.out, HB6.out⟩
      case round =>
        clear HO6 HB6
        obtain ⟨j, hj, rfl, hall, hown, hB⟩ := hrel
        have HB := Lib.hid hB
        have HO := Lib.hid hown
        by_cases hjm : j < m
        · have hjl : j < cl.length := by have := HM.out; omega
          obtain ⟨bb, off, hA', hbl, hg⟩ := HIN.out j hjl
          subst hA'
          obtain ⟨e0, e1, e2, e3⟩ := hg.turn hbl hB
          have hbw : bb < wr.heap.size := by have := hB.size; omega
          have hkw : wrap64 (0 + (j : Int)) = j := by simp [wrap64]; omega
          have hx0 : (0 : Int) ≤ (j : Int) := Int.natCast_nonneg _
          have hx1 : (j : Int) < (m : Int) := by omega
          have hst := gapsOk_take cl x crho j hjl
          rw [hall] at hst
          have HST := Lib.hid hst
          have HSL := Lib.hid (gapsL_take cl x crho j hjl)
          have hat := fun w => at_walk cl[j] x crho HX.out w
          unfold encS at hat
          generalize cl[j] = s at *
          obtain ⟨ta, tg, ts, tc⟩ := s
          simp only at e0 e1 e2 e3 hat
          generalize atS ⟨ta, tg, ts, tc⟩ x crho = q at *
          obtain ⟨⟨z1, z2⟩, z3⟩ := q
          have HAT := Lib.hid hat
          unfold encG at HAT
          simp only at HAT
          clear hg hall hown hst hat hB
          go_wp2_with fail
          refine (HAT.out _).mono ?_
          rintro e w8 ⟨rfl, hB8⟩
          have HO8 : Hid (w8.ownsRow w6.heap.size 26 2 u15 j ((gapsL (cl.take j) x crho).flatMap cellsG)) := owns_below HO.out hB8
          have HO9 := Lib.hid (HO8.out.alloc (.cells #[.int .i64 z1, .int .i64 z2] 26))
          have HB8 := Lib.hid (HB.out.trans (hB8.mono HB.out.size))
          have HB9 := Lib.hid (HB8.out.alloc HB8.out.size (.cells #[.int .i64 z1, .int .i64 z2] 26))
          obtain ⟨d0, d1, d2, d3⟩ := (Box2.new w8 26 z1 z2).cells
          clear hB8 HO HB HAT e0 e1 e2 e3 hkw HO8 HB8 hbw
          by_cases hz : z3 = 0
          · subst hz
            generalize hw9 : w8.alloc (.cells #[.int .i64 z1, .int .i64 z2] 26) = w9 at *
            have hnews := World.news_of_block (cs := #[.int .i64 z1, .int .i64 z2]) (t := 26) (fr := (0, 0)) (heap_alloc_new w9 _)
            have HNW := Lib.hid hnews
            clear hnews
            go_wp2_with (at_builtin; refine wpList_append_lies _ rfl _ _ _ rfl w6.heap.size 26 i0 _ 2 16 Try.underlying45 hi hz0 hz1 hz2 rfl (by omega) u15 j ((gapsL (cl.take j) x crho).flatMap cellsG) rfl (HO9.out.alloc _) ⟨w9.heap.size, 0, none⟩ 1 1 [.int .i64 z1, .int .i64 z2] rfl rfl HNW.out (by simp [Value.oneCell']) (by omega) (by unfold maxLen; omega) (by omega) (by have := HB9.out.size; simp; omega) (w9.heap.size + 1) (by simp) ?_; intro gg cap' w10 hown1 hgrow hat hlt'; have HB10 := Lib.hid ((HB9.out.alloc HB9.out.size _).grown hgrow (by have := HB9.out.size; simp; omega) (fun q hq => (HO9.out.lt q hq).1)); have HO10 := Lib.hid hown1; clear hown1 hgrow hat hlt')
            go_roundw
            case rel =>
              refine ⟨j + 1, hjm, by simp, by rw [HST.out]; rfl, ?_, HB10.out⟩
              rw [HSL.out]
              exact HO10.out
            case measure => simp [intOf]; omega
          · have hno : gapsOk cl x crho = false := by
              cases hq : gapsOk cl x crho
              · rfl
              · have := gapsOk_of hq (j + 1)
                rw [HST.out] at this
                simp at this
                exact absurd this hz
            have hzb : (z3 == 0) = false := by simpa using hz
            have hzc : (z3 != 0) = true := by simpa using hz
            have hff := HZ.out (by omega) hno
            have HBW := Lib.hid (HBw.out.trans ((HL6.out.inv.bel.trans (HB9.out.mono HL6.out.inv.bel.size)).mono HBw.out.size))
            clear hno
            rcases hff with rfl | rfl
            · go_wp2_with fail
              go_ret
              exact ⟨rfl, HBW.out⟩
            · go_wp2_with fail
              go_ret
              exact ⟨rfl, HBW.out⟩
        · obtain rfl : j = m := by omega
          have hf : cl.take j = cl := List.take_of_length_le (by have := HM.out; omega)
          rw [hf] at hall hown
          obtain ⟨A', cap', rfl, h1, h2, h3⟩ := gaps_of_row hown
          have hme := meet21 A' j cap' (gapsL cl x crho) wr h1 (by omega) h3
          have hal : 0 < j → meetAll (gapsL cl x crho) = ((g1, g2), f) := fun h => (HA.out h hall).symm
          have HAL := Lib.hid hal
          have HME := Lib.hid hme
          have HL10 := Lib.hid (HL6.out.ext HB.out)
          have HG10 := Lib.hid (HG6.out.ext HB.out)
          clear hf hall hown HO h1 h2 h3 hme hB HB HL6 HG6 HA HZ hal HIN
          generalize meetAll (gapsL cl x crho) = t at *
          obtain ⟨⟨t1, t2⟩, t3⟩ := t
          unfold encG at HME
          simp only at HME
          go_wp2_with fail
          refine HME.out.mono ?_
          rintro e w11 ⟨rfl, hB11⟩
          have hB12 := (Below.refl w11.heap.size w11).alloc (Nat.le_refl _) (.cells #[.int .i64 t1, .int .i64 t2] 26)
          have HL12 := Lib.hid ((HL10.out.ext hB11).ext hB12)
          have HG12 := Lib.hid ((HG10.out.ext hB11).ext hB12)
          have HT12 := Lib.hid (Box2.new w11 26 t1 t2)
          clear hB11 hB12 HL10 HG10 HME
          by_cases hj0 : j = 0
          · subst hj0
            have hf19 := HE.out rfl
            subst hf19
            have HBW := Lib.hid (HBw.out.trans (HL12.out.inv.bel.mono HBw.out.size))
            go_wp2_with fail
            go_ret
            exact ⟨rfl, HBW.out⟩
          · have hal := HAL.out (by omega)
            obtain ⟨⟨rfl, rfl⟩, rfl⟩ : (t1 = g1 ∧ t2 = g2) ∧ t3 = f := by simpa using hal
            clear HAL hal HE
            have hj0b : ((j : Int) == 0) = false := by simpa using hj0
            obtain ⟨a0, a1, -, a3⟩ := HG12.out.cells
            obtain ⟨b0, b1, -, b3⟩ := HT12.out.cells
            have hsx := (show Bx4 _ w.heap.size 23 ⟨sa, sg, ss, sc⟩ from HS0.out.ext HL12.out.inv.bel)
            obtain ⟨s0, s1, s2, s3, s4⟩ := hsx.cells
            simp only at s0 s1 s2 s3
            clear hsx
            have hadd := add_any bc _ v ⟨sa, sg, ss, sc⟩ (w11.alloc (.cells #[.int .i64 t1, .int .i64 t2] 26)) HL12.out.inv.st HL12.out.len HL12.out.s0 (by have := HL12.out.sk; omega)
            have hstep := fun w' v' => @LInv.step W0 (w11.alloc (.cells #[.int .i64 t1, .int .i64 t2] 26)) w' bc crho 2 k _ v v' ⟨sa, sg, ss, sc⟩ HL12.out
            have HADD := Lib.hid hadd
            have HSTEP := Lib.hid hstep
            clear hadd hstep
            generalize addC ⟨crho, cneed, cheld, cst, cl⟩ ⟨sa, sg, ss, sc⟩ = ac at *
            obtain ⟨c2, a⟩ := ac
            simp only at HML HADD HSTEP
            by_cases hf0 : t3 = 0
            · subst hf0
              go_wp2_with fail
              refine HADD.out.mono ?_
              rintro e w13 ⟨rfl, v13, hs13, hT13, ho13⟩
              have HL13 := Lib.hid (HSTEP.out w13 v13 hs13 hT13 ho13)
              have HG13 : Hid (Box2 w13 i12 26 t1 t2) := (hT13.block i12 a3 (fun hm => by have := HF.out _ hm; omega)).trans HG12.out
              clear hs13 hT13 ho13 HL12 HG12 HADD HSTEP HT12 a0 a1 a3 b0 b1 b3 s0 s1 s2 s3 s4
              have hc8 := HL13.out.len
              have hq := atC_walk bc c2 v13 x w13 HL13.out.inv.st (by omega) HX.out
              generalize atC c2.list x c2.rho = o at *
              obtain ⟨⟨o1, o2⟩, o3⟩ := o
              unfold encG at hq
              simp only at hq HML
              have HQ := Lib.hid hq
              clear hq
              go_wp2_with fail
              refine HQ.out.mono ?_
              rintro e w14 ⟨rfl, hB14⟩
              have hB15 := (Below.refl w14.heap.size w14).alloc (Nat.le_refl _) (.cells #[.int .i64 o1, .int .i64 o2] 26)
              have HG15 := Lib.hid ((HG13.out.ext hB14).ext hB15)
              have HO15 := Lib.hid (Box2.new w14 26 o1 o2)
              have HL15 := Lib.hid ((HL13.out.ext hB14).ext hB15)
              have HBW := Lib.hid (HBw.out.trans (HL15.out.inv.bel.mono HBw.out.size))
              obtain ⟨a0, a1, -, a3⟩ := HG15.out.cells
              obtain ⟨b0, b1, -, b3⟩ := HO15.out.cells
              clear hB14 hB15 HG13 HL13 HQ HG15 HO15 HL15
              by_cases ha0 : a = 0
              · subst ha0
                by_cases ho0 : o3 = 0
                · subst ho0
                  by_cases h8 : j = 8
                  · subst h8
                    go_wp2_with fail
                    go_ret
                    exact ⟨rfl, HBW.out⟩
                  · have h8b : ((j : Int) == 8) = false := by simp; omega
                    obtain ⟨m1, m2, m3⟩ := HML.out (by have := HM.out; omega) (by first | rfl | trivial) (by first | rfl | trivial) (by first | rfl | trivial)
                    have hwi := fun w => within19 (o1, o2) (t1, t2) w
                    unfold encG at hwi
                    simp only at hwi m1 m2 m3
                    rw [m1, show decide (t1 ≤ o1) = true by simpa using m2, show decide (o2 ≤ t2) = true by simpa using m3] at hwi
                    simp only [Bool.and_self] at hwi
                    have HWI := Lib.hid hwi
                    clear hwi m1 m2 m3
                    go_wp2_with fail
                    refine (HWI.out _).mono ?_
                    rintro e w16 ⟨rfl, hB16⟩
                    have HB16 := Lib.hid (HBW.out.trans (hB16.mono HBW.out.size))
                    clear hB16
                    go_wp2_with fail
                    go_ret
                    exact ⟨rfl, HB16.out⟩
                · have z1 : (o3 == 0) = false := by simpa using ho0
                  have z2 : (o3 != 0) = true := by simpa using ho0
                  go_wp2_with fail
                  go_ret
                  exact ⟨rfl, HBW.out⟩
              · have z1 : (a == 0) = false := by simpa using ha0
                have z2 : (a != 0) = true := by simpa using ha0
                go_wp2_with fail
                go_ret
                exact ⟨rfl, HBW.out⟩
            · have hf1 : (t3 == 0) = false := by simpa using hf0
              have hf2 : (t3 != 0) = true := by simpa using hf0
              go_wp2_with fail
              refine HADD.out.mono ?_
              rintro e w13 ⟨rfl, v13, hs13, hT13, ho13⟩
              have HL13 := Lib.hid (HSTEP.out w13 v13 hs13 hT13 ho13)
              have HG13 : Hid (Box2 w13 i12 26 t1 t2) := (hT13.block i12 a3 (fun hm => by have := HF.out _ hm; omega)).trans HG12.out
              clear hs13 hT13 ho13 HL12 HG12 HADD HSTEP HT12 a0 a1 a3 b0 b1 b3 s0 s1 s2 s3 s4
              have hc8 := HL13.out.len
              have hq := atC_walk bc c2 v13 x w13 HL13.out.inv.st (by omega) HX.out
              generalize atC c2.list x c2.rho = o at *
              obtain ⟨⟨o1, o2⟩, o3⟩ := o
              unfold encG at hq
              simp only at hq HML
              have HQ := Lib.hid hq
              clear hq
              go_wp2_with fail
              refine HQ.out.mono ?_
              rintro e w14 ⟨rfl, hB14⟩
              have hB15 := (Below.refl w14.heap.size w14).alloc (Nat.le_refl _) (.cells #[.int .i64 o1, .int .i64 o2] 26)
              have HG15 := Lib.hid ((HG13.out.ext hB14).ext hB15)
              have HO15 := Lib.hid (Box2.new w14 26 o1 o2)
              have HL15 := Lib.hid ((HL13.out.ext hB14).ext hB15)
              have HBW := Lib.hid (HBw.out.trans (HL15.out.inv.bel.mono HBw.out.size))
              obtain ⟨a0, a1, -, a3⟩ := HG15.out.cells
              obtain ⟨b0, b1, -, b3⟩ := HO15.out.cells
              clear hB14 hB15 HG13 HL13 HQ HG15 HO15 HL15
              go_wp2_with fail
              go_ret
              exact ⟨rfl, HBW.out⟩

/-- ClockMeets, whatever the input. -/
theorem law_meets (rho : Int) (A : Option Addr) (n cap : Nat) (l : List Smp) (s : Smp) (x : Int) (w : World) (hn : n = l.length) (hn2 : n ≤ 9223372036854775807) (hG : SmpsIn w A l) (hx : inI x) :
    Calls Try.prog 6 #[.int .i64 rho, .slice A n cap, encS s, .int .i64 x] w fun e w' => e = .returned (.bool true) ∧ Below w.heap.size w w' := by
  by_cases h60 : n ≤ 60
  · cases hnb : newBad rho 2
    · exact meets_ok rho A n cap l s x w hn h60 hnb hG hx
    · have hk : ¬ (60 : Int) < (n : Int) := by omega
      have HNB := Lib.hid hnb
      clear hG hn hnb
      obtain ⟨sa, sg, ss, sc⟩ := s
      unfold encS
      simp only
      have HBw := Lib.hid ((Below.refl w.heap.size w).alloc (Nat.le_refl _) (.cells #[.int .i64 sa, .int .i64 sg, .int .i64 ss, .int .i64 sc] 23))
      go_enter Try.func6, Try.ntmps6
      go_wp2_with fail
      refine (alive_walk _).mono ?_
      rintro e w1 ⟨rfl, hB1⟩
      have HB1 := Lib.hid (HBw.out.trans (hB1.mono HBw.out.size))
      clear hB1
      go_wp2_with fail
      refine (newC_bad rho 2 HNB.out _).mono ?_
      rintro e w2 ⟨rfl, hB2⟩
      have HB2 := Lib.hid (HB1.out.trans (hB2.mono HB1.out.size))
      clear hB2 HB1
      go_wp2_with fail
      go_ret
      exact ⟨rfl, HB2.out⟩
  · have hk : (60 : Int) < (n : Int) := by omega
    clear hG hn
    obtain ⟨sa, sg, ss, sc⟩ := s
    unfold encS
    simp only
    have HBw := Lib.hid ((Below.refl w.heap.size w).alloc (Nat.le_refl _) (.cells #[.int .i64 sa, .int .i64 sg, .int .i64 ss, .int .i64 sc] 23))
    go_enter Try.func6, Try.ntmps6
    go_wp2_with fail
    refine (alive_walk _).mono ?_
    rintro e w1 ⟨rfl, hB1⟩
    have HB1 := Lib.hid (HBw.out.trans (hB1.mono HBw.out.size))
    clear hB1
    go_wp2_with fail
    go_ret
    exact ⟨rfl, HB1.out⟩

end Go.Proofs.Ytkgodolhcoeaeaa
