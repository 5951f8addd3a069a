/- Clock: the law ClockWidth walked. No condition. -/
import Derived.Test.YtkgodolhcoeaeaaCn
import Derived.Test.YtkgodolhcoeaeaaCp
import Derived.Test.YtkgodolhcoeaeaaCv
namespace Go.Proofs.Ytkgodolhcoeaeaa
open Go.RowKit

set_option maxRecDepth 100000 in
set_option maxHeartbeats 16000000 in
theorem width_ok (rho : Int) (A : Option Addr) (n cap : Nat) (l : List Smp) (x : Int) (w : World) (hn : n = l.length) (hn2 : n ≤ 60) (hnb : newBad rho 2 = false) (hG : SmpsIn w A l) (hx : inI x) :
    Calls Try.prog 5 #[.int .i64 rho, .slice A n cap, .int .i64 x] w fun e w' => e = .returned (.bool true) ∧ Below w.heap.size w w' := by
  have HG := Lib.hid hG
  have HN := Lib.hid hn
  have HNB := Lib.hid hnb
  have HX := Lib.hid hx
  clear hG hn hnb hx
  have h60 : ¬ (60 : Int) < (n : Int) := by omega
  go_enter Try.func5, Try.ntmps5
  go_wp2_with fail
  refine (alive_walk _).mono ?_
  rintro e w1 ⟨rfl, hB1⟩
  have HB1 := Lib.hid hB1
  clear hB1
  go_wp2_with fail
  refine (newC_ok rho 2 HNB.out _).mono ?_
  rintro e w2 ⟨bc, rfl, hb2, hs2, hB2⟩
  have HL0 := Lib.hid (LInv.start (w := w) hs2 (Nat.le_trans HB1.out.size hb2) (HB1.out.trans (hB2.mono HB1.out.size)))
  clear hb2 hs2 hB2 HB1
  go_wp2_with fail
  go_loopw [9] (fun i wr => ∃ (k : Nat) (c : Clk) (v : Value), k ≤ n ∧ i = .int .i64 k ∧ LInv w wr bc rho 2 k c v) (fun i _ => n - (intOf i).toNat)
  case atStart => exact ⟨0, _, _, Nat.zero_le _, rfl, HL0.out⟩
  case round =>
    clear HL0
    obtain ⟨k, c, v, hk, rfl, hL⟩ := hrel
    have HL := Lib.hid hL
    clear hL
    by_cases hlt : k < n
    · have hkl : k < l.length := by have := HN.out; omega
      obtain ⟨bb, off, hA, hbl, hg⟩ := HG.out k hkl
      subst hA
      obtain ⟨e0, e1, e2, e3⟩ := hg.turn hbl HL.out.inv.bel
      have hbw : bb < wr.heap.size := by have := HL.out.inv.bel.size; omega
      have hkw : wrap64 (0 + (k : Int)) = k := by simp [wrap64]; omega
      have hx0 : (0 : Int) ≤ (k : Int) := Int.natCast_nonneg _
      have hx1 : (k : Int) < (n : Int) := by omega
      generalize l[k] = s at e0 e1 e2 e3
      have hca := HL.out.add (by omega) s
      have HCA := Lib.hid hca
      clear hg hca
      go_wp2_with fail
      refine HCA.out.mono ?_
      rintro e w3 ⟨rfl, v3, hL3⟩
      have HL3 := Lib.hid hL3
      clear hL3 HCA hkw e0 e1 e2 e3
      go_wp2_with fail
      go_roundw
      case rel => exact ⟨k + 1, _, _, hlt, by simp, HL3.out⟩
      case measure => simp [intOf]; omega
    · obtain rfl : k = n := by omega
      obtain ⟨crho, cneed, cheld, cst, cl⟩ := c
      have hcr := HL.out.rho
      simp only at hcr
      subst hcr
      have hc2 := HL.out.len
      simp only at hc2
      go_wp2_with fail
      have hq := atC_walk bc _ v x wr HL.out.inv.st (by simp only; omega) HX.out
      simp only at hq
      have hz := @atC_zero cl x crho
      have ho := fun s h hs => @width_one cl x crho h s hs
      have hok := @atC_ok cl x crho
      generalize hgc : atC cl x crho = g at *
      obtain ⟨⟨g1, g2⟩, f⟩ := g
      unfold encG at hq
      simp only at hq hz ho hok
      have HZ := Lib.hid hz
      have HO := Lib.hid ho
      have HOK := Lib.hid hok
      clear hz ho hok hgc
      refine hq.mono ?_
      clear hq
      rintro e w4 ⟨rfl, hB4⟩
      have HL4 := Lib.hid ((HL.out.ext hB4).ext ((Below.refl _ w4).alloc (Nat.le_refl _) (.cells #[.int .i64 g1, .int .i64 g2] 26)))
      have HG4 := Lib.hid (Box2.new w4 26 g1 g2)
      clear hB4 HL
      by_cases hf : f = 0
      · subst hf
        obtain ⟨hlen, hti, -, -, -⟩ := HOK.out (by first | rfl | trivial)
        have HTI := Lib.hid hti
        have HLEN := Lib.hid hlen
        clear hti hlen HZ HOK
        go_wp2_with fail
        generalize w4.alloc (.cells #[.int .i64 g1, .int .i64 g2] 26) = w5 at *
        generalize w4.heap.size = i10 at *
        refine (samples_walk bc _ v w5 HL4.out.inv.st (by simp only; omega)).mono ?_
        rintro e w6 ⟨vl, rfl, hO, hB6⟩
        simp only at hO
        obtain ⟨AL, capl, rfl, -, -, -, hin, -⟩ := smps_of_row hO
        have HL6 := Lib.hid (HL4.out.ext hB6)
        have HG6 := Lib.hid (HG4.out.ext hB6)
        have HIN := Lib.hid hin
        clear hO hB6 hin HL4 HG4
        generalize hm : cl.length = m at *
        have HM := Lib.hid hm
        clear hm
        go_wp2_with fail
        go_loopw [13] (fun i wx => ∃ j : Nat, j ≤ m ∧ i = .int .i64 j ∧ Below w6.heap.size w6 wx) (fun i _ => m - (intOf i).toNat)
        case atStart => exact ⟨0, Nat.zero_le _, rfl, Below.refl _ _⟩
        case round =>
          obtain ⟨j, hj, rfl, hB⟩ := hrel
          have HB := Lib.hid hB
          by_cases hjm : j < m
          · have hjl : j < cl.length := by have := HM.out; omega
            obtain ⟨bb, off, hA', hbl, hg⟩ := HIN.out j hjl
            subst hA'
            obtain ⟨e0, e1, e2, e3⟩ := hg.turn hbl hB
            have hbw : bb < wr.heap.size := by have := hB.size; omega
            have hkw : wrap64 (0 + (j : Int)) = j := by simp [wrap64]; omega
            have hx0 : (0 : Int) ≤ (j : Int) := Int.natCast_nonneg _
            have hx1 : (j : Int) < (m : Int) := by omega
            have hone := HO.out cl[j] (by first | rfl | trivial) (List.getElem_mem hjl)
            have hat := fun w => at_walk cl[j] x crho HX.out w
            have htr := fun w => trip_walk cl[j] w
            unfold encS at hat htr
            generalize cl[j] = s at *
            have hfs : farS s x = max (max (max (x - s.got) (s.got - x)) (x - s.sent)) (s.sent - x) := rfl
            have hrp := @rightS_parts s
            obtain ⟨o1, o2, o3, o4, o5, o6, o7, o8, o9, o10, o11, o12, o13, o14, o15, o16⟩ := hone
            have hrp := hrp o2
            have htp := time_parts o3
            have hsl := fun w => slack_walk (farS s x) crho w
            rw [o4] at hsl
            generalize farS s x = fs at *
            generalize slackL fs crho = sl at *
            generalize tripS s = tr at *
            generalize atS s x crho = q at *
            obtain ⟨⟨z1, z2⟩, z3⟩ := q
            obtain ⟨ta, tg, ts, tc⟩ := s
            simp only at e0 e1 e2 e3 hat htr hfs hrp hsl o1 o7 o8 o9 o10 o11 o12
            subst o1
            have HAT := Lib.hid hat
            unfold encG at HAT
            simp only at HAT
            have HTR := Lib.hid htr
            have HSL := Lib.hid hsl
            clear hg hat htr hsl hB o2 o3 o4
            have q1 : wrap64 (x - tg) = x - tg := by simp [wrap64]; omega
            have q2 : wrap64 (tg - x) = tg - x := by simp [wrap64]; omega
            have q3 : wrap64 (x - ts) = x - ts := by simp [wrap64]; omega
            have q4 : wrap64 (ts - x) = ts - x := by simp [wrap64]; omega
            have HFS := Lib.hid hfs.symm
            have HS7 := Lib.hid (Bx4.new wr 23 ⟨ta, tg, ts, tc⟩)
            have HB7 := Lib.hid (HB.out.alloc HB.out.size (.cells #[.int .i64 ta, .int .i64 tg, .int .i64 ts, .int .i64 tc] 23))
            have HG7 := Lib.hid ((HG6.out.ext HB.out).alloc (.cells #[.int .i64 ta, .int .i64 tg, .int .i64 ts, .int .i64 tc] 23))
            obtain ⟨y0, y1, y2, y3, y4⟩ := HS7.out.cells
            simp only at y0 y1 y2 y3
            clear hfs
            have hmx : ∀ (ats : Array TypeId) (ty : TypeId) (w : World), (Builtin.max_ ats ty #[.int .i64 (x - tg), .int .i64 (tg - x), .int .i64 (x - ts), .int .i64 (ts - x)]).run Try.prog w = .ok (.int .i64 fs) w := fun ats ty w => by rw [run_max4, HFS.out]
            go_wp2_with fail
            refine (HSL.out _).mono ?_
            rintro e w8 ⟨rfl, hB8⟩
            have HS8 := Lib.hid (HS7.out.ext hB8)
            have HG8 := Lib.hid (HG7.out.ext hB8)
            have HB8 := Lib.hid (HB7.out.trans (hB8.mono HB7.out.size))
            clear hB8 HS7 HG7 HB7 y0 y1 y2 y3 y4 e0 e1 e2 e3 hkw hmx q1 q2 q3 q4 HSL
            obtain ⟨y0, y1, y2, y3, y4⟩ := HS8.out.cells
            simp only at y0 y1 y2 y3
            go_wp2_with fail
            refine (HAT.out _).mono ?_
            rintro e w9 ⟨rfl, hB9⟩
            have hB10 := (Below.refl w9.heap.size w9).alloc (Nat.le_refl _) (.cells #[.int .i64 z1, .int .i64 z2] 26)
            have HS10 := Lib.hid ((HS8.out.ext hB9).ext hB10)
            have HG10 := Lib.hid ((HG8.out.ext hB9).ext hB10)
            have HB10 := Lib.hid ((HB8.out.trans (hB9.mono HB8.out.size)).trans (hB10.mono (Nat.le_trans HB8.out.size hB9.size)))
            have HZ10 := Lib.hid (Box2.new w9 26 z1 z2)
            clear hB9 hB10 HS8 HG8 HB8 y0 y1 y2 y3 y4 HAT
            have hwi := fun w => within19 (g1, g2) (z1, z2) w
            unfold encG at hwi
            simp only at hwi
            rw [o7, show decide (z1 ≤ g1) = true by simpa using o8, show decide (g2 ≤ z2) = true by simpa using o9] at hwi
            simp only [Bool.and_self] at hwi
            have HWI := Lib.hid hwi
            clear hwi
            have hgg : g1 ≤ g2 := by simpa [okG] using o7
            have r1 : wrap64 (g2 - g1) = g2 - g1 := by simp [wrap64]; omega
            have r2 : wrap64 (2 * sl) = 2 * sl := by simp [wrap64]; omega
            have r3 : wrap64 (tr + 2 * sl) = tr + 2 * sl := by simp [wrap64]; omega
            have r4 : wrap64 (tr + 2 * sl + 4) = tr + 2 * sl + 4 := by simp [wrap64]; omega
            have s1 : IntKind.i64.wrap (g2 - g1) = g2 - g1 := by simp [IntKind.wrap, IntKind.signed, IntKind.bits]; omega
            have s2 : IntKind.i64.wrap (2 * sl) = 2 * sl := by simp [IntKind.wrap, IntKind.signed, IntKind.bits]; omega
            have s3 : IntKind.i64.wrap (tr + 2 * sl) = tr + 2 * sl := by simp [IntKind.wrap, IntKind.signed, IntKind.bits]; omega
            have s4 : IntKind.i64.wrap (tr + 2 * sl + 4) = tr + 2 * sl + 4 := by simp [IntKind.wrap, IntKind.signed, IntKind.bits]; omega
            have d1 : decide (tr + 2 * sl + 4 < g2 - g1) = false := by simp; omega
            go_wp2_with fail
            generalize w9.alloc (.cells #[.int .i64 z1, .int .i64 z2] 26) = w11 at *
            generalize w9.heap.size = i18 at *
            generalize wr.heap.size = i14 at *
            obtain ⟨y0, y1, y2, y3, y4⟩ := HS10.out.cells
            obtain ⟨a0, a1, -, a3⟩ := HG10.out.cells
            obtain ⟨b0, b1, -, b3⟩ := HZ10.out.cells
            simp only at y0 y1 y2 y3
            have x0 := fun e : Ext w11 => e.cell (p := ⟨i14, 0, none⟩) y4 y0
            have x1 := fun e : Ext w11 => e.cell (p := ⟨i14, 1, none⟩) y4 y1
            have x2 := fun e : Ext w11 => e.cell (p := ⟨i14, 2, none⟩) y4 y2
            have x3 := fun e : Ext w11 => e.cell (p := ⟨i14, 3, none⟩) y4 y3
            have x4 := fun e : Ext w11 => e.cell (p := ⟨i10, 0, none⟩) a3 a0
            have x5 := fun e : Ext w11 => e.cell (p := ⟨i10, 1, none⟩) a3 a1
            have x6 := fun e : Ext w11 => e.cell (p := ⟨i18, 0, none⟩) b3 b0
            have x7 := fun e : Ext w11 => e.cell (p := ⟨i18, 1, none⟩) b3 b1
            refine wp_region_ext (by kernel_rfl) (by kernel_rfl) ?_
            repeat (go_big_quiet_step ((first | (go_at_call 17; exact Calls.ext (HWI.out _)) | (go_at_call 18; exact Calls.ext (HTR.out _)))))
            refine wpQuiet_nil ?_
            rintro _ ⟨e7, rfl⟩
            have HB12 := Lib.hid (HB10.out.trans (e7.below.mono HB10.out.size))
            clear x0 x1 x2 x3 x4 x5 x6 x7 y0 y1 y2 y3 y4 a0 a1 a3 b0 b1 b3 HS10 HG10 HZ10 HB10
            go_wp2_with fail
            refine ⟨⟨j + 1, hjm, by simp, HB12.out⟩, by simp [intOf]; omega⟩
          · obtain rfl : j = m := by omega
            have hm0 := HLEN.out
            have hm0' : (0 : Int) < (j : Int) := by omega
            have HBW := Lib.hid (HL6.out.inv.bel.trans (HB.out.mono HL6.out.inv.bel.size))
            go_wp2_with fail
            go_ret
            exact ⟨by simp <;> omega, HBW.out⟩
      · have hf1 : (f == 0) = false := by simpa using hf
        have hf2 : (f != 0) = true := by simpa using hf
        obtain ⟨rfl, rfl⟩ : g1 = 0 ∧ g2 = 0 := by simpa using HZ.out hf
        have HBW := Lib.hid HL4.out.inv.bel
        go_wp2_with fail
        go_ret
        exact ⟨rfl, HBW.out⟩

/-- ClockWidth, whatever the input. -/
theorem law_width (rho : Int) (A : Option Addr) (n cap : Nat) (l : List Smp) (x : Int) (w : World) (hn : n = l.length) (hn2 : n ≤ 9223372036854775807) (hG : SmpsIn w A l) (hx : inI x) :
    Calls Try.prog 5 #[.int .i64 rho, .slice A n cap, .int .i64 x] w fun e w' => e = .returned (.bool true) ∧ Below w.heap.size w w' := by
  by_cases h60 : n ≤ 60
  · cases hnb : newBad rho 2
    · exact width_ok rho A n cap l x w hn h60 hnb hG hx
    · have hk : ¬ (60 : Int) < (n : Int) := by omega
      have HNB := Lib.hid hnb
      clear hG hn hnb
      go_enter Try.func5, Try.ntmps5
      go_wp2_with fail
      refine (alive_walk _).mono ?_
      rintro e w1 ⟨rfl, hB1⟩
      have HB1 := Lib.hid hB1
      clear hB1
      go_wp2_with fail
      refine (newC_bad rho 2 HNB.out _).mono ?_
      rintro e w2 ⟨rfl, hB2⟩
      have HB2 := Lib.hid (HB1.out.trans (hB2.mono HB1.out.size))
      clear hB2 HB1
      go_wp2_with fail
      go_ret
      exact ⟨rfl, HB2.out⟩
  · have hk : (60 : Int) < (n : Int) := by omega
    clear hG hn
    go_enter Try.func5, Try.ntmps5
    go_wp2_with fail
    refine (alive_walk _).mono ?_
    rintro e w1 ⟨rfl, hB1⟩
    have HB1 := Lib.hid hB1
    clear hB1
    go_wp2_with fail
    go_ret
    exact ⟨rfl, HB1.out⟩

end Go.Proofs.Ytkgodolhcoeaeaa
