/- Sweep: the first law (Answers) walked: it holds. No condition. -/
import Derived.Test.YtljkijolehalcaaTj
namespace Go.Proofs.Ytljkijolehalcaa
open Go.RowKit

set_option maxHeartbeats 8000000 in
set_option maxRecDepth 100000 in
theorem law3 (A : Option Addr) (n c : Nat) (gs : List (Int × Int)) (x f : Int) (w : World) (hn : n = gs.length) (hnil : A = none → n = 0 ∧ c = 0) (hR : ∀ g ∈ gs, inR g) (hG : GapsIn w A gs) :
    Calls Try.prog 3 #[.slice A n c, .int .i64 x, .int .i64 f] w fun e w' => e = .returned (.bool true) ∧ Below w.heap.size w w' := by
  have hmax : ∀ g ∈ gs, g.2 ≤ 9223372036854775807 := fun g hg => (hR g hg).2.2.2
  have HG := Lib.hid hG; clear hG
  have HN := Lib.hid hn; clear hn
  go_enter Try.func3, Try.ntmps3
  go_wp2_with fail
  refine (alive7 _).mono ?_
  rintro e w1 ⟨rfl, hB1⟩
  have HB1 := Lib.hid hB1
  clear hB1
  by_cases h100 : 100 < n
  · have hd : decide ((n : Int) > 100) = true := by simp; omega
    go_wp2_with fail
    go_ret
    exact ⟨rfl, HB1.out⟩
  have hn2 : n ≤ 1000 := by omega
  have hd : decide ((n : Int) > 100) = false := by simp; omega
  have hag := fun (A : Option Addr) (c : Nat) (w : World) (h : GapsIn w A gs) => agree15 A n c gs w HN.out hn2 h
  rw [agree_eq gs hmax] at hag
  have hrb := fun (A : Option Addr) (c : Nat) (w : World) (h : GapsIn w A gs) => rbest9 A n c gs w HN.out hn2 h
  have hwe := fun (A : Option Addr) (c : Nat) (w : World) (h : GapsIn w A gs) => without11 f A n c gs w HN.out hn2 h
  rw [without_eq] at hwe
  have hrw := fun (A : Option Addr) (c : Nat) (w : World) (h : GapsIn w A gs) => rwithout12 f A n c gs w HN.out hn2 h
  have hrag : refAgree gs = refAgree gs := rfl
  generalize refWithout f gs = y at *
  obtain ⟨⟨u, v⟩, ok⟩ := y
  have hlit := World.ownsRow_lit (base := w.heap.size) (e := 25) (size := 2) w1 #[] 0 HB1.out.size (by unfold maxLen; omega) rfl
  have HLIT := Lib.hid hlit
  have HBA := Lib.hid (HB1.out.alloc HB1.out.size (.cells #[] 25))
  clear hlit
  go_wp2_with (at_builtin; refine wpList_append_gaps rfl _ _ rfl w.heap.size _ [] gs 0 rfl rfl HLIT.out A n c rfl HN.out hnil (HG.out.turn HBA.out) (by have := HN.out; simp; omega) HBA.out.size ?_; intro v2 w2 hown2 hgrow2; have HB2 := Lib.hid (HBA.out.grown hgrow2 HBA.out.size (fun q hq => (HLIT.out.lt q hq).1)); obtain ⟨A2, c2, hv2, _, _, hG2⟩ := gaps_of_row hown2; subst hv2; have hl2 : ([] ++ gs).length = n := HN.out.symm; rw [hl2]; have HGO_2 := Lib.hid hG2; clear hG2 hown2 hgrow2 HLIT HBA HB1 hl2)
  have hbe := best_eq gs hmax
  have hc := best8 A2 n c2 gs _ HN.out hn2 HGO_2.out
  rw [hbe] at hc
  generalize refBest gs = z at *
  obtain ⟨⟨p, q⟩, m⟩ := z
  have HAG := Lib.hid hag; clear hag hbe
  have HRB := Lib.hid hrb; clear hrb
  have HWE := Lib.hid hwe; clear hwe
  have HRW := Lib.hid hrw; clear hrw
  refine (hc).mono ?_
  rintro e w3 ⟨rfl, hB3⟩
  have HB3 := Lib.hid (HB2.out.trans (hB3.mono HB2.out.size))
  have HGO_3 := Lib.hid (HGO_2.out.turn hB3)
  clear hB3 HB2 HGO_2
  clear hc
  have HB4 := Lib.hid (HB3.out.alloc HB3.out.size (.cells #[.int .i64 p, .int .i64 q] 25))
  have HGO_4 := Lib.hid (HGO_3.out.turn ((Below.refl _ w3).alloc (Nat.le_refl _) (.cells #[.int .i64 p, .int .i64 q] 25)))
  have HQ8_4 := Lib.hid (Box2.new w3 25 p q)
  clear HB3 HGO_3
  unfold encG
  go_wp2_with fail
  generalize w3.alloc (.cells #[.int .i64 p, .int .i64 q] 25) = w4 at *
  generalize w3.heap.size = bQ8 at *
  refine (of10 A n c gs _ HN.out hn2 (HG.out.turn HB4.out)).mono ?_
  rintro e w5 ⟨A5, c5, rfl, hG5, hB5⟩
  have HB5 := Lib.hid (HB4.out.trans (hB5.mono HB4.out.size))
  have HGO_5 := Lib.hid (HGO_4.out.turn hB5)
  have HQ8_5 := Lib.hid (HQ8_4.out.ext hB5)
  clear hB5 HB4 HGO_4 HQ8_4
  have HG5 := Lib.hid hG5; clear hG5
  go_wp2_with fail
  refine (HRB.out A5 c5 _ HG5.out).mono ?_
  rintro e w6 ⟨rfl, hB6⟩
  have HB6 := Lib.hid (HB5.out.trans (hB6.mono HB5.out.size))
  have HGO_6 := Lib.hid (HGO_5.out.turn hB6)
  have HQ8_6 := Lib.hid (HQ8_5.out.ext hB6)
  clear hB6 HB5 HGO_5 HQ8_5
  clear HG5
  have HB7 := Lib.hid (HB6.out.alloc HB6.out.size (.cells #[.int .i64 p, .int .i64 q] 28))
  have HGO_7 := Lib.hid (HGO_6.out.turn ((Below.refl _ w6).alloc (Nat.le_refl _) (.cells #[.int .i64 p, .int .i64 q] 28)))
  have HQ8_7 := Lib.hid (HQ8_6.out.alloc (.cells #[.int .i64 p, .int .i64 q] 28))
  have HQ10_7 := Lib.hid (Box2.new w6 28 p q)
  clear HB6 HGO_6 HQ8_6
  unfold encG
  go_wp2_with fail
  generalize w6.alloc (.cells #[.int .i64 p, .int .i64 q] 28) = w7 at *
  generalize w6.heap.size = bQ10 at *
  refine (HWE.out A2 c2 _ HGO_7.out).mono ?_
  rintro e w8 ⟨rfl, hB8⟩
  have HB8 := Lib.hid (HB7.out.trans (hB8.mono HB7.out.size))
  have HGO_8 := Lib.hid (HGO_7.out.turn hB8)
  have HQ8_8 := Lib.hid (HQ8_7.out.ext hB8)
  have HQ10_8 := Lib.hid (HQ10_7.out.ext hB8)
  clear hB8 HB7 HGO_7 HQ8_7 HQ10_7
  have HB9 := Lib.hid (HB8.out.alloc HB8.out.size (.cells #[.int .i64 u, .int .i64 v] 25))
  have HGO_9 := Lib.hid (HGO_8.out.turn ((Below.refl _ w8).alloc (Nat.le_refl _) (.cells #[.int .i64 u, .int .i64 v] 25)))
  have HQ8_9 := Lib.hid (HQ8_8.out.alloc (.cells #[.int .i64 u, .int .i64 v] 25))
  have HQ10_9 := Lib.hid (HQ10_8.out.alloc (.cells #[.int .i64 u, .int .i64 v] 25))
  have HQ12_9 := Lib.hid (Box2.new w8 25 u v)
  clear HB8 HGO_8 HQ8_8 HQ10_8
  unfold encG
  go_wp2_with fail
  generalize w8.alloc (.cells #[.int .i64 u, .int .i64 v] 25) = w9 at *
  generalize w8.heap.size = bQ12 at *
  refine (of10 A n c gs _ HN.out hn2 (HG.out.turn HB9.out)).mono ?_
  rintro e w10 ⟨A10, c10, rfl, hG10, hB10⟩
  have HB10 := Lib.hid (HB9.out.trans (hB10.mono HB9.out.size))
  have HGO_10 := Lib.hid (HGO_9.out.turn hB10)
  have HQ8_10 := Lib.hid (HQ8_9.out.ext hB10)
  have HQ10_10 := Lib.hid (HQ10_9.out.ext hB10)
  have HQ12_10 := Lib.hid (HQ12_9.out.ext hB10)
  clear hB10 HB9 HGO_9 HQ8_9 HQ10_9 HQ12_9
  have HG10 := Lib.hid hG10; clear hG10
  go_wp2_with fail
  refine (HRW.out A10 c10 _ HG10.out).mono ?_
  rintro e w11 ⟨rfl, hB11⟩
  have HB11 := Lib.hid (HB10.out.trans (hB11.mono HB10.out.size))
  have HGO_11 := Lib.hid (HGO_10.out.turn hB11)
  have HQ8_11 := Lib.hid (HQ8_10.out.ext hB11)
  have HQ10_11 := Lib.hid (HQ10_10.out.ext hB11)
  have HQ12_11 := Lib.hid (HQ12_10.out.ext hB11)
  clear hB11 HB10 HGO_10 HQ8_10 HQ10_10 HQ12_10
  clear HG10
  have HB12 := Lib.hid (HB11.out.alloc HB11.out.size (.cells #[.int .i64 u, .int .i64 v] 28))
  have HGO_12 := Lib.hid (HGO_11.out.turn ((Below.refl _ w11).alloc (Nat.le_refl _) (.cells #[.int .i64 u, .int .i64 v] 28)))
  have HQ8_12 := Lib.hid (HQ8_11.out.alloc (.cells #[.int .i64 u, .int .i64 v] 28))
  have HQ10_12 := Lib.hid (HQ10_11.out.alloc (.cells #[.int .i64 u, .int .i64 v] 28))
  have HQ12_12 := Lib.hid (HQ12_11.out.alloc (.cells #[.int .i64 u, .int .i64 v] 28))
  have HQ14_12 := Lib.hid (Box2.new w11 28 u v)
  clear HB11 HGO_11 HQ8_11 HQ10_11 HQ12_11
  unfold encG
  go_wp2_with fail
  generalize w11.alloc (.cells #[.int .i64 u, .int .i64 v] 28) = w12 at *
  generalize w11.heap.size = bQ14 at *
  go_loopw [16] (fun i wr => ∃ (k : Nat), k ≤ n ∧ i = .int .i64 k ∧ Below w12.heap.size w12 wr) (fun i _ => n - (intOf i).toNat)
  case atStart => exact ⟨0, Nat.zero_le _, rfl, Below.refl _ _⟩
  case round =>
    obtain ⟨k, hk, rfl, hB⟩ := hrel
    by_cases hlt : k < n
    · have hkl : k < gs.length := by have := HN.out; omega
      obtain ⟨b, off, hA, hbl, hg⟩ := HG.out k hkl
      obtain ⟨bo, offo, hAo, hblo, hgo⟩ := HGO_12.out k hkl
      subst hA
      subst hAo
      have hBw := HB12.out.trans (hB.mono HB12.out.size)
      obtain ⟨e0, e1⟩ := hg.turn hbl hBw
      obtain ⟨d0, d1⟩ := hgo.turn hblo hB
      have hbw : b < wr.heap.size := by have := hBw.size; omega
      have hbo : bo < wr.heap.size := by have := hB.size; omega
      have hx0 : (0 : Int) ≤ (k : Int) := Int.natCast_nonneg _
      have hx1 : (k : Int) < (n : Int) := by omega
      have HBL := Lib.hid hB
      clear hg hgo hB hBw
      go_wp2_with fail
      go_quiet (fail)
      go_wp2_with fail
      refine ⟨⟨k + 1, hlt, by simp, ⟨HBL.out.os, HBL.out.tape, HBL.out.output, HBL.out.size, HBL.out.block⟩⟩, by simp [intOf]; omega⟩
    · obtain rfl : k = n := by omega
      have HB13 := Lib.hid (HB12.out.trans (hB.mono HB12.out.size))
      have HGO_13 := Lib.hid (HGO_12.out.turn hB)
      have HQ8_13 := Lib.hid (HQ8_12.out.ext hB)
      have HQ10_13 := Lib.hid (HQ10_12.out.ext hB)
      have HQ12_13 := Lib.hid (HQ12_12.out.ext hB)
      have HQ14_13 := Lib.hid (HQ14_12.out.ext hB)
      clear hB HB12 HGO_12 HQ8_12 HQ10_12 HQ12_12 HQ14_12
      obtain ⟨c0, c1, c22, c3⟩ := HQ8_13.out.cells
      obtain ⟨d0, d1, d2, d3⟩ := HQ10_13.out.cells
      obtain ⟨e0, e1, e2, e3⟩ := HQ12_13.out.cells
      obtain ⟨f0, f1, f2, f3⟩ := HQ14_13.out.cells
      generalize wr = w13 at *
      go_wp2_with fail
      clear HQ8_13 HQ10_13 HQ12_13 HQ14_13 HGO_13 c0 c1 c22 c3 d0 d1 d2 d3 e0 e1 e2 e3 f0 f1 f2 f3
      refine (votes13 x A k c gs _ HN.out hn2 (HG.out.turn HB13.out)).mono ?_
      rintro e w14 ⟨rfl, hB14⟩
      have HB14 := Lib.hid (HB13.out.trans (hB14.mono HB13.out.size))
      clear hB14 HB13
      go_wp2_with fail
      refine (of10 A k c gs _ HN.out hn2 (HG.out.turn HB14.out)).mono ?_
      rintro e w15 ⟨A15, c15, rfl, hG15, hB15⟩
      have HB15 := Lib.hid (HB14.out.trans (hB15.mono HB14.out.size))
      clear hB15 HB14
      have HG15 := Lib.hid hG15; clear hG15
      go_wp2_with fail
      refine (votes14 x A15 k c15 gs _ HN.out hn2 HG15.out).mono ?_
      rintro e w16 ⟨rfl, hB16⟩
      have HB16 := Lib.hid (HB15.out.trans (hB16.mono HB15.out.size))
      clear hB16 HB15
      clear HG15
      generalize votesL x gs = vx
      go_wp2_with fail
      refine (HAG.out A c _ (HG.out.turn HB16.out)).mono ?_
      rintro e w17 ⟨rfl, hB17⟩
      have HB17 := Lib.hid (HB16.out.trans (hB17.mono HB16.out.size))
      clear hB17 HB16
      go_wp2_with fail
      refine (of10 A k c gs _ HN.out hn2 (HG.out.turn HB17.out)).mono ?_
      rintro e w18 ⟨A18, c18, rfl, hG18, hB18⟩
      have HB18 := Lib.hid (HB17.out.trans (hB18.mono HB17.out.size))
      clear hB18 HB17
      have HG18 := Lib.hid hG18; clear hG18
      go_wp2_with fail
      refine (ragree16 A18 k c18 gs _ HN.out hn2 HG18.out).mono ?_
      rintro e w19 ⟨rfl, hB19⟩
      have HB19 := Lib.hid (HB18.out.trans (hB19.mono HB18.out.size))
      clear hB19 HB18
      clear HG18
      generalize refAgree gs = ag
      cases ag
      · go_wp2_with fail
        go_ret
        exact ⟨rfl, HB19.out⟩
      · go_wp2_with fail
        go_ret
        exact ⟨rfl, HB19.out⟩

end Go.Proofs.Ytljkijolehalcaa
