/- Sweep: the third law walked: it holds. No condition. -/
import Derived.Test.YtljkijolehalcaaTf
namespace Go.Proofs.Ytljkijolehalcaa
open Go.RowKit

set_option maxHeartbeats 8000000 in
set_option maxRecDepth 100000 in
theorem law5 (A : Option Addr) (n c : Nat) (gs : List (Int × Int)) (x f : Int) (w : World) (hn : n = gs.length) (hR : ∀ g ∈ gs, inR g) (hG : GapsIn w A gs) :
    Calls Try.prog 5 #[.slice A n c, .int .i64 x, .int .i64 f] w fun e w' => e = .returned (.bool true) ∧ Below w.heap.size w w' := by
  have HG := Lib.hid hG; clear hG
  have HN := Lib.hid hn; clear hn
  have HR := Lib.hid hR; clear hR
  go_enter Try.func5, Try.ntmps5
  go_wp2_with fail
  refine (alive7 _).mono ?_
  rintro e w1 ⟨rfl, hB1⟩
  have HB1 := Lib.hid hB1
  clear hB1
  by_cases h100 : 100 < n
  · have hd : decide ((n : Int) > 100) = true := by simp; omega
    go_wp2_with fail
    go_ret
    exact ⟨rfl, HB1.out⟩
  have hn2 : n ≤ 1000 := by omega
  have hd : decide ((n : Int) > 100) = false := by simp; omega
  by_cases hf0 : f < 0
  · go_wp2_with fail
    go_ret
    exact ⟨rfl, HB1.out⟩
  go_wp2_with fail
  go_loopw [7, 8] (fun t i wr => ∃ k : Nat, k ≤ n ∧ i = .int .i64 k ∧ t = .int .i64 ((gs.take k).countP okG) ∧ Below w.heap.size w wr) (fun _ i _ => n - (intOf i).toNat)
  case atStart => exact ⟨0, Nat.zero_le _, rfl, by simp, HB1.out⟩
  case round =>
    obtain ⟨k, hk, rfl, rfl, hB⟩ := hrel
    clear HB1
    have HBk := Lib.hid hB
    by_cases hlt : k < n
    · have hkl : k < gs.length := by have := HN.out; omega
      obtain ⟨b, off, hA, hbl, hg⟩ := HG.out k hkl
      subst hA
      obtain ⟨e0, e1⟩ := hg.turn hbl hB
      have hbw : b < wr.heap.size := by have := hB.size; omega
      have hst := countP_step okG gs k hkl
      have hle := countP_lt okG gs k
      have hx0 : (0 : Int) ≤ (k : Int) := Int.natCast_nonneg _
      have hx1 : (k : Int) < (n : Int) := by omega
      have HST := Lib.hid hst
      clear hg hst hB
      go_wp2_with fail
      refine (right17 gs[k] _).mono ?_
      rintro e w2 ⟨rfl, hB2⟩
      have HB3 := Lib.hid (HBk.out.trans (hB2.mono HBk.out.size))
      clear hB2 HBk e0 e1 hbw
      by_cases hv : okG gs[k] = true
      · go_wp2_with fail
        refine ⟨⟨k + 1, hlt, by simp, by rw [HST.out, if_pos hv]; simp, HB3.out⟩, by simp [intOf]; omega⟩
      · go_wp2_with fail
        refine ⟨⟨k + 1, hlt, by simp, by rw [HST.out, if_neg hv]; simp, HB3.out⟩, by simp [intOf]; omega⟩
    · obtain rfl : k = n := by omega
      rw [List.take_of_length_le (by have := HN.out; omega)]
      have hrl : rightL gs ≤ k := by have := HN.out; rw [this]; exact rightL_le gs
      rw [show gs.countP okG = rightL gs from rfl]
      generalize hr : rightL gs = r at hrl ⊢
      have HRL := Lib.hid hr
      clear hr hB
      have HGw := Lib.hid (HG.out.turn HBk.out)
      by_cases hfr : (r : Int) ≤ f
      · have hw : (withoutL f gs).2 = false := by rw [without_eq]; unfold refWithout; rw [if_pos (.inr (by rw [HRL.out]; exact hfr))]
        have hc := without11 f A k c gs _ HN.out hn2 HGw.out
        rw [hw] at hc
        go_wp2_with fail
        refine hc.mono ?_
        rintro e w2 ⟨rfl, hB2⟩
        have HB2 := Lib.hid (HBk.out.trans (hB2.mono HBk.out.size))
        generalize (withoutL f gs).1 = g at *
        obtain ⟨p, q⟩ := g
        unfold encG
        clear hc hB2 HBk
        go_wp2_with fail
        go_ret
        exact ⟨rfl, HB2.out.alloc HB2.out.size _⟩
      · have hc := without11 f A k c gs _ HN.out hn2 HGw.out
        rw [without_eq] at hc
        go_wp2_with fail
        refine hc.mono ?_
        rintro e w2 ⟨rfl, hB2⟩
        have HB2 := Lib.hid (HBk.out.trans (hB2.mono HBk.out.size))
        have t1 := fun h => without_has (gs := gs) (f := f) (x := x) (by omega) (by rw [HRL.out]; omega) h
        have t2 := without_none (gs := gs) (f := f)
        have t3 := without_some (gs := gs) HR.out (f := f)
        have t4 := without_wider (gs := gs) HR.out (f := f)
        rw [HRL.out] at t1 t3 t4
        generalize refWithout f gs = z at *
        obtain ⟨⟨p, q⟩, ok⟩ := z
        have hc2 := without11 (f + 1) A k c gs
        rw [without_eq] at hc2
        generalize refWithout (f + 1) gs = z2 at *
        obtain ⟨⟨p2, q2⟩, ok2⟩ := z2
        clear hc hB2 HBk HGw
        have HB3 := Lib.hid (HB2.out.alloc HB2.out.size (.cells #[.int .i64 p, .int .i64 q] 25))
        have HQ3 := Lib.hid (Box2.new w2 25 p q)
        clear HB2
        have HT := Lib.hid (And.intro t1 (And.intro t2 (And.intro t3 t4)))
        have HC2 := Lib.hid hc2
        clear t1 t2 t3 t4 hc2
        unfold encG
        go_wp2_with fail
        generalize w2.alloc (.cells #[.int .i64 p, .int .i64 q] 25) = w4 at *
        generalize w2.heap.size = b4 at *
        have HG4 := Lib.hid (HG.out.turn HB3.out)
        refine (votes13 x A k c gs _ HN.out hn2 HG4.out).mono ?_
        rintro e w5 ⟨rfl, hB5⟩
        have HG5 := Lib.hid (HG4.out.turn hB5)
        have HB5 := Lib.hid (HB3.out.trans (hB5.mono HB3.out.size))
        have HQ5 := Lib.hid (HQ3.out.ext hB5)
        clear hB5 HG4 HB3 HQ3
        generalize hvx : votesL x gs = vx at *
        have hxl : vx ≤ k := by rw [← hvx]; have := HN.out; rw [this]; exact votesL_le x gs
        have hwr : wrap64 ((r : Int) - f) = r - f := by simp [wrap64]; omega
        have hwr1 : wrap64 (f + 1) = f + 1 := by simp [wrap64]; omega
        clear hvx
        obtain ⟨c0, c1, c2, c3⟩ := HQ5.out.cells
        by_cases hge : (r : Int) - f ≤ vx
        · have hgd : decide ((vx : Int) ≥ r - f) = true := by simpa using hge
          obtain ⟨hok, hhas⟩ := HT.out.1 hge
          subst hok
          have KT : true = true := rfl
          go_wp2_with fail
          refine (has18 (p, q) x _).mono ?_
          rintro e w6 ⟨rfl, hB6⟩
          have HG6 := Lib.hid (HG5.out.turn hB6)
          have HB6 := Lib.hid (HB5.out.trans (hB6.mono HB5.out.size))
          have HQ6 := Lib.hid (HQ5.out.ext hB6)
          clear hB6 HG5 HB5 HQ5 c0 c1 c2 c3
          obtain ⟨c0, c1, c2, c3⟩ := HQ6.out.cells
          rw [hhas]
          go_wp2_with fail
          obtain ⟨kf0, kf1, kok, kp, kq⟩ := HT.out.2.2.1 KT
          have hHT4 := Lib.hid (HT.out.2.2.2 KT)
          clear HT
          refine (HC2.out _ HN.out hn2 HG6.out).mono ?_
          rintro e w8 ⟨rfl, hB8⟩
          have HG8 := Lib.hid ((HG6.out.turn hB8).turn ((Below.refl _ w8).alloc (Nat.le_refl _) (.cells #[.int .i64 p2, .int .i64 q2] 25)))
          have HB8a := Lib.hid (HB6.out.trans (hB8.mono HB6.out.size))
          have HB8 := Lib.hid (HB8a.out.alloc HB8a.out.size (.cells #[.int .i64 p2, .int .i64 q2] 25))
          have HQ8 := Lib.hid ((HQ6.out.ext hB8).alloc (.cells #[.int .i64 p2, .int .i64 q2] 25))
          have HR8 := Lib.hid (Box2.new w8 25 p2 q2)
          obtain ⟨d0, d1, d2, d3⟩ := (HQ6.out.ext hB8).cells
          clear hB8 HG6 HB6 HQ6 HB8a c0 c1 c2 c3
          unfold encG
          go_wp2_with fail
          generalize w8.alloc (.cells #[.int .i64 p2, .int .i64 q2] 25) = w9 at *
          generalize w8.heap.size = b9 at *
          clear d0 d1 d2 d3
          obtain ⟨d0, d1, d2, d3⟩ := HQ8.out.cells
          refine (right17 (p, q) _).mono ?_
          rintro e w10 ⟨rfl, hB10⟩
          have HG10 := Lib.hid (HG8.out.turn hB10)
          have HB10 := Lib.hid (HB8.out.trans (hB10.mono HB8.out.size))
          have HQ10 := Lib.hid (HQ8.out.ext hB10)
          have HR10 := Lib.hid (HR8.out.ext hB10)
          clear hB10 HG8 HB8 HQ8 HR8 d0 d1 d2 d3
          obtain ⟨d0, d1, d2, d3⟩ := HQ10.out.cells
          rw [kok]
          go_wp2_with fail
          refine (votes13 p A k c gs _ HN.out hn2 HG10.out).mono ?_
          rintro e w11 ⟨rfl, hB11⟩
          have HG11 := Lib.hid (HG10.out.turn hB11)
          have HB11 := Lib.hid (HB10.out.trans (hB11.mono HB10.out.size))
          have HQ11 := Lib.hid (HQ10.out.ext hB11)
          have HR11 := Lib.hid (HR10.out.ext hB11)
          clear hB11 HG10 HB10 HQ10 HR10 d0 d1 d2 d3
          obtain ⟨d0, d1, d2, d3⟩ := HQ11.out.cells
          have kpd : decide ((votesL p gs : Int) ≥ r - f) = true := by simpa using kp
          generalize votesL p gs = vp at *
          go_wp2_with fail
          refine (votes13 q A k c gs _ HN.out hn2 HG11.out).mono ?_
          rintro e w12 ⟨rfl, hB12⟩
          have HB12 := Lib.hid (HB11.out.trans (hB12.mono HB11.out.size))
          have HQ12 := Lib.hid (HQ11.out.ext hB12)
          have HR12 := Lib.hid (HR11.out.ext hB12)
          clear hB12 HG11 HB11 HQ11 HR11 d0 d1 d2 d3 kpd kp
          obtain ⟨d0, d1, d2, d3⟩ := HQ12.out.cells
          obtain ⟨f0, f1, f2, f3⟩ := HR12.out.cells
          have kqd : decide ((votesL q gs : Int) ≥ r - f) = true := by simpa using kq
          generalize votesL q gs = vq at *
          by_cases hlast : (r : Int) ≤ f + 1
          · have hld : decide (f + 1 ≥ (r : Int)) = true := by simpa using hlast
            go_wp2_with fail
            go_ret
            exact ⟨rfl, HB12.out⟩
          · have hld : decide (f + 1 ≥ (r : Int)) = false := by simp; omega
            obtain ⟨k1, k2, k3⟩ := hHT4.out (by omega)
            subst k1
            go_wp2_with fail
            refine (within19 (p, q) (p2, q2) _).mono ?_
            rintro e w13 ⟨rfl, hB13⟩
            have HB13 := Lib.hid (HB12.out.trans (hB13.mono HB12.out.size))
            clear hB13 HB12
            have hwi : (okG (p, q) && decide ((p2, q2).1 ≤ (p, q).1) && decide ((p, q).2 ≤ (p2, q2).2)) = true := by rw [kok]; simp [k2, k3]
            rw [hwi]
            go_wp2_with fail
            go_ret
            exact ⟨rfl, HB13.out⟩
        · have hgd : decide ((vx : Int) ≥ r - f) = false := by simp; omega
          cases ok
          · have hz := HT.out.2.1 rfl
            cases hz
            go_wp2_with fail
            go_ret
            exact ⟨rfl, HB5.out⟩
          · have KT : true = true := rfl
            go_wp2_with fail
            obtain ⟨kf0, kf1, kok, kp, kq⟩ := HT.out.2.2.1 KT
            have hHT4 := Lib.hid (HT.out.2.2.2 KT)
            clear HT
            refine (HC2.out _ HN.out hn2 HG5.out).mono ?_
            rintro e w8 ⟨rfl, hB8⟩
            have HG8 := Lib.hid ((HG5.out.turn hB8).turn ((Below.refl _ w8).alloc (Nat.le_refl _) (.cells #[.int .i64 p2, .int .i64 q2] 25)))
            have HB8a := Lib.hid (HB5.out.trans (hB8.mono HB5.out.size))
            have HB8 := Lib.hid (HB8a.out.alloc HB8a.out.size (.cells #[.int .i64 p2, .int .i64 q2] 25))
            have HQ8 := Lib.hid ((HQ5.out.ext hB8).alloc (.cells #[.int .i64 p2, .int .i64 q2] 25))
            have HR8 := Lib.hid (Box2.new w8 25 p2 q2)
            obtain ⟨d0, d1, d2, d3⟩ := (HQ5.out.ext hB8).cells
            clear hB8 HG5 HB5 HQ5 HB8a c0 c1 c2 c3
            unfold encG
            go_wp2_with fail
            generalize w8.alloc (.cells #[.int .i64 p2, .int .i64 q2] 25) = w9 at *
            generalize w8.heap.size = b9 at *
            clear d0 d1 d2 d3
            obtain ⟨d0, d1, d2, d3⟩ := HQ8.out.cells
            refine (right17 (p, q) _).mono ?_
            rintro e w10 ⟨rfl, hB10⟩
            have HG10 := Lib.hid (HG8.out.turn hB10)
            have HB10 := Lib.hid (HB8.out.trans (hB10.mono HB8.out.size))
            have HQ10 := Lib.hid (HQ8.out.ext hB10)
            have HR10 := Lib.hid (HR8.out.ext hB10)
            clear hB10 HG8 HB8 HQ8 HR8 d0 d1 d2 d3
            obtain ⟨d0, d1, d2, d3⟩ := HQ10.out.cells
            rw [kok]
            go_wp2_with fail
            refine (votes13 p A k c gs _ HN.out hn2 HG10.out).mono ?_
            rintro e w11 ⟨rfl, hB11⟩
            have HG11 := Lib.hid (HG10.out.turn hB11)
            have HB11 := Lib.hid (HB10.out.trans (hB11.mono HB10.out.size))
            have HQ11 := Lib.hid (HQ10.out.ext hB11)
            have HR11 := Lib.hid (HR10.out.ext hB11)
            clear hB11 HG10 HB10 HQ10 HR10 d0 d1 d2 d3
            obtain ⟨d0, d1, d2, d3⟩ := HQ11.out.cells
            have kpd : decide ((votesL p gs : Int) ≥ r - f) = true := by simpa using kp
            generalize votesL p gs = vp at *
            go_wp2_with fail
            refine (votes13 q A k c gs _ HN.out hn2 HG11.out).mono ?_
            rintro e w12 ⟨rfl, hB12⟩
            have HB12 := Lib.hid (HB11.out.trans (hB12.mono HB11.out.size))
            have HQ12 := Lib.hid (HQ11.out.ext hB12)
            have HR12 := Lib.hid (HR11.out.ext hB12)
            clear hB12 HG11 HB11 HQ11 HR11 d0 d1 d2 d3 kpd kp
            obtain ⟨d0, d1, d2, d3⟩ := HQ12.out.cells
            obtain ⟨f0, f1, f2, f3⟩ := HR12.out.cells
            have kqd : decide ((votesL q gs : Int) ≥ r - f) = true := by simpa using kq
            generalize votesL q gs = vq at *
            by_cases hlast : (r : Int) ≤ f + 1
            · have hld : decide (f + 1 ≥ (r : Int)) = true := by simpa using hlast
              go_wp2_with fail
              go_ret
              exact ⟨rfl, HB12.out⟩
            · have hld : decide (f + 1 ≥ (r : Int)) = false := by simp; omega
              obtain ⟨k1, k2, k3⟩ := hHT4.out (by omega)
              subst k1
              go_wp2_with fail
              refine (within19 (p, q) (p2, q2) _).mono ?_
              rintro e w13 ⟨rfl, hB13⟩
              have HB13 := Lib.hid (HB12.out.trans (hB13.mono HB12.out.size))
              clear hB13 HB12
              have hwi : (okG (p, q) && decide ((p2, q2).1 ≤ (p, q).1) && decide ((p, q).2 ≤ (p2, q2).2)) = true := by rw [kok]; simp [k2, k3]
              rw [hwi]
              go_wp2_with fail
              go_ret
              exact ⟨rfl, HB13.out⟩

end Go.Proofs.Ytljkijolehalcaa
