/- Sweep: the document's Without and Agree, walked. No condition. -/
import Derived.Test.YtljkijolehalcaaSd
namespace Go.Proofs.Ytljkijolehalcaa
open Go.RowKit

def rw1 (gs : List (Int × Int)) (q : Int) (s : Int × Int) (g : Int × Int) : Int × Int := if q ≤ votesL g.1 gs then (min s.1 g.1, s.2) else s
def rw2 (gs : List (Int × Int)) (q : Int) (s : Int × Int) (g : Int × Int) : Int × Int := if q ≤ votesL g.2 gs then (s.1, max s.2 g.2) else s
def rwStep (gs : List (Int × Int)) (q : Int) (s : Int × Int) (g : Int × Int) : Int × Int := if okG g = true then rw2 gs q (rw1 gs q s g) g else s
def rwAll (f : Int) (gs : List (Int × Int)) : Int × Int := gs.foldl (rwStep gs (rightL gs - f)) (9223372036854775807, -9223372036854775808)
def refWithout (f : Int) (gs : List (Int × Int)) : (Int × Int) × Bool :=
  if f < 0 ∨ (rightL gs : Int) ≤ f then ((0, 0), false) else if okG (rwAll f gs) = true then (rwAll f gs, true) else ((0, 0), false)

theorem votesL_le (x : Int) (gs : List (Int × Int)) : votesL x gs ≤ gs.length := List.countP_le_length
theorem rightL_le (gs : List (Int × Int)) : rightL gs ≤ gs.length := List.countP_le_length

/-- Two boxes of two numbers, and what lay there lies. -/
structure St2 (w W : World) (b0 b1 : Nat) (t : TypeId) (u v x y : Int) : Prop where
  h0 : Box2 W b0 t u v
  h1 : Box2 W b1 t x y
  hB : Below w.heap.size w W
  ne : b0 ≠ b1
  g0 : w.heap.size ≤ b0
  g1 : w.heap.size ≤ b1

theorem St2.ext {w W W' : World} {b0 b1 : Nat} {t : TypeId} {u v x y : Int} (h : St2 w W b0 b1 t u v x y) (hB : Below W.heap.size W W') : St2 w W' b0 b1 t u v x y :=
  ⟨(hB.block _ (lt_of_heap h.h0)).trans h.h0, (hB.block _ (lt_of_heap h.h1)).trans h.h1, h.hB.trans (hB.mono h.hB.size), h.ne, h.g0, h.g1⟩
theorem St2.drew {w W : World} {b0 b1 : Nat} {t : TypeId} {u v x y : Int} (h : St2 w W b0 b1 t u v x y) : St2 w W.drew b0 b1 t u v x y := ⟨h.h0, h.h1, h.hB.drew, h.ne, h.g0, h.g1⟩
theorem St2.lo {w W : World} {b0 b1 : Nat} {t : TypeId} {u v x y : Int} (h : St2 w W b0 b1 t u v x y) (p : Int) : St2 w (W.setCell ⟨b1, 0, none⟩ (.int .i64 p)) b0 b1 t u v p y :=
  ⟨(Below.heap_setCell _ _ _ _ (by simpa using h.ne)).trans h.h0, setCell_heap h.h1 _, h.hB.setCell (by simpa using h.g1) _, h.ne, h.g0, h.g1⟩
theorem St2.hi {w W : World} {b0 b1 : Nat} {t : TypeId} {u v x y : Int} (h : St2 w W b0 b1 t u v x y) (p : Int) : St2 w (W.setCell ⟨b1, 1, none⟩ (.int .i64 p)) b0 b1 t u v x p :=
  ⟨(Below.heap_setCell _ _ _ _ (by simpa using h.ne)).trans h.h0, setCell_heap h.h1 _, h.hB.setCell (by simpa using h.g1) _, h.ne, h.g0, h.g1⟩
theorem St2.lo0 {w W : World} {b0 b1 : Nat} {t : TypeId} {u v x y : Int} (h : St2 w W b0 b1 t u v x y) (p : Int) : St2 w (W.setCell ⟨b0, 0, none⟩ (.int .i64 p)) b0 b1 t p v x y :=
  ⟨setCell_heap h.h0 _, (Below.heap_setCell _ _ _ _ (by simpa using h.ne.symm)).trans h.h1, h.hB.setCell (by simpa using h.g0) _, h.ne, h.g0, h.g1⟩
theorem St2.hi0 {w W : World} {b0 b1 : Nat} {t : TypeId} {u v x y : Int} (h : St2 w W b0 b1 t u v x y) (p : Int) : St2 w (W.setCell ⟨b0, 1, none⟩ (.int .i64 p)) b0 b1 t u p x y :=
  ⟨setCell_heap h.h0 _, (Below.heap_setCell _ _ _ _ (by simpa using h.ne.symm)).trans h.h1, h.hB.setCell (by simpa using h.g0) _, h.ne, h.g0, h.g1⟩

set_option maxHeartbeats 4000000 in
set_option maxRecDepth 100000 in
theorem rwithout12 (f : Int) (A : Option Addr) (n c : Nat) (gs : List (Int × Int)) (w : World) (hn : n = gs.length) (hn2 : n ≤ 1000) (hG : GapsIn w A gs) :
    Calls Try.prog 12 #[.int .i64 f, .slice A n c] w fun e w' => e = .returned (.tuple #[encG (refWithout f gs).1, .bool (refWithout f gs).2]) ∧ Below w.heap.size w w' := by
  have HG := Lib.hid hG; clear hG
  have HN := Lib.hid hn; clear hn
  go_enter Try.func12, Try.ntmps12
  go_wp2_with fail
  have hbA : Below w.heap.size w (w.alloc (.cells #[.int .i64 0, .int .i64 0] 28)) := (Below.refl _ w).alloc (Nat.le_refl _) _
  refine (right25 A n c gs _ HN.out hn2 (HG.out.turn hbA)).mono ?_
  rintro e w2 ⟨rfl, hB2⟩
  have hb0 : Box2 w2 w.heap.size 28 0 0 := (hB2.block _ (by simp)).trans (heap_alloc_new w _)
  have hB : Below w.heap.size w w2 := hbA.trans (hB2.mono (by simp))
  have hrl : rightL gs ≤ n := by have := HN.out; rw [this]; exact rightL_le gs
  clear hB2 hbA
  have HB0 := Lib.hid hb0
  have HBw := Lib.hid hB
  generalize hrr : rightL gs = r at hrl ⊢
  have HR := Lib.hid hrr
  clear hrr hB
  obtain ⟨a0, a1, a2, a3⟩ := hb0.cells
  clear hb0
  by_cases h1 : f < 0
  · have hw : refWithout f gs = ((0, 0), false) := by unfold refWithout; rw [if_pos (.inl h1)]
    have HW := Lib.hid hw
    clear hw
    go_wp2_with fail
    have p2 : Box2 ((w2.setCell ⟨w.heap.size, 0, none⟩ (.int .i64 0)).setCell ⟨w.heap.size, 1, none⟩ (.int .i64 0)) w.heap.size 28 0 0 := setCell_heap (setCell_heap HB0.out _) _
    have p3 : Below w.heap.size w ((w2.setCell ⟨w.heap.size, 0, none⟩ (.int .i64 0)).setCell ⟨w.heap.size, 1, none⟩ (.int .i64 0)) := (HBw.out.setCell (by simp) _).setCell (by simp) _
    have p4 := p2.cells.1
    have p5 := p2.cells.2.1
    exact bodyPost_ret (v := .tuple #[.agg #[.int .i64 0, .int .i64 0], .bool false]) (by simp [results, Try.results12, go_sem, p4, p5]) rfl ⟨by rw [HW.out]; rfl, p3⟩
  · by_cases h2 : (r : Int) ≤ f
    · have hw : refWithout f gs = ((0, 0), false) := by unfold refWithout; rw [if_pos (.inr (by rw [HR.out]; exact h2))]
      have HW := Lib.hid hw
      clear hw
      go_wp2_with fail
      have p2 : Box2 ((w2.setCell ⟨w.heap.size, 0, none⟩ (.int .i64 0)).setCell ⟨w.heap.size, 1, none⟩ (.int .i64 0)) w.heap.size 28 0 0 := setCell_heap (setCell_heap HB0.out _) _
      have p3 : Below w.heap.size w ((w2.setCell ⟨w.heap.size, 0, none⟩ (.int .i64 0)).setCell ⟨w.heap.size, 1, none⟩ (.int .i64 0)) := (HBw.out.setCell (by simp) _).setCell (by simp) _
      have p4 := p2.cells.1
      have p5 := p2.cells.2.1
      exact bodyPost_ret (v := .tuple #[.agg #[.int .i64 0, .int .i64 0], .bool false]) (by simp [results, Try.results12, go_sem, p4, p5]) rfl ⟨by rw [HW.out]; rfl, p3⟩
    · have hw : refWithout f gs = if okG (rwAll f gs) = true then (rwAll f gs, true) else ((0, 0), false) := by unfold refWithout; rw [if_neg (by rw [HR.out]; omega)]
      have HW := Lib.hid hw
      clear hw
      go_wp2_with fail
      have hS : St2 w (w2.alloc (.cells #[.int .i64 9223372036854775807, .int .i64 (-9223372036854775808)] 28)) w.heap.size w2.heap.size 28 0 0 9223372036854775807 (-9223372036854775808) :=
        ⟨(Below.heap_alloc _ _ _ a3).trans HB0.out, heap_alloc_new w2 _, HBw.out.alloc HBw.out.size _, by omega, Nat.le_refl _, by omega⟩
      have HS := Lib.hid hS
      clear a0 a1 a2 hS HB0
      generalize w2.alloc (.cells #[.int .i64 9223372036854775807, .int .i64 (-9223372036854775808)] 28) = wq at HS ⊢
      generalize w2.heap.size = bq at HS a3 ⊢
      go_loopw [8] (fun i wr => ∃ (k : Nat) (x y : Int), k ≤ n ∧ i = .int .i64 k ∧ (x, y) = (gs.take k).foldl (rwStep gs (r - f)) (9223372036854775807, -9223372036854775808) ∧ St2 w wr w.heap.size bq 28 0 0 x y) (fun i _ => n - (intOf i).toNat)
      case atStart => exact ⟨0, _, _, Nat.zero_le _, rfl, rfl, HS.out⟩
      case round =>
        obtain ⟨k, x, y, hk, rfl, hz, hS⟩ := hrel
        have HZ := Lib.hid hz
        have HSk := Lib.hid hS
        clear HS hz
        by_cases hlt : k < n
        · have hkl : k < gs.length := by have := HN.out; omega
          obtain ⟨b, off, hA, hbl, hg⟩ := HG.out k hkl
          subst hA
          have hst := foldl_step (rwStep gs (r - f)) (9223372036854775807, -9223372036854775808) gs k hkl
          rw [← HZ.out] at hst
          have HST := Lib.hid hst
          clear hst
          obtain ⟨e0, e1⟩ := hg.turn hbl hS.hB
          have hbw : b < wr.heap.size := by have := hS.hB.size; omega
          have HGI := Lib.hid hg
          clear hg hS
          go_wp2_with fail
          refine (right24 gs[k] _).mono ?_
          rintro e w5 ⟨rfl, hB5⟩
          have HS5 := Lib.hid (HSk.out.ext hB5)
          clear HSk e0 e1 hbw hB5
          cases hok : okG gs[k]
          · go_wp2_with fail
            refine ⟨⟨k + 1, x, y, hlt, by simp, ?_, HS5.out⟩, by simp [intOf]; omega⟩
            rw [HST.out]; unfold rwStep; rw [if_neg (by rw [hok]; simp)]
          · have HOK := Lib.hid hok
            clear hok
            obtain ⟨e0, e1⟩ := HGI.out.turn hbl HS5.out.hB
            have hbw : b < w5.heap.size := by have := HS5.out.hB.size; omega
            go_wp2_with fail
            refine (votes14 gs[k].1 (some ⟨b, off, none⟩) n c gs _ HN.out hn2 (HG.out.turn HS5.out.hB)).mono ?_
            rintro e w6 ⟨rfl, hB6⟩
            have HS6 := Lib.hid (HS5.out.ext hB6)
            clear HS5 e0 e1 hbw hB6
            have hv1 : votesL gs[k].1 gs ≤ n := by have := HN.out; rw [this]; exact votesL_le _ gs
            have hv2 : votesL gs[k].2 gs ≤ n := by have := HN.out; rw [this]; exact votesL_le _ gs
            generalize hvv1 : votesL gs[k].1 gs = v1 at hv1 ⊢
            generalize hvv2 : votesL gs[k].2 gs = v2 at hv2
            have HV1 := Lib.hid hvv1
            have HV2 := Lib.hid hvv2
            clear hvv1 hvv2
            obtain ⟨e0, e1⟩ := HGI.out.turn hbl HS6.out.hB
            have hbw : b < w6.heap.size := by have := HS6.out.hB.size; omega
            obtain ⟨c0, c1, c2, c3⟩ := HS6.out.h1.cells
            have hx0 : (0 : Int) ≤ (k : Int) := Int.natCast_nonneg _
            have hx1 : (k : Int) < (n : Int) := by omega
            by_cases ht1 : (r : Int) - f ≤ v1
            · by_cases hx : x ≤ gs[k].1
              · go_wp2_with fail
                go_still_tail 9, (by kernel_rfl)
                go_wp2_with fail
                have HS7 := Lib.hid ((HS6.out.lo x).drew)
                have H7 : Hid (rw1 gs (r - f) (x, y) gs[k] = (x, y)) := Lib.hid (by unfold rw1; rw [HV1.out]; rw [if_pos ht1, Int.min_def, if_pos hx])
                clear HS6 e0 e1 hbw c0 c1 c2 c3
                refine (votes14 gs[k].2 (some ⟨b, off, none⟩) n c gs _ HN.out hn2 (HG.out.turn HS7.out.hB)).mono ?_
                rintro e w8 ⟨rfl, hB8⟩
                have HS8 := Lib.hid (HS7.out.ext hB8)
                clear HS7 hB8
                obtain ⟨e0, e1⟩ := HGI.out.turn hbl HS8.out.hB
                have hbw : b < w8.heap.size := by have := HS8.out.hB.size; omega
                obtain ⟨c0, c1, c2, c3⟩ := HS8.out.h1.cells
                rw [HV2.out]
                by_cases ht2 : (r : Int) - f ≤ v2
                · by_cases hy : gs[k].2 ≤ y
                  · go_wp2_with fail
                    go_still_tail 9, (by kernel_rfl)
                    go_wp2_with fail
                    refine ⟨⟨k + 1, x, y, hlt, by simp, ?_, ?_⟩, by simp [intOf]; omega⟩
                    · rw [HST.out]; unfold rwStep; rw [if_pos HOK.out, H7.out]; unfold rw2; rw [HV2.out, if_pos ht2, Int.max_def]; simp; omega
                    · exact (HS8.out.hi _).drew
                  · go_wp2_with fail
                    go_still_tail 9, (by kernel_rfl)
                    go_wp2_with fail
                    refine ⟨⟨k + 1, x, gs[k].2, hlt, by simp, ?_, ?_⟩, by simp [intOf]; omega⟩
                    · rw [HST.out]; unfold rwStep; rw [if_pos HOK.out, H7.out]; unfold rw2; rw [HV2.out, if_pos ht2, Int.max_def]; simp; omega
                    · exact (HS8.out.hi _).drew
                · go_wp2_with fail
                  refine ⟨⟨k + 1, x, y, hlt, by simp, ?_, HS8.out⟩, by simp [intOf]; omega⟩
                  rw [HST.out]; unfold rwStep; rw [if_pos HOK.out, H7.out]; unfold rw2; rw [HV2.out, if_neg (show ¬ (r : Int) - f ≤ (v2 : Int) by omega)]
              · go_wp2_with fail
                go_still_tail 9, (by kernel_rfl)
                go_wp2_with fail
                have HS7 := Lib.hid ((HS6.out.lo gs[k].1).drew)
                have H7 : Hid (rw1 gs (r - f) (x, y) gs[k] = (gs[k].1, y)) := Lib.hid (by unfold rw1; rw [HV1.out]; rw [if_pos ht1, Int.min_def, if_neg (show ¬ x ≤ gs[k].1 by omega)])
                clear HS6 e0 e1 hbw c0 c1 c2 c3
                refine (votes14 gs[k].2 (some ⟨b, off, none⟩) n c gs _ HN.out hn2 (HG.out.turn HS7.out.hB)).mono ?_
                rintro e w8 ⟨rfl, hB8⟩
                have HS8 := Lib.hid (HS7.out.ext hB8)
                clear HS7 hB8
                obtain ⟨e0, e1⟩ := HGI.out.turn hbl HS8.out.hB
                have hbw : b < w8.heap.size := by have := HS8.out.hB.size; omega
                obtain ⟨c0, c1, c2, c3⟩ := HS8.out.h1.cells
                rw [HV2.out]
                by_cases ht2 : (r : Int) - f ≤ v2
                · by_cases hy : gs[k].2 ≤ y
                  · go_wp2_with fail
                    go_still_tail 9, (by kernel_rfl)
                    go_wp2_with fail
                    refine ⟨⟨k + 1, gs[k].1, y, hlt, by simp, ?_, ?_⟩, by simp [intOf]; omega⟩
                    · rw [HST.out]; unfold rwStep; rw [if_pos HOK.out, H7.out]; unfold rw2; rw [HV2.out, if_pos ht2, Int.max_def]; simp; omega
                    · exact (HS8.out.hi _).drew
                  · go_wp2_with fail
                    go_still_tail 9, (by kernel_rfl)
                    go_wp2_with fail
                    refine ⟨⟨k + 1, gs[k].1, gs[k].2, hlt, by simp, ?_, ?_⟩, by simp [intOf]; omega⟩
                    · rw [HST.out]; unfold rwStep; rw [if_pos HOK.out, H7.out]; unfold rw2; rw [HV2.out, if_pos ht2, Int.max_def]; simp; omega
                    · exact (HS8.out.hi _).drew
                · go_wp2_with fail
                  refine ⟨⟨k + 1, gs[k].1, y, hlt, by simp, ?_, HS8.out⟩, by simp [intOf]; omega⟩
                  rw [HST.out]; unfold rwStep; rw [if_pos HOK.out, H7.out]; unfold rw2; rw [HV2.out, if_neg (show ¬ (r : Int) - f ≤ (v2 : Int) by omega)]
            · go_wp2_with fail
              have HS7 := Lib.hid (HS6.out)
              have H7 : Hid (rw1 gs (r - f) (x, y) gs[k] = (x, y)) := Lib.hid (by unfold rw1; rw [HV1.out]; rw [if_neg (show ¬ (r : Int) - f ≤ (v1 : Int) by omega)])
              clear HS6 e0 e1 hbw c0 c1 c2 c3
              refine (votes14 gs[k].2 (some ⟨b, off, none⟩) n c gs _ HN.out hn2 (HG.out.turn HS7.out.hB)).mono ?_
              rintro e w8 ⟨rfl, hB8⟩
              have HS8 := Lib.hid (HS7.out.ext hB8)
              clear HS7 hB8
              obtain ⟨e0, e1⟩ := HGI.out.turn hbl HS8.out.hB
              have hbw : b < w8.heap.size := by have := HS8.out.hB.size; omega
              obtain ⟨c0, c1, c2, c3⟩ := HS8.out.h1.cells
              rw [HV2.out]
              by_cases ht2 : (r : Int) - f ≤ v2
              · by_cases hy : gs[k].2 ≤ y
                · go_wp2_with fail
                  go_still_tail 9, (by kernel_rfl)
                  go_wp2_with fail
                  refine ⟨⟨k + 1, x, y, hlt, by simp, ?_, ?_⟩, by simp [intOf]; omega⟩
                  · rw [HST.out]; unfold rwStep; rw [if_pos HOK.out, H7.out]; unfold rw2; rw [HV2.out, if_pos ht2, Int.max_def]; simp; omega
                  · exact (HS8.out.hi _).drew
                · go_wp2_with fail
                  go_still_tail 9, (by kernel_rfl)
                  go_wp2_with fail
                  refine ⟨⟨k + 1, x, gs[k].2, hlt, by simp, ?_, ?_⟩, by simp [intOf]; omega⟩
                  · rw [HST.out]; unfold rwStep; rw [if_pos HOK.out, H7.out]; unfold rw2; rw [HV2.out, if_pos ht2, Int.max_def]; simp; omega
                  · exact (HS8.out.hi _).drew
              · go_wp2_with fail
                refine ⟨⟨k + 1, x, y, hlt, by simp, ?_, HS8.out⟩, by simp [intOf]; omega⟩
                rw [HST.out]; unfold rwStep; rw [if_pos HOK.out, H7.out]; unfold rw2; rw [HV2.out, if_neg (show ¬ (r : Int) - f ≤ (v2 : Int) by omega)]
        · obtain rfl : k = n := by omega
          obtain ⟨a0, a1, a2, a3'⟩ := hS.h0.cells
          obtain ⟨c0, c1, c2, c3⟩ := hS.h1.cells
          have hzf : (x, y) = rwAll f gs := by rw [HZ.out, List.take_of_length_le (by have := HN.out; omega)]; unfold rwAll; rw [HR.out]
          have HZF := Lib.hid hzf
          clear hzf hS HZ
          by_cases hxy : x ≤ y
          · go_wp2_with fail
            refine (right24 (x, y) _).mono ?_
            rintro e w5 ⟨rfl, hB5⟩
            have HS5 := Lib.hid (HSk.out.ext hB5)
            have hok : okG (x, y) = true := by unfold okG; simpa using hxy
            have HOK := Lib.hid hok
            rw [hok]
            obtain ⟨a0, a1, a2, a3'⟩ := HS5.out.h0.cells
            obtain ⟨c0, c1, c2, c3⟩ := HS5.out.h1.cells
            clear HSk hok hB5
            go_wp2_with fail
            have HS9 := (HS5.out.lo0 x).hi0 y
            have p4 := HS9.h0.cells.1
            have p5 := HS9.h0.cells.2.1
            exact bodyPost_ret (v := .tuple #[.agg #[.int .i64 x, .int .i64 y], .bool true]) (by simp [results, Try.results12, go_sem, p4, p5]) rfl ⟨by rw [HW.out, ← HZF.out, if_pos HOK.out]; rfl, HS9.hB⟩
          · go_wp2_with fail
            refine (right24 (x, y) _).mono ?_
            rintro e w5 ⟨rfl, hB5⟩
            have HS5 := Lib.hid (HSk.out.ext hB5)
            have hok : okG (x, y) = false := by unfold okG; simp; omega
            have HOK := Lib.hid hok
            rw [hok]
            obtain ⟨a0, a1, a2, a3'⟩ := HS5.out.h0.cells
            obtain ⟨c0, c1, c2, c3⟩ := HS5.out.h1.cells
            clear HSk hok hB5
            go_wp2_with fail
            have HS9 := (HS5.out.lo0 0).hi0 0
            have p4 := HS9.h0.cells.1
            have p5 := HS9.h0.cells.2.1
            exact bodyPost_ret (v := .tuple #[.agg #[.int .i64 0, .int .i64 0], .bool false]) (by simp [results, Try.results12, go_sem, p4, p5]) rfl ⟨by rw [HW.out, ← HZF.out, if_neg (by rw [HOK.out]; simp)]; rfl, HS9.hB⟩

def refAgree (gs : List (Int × Int)) : Bool := decide (0 < gs.length) && ((refBest gs).2 == gs.length)

theorem rb1_le (gs : List (Int × Int)) : ∀ (l : List (Int × Int)) (s : Nat × (Int × Int)), s.1 ≤ gs.length → (l.foldl (rb1 gs) s).1 ≤ gs.length
  | [], s, h => h
  | g :: l, s, h => by
    rw [List.foldl_cons]
    refine rb1_le gs l _ ?_
    unfold rb1
    split
    · exact votesL_le _ gs
    · exact h
theorem refBest_le (gs : List (Int × Int)) : (refBest gs).2 ≤ gs.length := by
  unfold refBest
  split
  · exact Nat.zero_le _
  · exact rb1_le gs gs _ (Nat.zero_le _)

set_option maxHeartbeats 4000000 in
theorem ragree16 (A : Option Addr) (n c : Nat) (gs : List (Int × Int)) (w : World) (hn : n = gs.length) (hn2 : n ≤ 1000) (hG : GapsIn w A gs) :
    Calls Try.prog 16 #[.slice A n c] w fun e w' => e = .returned (.bool (refAgree gs)) ∧ Below w.heap.size w w' := by
  have HN := Lib.hid hn
  have hl := refBest_le gs
  have hre : refAgree gs = (decide (0 < n) && decide ((refBest gs).2 = n)) := by unfold refAgree; rw [← hn]; congr 1
  have hc := rbest9 A n c gs w hn hn2 hG
  rw [hre]
  clear hG hn hre
  generalize (refBest gs).2 = m at *
  generalize (refBest gs).1 = g at *
  obtain ⟨x, y⟩ := g
  unfold encG at hc
  go_enter Try.func16, Try.ntmps16
  go_wp2_with fail
  refine hc.mono ?_
  rintro e w2 ⟨rfl, hB⟩
  have HB := Lib.hid hB
  clear hc hB
  by_cases h1 : 0 < n
  · by_cases h2 : m = n
    · subst h2
      go_wp2_with fail
      go_ret
      exact ⟨by simp [h1], HB.out.alloc HB.out.size _⟩
    · have h3 : ((m : Int) == n) = false := by simp; omega
      go_wp2_with fail
      go_ret
      exact ⟨by simp [h2], HB.out.alloc HB.out.size _⟩
  · go_wp2_with fail
    go_ret
    exact ⟨by simp [h1], HB.out.alloc HB.out.size _⟩

end Go.Proofs.Ytljkijolehalcaa
