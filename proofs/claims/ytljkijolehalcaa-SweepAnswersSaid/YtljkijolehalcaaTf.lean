/- Sweep: 'alive' walked: it holds. No condition. -/
import Derived.Test.YtljkijolehalcaaTd
namespace Go.Proofs.Ytljkijolehalcaa
open Go.RowKit

def gs3 : List (Int × Int) := [(0, 5), (3, 9), (4, 4)]
def gs2 : List (Int × Int) := [(1, 2), (3, 4)]
theorem best3 : bestL gs3 = ((4, 4), 3) := by rw [best_eq _ (by decide)]; decide
theorem without3 : withoutL 1 gs3 = ((3, 5), true) := by rw [without_eq]; decide
theorem without33 : withoutL 3 gs3 = ((0, 0), false) := by rw [without_eq]; decide
theorem agree3 : agreeL gs3 = true := by rw [agree_eq _ (by decide)]; decide
theorem agree2 : agreeL gs2 = false := by rw [agree_eq _ (by decide)]; decide
theorem votes3 : votesL 3 gs3 = 2 := by decide

theorem gapsIn3 {w : World} {b : Nat} {t : TypeId} {g1 g2 g3 : Int × Int} (h : w.heap[b]? = some (.cells #[.int .i64 g1.1, .int .i64 g1.2, .int .i64 g2.1, .int .i64 g2.2, .int .i64 g3.1, .int .i64 g3.2] t (0, 0))) : GapsIn w (some ⟨b, 0, none⟩) [g1, g2, g3] := by
  intro i hi
  refine ⟨b, 0, rfl, lt_of_heap h, ?_⟩
  match i, hi with
  | 0, _ => exact ⟨by simp [World.cell?, h], by simp [World.cell?, h]⟩
  | 1, _ => exact ⟨by simp [World.cell?, h], by simp [World.cell?, h]⟩
  | 2, _ => exact ⟨by simp [World.cell?, h], by simp [World.cell?, h]⟩

theorem gapsIn2 {w : World} {b : Nat} {t : TypeId} {g1 g2 : Int × Int} (h : w.heap[b]? = some (.cells #[.int .i64 g1.1, .int .i64 g1.2, .int .i64 g2.1, .int .i64 g2.2] t (0, 0))) : GapsIn w (some ⟨b, 0, none⟩) [g1, g2] := by
  intro i hi
  refine ⟨b, 0, rfl, lt_of_heap h, ?_⟩
  match i, hi with
  | 0, _ => exact ⟨by simp [World.cell?, h], by simp [World.cell?, h]⟩
  | 1, _ => exact ⟨by simp [World.cell?, h], by simp [World.cell?, h]⟩

set_option maxHeartbeats 4000000 in
set_option maxRecDepth 100000 in
theorem alive7 (w : World) : Calls Try.prog 7 #[] w fun e w' => e = .returned (.bool true) ∧ Below w.heap.size w w' := by
  go_enter Try.func7, Try.ntmps7
  go_wp2_with fail
  have hB0 := (Below.refl w.heap.size w).alloc (Nat.le_refl _) (.cells #[.int .i64 0, .int .i64 5, .int .i64 3, .int .i64 9, .int .i64 4, .int .i64 4] 25)
  have hG0 : GapsIn (w.alloc (.cells #[.int .i64 0, .int .i64 5, .int .i64 3, .int .i64 9, .int .i64 4, .int .i64 4] 25)) (some ⟨w.heap.size, 0, none⟩) gs3 := gapsIn3 (heap_alloc_new w _)
  have hc := best8 (some ⟨w.heap.size, 0, none⟩) 3 3 gs3 _ rfl (by decide) hG0
  rw [best3] at hc
  refine hc.mono ?_
  rintro e w1 ⟨rfl, hB1⟩
  have hG1 := hG0.turn hB1
  have hB1 := hB0.trans (hB1.mono (by simp))
  have hQ := Box2.new w1 25 4 4
  have hG2 := hG1.turn ((Below.refl _ w1).alloc (Nat.le_refl _) (.cells #[.int .i64 4, .int .i64 4] 25))
  have hB2 := hB1.alloc hB1.size (.cells #[.int .i64 4, .int .i64 4] 25)
  have HG2 := Lib.hid hG2
  have HB2 := Lib.hid hB2
  have HQ2 := Lib.hid hQ
  clear hc hG0 hG1 hB0 hB1 hQ hG2 hB2
  unfold encG
  go_wp2_with fail
  generalize w1.alloc (.cells #[.int .i64 4, .int .i64 4] 25) = w2 at *
  generalize w1.heap.size = b1 at *
  have hc := without11 1 (some ⟨w.heap.size, 0, none⟩) 3 3 gs3 _ rfl (by decide) HG2.out
  rw [without3] at hc
  refine hc.mono ?_
  rintro e w3 ⟨rfl, hB3⟩
  have HG3 := Lib.hid (HG2.out.turn hB3)
  have HB3 := Lib.hid (HB2.out.trans (hB3.mono HB2.out.size))
  have HQ3 := Lib.hid (HQ2.out.ext hB3)
  clear hc hB3 HG2 HB2 HQ2
  have HG4 := Lib.hid (HG3.out.turn ((Below.refl _ w3).alloc (Nat.le_refl _) (.cells #[.int .i64 3, .int .i64 5] 25)))
  have HB4 := Lib.hid (HB3.out.alloc HB3.out.size (.cells #[.int .i64 3, .int .i64 5] 25))
  have HQ4 := Lib.hid (HQ3.out.alloc (.cells #[.int .i64 3, .int .i64 5] 25))
  have HR4 := Lib.hid (Box2.new w3 25 3 5)
  clear HG3 HB3 HQ3
  unfold encG
  go_wp2_with fail
  generalize w3.alloc (.cells #[.int .i64 3, .int .i64 5] 25) = w4 at *
  generalize w3.heap.size = b3 at *
  have hc := without11 3 (some ⟨w.heap.size, 0, none⟩) 3 3 gs3 _ rfl (by decide) HG4.out
  rw [without33] at hc
  refine hc.mono ?_
  rintro e w5 ⟨rfl, hB5⟩
  have HG5 := Lib.hid (HG4.out.turn hB5)
  have HB5 := Lib.hid (HB4.out.trans (hB5.mono HB4.out.size))
  have HQ5 := Lib.hid (HQ4.out.ext hB5)
  have HR5 := Lib.hid (HR4.out.ext hB5)
  clear hc hB5 HG4 HB4 HQ4 HR4
  obtain ⟨c0, c1, c2, c3⟩ := HQ5.out.cells
  obtain ⟨d0, d1, d2, d3⟩ := HR5.out.cells
  have HG6 := Lib.hid (HG5.out.turn ((Below.refl _ w5).alloc (Nat.le_refl _) (.cells #[.int .i64 0, .int .i64 0] 25)))
  have HB6 := Lib.hid (HB5.out.alloc HB5.out.size (.cells #[.int .i64 0, .int .i64 0] 25))
  unfold encG
  go_wp2_with fail
  clear HQ5 HR5 HG5 HB5 c0 c1 c2 c3 d0 d1 d2 d3
  refine (votes13 3 (some ⟨w.heap.size, 0, none⟩) 3 3 gs3 _ rfl (by decide) HG6.out).mono ?_
  rintro e w7 ⟨rfl, hB7⟩
  have HG7 := Lib.hid (HG6.out.turn hB7)
  have HB7 := Lib.hid (HB6.out.trans (hB7.mono HB6.out.size))
  clear hB7 HG6 HB6
  rw [votes3]
  go_wp2_with fail
  refine (agree15 (some ⟨w.heap.size, 0, none⟩) 3 3 gs3 _ rfl (by decide) HG7.out).mono ?_
  rintro e w8 ⟨rfl, hB8⟩
  have HB8 := Lib.hid (HB7.out.trans (hB8.mono HB7.out.size))
  clear hB8 HG7 HB7
  rw [agree3]
  go_wp2_with fail
  have HB9 := Lib.hid (HB8.out.alloc HB8.out.size (.cells #[.int .i64 1, .int .i64 2, .int .i64 3, .int .i64 4] 25))
  refine (agree15 (some ⟨w8.heap.size, 0, none⟩) 2 2 gs2 _ rfl (by decide) (gapsIn2 (heap_alloc_new w8 _))).mono ?_
  rintro e w9 ⟨rfl, hB9⟩
  have HB10 := Lib.hid (HB9.out.trans (hB9.mono HB9.out.size))
  clear hB9 HB9 HB8
  rw [agree2]
  go_wp2_with fail
  go_ret
  exact ⟨rfl, HB10.out⟩

end Go.Proofs.Ytljkijolehalcaa
