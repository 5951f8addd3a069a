/- Drift: 'alive' walked: it holds. No condition. -/
import Derived.Test.YtigepekcjigpaaaDp
namespace Go.Proofs.Ytigepekcjigpaaa
open Go.RowKit

def ps2 : List (Int × Int) := [(5, 7), (105, 110)]

theorem honest20000 : honestB 20000 ps2 = true := by
  rw [honestB_iff]
  refine ⟨by decide, by decide, ?_⟩
  unfold pairsP ps2
  refine List.pairwise_pair.2 ⟨fun _ => by decide, fun h => ?_⟩
  unfold lexP at h
  simp at h

theorem honest19999 : honestB 19999 ps2 = false := by
  rw [Bool.eq_false_iff]
  intro h
  rw [honestB_iff] at h
  have h1 := h.2.2
  unfold pairsP ps2 at h1
  have h2 := (List.pairwise_pair.1 h1).1 (by unfold lexP; simp)
  revert h2
  decide

theorem least2 {k : Nat} (h1 : k ≤ 100001) (h2 : ∀ i : Nat, i < k → honestB i ps2 = false) (h3 : k < 100001 → honestB k ps2 = true) : k = 20000 := by
  rcases Nat.lt_trichotomy k 20000 with h | h | h
  · have := honestB_mono (i := (k : Int)) (j := 19999) (by omega) (by omega) (h3 (by omega))
    rw [honest19999] at this; cases this
  · exact h
  · have := h2 20000 h
    rw [show ((20000 : Nat) : Int) = 20000 from rfl, honest20000] at this; cases this

theorem ptsIn2 {w : World} {b : Nat} {t : TypeId} {g1 g2 : Int × Int} (h : w.heap[b]? = some (.cells #[.int .i64 g1.1, .int .i64 g1.2, .int .i64 g2.1, .int .i64 g2.2] t (0, 0))) : PtsIn w (some ⟨b, 0, none⟩) [g1, g2] := by
  intro i hi
  refine ⟨b, 0, rfl, lt_of_heap h, ?_⟩
  match i, hi with
  | 0, _ => exact ⟨by simp [World.cell?, h], by simp [World.cell?, h]⟩
  | 1, _ => exact ⟨by simp [World.cell?, h], by simp [World.cell?, h]⟩

set_option maxRecDepth 100000 in
set_option maxHeartbeats 4000000 in
theorem alive_walk (w : World) : Calls Try.prog 6 #[] w fun e w' => e = .returned (.bool true) ∧ Below w.heap.size w w' := by
  have l1 : lowR 101 10000 = (100, 0) := by decide
  have l2 : highR 0 10000 = (1, 0) := by decide
  have l3 : slackR 100 10000 = (2, 0) := by decide
  have l4 : lowR 1 100001 = (0, 11) := by decide
  have c1 := fun w => low_walk 101 10000 w
  have c2 := fun w => high_walk 0 10000 w
  have c3 := fun w => slack_walk 100 10000 w
  have c4 := fun w => low_walk 1 100001 w
  rw [l1] at c1
  rw [l2] at c2
  rw [l3] at c3
  rw [l4] at c4
  clear l1 l2 l3 l4
  go_enter Try.func6, Try.ntmps6
  go_wp2_with fail
  refine (c1 _).mono ?_
  rintro e w1 ⟨rfl, hB1⟩
  have HB1 := Lib.hid hB1
  clear c1 hB1
  go_wp2_with fail
  refine (c2 _).mono ?_
  rintro e w2 ⟨rfl, hB2⟩
  have HB2 := Lib.hid (HB1.out.trans (hB2.mono HB1.out.size))
  clear c2 hB2 HB1
  go_wp2_with fail
  refine (c3 _).mono ?_
  rintro e w3 ⟨rfl, hB3⟩
  have HB3 := Lib.hid (HB2.out.trans (hB3.mono HB2.out.size))
  clear c3 hB3 HB2
  go_wp2_with fail
  refine (c4 _).mono ?_
  rintro e w4 ⟨rfl, hB4⟩
  have HB4 := Lib.hid (HB3.out.trans (hB4.mono HB3.out.size))
  clear c4 hB4 HB3
  go_wp2_with fail
  have HB5 := Lib.hid (HB4.out.alloc HB4.out.size (.cells #[.int .i64 5, .int .i64 7, .int .i64 105, .int .i64 110] 30))
  refine (least_walk (some ⟨w4.heap.size, 0, none⟩) 2 2 ps2 _ rfl (by decide) (ptsIn2 (heap_alloc_new w4 _))).mono ?_
  rintro e w6 ⟨⟨k, h1, h2, h3, rfl⟩, hB6⟩
  have hk := least2 h1 h2 h3
  subst hk
  have HB6 := Lib.hid (HB5.out.trans (hB6.mono HB5.out.size))
  clear h1 h2 h3 hB6 HB5 HB4
  go_wp2_with fail
  have HB7 := Lib.hid (HB6.out.alloc HB6.out.size (.cells #[.int .i64 5, .int .i64 7, .int .i64 105, .int .i64 110] 30))
  refine (honest_walk 20000 (some ⟨w6.heap.size, 0, none⟩) 2 2 ps2 _ rfl (by decide) (ptsIn2 (heap_alloc_new w6 _))).mono ?_
  rintro e w8 ⟨rfl, hB8⟩
  have HB8 := Lib.hid (HB7.out.trans (hB8.mono HB7.out.size))
  clear hB8 HB7 HB6
  rw [honest20000]
  go_wp2_with fail
  have HB9 := Lib.hid (HB8.out.alloc HB8.out.size (.cells #[.int .i64 5, .int .i64 7, .int .i64 105, .int .i64 110] 30))
  refine (honest_walk 19999 (some ⟨w8.heap.size, 0, none⟩) 2 2 ps2 _ rfl (by decide) (ptsIn2 (heap_alloc_new w8 _))).mono ?_
  rintro e w10 ⟨rfl, hB10⟩
  have HB10 := Lib.hid (HB9.out.trans (hB10.mono HB9.out.size))
  clear hB10 HB9 HB8
  rw [honest19999]
  go_wp2_with fail
  go_ret
  exact ⟨rfl, HB10.out⟩

end Go.Proofs.Ytigepekcjigpaaa
