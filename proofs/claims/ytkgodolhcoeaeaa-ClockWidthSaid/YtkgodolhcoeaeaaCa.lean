/- Clock: a sample in memory; isTime, Right, Trip and cut walked. No condition. -/
import Derived.Test.YtkgodolhcoeaeaaGta
import Derived.Test.YtkgodolhcoeaeaaDg
import Derived.StillTailTactics
namespace Go.Proofs.Ytkgodolhcoeaeaa
open Go.RowKit

/-- A sample. -/
structure Smp where
  asked : Int
  got : Int
  sent : Int
  came : Int
deriving DecidableEq, Inhabited

def encS (s : Smp) : Value := .agg #[.int .i64 s.asked, .int .i64 s.got, .int .i64 s.sent, .int .i64 s.came]

/-- A box of a sample. -/
def Bx4 (w : World) (b : Nat) (t : TypeId) (s : Smp) : Prop := w.heap[b]? = some (.cells #[.int .i64 s.asked, .int .i64 s.got, .int .i64 s.sent, .int .i64 s.came] t (0, 0))

theorem Bx4.cells {w : World} {b : Nat} {t : TypeId} {s : Smp} (h : Bx4 w b t s) : w.cell? ⟨b, 0, none⟩ = some (.int .i64 s.asked) ∧ w.cell? ⟨b, 1, none⟩ = some (.int .i64 s.got) ∧ w.cell? ⟨b, 2, none⟩ = some (.int .i64 s.sent) ∧ w.cell? ⟨b, 3, none⟩ = some (.int .i64 s.came) ∧ b < w.heap.size := by
  unfold Bx4 at h
  refine ⟨by simp [World.cell?, h], by simp [World.cell?, h], by simp [World.cell?, h], by simp [World.cell?, h], lt_of_heap h⟩
theorem Bx4.new (w : World) (t : TypeId) (s : Smp) : Bx4 (w.alloc (.cells #[.int .i64 s.asked, .int .i64 s.got, .int .i64 s.sent, .int .i64 s.came] t)) w.heap.size t s := heap_alloc_new w _
theorem Bx4.alloc {w : World} {b : Nat} {t : TypeId} {s : Smp} (h : Bx4 w b t s) (B : Obj) : Bx4 (w.alloc B) b t s := (Below.heap_alloc _ _ _ (lt_of_heap h)).trans h
theorem Bx4.ext {w w' : World} {b : Nat} {t : TypeId} {s : Smp} (h : Bx4 w b t s) (hB : Below w.heap.size w w') : Bx4 w' b t s := (hB.block _ (lt_of_heap h)).trans h

def timeB (v : Int) : Bool := decide (0 ≤ v) && decide (v ≤ 4611686018427387903)
def rightS (s : Smp) : Bool := timeB s.asked && timeB s.got && timeB s.sent && timeB s.came && decide (s.asked ≤ s.came) && decide (s.got ≤ s.sent)
def tripS (s : Smp) : Int := if rightS s = true then (s.came - s.asked) - (s.sent - s.got) else 0

theorem isTime_walk (x : Int) (w : World) : Calls Try.prog 23 #[.int .i64 x] w fun e w' => e = .returned (.bool (timeB x)) ∧ w' = w := by
  unfold timeB
  go_enter Try.func23, Try.ntmps23
  by_cases h : 0 ≤ x
  · go_wp2_with fail
    go_ret
    exact ⟨by simp [h], rfl⟩
  · go_wp2_with fail
    go_ret
    exact ⟨by simp; omega, rfl⟩

set_option maxRecDepth 100000 in
set_option maxHeartbeats 4000000 in
theorem rightS_walk (s : Smp) (w : World) : Calls Try.prog 11 #[encS s] w fun e w' => e = .returned (.bool (rightS s)) ∧ Below w.heap.size w w' := by
  obtain ⟨a, g, s, c⟩ := s
  unfold encS rightS
  have k0 := fun w => isTime_walk a w
  have k1 := fun w => isTime_walk g w
  have k2 := fun w => isTime_walk s w
  have k3 := fun w => isTime_walk c w
  simp only
  generalize timeB a = ba at *
  generalize timeB g = bg at *
  generalize timeB s = bs at *
  generalize timeB c = bc at *
  go_enter Try.func11, Try.ntmps11
  go_wp2_with fail
  refine (k0 _).mono ?_
  rintro e w' ⟨rfl, rfl⟩
  cases ba
  · go_wp2_with fail
    go_ret
    exact ⟨by simp, (Below.refl _ w).alloc (Nat.le_refl _) _⟩
  go_wp2_with fail
  refine (k1 _).mono ?_
  rintro e w' ⟨rfl, rfl⟩
  cases bg
  · go_wp2_with fail
    go_ret
    exact ⟨by simp, (Below.refl _ w).alloc (Nat.le_refl _) _⟩
  go_wp2_with fail
  refine (k2 _).mono ?_
  rintro e w' ⟨rfl, rfl⟩
  cases bs
  · go_wp2_with fail
    go_ret
    exact ⟨by simp, (Below.refl _ w).alloc (Nat.le_refl _) _⟩
  go_wp2_with fail
  refine (k3 _).mono ?_
  rintro e w' ⟨rfl, rfl⟩
  cases bc
  · go_wp2_with fail
    go_ret
    exact ⟨by simp, (Below.refl _ w).alloc (Nat.le_refl _) _⟩
  by_cases h : a ≤ c
  · go_wp2_with fail
    go_ret
    exact ⟨by simp [h], (Below.refl _ w).alloc (Nat.le_refl _) _⟩
  · have h' : decide (a ≤ c) = false := by simpa using h
    go_wp2_with fail
    go_ret
    exact ⟨by simp [h'], (Below.refl _ w).alloc (Nat.le_refl _) _⟩

/-- What a right sample's numbers are. -/
theorem rightS_parts {s : Smp} (h : rightS s = true) : 0 ≤ s.asked ∧ s.asked ≤ s.came ∧ s.came ≤ 4611686018427387903 ∧ 0 ≤ s.got ∧ s.got ≤ s.sent ∧ s.sent ≤ 4611686018427387903 := by
  unfold rightS timeB at h
  simp at h
  omega

set_option maxHeartbeats 4000000 in
theorem trip_walk (s : Smp) (w : World) : Calls Try.prog 18 #[encS s] w fun e w' => e = .returned (.int .i64 (tripS s)) ∧ Below w.heap.size w w' := by
  have kR := fun w => rightS_walk s w
  have kP := @rightS_parts s
  have kT : tripS s = if rightS s = true then (s.came - s.asked) - (s.sent - s.got) else 0 := rfl
  generalize rightS s = b at *
  generalize tripS s = t at *
  obtain ⟨a, g, s, c⟩ := s
  unfold encS at *
  simp only at *
  go_enter Try.func18, Try.ntmps18
  have HN := Lib.hid (Bx4.new w 23 ⟨a, g, s, c⟩)
  have HB := Lib.hid ((Below.refl w.heap.size w).alloc (Nat.le_refl _) (.cells #[.int .i64 a, .int .i64 g, .int .i64 s, .int .i64 c] 23))
  have HT := Lib.hid kT
  have HP := Lib.hid kP
  clear kT kP
  go_wp2_with fail
  refine (kR _).mono ?_
  rintro e w' ⟨rfl, hB2⟩
  obtain ⟨c0, c1, c2, c3, c4⟩ := (HN.out.ext hB2).cells
  have HB2 := Lib.hid (HB.out.trans (hB2.mono (by simp)))
  clear hB2
  cases b
  · go_wp2_with fail
    go_ret
    exact ⟨by rw [HT.out]; simp, HB2.out⟩
  · obtain ⟨p0, p1, p2, p3, p4, p5⟩ := HP.out rfl
    simp only at p0 p1 p2 p3 p4 p5 c0 c1 c2 c3
    have q1 : wrap64 (c - a) = c - a := by simp [wrap64]; omega
    have q2 : wrap64 (s - g) = s - g := by simp [wrap64]; omega
    have q3 : wrap64 (c - a - (s - g)) = c - a - (s - g) := by simp [wrap64]; omega
    go_wp2_with fail
    go_ret
    exact ⟨by rw [HT.out]; simp, HB2.out⟩

/-- A sum within the times, as near as can be. -/
def cutL (a b : Int) : Int := if 9223372036854775807 < a + b ∨ a + b < -9223372036854775808 then 4611686018427387904 else a + b

end Go.Proofs.Ytkgodolhcoeaeaa
