/- Drift: comparisons of numbers, cmp.Or, wide.Cmp, wide.Times, and the order of points, walked. No condition. -/
import Derived.Test.YtigepekcjigpaaaDg
import Derived.StillTailTactics
import Derived.Shelf.SlSortCmp.NoneTotal
namespace Go.Proofs.Ytigepekcjigpaaa
open Go.RowKit Go.Sort

def cmpI (x y : Int) : Int := if x < y then -1 else if y < x then 1 else 0
def or2 (u v : Int) : Int := if u = 0 then v else u

theorem nanI (x : Int) (w : World) : Calls Try.prog 34 #[.int .i64 x] w fun e w' => e = .returned (.bool false) ∧ w' = w := by
  go_enter Try.func34, Try.ntmps34
  go_wp2_with fail
  go_ret
  exact ⟨by simp, rfl⟩

theorem nanU (x : Int) (w : World) : Calls Try.prog 54 #[.int .u64 x] w fun e w' => e = .returned (.bool false) ∧ w' = w := by
  go_enter Try.func54, Try.ntmps54
  go_wp2_with fail
  go_ret
  exact ⟨by simp, rfl⟩

set_option maxHeartbeats 1000000 in
theorem compareI (x y : Int) (w : World) : Calls Try.prog 22 #[.int .i64 x, .int .i64 y] w fun e w' => e = .returned (.int .i64 (cmpI x y)) ∧ w' = w := by
  unfold cmpI
  go_enter Try.func22, Try.ntmps22
  by_cases h1 : x < y
  · go_wp2_with (go_at_call 34; refine (nanI _ _).mono ?_; rintro e w' ⟨rfl, rfl⟩)
    go_ret
    exact ⟨by simp [h1], rfl⟩
  · by_cases h2 : y < x
    · go_wp2_with (go_at_call 34; refine (nanI _ _).mono ?_; rintro e w' ⟨rfl, rfl⟩)
      go_ret
      exact ⟨by simp [h2, h1], rfl⟩
    · go_wp2_with (go_at_call 34; refine (nanI _ _).mono ?_; rintro e w' ⟨rfl, rfl⟩)
      go_ret
      exact ⟨by simp [h1, h2], rfl⟩

set_option maxHeartbeats 1000000 in
theorem compareU (x y : Int) (w : World) : Calls Try.prog 43 #[.int .u64 x, .int .u64 y] w fun e w' => e = .returned (.int .i64 (cmpI x y)) ∧ w' = w := by
  unfold cmpI
  go_enter Try.func43, Try.ntmps43
  by_cases h1 : x < y
  · go_wp2_with (go_at_call 54; refine (nanU _ _).mono ?_; rintro e w' ⟨rfl, rfl⟩)
    go_ret
    exact ⟨by simp [h1], rfl⟩
  · by_cases h2 : y < x
    · go_wp2_with (go_at_call 54; refine (nanU _ _).mono ?_; rintro e w' ⟨rfl, rfl⟩)
      go_ret
      exact ⟨by simp [h2, h1], rfl⟩
    · go_wp2_with (go_at_call 54; refine (nanU _ _).mono ?_; rintro e w' ⟨rfl, rfl⟩)
      go_ret
      exact ⟨by simp [h1, h2], rfl⟩

set_option maxHeartbeats 2000000 in
theorem or_walk (b : Nat) (u v : Int) (w : World) (h0 : w.cell? ⟨b, 0, none⟩ = some (.int .i64 u)) (h1 : w.cell? ⟨b, 1, none⟩ = some (.int .i64 v)) (hb : b < w.heap.size) :
    Calls Try.prog 21 #[.slice (some ⟨b, 0, none⟩) 2 2] w fun e w' => e = .returned (.int .i64 (or2 u v)) ∧ w' = w := by
  unfold or2
  go_enter Try.func21, Try.ntmps21
  go_wp2_with fail
  go_loopw [8] (fun i wr => wr = w ∧ ((i = .int .i64 0) ∨ (i = .int .i64 1 ∧ u = 0) ∨ (i = .int .i64 2 ∧ u = 0 ∧ v = 0))) (fun i _ => 2 - (intOf i).toNat)
  case atStart => exact ⟨rfl, .inl rfl⟩
  case round =>
    obtain ⟨rfl, rfl | ⟨rfl, hu⟩ | ⟨rfl, hu, hv⟩⟩ := hrel
    · by_cases hu : u = 0
      · subst hu
        go_wp2_with fail
        exact ⟨by simp, by simp [intOf]⟩
      · have hu' : (u != 0) = true := by simpa using hu
        go_wp2_with fail
        go_ret
        exact ⟨by simp [hu], rfl⟩
    · subst hu
      by_cases hv : v = 0
      · subst hv
        go_wp2_with fail
        exact ⟨by simp, by simp [intOf]⟩
      · have hv' : (v != 0) = true := by simpa using hv
        go_wp2_with fail
        go_ret
        exact ⟨by simp, rfl⟩
    · subst hu
      subst hv
      go_wp2_with fail
      go_ret
      exact ⟨by simp, rfl⟩

/-- Which point comes first. -/
def cmpP (a b : Int × Int) : Int := or2 (cmpI a.1 b.1) (cmpI a.2 b.2)
def encP (p : Int × Int) : List Value := [.int .i64 p.1, .int .i64 p.2]

set_option maxRecDepth 100000 in
set_option maxHeartbeats 2000000 in
theorem cmpP_walk (a b : Int × Int) (w : World) : Calls Try.prog 20 #[.agg #[.int .i64 a.1, .int .i64 a.2], .agg #[.int .i64 b.1, .int .i64 b.2]] w fun e w' => e = .returned (.int .i64 (cmpP a b)) ∧ ∃ q os', w' = grow (w.drewN q) os' := by
  obtain ⟨a1, a2⟩ := a
  obtain ⟨b1, b2⟩ := b
  unfold cmpP
  simp only
  have k1 := fun w => compareI a1 b1 w
  have k2 := fun w => compareI a2 b2 w
  generalize cmpI a1 b1 = u at *
  generalize cmpI a2 b2 = v at *
  go_enter Try.func20, Try.ntmps20
  obtain ⟨W0, hW0⟩ : ∃ W0, (w.alloc (.cells #[.int .i64 a1, .int .i64 a2] 30)).alloc (.cells #[.int .i64 b1, .int .i64 b2] 30) = W0 := ⟨_, rfl⟩
  have c0 : W0.drew.cell? ⟨w.heap.size, 0, none⟩ = some (.int .i64 a1) := by rw [← hW0]; simp
  have c1 : W0.drew.cell? ⟨w.heap.size, 1, none⟩ = some (.int .i64 a2) := by rw [← hW0]; simp
  have d0 : W0.drew.cell? ⟨w.heap.size + 1, 0, none⟩ = some (.int .i64 b1) := by rw [← hW0]; simp
  have d1 : W0.drew.cell? ⟨w.heap.size + 1, 1, none⟩ = some (.int .i64 b2) := by rw [← hW0]; simp
  have HW0 := Lib.hid hW0
  go_wp2_with fail
  clear hW0
  refine wp_region_still_tail 10 (by kernel_rfl) (by kernel_rfl) ?_
  simp only [List.take_succ_cons, List.take_zero, List.drop_succ_cons, List.drop_zero]
  change wpStill _ _ W0.drew (fun a' => wpList _ _ _ _ a' W0.drew) _ _
  obtain ⟨W1, hW1⟩ : ∃ W1, W0.drew = W1 := ⟨_, rfl⟩
  rw [hW1] at c0 c1 d0 d1 ⊢
  have HW1 := Lib.hid hW1
  clear hW1
  still_step
  still_step
  still_step
  still_step
  still_call (k1 _)
  still_step
  still_step
  still_step
  still_step
  still_call (k2 _)
  refine wpStill_nil ?_
  go_wp2_with fail
  refine (or_walk W1.heap.size u v _ (by simp) (by simp) (by simp)).mono ?_
  rintro e w3 ⟨rfl, rfl⟩
  go_wp2_with fail
  go_ret
  exact ⟨rfl, 1, _, by
    rw [← HW1.out, ← HW0.out, alloc_eq_grow, alloc_eq_grow, alloc_eq_grow, grow_grow]
    change grow (grow (w.drewN 1) _) _ = _
    rw [grow_grow]⟩

theorem ltP (x y : Int × Int) : ltOf cmpP x y = (decide (x.1 < y.1) || (decide (x.1 = y.1) && decide (x.2 < y.2))) := by
  unfold ltOf cmpP or2 cmpI
  by_cases h1 : x.1 < y.1
  · simp [h1]
  · by_cases h2 : y.1 < x.1
    · have h3 : ¬ x.1 = y.1 := by omega
      simp [h1, h2, h3]
    · have h3 : x.1 = y.1 := by omega
      by_cases h4 : x.2 < y.2
      · simp [h3, h4]
      · by_cases h5 : y.2 < x.2
        · simp [h3, h4, h5]
        · simp [h3, h4, h5]

theorem swoP : SWO (ltOf cmpP) where
  irrefl x := by rw [ltP]; simp
  trans x y z h1 h2 := by
    rw [ltP] at *
    simp only [Bool.or_eq_true, decide_eq_true_eq, Bool.and_eq_true] at *
    omega
  ntrans x y z h1 h2 := by
    rw [ltP] at *
    simp only [Bool.or_eq_false_iff, decide_eq_false_iff_not, Bool.and_eq_false_iff] at *
    omega

theorem totP : ∀ x y, (ltOf cmpP) x y = false → (ltOf cmpP) y x = false → x = y := by
  intro x y h1 h2
  rw [ltP] at h1 h2
  simp only [Bool.or_eq_false_iff, decide_eq_false_iff_not, Bool.and_eq_false_iff] at h1 h2
  exact Prod.ext (by omega) (by omega)

/-- The points in order. -/
def sortP (ps : List (Int × Int)) : List (Int × Int) := ps.mergeSort fun x y => !(ltOf cmpP) y x

theorem sortP_perm (ps : List (Int × Int)) : (sortP ps).Perm ps := List.mergeSort_perm _ _
theorem sortP_len (ps : List (Int × Int)) : (sortP ps).length = ps.length := (sortP_perm ps).length_eq

theorem leP_iff (x y : Int × Int) : (!(ltOf cmpP) y x) = true ↔ lexP x y := by
  rw [ltP]
  unfold lexP
  simp
  omega

theorem sortP_sorted (ps : List (Int × Int)) : (sortP ps).Pairwise lexP := by
  have := List.pairwise_mergeSort (le := fun x y => !(ltOf cmpP) y x) (fun a b c h1 h2 => by
    rw [leP_iff] at *; unfold lexP at *; omega) (fun a b => by
    simp only [Bool.or_eq_true]
    rw [leP_iff, leP_iff]
    unfold lexP
    omega) ps
  exact this.imp fun {a b} h => (leP_iff a b).1 h

theorem sort_walk (blk cap : Nat) (ps : List (Int × Int)) (w : World) (hH : HoldsK encP 2 w blk 0 ps.toArray) (hblk : blk < w.heap.size) (hsz : ps.length < 4611686018427387904) :
    Calls Try.prog 32 #[.slice (some ⟨blk, 0, none⟩) ps.length cap, .func (.func 20) #[] #[]] w fun e w' =>
      e = .returned (.tuple #[]) ∧ ∃ n os, w' = sortWorldK encP 2 w blk 0 n (sortP ps).toArray os := by
  have eg : ∀ args w, (callFunc 20 args).run Try.prog w = .ok (.enter 20 args) w := enters_of Try.func20 (by kernel_rfl) rfl
  have := AnyQ.slices_SortFunc_total Try.sortP 2 Try.isAgg30 Try.sizeOf30 encP (fun _ => rfl) (fun x v hv => by simp [encP] at hv; rcases hv with rfl | rfl <;> rfl) cmpP swoP 20 #[] blk 0 cap ps.toArray w eg (fun _ _ _ _ x y => cmpP_walk x y _) hH hblk (by simpa using hsz) totP
  rw [show Try.sortP_ren.f 6 = 32 from rfl, List.size_toArray] at this
  simpa [sortP] using this

theorem sort_none (p : Option Addr) (cap : Nat) (fv : Value) (w : World) : Calls Try.prog 32 #[.slice p 0 cap, fv] w fun e w' => e = .returned (.tuple #[]) ∧ w' = w :=
  AnyF.slices_SortFunc_none Try.sortP p cap fv w

end Go.Proofs.Ytigepekcjigpaaa
