/- Clock: the order of edges; the sort of edges, by the shelf's contract. No condition. -/
import Derived.Test.YtkgodolhcoeaeaaGa
import Derived.Test.YtkgodolhcoeaeaaGl
import Derived.Shelf.SlSortCmp.NoneTotal
namespace Go.Proofs.Ytkgodolhcoeaeaa
open Go.RowKit Go.Sort

/-- Which edge comes first. -/
def cmpE (x y : Int × Bool) : Int := if x.1 < y.1 then -1 else if y.1 < x.1 then 1 else if x.2 = y.2 then 0 else if x.2 = true then 1 else -1
def encE (x : Int × Bool) : List Value := [.int .i64 x.1, .bool x.2]

theorem isNaN47 (x : Int) (w : World) : Calls Try.prog 71 #[.int .i64 x] w fun e w' => e = .returned (.bool false) ∧ w' = w := by
  go_enter Try.func71, Try.ntmps71
  go_wp2_with fail
  go_ret
  exact ⟨by simp, rfl⟩

set_option maxHeartbeats 1000000 in
theorem compare35 (x y : Int) (w : World) : Calls Try.prog 61 #[.int .i64 x, .int .i64 y] w fun e w' => e = .returned (.int .i64 (if x < y then -1 else if y < x then 1 else 0)) ∧ w' = w := by
  go_enter Try.func61, Try.ntmps61
  by_cases h1 : x < y
  · go_wp2_with (go_at_call 71; refine (isNaN47 _ _).mono ?_; rintro e w' ⟨rfl, rfl⟩)
    go_ret
    exact ⟨by simp [h1], rfl⟩
  · by_cases h2 : y < x
    · go_wp2_with (go_at_call 71; refine (isNaN47 _ _).mono ?_; rintro e w' ⟨rfl, rfl⟩)
      go_ret
      exact ⟨by simp [h2, h1], rfl⟩
    · go_wp2_with (go_at_call 71; refine (isNaN47 _ _).mono ?_; rintro e w' ⟨rfl, rfl⟩)
      go_ret
      exact ⟨by simp [h1, h2], rfl⟩

set_option maxHeartbeats 1000000 in
theorem order30 (x y : Int × Bool) (w : World) : Calls Try.prog 57 #[.agg #[.int .i64 x.1, .bool x.2], .agg #[.int .i64 y.1, .bool y.2]] w fun e w' => e = .returned (.int .i64 (cmpE x y)) ∧ ∃ q os', w' = grow (w.drewN q) os' := by
  obtain ⟨a, p⟩ := x
  obtain ⟨b, q⟩ := y
  by_cases h0 : a = b
  · subst h0
    have hc : cmpE (a, p) (a, q) = if p = q then 0 else if p = true then 1 else -1 := by unfold cmpE; simp
    rw [hc]
    clear hc
    go_enter Try.func57, Try.ntmps57
    cases p <;> cases q
    all_goals
      go_wp2_with fail
      go_ret
      exact ⟨by simp, 0, _, by rw [alloc_eq_grow, alloc_eq_grow, grow_grow]; rfl⟩
  · have hc : cmpE (a, p) (b, q) = if a < b then -1 else if b < a then 1 else 0 := by unfold cmpE; by_cases h1 : a < b <;> by_cases h2 : b < a <;> simp [h1, h2] <;> omega
    rw [hc]
    have hcon := fun W => compare35 a b W
    generalize (if a < b then (-1 : Int) else if b < a then 1 else 0) = r at hcon ⊢
    have h0' : (a != b) = true := by simpa using h0
    go_enter Try.func57, Try.ntmps57
    go_wp2_with (go_at_call 61; refine (hcon _).mono ?_; rintro e w' ⟨rfl, rfl⟩)
    go_ret
    exact ⟨by simp, 0, _, by rw [alloc_eq_grow, alloc_eq_grow, grow_grow]; rfl⟩

theorem ltE (x y : Int × Bool) : ltOf cmpE x y = (decide (x.1 < y.1) || (decide (x.1 = y.1) && (!x.2 && y.2))) := by
  obtain ⟨a, p⟩ := x
  obtain ⟨b, q⟩ := y
  unfold ltOf cmpE
  by_cases h1 : a < b
  · simp [h1]
  · by_cases h2 : b < a
    · have h3 : ¬ a = b := by omega
      simp [h1, h2, h3]
    · obtain rfl : a = b := by omega
      cases p <;> cases q <;> simp

theorem swoE : SWO (ltOf cmpE) where
  irrefl x := by rw [ltE]; simp
  trans x y z h1 h2 := by
    rw [ltE] at *
    simp only [Bool.or_eq_true, decide_eq_true_eq, Bool.and_eq_true, Bool.not_eq_true'] at *
    rcases h1 with h1 | ⟨h1, h1a, h1b⟩ <;> rcases h2 with h2 | ⟨h2, h2a, h2b⟩
    · left; omega
    · left; omega
    · left; omega
    · rw [h1b] at h2a; cases h2a
  ntrans x y z h1 h2 := by
    rw [ltE] at *
    obtain ⟨a, p⟩ := x
    obtain ⟨b, q⟩ := y
    obtain ⟨c, r⟩ := z
    simp only [Bool.or_eq_false_iff, decide_eq_false_iff_not, Bool.and_eq_false_iff] at *
    obtain ⟨h1, h1'⟩ := h1
    obtain ⟨h2, h2'⟩ := h2
    refine ⟨by omega, ?_⟩
    by_cases hac : a = c
    · right
      obtain rfl : a = b := by omega
      subst hac
      cases p <;> cases q <;> cases r <;> simp_all
    · left; exact hac

theorem totE : ∀ x y, (ltOf cmpE) x y = false → (ltOf cmpE) y x = false → x = y := by
  intro x y h1 h2
  rw [ltE] at h1 h2
  obtain ⟨a, p⟩ := x
  obtain ⟨b, q⟩ := y
  simp only [Bool.or_eq_false_iff, decide_eq_false_iff_not, Bool.and_eq_false_iff] at h1 h2
  obtain ⟨h1, h1'⟩ := h1
  obtain ⟨h2, h2'⟩ := h2
  obtain rfl : a = b := by omega
  cases p <;> cases q <;> simp_all

/-- The edges in order. -/
def sortE (es : List (Int × Bool)) : List (Int × Bool) := es.mergeSort fun x y => !(ltOf cmpE) y x

theorem sortE29 (blk cap : Nat) (es : List (Int × Bool)) (w : World) (hH : HoldsK encE 2 w blk 0 es.toArray) (hblk : blk < w.heap.size) (hsz : es.length < 4611686018427387904) :
    Calls Try.prog 56 #[.slice (some ⟨blk, 0, none⟩) es.length cap, .func (.func 57) #[] #[]] w fun e w' =>
      e = .returned (.tuple #[]) ∧ ∃ n os, w' = sortWorldK encE 2 w blk 0 n (sortE es).toArray os := by
  have eg : ∀ args w, (callFunc 57 args).run Try.prog w = .ok (.enter 57 args) w := enters_of Try.func57 (by kernel_rfl) rfl
  have := AnyQ.slices_SortFunc_total Try.sortE 2 Try.isAgg94 Try.sizeOf94 encE (fun _ => rfl) (fun x v hv => by simp [encE] at hv; rcases hv with rfl | rfl <;> rfl) cmpE swoE 57 #[] blk 0 cap es.toArray w eg (fun _ _ _ _ x y => order30 x y _) hH hblk (by simpa using hsz) totE
  rw [show Try.sortE_ren.f 6 = 56 from rfl, List.size_toArray] at this
  simpa [sortE] using this

theorem sortN29 (p : Option Addr) (cap : Nat) (fv : Value) (w : World) : Calls Try.prog 56 #[.slice p 0 cap, fv] w fun e w' => e = .returned (.tuple #[]) ∧ w' = w :=
  AnyF.slices_SortFunc_none Try.sortE p cap fv w

end Go.Proofs.Ytkgodolhcoeaeaa
