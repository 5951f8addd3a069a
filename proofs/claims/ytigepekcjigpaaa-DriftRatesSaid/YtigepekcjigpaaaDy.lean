/- Drift: a slice of points, opened. No condition. -/
import Derived.Test.YtigepekcjigpaaaDj
import Derived.Test.YtigepekcjigpaaaKrow
namespace Go.Proofs.Ytigepekcjigpaaa
open Go.ChangeShapes Go.WideShapes Go.ChangeAt Go.RowKit

def inR (g : Int × Int) : Prop := -9223372036854775808 ≤ g.1 ∧ g.1 ≤ 9223372036854775807 ∧ -9223372036854775808 ≤ g.2 ∧ g.2 ≤ 9223372036854775807

theorem flatPt {H : Type} {enc : TypeId × Value → H} {w : World} {base : Nat} {spare : Nat → Bool} {held : Bool} : FlatInts enc Try.prog w base spare held 30 :=
  FlatInts.struct Try.underlying30 [1, 1] (by kernel_rfl) fun j k hj => by
    match j, hj with
    | 0, hj => cases hj; exact ⟨_, rfl, rfl, by kernel_rfl, FlatInts.int Try.underlying2⟩
    | 1, hj => cases hj; exact ⟨_, rfl, rfl, by kernel_rfl, FlatInts.int Try.underlying2⟩

/-- The points that a slice reads as. -/
def ptsOf (w : World) (x : Addr) (n : Nat) : List (Int × Int) := (List.range n).map fun i => (cellNum w x (i * 2 + 0), cellNum w x (i * 2 + 1))

theorem wf_range {x : Int} (h : (Lit.int .i64 x).wf = true) : -9223372036854775808 ≤ x ∧ x ≤ 9223372036854775807 := by
  simp [Lit.wf, IntKind.min, IntKind.max, IntKind.wrap, IntKind.signed, IntKind.bits] at h
  omega

theorem open_pts {H : Type} {enc : TypeId × Value → H} {w : World} {base : Nat} {spare : Nat → Bool} {held : Bool} {fuel : Nat} {a : Option Addr} {len cap : Nat} {x : DataW H × List MemPlace}
    (h : DataW.trod enc Try.prog w base spare held fuel 27 [.slice a len cap] = some x) : len ≤ cap ∧ len ≤ maxLen ∧ (a = none → len = 0 ∧ cap = 0) ∧ ∃ gs : List (Int × Int), len = gs.length ∧ (∀ g ∈ gs, inR g) ∧ PtsIn w a gs := by
  obtain ⟨hl, hm, hab, hnil, hcell⟩ := open_flat (k := 2) Try.underlying27 (by kernel_rfl) (by decide) flatPt h
  refine ⟨hl, by omega, hnil, ?_⟩
  rcases hab with h0 | ⟨b, off, rfl⟩
  · exact ⟨[], h0, fun g h => by simp at h, fun i h => by simp at h⟩
  · refine ⟨ptsOf w ⟨b, off, none⟩ len, by simp [ptsOf], fun g hg => ?_, fun i h => ⟨b, off, rfl, ?_, ?_⟩⟩
    · unfold ptsOf at hg
      rw [List.mem_map] at hg
      obtain ⟨i, hi, rfl⟩ := hg
      have hi := List.mem_range.1 hi
      have h0 := wf_range (hcell b off rfl i hi 0 (by decide)).2.2
      have h1 := wf_range (hcell b off rfl i hi 1 (by decide)).2.2
      exact ⟨h0.1, h0.2, h1.1, h1.2⟩
    · simp [ptsOf] at h
      exact (hcell b off rfl i h 0 (by decide)).1
    · simp [ptsOf] at h
      have hc := fun j hj => (hcell b off rfl i h j hj).2.1
      simp only [ptsOf, List.getElem_map, List.getElem_range]
      exact ⟨hc 0 (by decide), hc 1 (by decide)⟩

end Go.Proofs.Ytigepekcjigpaaa
