/- Sweep: a slice of gaps, opened. No condition. -/
import Derived.Test.YtljkijolehalcaaTd
import Derived.Test.YtljkijolehalcaaKrow
namespace Go.Proofs.Ytljkijolehalcaa
open Go.ChangeShapes Go.WideShapes Go.ChangeAt Go.RowKit

theorem flat25 {H : Type} {enc : TypeId × Value → H} {w : World} {base : Nat} {spare : Nat → Bool} {held : Bool} : FlatInts enc Try.prog w base spare held 25 :=
  FlatInts.struct Try.underlying25 [1, 1] (by kernel_rfl) fun j k hj => by
    match j, hj with
    | 0, hj => cases hj; exact ⟨_, rfl, rfl, by kernel_rfl, FlatInts.int Try.underlying2⟩
    | 1, hj => cases hj; exact ⟨_, rfl, rfl, by kernel_rfl, FlatInts.int Try.underlying2⟩

/-- The gaps that a slice reads as. -/
def gapsOf (w : World) (x : Addr) (n : Nat) : List (Int × Int) := (List.range n).map fun i => (cellNum w x (i * 2 + 0), cellNum w x (i * 2 + 1))

theorem wf_range {x : Int} (h : (Lit.int .i64 x).wf = true) : -9223372036854775808 ≤ x ∧ x ≤ 9223372036854775807 := by
  simp [Lit.wf, IntKind.min, IntKind.max, IntKind.wrap, IntKind.signed, IntKind.bits] at h
  omega

theorem open_gaps {H : Type} {enc : TypeId × Value → H} {w : World} {base : Nat} {spare : Nat → Bool} {held : Bool} {fuel : Nat} {a : Option Addr} {len cap : Nat} {x : DataW H × List MemPlace}
    (h : DataW.trod enc Try.prog w base spare held fuel 22 [.slice a len cap] = some x) : len ≤ maxLen ∧ ∃ gs : List (Int × Int), len = gs.length ∧ (∀ g ∈ gs, inR g) ∧ GapsIn w a gs := by
  obtain ⟨hl, hm, hab, hnil, hcell⟩ := open_flat (k := 2) Try.underlying22 (by kernel_rfl) (by decide) flat25 h
  refine ⟨by omega, ?_⟩
  rcases hab with h0 | ⟨b, off, rfl⟩
  · exact ⟨[], h0, fun g h => by simp at h, fun i h => by simp at h⟩
  · refine ⟨gapsOf w ⟨b, off, none⟩ len, by simp [gapsOf], fun g hg => ?_, fun i h => ⟨b, off, rfl, ?_, ?_⟩⟩
    · unfold gapsOf at hg
      rw [List.mem_map] at hg
      obtain ⟨i, hi, rfl⟩ := hg
      have hi := List.mem_range.1 hi
      have h0 := wf_range (hcell b off rfl i hi 0 (by decide)).2.2
      have h1 := wf_range (hcell b off rfl i hi 1 (by decide)).2.2
      exact ⟨h0.1, h0.2, h1.1, h1.2⟩
    · simp [gapsOf] at h
      exact (hcell b off rfl i h 0 (by decide)).1
    · simp [gapsOf] at h
      have hc := fun j hj => (hcell b off rfl i h j hj).2.1
      simp only [gapsOf, List.getElem_map, List.getElem_range]
      exact ⟨hc 0 (by decide), hc 1 (by decide)⟩

end Go.Proofs.Ytljkijolehalcaa
