/- Sweep: a slice of gaps, opened, with what is known of a nil one. No condition. -/
import Derived.Test.YtljkijolehalcaaTi
namespace Go.Proofs.Ytljkijolehalcaa
open Go.ChangeShapes Go.WideShapes Go.ChangeAt Go.RowKit

theorem open_gaps2 {H : Type} {enc : TypeId × Value → H} {w : World} {base : Nat} {spare : Nat → Bool} {held : Bool} {fuel : Nat} {a : Option Addr} {len cap : Nat} {x : DataW H × List MemPlace}
    (h : DataW.trod enc Try.prog w base spare held fuel 22 [.slice a len cap] = some x) : len ≤ cap ∧ len ≤ maxLen ∧ (a = none → len = 0 ∧ cap = 0) ∧ ∃ gs : List (Int × Int), len = gs.length ∧ (∀ g ∈ gs, inR g) ∧ GapsIn w a gs := by
  obtain ⟨hl, hm, hab, hnil, hcell⟩ := open_flat (k := 2) Try.underlying22 (by kernel_rfl) (by decide) flat25 h
  refine ⟨hl, by omega, hnil, ?_⟩
  rcases hab with h0 | ⟨b, off, rfl⟩
  · exact ⟨[], h0, fun g h => by simp at h, fun i h => by simp at h⟩
  · refine ⟨gapsOf w ⟨b, off, none⟩ len, by simp [gapsOf], fun g hg => ?_, fun i h => ⟨b, off, rfl, ?_, ?_⟩⟩
    · unfold gapsOf at hg
      rw [List.mem_map] at hg
      obtain ⟨i, hi, rfl⟩ := hg
      have hi := List.mem_range.1 hi
      have h0 := wf_range (hcell b off rfl i hi 0 (by decide)).2.2
      have h1 := wf_range (hcell b off rfl i hi 1 (by decide)).2.2
      exact ⟨h0.1, h0.2, h1.1, h1.2⟩
    · simp [gapsOf] at h
      exact (hcell b off rfl i h 0 (by decide)).1
    · simp [gapsOf] at h
      have hc := fun j hj => (hcell b off rfl i h j hj).2.1
      simp only [gapsOf, List.getElem_map, List.getElem_range]
      exact ⟨hc 0 (by decide), hc 1 (by decide)⟩

end Go.Proofs.Ytljkijolehalcaa
