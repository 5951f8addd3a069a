/- Words for the rows: slices whose elements are flat structs of whole numbers, opened. No condition. -/
import Derived.WalkKit
import Derived.ProofKit
import Derived.OpenShut
import Derived.Deep.Slices
import Derived.ChangeOld
import Derived.Below
import Derived.SizedLaws
namespace Go.Proofs.Ytkgodolhcoeaeaa
open Go.ChangeShapes Go.WideShapes Go.RowKit Go.Deep

section
variable {H : Type} {enc : TypeId × Value → H} {P : Program} {w : World} {base : Nat} {spare : Nat → Bool} {held : Bool}

/-- What a type's cells are made of: whole numbers of one kind alone. -/
def FlatInts (enc : TypeId × Value → H) (P : Program) (w : World) (base : Nat) (spare : Nat → Bool) (held : Bool) (t : TypeId) : Prop :=
  ∀ fuel cs x, DataW.trod enc P w base spare held fuel t cs = some x → ∀ v ∈ cs, ∃ n, v = .int .i64 n ∧ (Lit.int .i64 n).wf = true

theorem FlatInts.int {t : TypeId} (ht : P.underlying t = some (.int .i64)) : FlatInts enc P w base spare held t := by
  intro fuel cs x h v hv
  obtain ⟨n, rfl, _, hw⟩ := DataW.trod_int ht h
  simp at hv
  exact ⟨n, hv, hw⟩

theorem flat_pieces {cs : List Value} {Q : Value → Prop} : ∀ (ks : List Nat) (pre : Nat), pre + ks.sum = cs.length → (∀ j k, ks[j]? = some k → ∀ v ∈ (cs.drop (pre + (ks.take j).sum)).take k, Q v) → ∀ v ∈ cs.drop pre, Q v
  | [], pre, hl, _, v, hv => by
    simp at hl
    rw [List.drop_of_length_le (by omega)] at hv
    simp at hv
  | k :: ks, pre, hl, hq, v, hv => by
    rw [← List.take_append_drop k (cs.drop pre), List.mem_append] at hv
    rcases hv with hv | hv
    · exact hq 0 k rfl v (by simpa using hv)
    · rw [List.drop_drop] at hv
      refine flat_pieces ks (pre + k) (by simp at hl; omega) (fun j k' hj v' hv' => hq (j + 1) k' (by simpa using hj) v' ?_) v hv
      rw [List.take_succ_cons, List.sum_cons, ← Nat.add_assoc]
      exact hv'

/-- A struct whose fields are flat is flat. -/
theorem FlatInts.struct {t : TypeId} {fs : Array Field} (hs : P.underlying t = some (.struct fs)) (ks : List Nat) (hsum : P.cellsOf t = ks.sum)
    (hf : ∀ (j : Nat) (k : Nat), ks[j]? = some k → ∃ f : Field, fs[j]? = some f ∧ f.offset = (ks.take j).sum ∧ P.cellsOf f.type = k ∧ FlatInts enc P w base spare held f.type) : FlatInts enc P w base spare held t := by
  intro fuel cs x h
  obtain ⟨xs, n, _, _, hlen, hxl, hx⟩ := DataW.trod_struct hs h
  have := flat_pieces (cs := cs) (Q := fun v => ∃ n, v = .int .i64 n ∧ (Lit.int .i64 n).wf = true) ks 0 (by rw [Nat.zero_add, hlen, hsum]) (fun j k hj v hv => by
    obtain ⟨f, hfj, ho, hc, hfl⟩ := hf j k hj
    have h1 := hx j f hfj
    rw [ho, hc] at h1
    rw [Nat.zero_add] at hv
    have hjs : j < xs.length := by rw [hxl]; exact (Array.getElem?_eq_some_iff.1 hfj).1
    rw [List.getElem?_eq_getElem hjs] at h1
    exact hfl n _ _ h1 v hv)
  simpa using this

/-- The number in a cell of a row. -/
def cellNum (w : World) (x : Addr) (o : Nat) : Int := intOf ((w.cell? (x.add o)).getD undef)

/-- A slice of flat elements of k cells: nil, or each cell of each element is a number. -/
theorem open_flat {t e k : Nat} {fuel : Nat} {a : Option Addr} {len cap : Nat} {x : DataW H × List MemPlace} (ht : P.underlying t = some (.slice e)) (hC : P.cellsOf e = k) (hk : 0 < k) (hfl : FlatInts enc P w base spare held e)
    (h : DataW.trod enc P w base spare held fuel t [.slice a len cap] = some x) :
    len ≤ cap ∧ cap ≤ maxLen ∧ (len = 0 ∨ ∃ b off, a = some ⟨b, off, none⟩) ∧ (a = none → len = 0 ∧ cap = 0) ∧
      ∀ b off, a = some ⟨b, off, none⟩ → ∀ i, i < len → ∀ j, j < k → b < w.heap.size ∧ w.cell? ⟨b, off + i * k + j, none⟩ = some (.int .i64 (cellNum w ⟨b, off, none⟩ (i * k + j))) ∧ (Lit.int .i64 (cellNum w ⟨b, off, none⟩ (i * k + j))).wf = true := by
  rcases open_slice ht h with ⟨hcs, _⟩ | ⟨ad, len', cap', m, n, D, Pl, hcs, hb, hl, hm, hmm, hx, hi⟩
  · simp only [List.cons.injEq, Value.slice.injEq, and_true] at hcs
    obtain ⟨rfl, rfl, rfl⟩ := hcs
    exact ⟨Nat.le_refl _, Nat.zero_le _, .inl rfl, fun _ => ⟨rfl, rfl⟩, fun b off h => by cases h⟩
  · simp only [List.cons.injEq, Value.slice.injEq, and_true] at hcs
    obtain ⟨rfl, rfl, rfl⟩ := hcs
    have hlm : len ≤ m := by rw [hmm]; split <;> omega
    have cell : ∀ i, i < len → ∀ j, j < k → ∃ n, w.cell? (ad.add (i * k + j)) = some (.int .i64 n) ∧ (Lit.int .i64 n).wf = true := by
      intro i hil j hjk
      obtain ⟨cs', hc, ht'⟩ := hi i (by omega)
      rw [hC] at hc
      obtain ⟨_, hcl, hat⟩ := World.cells?_some hc
      have hjl : j < cs'.length := by omega
      obtain ⟨n, hn, hw⟩ := hfl _ _ _ ht' _ (List.getElem_mem hjl)
      refine ⟨n, ?_, hw⟩
      rw [← Go.Deep.add_add, hat j (by omega), List.getElem?_eq_getElem hjl, hn]
    refine ⟨hl, hm, ?_, (fun h => by cases h), ?_⟩
    · by_cases h0 : len = 0
      · exact .inl h0
      · right
        obtain ⟨n, hn, _⟩ := cell 0 (by omega) 0 hk
        obtain ⟨b, off, spot⟩ := ad
        have : (⟨b, off, spot⟩ : Addr).add (0 * k + 0) = ⟨b, off, spot⟩ := by simp [Addr.add]
        rw [this] at hn
        cases spot with
        | none => exact ⟨b, off, rfl⟩
        | some s =>
          simp [World.cell?] at hn
          split at hn <;> simp at hn
    · intro b off hab i hil j hjk
      cases hab
      obtain ⟨n, hn, hw⟩ := cell i hil j hjk
      have hadd : (⟨b, off, none⟩ : Addr).add (i * k + j) = ⟨b, off + i * k + j, none⟩ := by
        unfold Addr.add
        split
        · rename_i h0; simp at h0; simp [h0]
        · simp; omega
      have hnum : cellNum w ⟨b, off, none⟩ (i * k + j) = n := by simp [cellNum, hn, intOf]
      rw [hnum, ← hadd]
      exact ⟨by have := World.block_lt_of_cell? w _ hn; rwa [hadd] at this, hn, hw⟩
end

end Go.Proofs.Ytkgodolhcoeaeaa
