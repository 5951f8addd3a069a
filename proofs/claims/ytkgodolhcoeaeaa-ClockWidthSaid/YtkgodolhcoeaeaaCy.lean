/- Clock: a slice of samples, and a sample by value, opened. No condition. -/
import Derived.Test.YtkgodolhcoeaeaaCc
import Derived.Test.YtkgodolhcoeaeaaKrow
import Derived.Lib.SmallJoins
namespace Go.Proofs.Ytkgodolhcoeaeaa
open Go.ChangeShapes Go.WideShapes Go.ChangeAt Go.RowKit

def inI (x : Int) : Prop := -9223372036854775808 ≤ x ∧ x ≤ 9223372036854775807
def inS (s : Smp) : Prop := inI s.asked ∧ inI s.got ∧ inI s.sent ∧ inI s.came

theorem flatSmp {H : Type} {enc : TypeId × Value → H} {w : World} {base : Nat} {spare : Nat → Bool} {held : Bool} : FlatInts enc Try.prog w base spare held 23 :=
  FlatInts.struct Try.underlying23 [1, 1, 1, 1] (by kernel_rfl) fun j k hj => by
    match j, hj with
    | 0, hj => cases hj; exact ⟨_, rfl, rfl, by kernel_rfl, FlatInts.int Try.underlying2⟩
    | 1, hj => cases hj; exact ⟨_, rfl, rfl, by kernel_rfl, FlatInts.int Try.underlying2⟩
    | 2, hj => cases hj; exact ⟨_, rfl, rfl, by kernel_rfl, FlatInts.int Try.underlying2⟩
    | 3, hj => cases hj; exact ⟨_, rfl, rfl, by kernel_rfl, FlatInts.int Try.underlying2⟩

/-- The samples that a slice reads as. -/
def smpsOf (w : World) (x : Addr) (n : Nat) : List Smp := (List.range n).map fun i => ⟨cellNum w x (i * 4 + 0), cellNum w x (i * 4 + 1), cellNum w x (i * 4 + 2), cellNum w x (i * 4 + 3)⟩

theorem wf_inI {x : Int} (h : (Lit.int .i64 x).wf = true) : inI x := by
  simp [Lit.wf, IntKind.min, IntKind.max, IntKind.wrap, IntKind.signed, IntKind.bits] at h
  unfold inI
  omega

theorem open_smps {H : Type} {enc : TypeId × Value → H} {w : World} {base : Nat} {spare : Nat → Bool} {held : Bool} {fuel : Nat} {a : Option Addr} {len cap : Nat} {x : DataW H × List MemPlace}
    (h : DataW.trod enc Try.prog w base spare held fuel 31 [.slice a len cap] = some x) : len ≤ cap ∧ len ≤ maxLen ∧ (a = none → len = 0 ∧ cap = 0) ∧ ∃ l : List Smp, len = l.length ∧ (∀ s ∈ l, inS s) ∧ SmpsIn w a l := by
  obtain ⟨hl, hm, hab, hnil, hcell⟩ := open_flat (k := 4) Try.underlying31 (by kernel_rfl) (by decide) flatSmp h
  refine ⟨hl, by omega, hnil, ?_⟩
  rcases hab with h0 | ⟨b, off, rfl⟩
  · exact ⟨[], h0, fun g h => by simp at h, fun i h => by simp at h⟩
  · refine ⟨smpsOf w ⟨b, off, none⟩ len, by simp [smpsOf], fun g hg => ?_, fun i h => ⟨b, off, rfl, ?_, ?_⟩⟩
    · unfold smpsOf at hg
      rw [List.mem_map] at hg
      obtain ⟨i, hi, rfl⟩ := hg
      have hi := List.mem_range.1 hi
      exact ⟨wf_inI (hcell b off rfl i hi 0 (by decide)).2.2, wf_inI (hcell b off rfl i hi 1 (by decide)).2.2, wf_inI (hcell b off rfl i hi 2 (by decide)).2.2, wf_inI (hcell b off rfl i hi 3 (by decide)).2.2⟩
    · simp [smpsOf] at h
      exact (hcell b off rfl i h 0 (by decide)).1
    · simp [smpsOf] at h
      have hc := fun j hj => (hcell b off rfl i h j hj).2.1
      simp only [smpsOf, List.getElem_map, List.getElem_range]
      exact ⟨hc 0 (by decide), hc 1 (by decide), hc 2 (by decide), hc 3 (by decide)⟩

set_option maxRecDepth 100000 in
/-- A sample that is handed over by value; it reads as it did in whatever world. -/
theorem open_smp {H : Type} {enc : TypeId × Value → H} {w : World} {base : Nat} {spare : Nat → Bool} {held : Bool} {r : Reach} {b0 : Nat} {v : Value} {d : DataW H} {p : List MemPlace}
    (hv : Value.okWide Try.prog w r b0 23 v) (h : DataW.Trod enc Try.prog w base spare held 23 v d p) :
    ∃ s : Smp, v = encS s ∧ inS s ∧ p = [] ∧ ∀ (W : World) (base' : Nat) (spare' : Nat → Bool) (held' : Bool), DataW.Trod enc Try.prog W base' spare' held' 23 v d [] := by
  obtain ⟨v0, v1, v2, v3, y0, y1, y2, y3, n, rfl, rfl, rfl, t0, t1, t2, t3⟩ := Go.Joins.open_agg4 Try.underlying23 (by kernel_rfl) (by kernel_rfl) hv h
  obtain ⟨n0, e0, rfl, w0⟩ := DataW.trod_int Try.underlying2 t0
  obtain ⟨n1, e1, rfl, w1⟩ := DataW.trod_int Try.underlying2 t1
  obtain ⟨n2, e2, rfl, w2⟩ := DataW.trod_int Try.underlying2 t2
  obtain ⟨n3, e3, rfl, w3⟩ := DataW.trod_int Try.underlying2 t3
  simp only [List.cons.injEq, and_true] at e0 e1 e2 e3
  subst e0 e1 e2 e3
  refine ⟨⟨n0, n1, n2, n3⟩, rfl, ⟨wf_inI w0, wf_inI w1, wf_inI w2, wf_inI w3⟩, rfl, fun W base' spare' held' => ?_⟩
  have key : ∀ (m : Int), (Lit.int .i64 m).wf = true → ∃ k, DataW.trod enc Try.prog W base' spare' held' k 2 [.int .i64 m] = some (.lit (.int .i64 m), []) := fun m hm => by
    obtain ⟨k, hk⟩ := shut_int (enc := enc) (w := W) (base := base') (spare := spare') (held := held') Try.underlying2 hm
    exact ⟨k, by simpa [Value.cells] using hk⟩
  exact Go.Joins.shut_agg4 Try.underlying23 (by kernel_rfl) (by kernel_rfl) (key n0 w0) (key n1 w1) (key n2 w2) (key n3 w3)

end Go.Proofs.Ytkgodolhcoeaeaa
