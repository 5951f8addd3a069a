/- ProbeOnce returns true for every input and leaves its arguments as they were: each nonce is told once, and answered once at most, by its agent's epoch, with the time at which it was sent; those of another boot never. No condition. -/
import Derived.Test.YthhgcoapohgiiaaRows
import Derived.Test.YthhgcoapohgiiaaPk
import Derived.Test.YthhgcoapohgiiaaKrow
namespace Go.Proofs.Ythhgcoapohgiiaa.probeOnce
open Go.ChangeShapes Go.WideShapes Go.ChangeAt Go.RowKit
open Go.Proofs.Ythhgcoapohgiiaa

theorem own : ownKnob Try.prog.godebug = none := by kernel_rfl
theorem laidOut : laidOutB Try.prog = true := by kernel_rfl

theorem flat31 {H : Type} {enc : TypeId × Value → H} {w : World} {base : Nat} {spare : Nat → Bool} {held : Bool} : FlatInts enc Try.prog w base spare held 31 :=
  FlatInts.struct Try.underlying31 [1, 1] (by kernel_rfl) fun j k hj => by
    match j, hj with
    | 0, hj => cases hj; exact ⟨_, rfl, rfl, by kernel_rfl, FlatInts.int Try.underlying2⟩
    | 1, hj => cases hj; exact ⟨_, rfl, rfl, by kernel_rfl, FlatInts.int Try.underlying2⟩

theorem flat33 {H : Type} {enc : TypeId × Value → H} {w : World} {base : Nat} {spare : Nat → Bool} {held : Bool} : FlatInts enc Try.prog w base spare held 33 :=
  FlatInts.struct Try.underlying33 [1, 1, 1, 1, 1, 2] (by kernel_rfl) fun j k hj => by
    match j, hj with
    | 0, hj => cases hj; exact ⟨_, rfl, rfl, by kernel_rfl, FlatInts.int Try.underlying3⟩
    | 1, hj => cases hj; exact ⟨_, rfl, rfl, by kernel_rfl, FlatInts.int Try.underlying2⟩
    | 2, hj => cases hj; exact ⟨_, rfl, rfl, by kernel_rfl, FlatInts.int Try.underlying2⟩
    | 3, hj => cases hj; exact ⟨_, rfl, rfl, by kernel_rfl, FlatInts.int Try.underlying2⟩
    | 4, hj => cases hj; exact ⟨_, rfl, rfl, by kernel_rfl, FlatInts.int Try.underlying2⟩
    | 5, hj => cases hj; exact ⟨_, rfl, rfl, by kernel_rfl, flat31⟩

/-- The calls that a slice reads as. -/
def callsOf (w : World) (x : Addr) (n : Nat) : List Cal :=
  (List.range n).map fun i => ⟨cellNum w x (i * 7 + 0), cellNum w x (i * 7 + 1), cellNum w x (i * 7 + 2), cellNum w x (i * 7 + 3), cellNum w x (i * 7 + 4), cellNum w x (i * 7 + 5), cellNum w x (i * 7 + 6)⟩

set_option maxRecDepth 100000 in
theorem lifted (os : Os) (started : os.Started) (H : Type) (enc : TypeId × Value → H) :
    ReturnsInHanded {} Try.checked os 3 .any (Rows.probeOnceSpec.pre6 enc Try.prog Try.f3 Rows.probeOnceRow.domain false) (Rows.probeOnceSpec.post enc Try.prog Try.f3 false true false false) := by
  refine returnsInHanded_of_change_sized (C := Try.checked) own started (by kernel_rfl) Try.func3
    (ChangeSpec.witness6 (enc := enc) (C := Try.checked) false ⟨#[], #[.int .i64 0, .int .i64 0, .int .i64 0, .slice none 0 0], []⟩ 8 (by kernel_rfl) (by kernel_rfl) (by kernel_rfl) (by kernel_rfl)) ?_
  intro W base args ds gs before hval0 hW hcnd hsz0 _
  have hval : ∀ (j : Nat) t v, Try.f3.params[j]? = some t → args[j]? = some v → Value.okWide Try.prog W .any base t v := hval0
  have hW' := hW
  obtain ⟨p, q, hA0, hV, rfl, hfz, hnd⟩ := hW
  have hA : DataW.TrodAll enc Try.prog W 0 (fun _ => true) true Try.f3.params.toList args.toList ds p := hA0
  rw [Try.params3] at hA hval
  obtain ⟨v0, vs0, d0, ds0, p0, q0, hargs, rfl, rfl, h0, r0⟩ := trodAll_cons hA
  obtain ⟨v1, vs1, d1, ds1, p1, q1, rfl, rfl, rfl, h1, r1⟩ := trodAll_cons r0
  obtain ⟨v2, vs2, d2, ds2, p2, q2, rfl, rfl, rfl, h2, r2⟩ := trodAll_cons r1
  obtain ⟨v3, vs3, d3, ds3, p3, q3, rfl, rfl, rfl, h3, r3⟩ := trodAll_cons r2
  obtain ⟨rfl, rfl, rfl⟩ := trodAll_nil r3
  obtain rfl : args = #[v0, v1, v2, v3] := by cases args; simp_all
  obtain ⟨rfl, rfl⟩ := trodVars_none hV
  obtain ⟨a0, rfl, rfl, rfl, w0⟩ := open_int Try.underlying2 (hval 0 2 v0 rfl rfl) h0
  obtain ⟨a1, rfl, rfl, rfl, w1⟩ := open_int Try.underlying2 (hval 1 2 v1 rfl rfl) h1
  obtain ⟨a2, rfl, rfl, rfl, w2⟩ := open_int Try.underlying3 (hval 2 3 v2 rfl rfl) h2
  obtain ⟨a3, len3, cap3, rfl⟩ := okWide_slice Try.underlying22 (hval 3 22 v3 rfl rfl)
  have k3 := h3
  have lt3 : ∀ x ∈ p3, x.block < W.heap.size := by obtain ⟨m, hm⟩ := k3; exact DataW.trod_lt m _ _ _ hm
  obtain ⟨fuel, hf⟩ := h3
  obtain ⟨hl, hm, hab, hnil, hcell⟩ := open_flat (k := 7) Try.underlying22 (by kernel_rfl) (by decide) flat33 (by simpa [Value.cells] using hf)
  have hcals : ∃ calls : List Cal, len3 = calls.length ∧ CalsIn W a3 calls := by
    rcases hab with h0 | ⟨b, off, rfl⟩
    · exact ⟨[], h0, fun i h => by simp at h⟩
    · refine ⟨callsOf W ⟨b, off, none⟩ len3, by simp [callsOf], fun i h => ⟨b, off, rfl, ?_, ?_⟩⟩
      · simp [callsOf] at h
        exact (hcell b off rfl i h 0 (by decide)).1
      · simp [callsOf] at h
        have hc := fun j hj => (hcell b off rfl i h j hj).2.1
        simp only [callsOf, List.getElem_map, List.getElem_range]
        exact ⟨hc 0 (by decide), hc 1 (by decide), hc 2 (by decide), hc 3 (by decide), hc 4 (by decide), hc 5 (by decide), hc 6 (by decide)⟩
  obtain ⟨calls, hlen, hcal⟩ := hcals
  clear hA0 hval0 hsz0
  refine (law_any a0 a1 a2 a3 len3 cap3 calls W hlen (by simp only [maxLen] at hm; omega) hcal).mono fun e W' ⟨he, bel⟩ => ?_
  subst he
  exact ⟨_, rfl, _, _, _, [], _, [], hW', trodAll_mk1 (shut_bool Try.underlying4 _), (trodAll_cons_mk (shut_int Try.underlying2 w0) (trodAll_cons_mk (shut_int Try.underlying2 w1) (trodAll_cons_mk (shut_int Try.underlying3 w2) (trodAll_cons_mk (Below.trod laidOut (by kernel_rfl) (of_decide_eq_true (by kernel_rfl)) k3 bel lt3) trodAll_mk0)))), rfl, bel.frame _, fun h => by cases h⟩

theorem over : Rows.probeOnceRow.holds Try.pinned (OpenSpec.ofChange Rows.probeOnceSpec) :=
  OpenClaim.holds_of_wide 3 Try.f3 rfl rfl rfl rfl rfl rfl rfl ⟨rfl, rfl, rfl, rfl, rfl⟩ rfl rfl rfl rfl rfl (by kernel_rfl) Try.func3 (by kernel_rfl)
    (of_decide_eq_true (by kernel_rfl)) (by unfold Func.isWrapper; first | (rw [if_pos (by decide +kernel)]; kernel_rfl) | (rw [if_neg (by decide +kernel)]; exact ⟨rfl, rfl⟩))
    (fun os started H enc _ => lifted os started H enc)

theorem proved : Rows.ProbeOnceSaid := over
#print axioms proved
end Go.Proofs.Ythhgcoapohgiiaa.probeOnce
namespace Go.Proofs.Ythhgcoapohgiiaa
/-- The row, under a short name, for the claim. -/
theorem probeOnce_holds : Rows.ProbeOnceSaid := probeOnce.proved
end Go.Proofs.Ythhgcoapohgiiaa
