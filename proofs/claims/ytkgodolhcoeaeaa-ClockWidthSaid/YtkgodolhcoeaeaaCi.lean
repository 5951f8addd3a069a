/- Clock: Add, Clone and Set as steps of a play. No condition. -/
import Derived.Test.YtkgodolhcoeaeaaCh
namespace Go.Proofs.Ytkgodolhcoeaeaa
open Go.RowKit

/-- A clock that was made behind w0 (all its memory lies at B or behind). -/
structure CInv (B : Nat) (w0 w : World) (b : Nat) (c : Clk) (v : Value) : Prop where
  st : CSt w b c v
  bel : Below B w0 w
  hb : B ≤ b
  hv : ∀ g, v.ownBlock = some g → B ≤ g

theorem CInv.step {B : Nat} {w0 w w' : World} {b : Nat} {c c' : Clk} {v v' : Value} (h : CInv B w0 w b c v) (hB0 : B ≤ w.heap.size) (hs : CSt w' b c' v') (hT : Turn (footC b v) w w') (ho : ∀ g, v'.ownBlock = some g → v.ownBlock = some g ∨ w.heap.size ≤ g) : CInv B w0 w' b c' v' :=
  ⟨hs, h.bel.trans (hT.toBelow hB0 (by
    intro x hx
    simp only [footC, List.mem_cons, Option.mem_toList] at hx
    rcases hx with rfl | hx
    · exact h.hb
    · exact h.hv x hx)), h.hb, fun g hg => by
    rcases ho g hg with h1 | h1
    · exact h.hv g h1
    · omega⟩

theorem CInv.ext {B : Nat} {w0 w w' : World} {b : Nat} {c : Clk} {v : Value} (h : CInv B w0 w b c v) (hB0 : B ≤ w.heap.size) (hB : Below w.heap.size w w') : CInv B w0 w' b c v :=
  ⟨h.st.ext hB, h.bel.trans (hB.mono hB0), h.hb, h.hv⟩

set_option maxHeartbeats 4000000 in
/-- Add, whatever the sample. -/
theorem add_any (b : Nat) (c : Clk) (v : Value) (s : Smp) (w : World) (h : CSt w b c v) (hl : c.list.length ≤ 8) (hs0 : 0 ≤ c.streak) (hs1 : c.streak ≤ 1152921504606846976) :
    Calls Try.prog 10 #[.pointer (some ⟨b, 0, none⟩), encS s] w fun e w' => e = .returned (.int .i64 (addC c s).2) ∧ ∃ v', CSt w' b (addC c s).1 v' ∧ Turn (footC b v) w w' ∧ (∀ g, v'.ownBlock = some g → v.ownBlock = some g ∨ w.heap.size ≤ g) := by
  cases hr : rightS s
  · have hq : addC c s = (c, 10) := by unfold addC; rw [hr]; rfl
    rw [hq]
    have kR := fun w => rightS_walk s w
    rw [hr] at kR
    have HH := Lib.hid h
    clear h hq hr
    obtain ⟨sa, sg, ss, sc⟩ := s
    unfold encS at *
    simp only at *
    go_enter Try.func10, Try.ntmps10
    go_wp2_with fail
    refine (kR _).mono ?_
    rintro e w2 ⟨rfl, hB2⟩
    have HB := Lib.hid (((Below.refl w.heap.size w).alloc (Nat.le_refl _) (.cells #[.int .i64 sa, .int .i64 sg, .int .i64 ss, .int .i64 sc] 23)).trans (hB2.mono (by simp)))
    clear hB2 kR
    go_wp2_with fail
    go_ret
    exact ⟨rfl, v, HH.out.ext HB.out, (Turn.below HB.out).mono (by simp), fun g hg => .inl hg⟩
  · refine (add_right b c v s w h hl hs0 hs1 hr).mono ?_
    rintro e w' ⟨he, v', hA⟩
    exact ⟨he, v', hA.st, hA.turn, hA.own⟩

theorem add_len (c : Clk) (s : Smp) (hl : c.list.length ≤ 8) : (addC c s).1.list.length ≤ 8 := by
  unfold addC
  split
  · exact hl
  · split
    · exact addL_le _ _
    · simp only
      split <;> simp

set_option maxHeartbeats 4000000 in
theorem clone_walk (b : Nat) (c : Clk) (v : Value) (w : World) (h : CSt w b c v) (hl : c.list.length ≤ 1000) :
    Calls Try.prog 21 #[.pointer (some ⟨b, 0, none⟩)] w fun e w' => ∃ b' v', e = .returned (.pointer (some ⟨b', 0, none⟩)) ∧ CSt w' b' c v' ∧ w.heap.size ≤ b' ∧ (∀ g, v'.ownBlock = some g → w.heap.size ≤ g) ∧ Below w.heap.size w w' := by
  have HH := Lib.hid h
  obtain ⟨c0, c1, c2, c3, c4, c5, c6⟩ := h.cells
  obtain ⟨A, cap, rfl, -, -, -, -⟩ := h.row_in
  have HB := Lib.hid ((Below.refl w.heap.size w).alloc (Nat.le_refl _) (.cells #[.int .i64 c.rho, .int .i64 c.need, .bool c.held, .int .i64 c.streak, .slice A c.list.length cap] 58))
  have hk := samples_walk b c _ (w.alloc (.cells #[.int .i64 c.rho, .int .i64 c.need, .bool c.held, .int .i64 c.streak, .slice A c.list.length cap] 58)) (h.ext HB.out) hl
  have HK := Lib.hid hk
  clear h hk
  go_enter Try.func21, Try.ntmps21
  go_wp2_with fail
  refine HK.out.mono ?_
  rintro e w2 ⟨v', rfl, hO, hB⟩
  obtain ⟨A2, cap2, rfl, -, -, -, -, -⟩ := smps_of_row hO
  have HO := Lib.hid hO
  have hx : w2.heap[w.heap.size]? = some (.cells #[.int .i64 c.rho, .int .i64 c.need, .bool c.held, .int .i64 c.streak, .slice A c.list.length cap] 58 (0, 0)) := (hB.block _ (by simp)).trans (heap_alloc_new w _)
  have HX := Lib.hid hx
  have d4 : w2.cell? ⟨w.heap.size, 4, none⟩ = some (.slice A c.list.length cap) := by simp [World.cell?, hx]
  have d5 : ∀ o, w2.frozen? ⟨w.heap.size, o, none⟩ = false := fun o => by simp [World.frozen?, hx]
  have HB2 := Lib.hid (HB.out.trans (hB.mono (by simp)))
  clear hO hB HK hx c0 c1 c2 c3 c4 c5 c6
  go_wp2_with fail
  go_ret
  have hne : ∀ g, (Value.slice A2 c.list.length cap2).ownBlock = some g → w.heap.size < g := fun g hg => by have := (HO.out.lt g hg).1; simp at this; omega
  refine ⟨w.heap.size, .slice A2 c.list.length cap2, rfl, ⟨by rw [setCell_heap HX.out]; rfl, ownsRow_same (ownsRow_zero HO.out) fun g hg => Below.heap_setCell _ _ _ _ (by have := hne g hg; simp; omega)⟩, Nat.le_refl _, fun g hg => Nat.le_of_lt (hne g hg), HB2.out.setCell (by simp) _⟩

end Go.Proofs.Ytkgodolhcoeaeaa
