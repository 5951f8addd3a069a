/- Clock: what 'alive' plays with; its numbers, and what lies in memory amid it. No condition. -/
import Derived.Test.YtkgodolhcoeaeaaCk
import Derived.Test.YtkgodolhcoeaeaaGm
namespace Go.Proofs.Ytkgodolhcoeaeaa
open Go.RowKit

def sA : Smp := ⟨100, 7, 9, 110⟩
def sB : Smp := ⟨300, 9, 9, 301⟩
def sC : Smp := ⟨310, 19, 19, 311⟩
def k0 : Clk := ⟨0, 1, false, 0, []⟩
def k1 : Clk := ⟨0, 1, false, 1, [sA]⟩
def k2 : Clk := ⟨0, 1, true, 0, [sB]⟩
def k3 : Clk := ⟨0, 1, false, 1, [sB, sC]⟩

theorem atA : atS sA 9 0 = ((101, 111), 0) := by decide +kernel
theorem atC0 : atC [] 9 0 = ((0, 0), 19) := by decide +kernel
theorem atC1 : atC [sA] 9 0 = ((101, 111), 0) := by decide +kernel
theorem agr1 : agreesC [sA] 9 0 = true := by
  have h1 : gapsOk [sA] 9 0 = true := by decide +kernel
  have h2 : gapsL [sA] 9 0 = [(101, 111)] := by decide +kernel
  unfold agreesC
  rw [h1, h2, agree_eq _ (by decide)]; decide +kernel
theorem agr2 : agreesC [sA, sB] 9 0 = false := by
  have h2 : gapsL [sA, sB] 9 0 = [(101, 111), (299, 302)] := by decide +kernel
  unfold agreesC
  rw [h2, agree_eq _ (by decide)]; decide +kernel
theorem agr3 : agreesC [sB, sC] 19 0 = true := by
  have h1 : gapsOk [sB, sC] 19 0 = true := by decide +kernel
  have h2 : gapsL [sB, sC] 19 0 = [(309, 312), (309, 312)] := by decide +kernel
  unfold agreesC
  rw [h1, h2, agree_eq _ (by decide)]; decide +kernel

theorem add1 : addC k0 sA = (k1, 0) := by
  unfold addC
  rw [show rightS sA = true by decide +kernel, show addL k0.list sA = [sA] from rfl, show sA.sent = 9 from rfl, show k0.rho = 0 from rfl, agr1]
  rfl
theorem add2 : addC k1 sB = (k2, 21) := by
  unfold addC
  rw [show rightS sB = true by decide +kernel, show addL k1.list sB = [sA, sB] from rfl, show sB.sent = 9 from rfl, show k1.rho = 0 from rfl, agr2, show (atS sB 9 0).2 = 0 by decide +kernel]
  rfl
theorem add3 : addC k2 sC = (k3, 0) := by
  unfold addC
  rw [show rightS sC = true by decide +kernel, show addL k2.list sC = [sB, sC] from rfl, show sC.sent = 19 from rfl, show k2.rho = 0 from rfl, agr3]
  rfl

theorem notin_step {W : World} {b i : Nat} {v v' : Value} (h : i ∉ footC b v) (hi : i < W.heap.size) (ho : ∀ g, v'.ownBlock = some g → v.ownBlock = some g ∨ W.heap.size ≤ g) : i ∉ footC b v' := by
  intro hm
  simp only [footC, List.mem_cons, Option.mem_toList] at h hm
  rcases hm with rfl | hm
  · exact h (.inl rfl)
  · rcases ho i hm with h1 | h1
    · exact h (.inr h1)
    · omega

/-- The clock, and blocks that it doesn't own. -/
structure AlSt (w W : World) (b : Nat) (c : Clk) (v : Value) (K : List (Nat × Obj)) : Prop where
  st : CSt W b c v
  bel : Below w.heap.size w W
  hb : w.heap.size ≤ b
  hv : ∀ g, v.ownBlock = some g → w.heap.size ≤ g
  kept : ∀ x ∈ K, W.heap[x.1]? = some x.2 ∧ x.1 ∉ footC b v

theorem AlSt.ext {w W W' : World} {b : Nat} {c : Clk} {v : Value} {K : List (Nat × Obj)} (h : AlSt w W b c v K) (hB : Below W.heap.size W W') : AlSt w W' b c v K :=
  ⟨h.st.ext hB, h.bel.trans (hB.mono h.bel.size), h.hb, h.hv, fun x hx => ⟨(hB.block _ (lt_of_heap (h.kept x hx).1)).trans (h.kept x hx).1, (h.kept x hx).2⟩⟩

theorem AlSt.step {w W W' : World} {b : Nat} {c c' : Clk} {v v' : Value} {K : List (Nat × Obj)} (h : AlSt w W b c v K) (hs : CSt W' b c' v') (hT : Turn (footC b v) W W') (ho : ∀ g, v'.ownBlock = some g → v.ownBlock = some g ∨ W.heap.size ≤ g) : AlSt w W' b c' v' K := by
  have hi : CInv w.heap.size w W b c v := ⟨h.st, h.bel, h.hb, h.hv⟩
  have h2 := hi.step h.bel.size hs hT ho
  exact ⟨hs, h2.bel, h.hb, h2.hv, fun x hx => ⟨(hT.block _ (lt_of_heap (h.kept x hx).1) (h.kept x hx).2).trans (h.kept x hx).1, notin_step (h.kept x hx).2 (lt_of_heap (h.kept x hx).1) ho⟩⟩

/-- A block more that the clock doesn't own. -/
theorem AlSt.keep {w W : World} {b : Nat} {c : Clk} {v : Value} {K : List (Nat × Obj)} (h : AlSt w W b c v K) {k : Nat} {o : Obj} (hk : W.heap[k]? = some o) (hn : k ∉ footC b v) : AlSt w W b c v ((k, o) :: K) :=
  ⟨h.st, h.bel, h.hb, h.hv, fun x hx => by
    rcases List.mem_cons.1 hx with rfl | hx
    · exact ⟨hk, hn⟩
    · exact h.kept x hx⟩

/-- A block that is laid. -/
theorem AlSt.alloc {w W : World} {b : Nat} {c : Clk} {v : Value} {K : List (Nat × Obj)} (h : AlSt w W b c v K) (cs : Array Value) (t : TypeId) : AlSt w (W.alloc (.cells cs t)) b c v ((W.heap.size, .cells cs t (0, 0)) :: K) :=
  (h.ext ((Below.refl _ W).alloc (Nat.le_refl _) _)).keep (heap_alloc_new W _) (fun hm => by have := h.st.foot_lt _ hm; omega)

theorem held_at (b : Nat) (r n s : Value) (held : Bool) (v : Value) (t : TypeId) (w : World) (h : w.heap[b]? = some (.cells #[r, n, .bool held, s, v] t (0, 0))) : Calls Try.prog 13 #[.pointer (some ⟨b, 0, none⟩)] w fun e w' => e = .returned (.bool held) ∧ w' = w := by
  have c2 : w.cell? ⟨b, 2, none⟩ = some (.bool held) := by simp [World.cell?, h]
  go_enter Try.func13, Try.ntmps13
  clear h
  go_wp2_with fail
  go_ret
  exact ⟨rfl, rfl⟩

theorem streak_at (b : Nat) (r n : Value) (held : Bool) (s : Int) (v : Value) (t : TypeId) (w : World) (h : w.heap[b]? = some (.cells #[r, n, .bool held, .int .i64 s, v] t (0, 0))) : Calls Try.prog 12 #[.pointer (some ⟨b, 0, none⟩)] w fun e w' => e = .returned (.int .i64 s) ∧ w' = w := by
  have c3 : w.cell? ⟨b, 3, none⟩ = some (.int .i64 s) := by simp [World.cell?, h]
  go_enter Try.func12, Try.ntmps12
  clear h
  go_wp2_with fail
  go_ret
  exact ⟨rfl, rfl⟩

end Go.Proofs.Ytkgodolhcoeaeaa
