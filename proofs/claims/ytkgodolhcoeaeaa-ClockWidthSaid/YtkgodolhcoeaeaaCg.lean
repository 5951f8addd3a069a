/- Clock: what Add leaves, step by step. No condition. -/
import Derived.Test.YtkgodolhcoeaeaaCf
namespace Go.Proofs.Ytkgodolhcoeaeaa
open Go.RowKit

/-- What lies in memory amid an Add: the clock, the box of the sample; nothing but the clock's own has turned. -/
structure AddSt (w w' : World) (b : Nat) (v : Value) (s : Smp) (c : Clk) (v' : Value) : Prop where
  st : CSt w' b c v'
  turn : Turn (footC b v) w w'
  own : ∀ g, v'.ownBlock = some g → v.ownBlock = some g ∨ w.heap.size ≤ g
  box : Bx4 w' w.heap.size 23 s
  far : ∀ g, v'.ownBlock = some g → g ≠ w.heap.size
  lt : b < w.heap.size

theorem AddSt.cells {w w' : World} {b : Nat} {v v' : Value} {s : Smp} {c : Clk} (h : AddSt w w' b v s c v') : w'.cell? ⟨w.heap.size, 0, none⟩ = some (.int .i64 s.asked) ∧ w'.cell? ⟨w.heap.size, 1, none⟩ = some (.int .i64 s.got) ∧ w'.cell? ⟨w.heap.size, 2, none⟩ = some (.int .i64 s.sent) ∧ w'.cell? ⟨w.heap.size, 3, none⟩ = some (.int .i64 s.came) ∧ w.heap.size < w'.heap.size := h.box.cells

theorem AddSt.ext {w w' w'' : World} {b : Nat} {v v' : Value} {s : Smp} {c : Clk} (h : AddSt w w' b v s c v') (hB : Below w'.heap.size w' w'') : AddSt w w'' b v s c v' :=
  ⟨h.st.ext hB, h.turn.trans (Turn.below hB) (by simp), h.own, h.box.ext hB, h.far, h.lt⟩

/-- The clock's block is written; its row is as it was. -/
theorem AddSt.put {w w' w'' : World} {b : Nat} {v v' : Value} {s : Smp} {c : Clk} (h : AddSt w w' b v s c v') (hT : Turn [b] w' w'') (held : Bool) (streak : Int)
    (hb : w''.heap[b]? = some (.cells #[.int .i64 c.rho, .int .i64 c.need, .bool held, .int .i64 streak, v'] 58 (0, 0))) : AddSt w w'' b v s ⟨c.rho, c.need, held, streak, c.list⟩ v' :=
  ⟨⟨hb, ownsRow_same h.st.row fun g hg => hT.block g (ownsRow_lt h.st.row g hg) (by simp; rintro rfl; exact h.st.ne hg)⟩, h.turn.trans hT (by simp [footC]), h.own,
    (hT.block _ h.cells.2.2.2.2 (by have := h.lt; simp; omega)).trans h.box, h.far, h.lt⟩

/-- The clock's block is written, its row another one. -/
theorem AddSt.put2 {w w' w'' : World} {b : Nat} {v v' v2 : Value} {s : Smp} {c : Clk} (h : AddSt w w' b v s c v') (hT : Turn [b] w' w'') (held : Bool) (streak : Int) (l : List Smp)
    (hb : w''.heap[b]? = some (.cells #[.int .i64 c.rho, .int .i64 c.need, .bool held, .int .i64 streak, v2] 58 (0, 0)))
    (hr : w''.ownsRow 0 23 4 v2 l.length (l.flatMap cellsS)) (ho : ∀ g, v2.ownBlock = some g → w.heap.size < g) : AddSt w w'' b v s ⟨c.rho, c.need, held, streak, l⟩ v2 :=
  ⟨⟨hb, hr⟩, h.turn.trans hT (by simp [footC]), fun g hg => .inr (Nat.le_of_lt (ho g hg)), (hT.block _ h.cells.2.2.2.2 (by have := h.lt; simp; omega)).trans h.box,
    fun g hg => by have := ho g hg; omega, h.lt⟩

/-- Behind the append. -/
theorem AddSt.first {w w2 w3 : World} {b : Nat} {v : Value} {s : Smp} {c : Clk} {gg cap : Nat} {o : Obj} (h : CSt w b c v) (hE : Below w.heap.size w w2) (hX : Bx4 w2 w.heap.size 23 s)
    (hg : (w2.alloc o).drew.grownBy w3 v.ownBlock) (hat : v.ownBlock = some gg ∨ gg = w2.heap.size + 1)
    (hown : w3.ownsRow 0 23 4 (.slice (some ⟨gg, 0, none⟩) (c.list.length + 1) cap) (c.list.length + 1) (c.list.flatMap cellsS ++ cellsS s)) :
    w3.heap[b]? = some (.cells #[.int .i64 c.rho, .int .i64 c.need, .bool c.held, .int .i64 c.streak, v] 58 (0, 0)) ∧
      AddSt w (w3.setCell ⟨b, 4, none⟩ (.slice (some ⟨gg, 0, none⟩) (c.list.length + 1) cap)) b v s ⟨c.rho, c.need, c.held, c.streak, c.list ++ [s]⟩ (.slice (some ⟨gg, 0, none⟩) (c.list.length + 1) cap) := by
  have hlt := ownsRow_lt h.row
  have hne := h.ne
  have hb := h.lt
  have hsz := hE.size
  have hxl := hX.cells.2.2.2.2
  have hT : Turn v.ownBlock.toList (w2.alloc o) w3 := ⟨hg.os, hg.tape, hg.output, hg.size, fun k hk hF => hg.block k hk fun e => hF (by rw [← e]; simp)⟩
  have hT2 : Turn v.ownBlock.toList w w3 := ⟨hT.os.trans hE.os, hT.tape.trans hE.tape, hT.output.trans hE.output, Nat.le_trans (by simp; omega) hT.size, fun k hk hF => (hT.block k (by simp; omega) hF).trans ((Below.heap_alloc _ _ _ (by omega)).trans (hE.block k hk))⟩
  have hbF : b ∉ v.ownBlock.toList := fun hm => hne (by simpa using hm)
  have hbb : w3.heap[b]? = some (.cells #[.int .i64 c.rho, .int .i64 c.need, .bool c.held, .int .i64 c.streak, v] 58 (0, 0)) := (hT2.block b hb hbF).trans h.at_
  have hgb : gg ≠ b := by
    rintro rfl
    rcases hat with h1 | h1
    · exact hne h1
    · omega
  refine ⟨hbb, ⟨?_, ?_⟩, ?_, ?_, ?_, ?_, hb⟩
  · rw [setCell_heap hbb]; rfl
  · have : w3.ownsRow 0 23 4 (.slice (some ⟨gg, 0, none⟩) (c.list.length + 1) cap) (c.list ++ [s]).length ((c.list ++ [s]).flatMap cellsS) := by
      rw [List.flatMap_append, List.flatMap_cons, List.flatMap_nil, List.append_nil, List.length_append]; exact hown
    exact ownsRow_same this fun g hg => Below.heap_setCell _ _ _ _ (by simp [Value.ownBlock] at hg; subst hg; exact hgb)
  · exact (hT2.mono (fun x hx => by simp [footC]; right; simpa using hx)).setCell (.inl (by simp [footC])) _
  · intro g hg
    simp [Value.ownBlock] at hg
    subst hg
    rcases hat with h1 | h1
    · exact .inl h1
    · right; omega
  · have h1 : w3.heap[w.heap.size]? = some (.cells #[.int .i64 s.asked, .int .i64 s.got, .int .i64 s.sent, .int .i64 s.came] 23 (0, 0)) :=
      (hT.block _ (by simp; omega) (fun hm => by have := hlt _ (by simpa using hm); omega)).trans ((Below.heap_alloc _ _ _ hxl).trans hX)
    exact (Below.heap_setCell _ _ _ _ (by simp; omega)).trans h1
  · intro g hg
    simp [Value.ownBlock] at hg
    subst hg
    rcases hat with h1 | h1
    · have := hlt _ h1; omega
    · omega

end Go.Proofs.Ytkgodolhcoeaeaa
