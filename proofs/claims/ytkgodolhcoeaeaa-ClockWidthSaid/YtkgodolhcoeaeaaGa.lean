/- Clock: gaps in memory; Right, Has, Votes and the document's Votes and right, walked. No condition. -/
import Derived.Test.YtkgodolhcoeaeaaKtri
import Derived.Test.YtkgodolhcoeaeaaKrow
import Derived.Test.YtkgodolhcoeaeaaKext
import Derived.Test.YtkgodolhcoeaeaaProg
namespace Go.Proofs.Ytkgodolhcoeaeaa
open Go.RowKit

/-- A gap in memory. -/
def encG (g : Int × Int) : Value := .agg #[.int .i64 g.1, .int .i64 g.2]

structure GapIn (w : World) (b o : Nat) (g : Int × Int) : Prop where
  c0 : w.cell? ⟨b, o, none⟩ = some (.int .i64 g.1)
  c1 : w.cell? ⟨b, o + 1, none⟩ = some (.int .i64 g.2)

/-- A row of gaps in memory. -/
def GapsIn (w : World) (A : Option Addr) (gs : List (Int × Int)) : Prop := ∀ i (h : i < gs.length), ∃ b off, A = some ⟨b, off, none⟩ ∧ b < w.heap.size ∧ GapIn w b (off + i * 2) gs[i]

theorem GapIn.turn {w w' : World} {b o : Nat} {g : Int × Int} (h : GapIn w b o g) (hb : b < w.heap.size) (hT : Below w.heap.size w w') : GapIn w' b o g :=
  ⟨(hT.cell (p := ⟨b, o, none⟩) hb).trans h.c0, (hT.cell (p := ⟨b, o + 1, none⟩) hb).trans h.c1⟩

theorem GapsIn.turn {w w' : World} {A : Option Addr} {gs : List (Int × Int)} (h : GapsIn w A gs) (hT : Below w.heap.size w w') : GapsIn w' A gs := fun i hi => by
  obtain ⟨b, off, hA, hb, hg⟩ := h i hi
  exact ⟨b, off, hA, Nat.lt_of_lt_of_le hb hT.size, hg.turn hb hT⟩

def okG (g : Int × Int) : Bool := decide (g.1 ≤ g.2)
def hasG (x : Int) (g : Int × Int) : Bool := decide (g.1 ≤ x) && decide (x ≤ g.2)
def votesL (x : Int) (gs : List (Int × Int)) : Nat := gs.countP (hasG x)
def rightL (gs : List (Int × Int)) : Nat := gs.countP okG

theorem countP_step {α : Type} (p : α → Bool) (l : List α) (i : Nat) (h : i < l.length) : (l.take (i + 1)).countP p = (l.take i).countP p + (if p l[i] then 1 else 0) := by
  rw [List.take_succ_eq_append_getElem h, List.countP_append]
  simp [List.countP_cons]

theorem countP_lt {α : Type} (p : α → Bool) (l : List α) (i : Nat) : (l.take i).countP p ≤ i := Nat.le_trans List.countP_le_length (List.length_take_le _ _)

set_option maxHeartbeats 1000000 in
theorem right17 (g : Int × Int) (w : World) : Calls Try.prog 34 #[encG g] w fun e w' => e = .returned (.bool (okG g)) ∧ Below w.heap.size w w' := by
  obtain ⟨a, b⟩ := g
  unfold encG okG
  go_enter Try.func34, Try.ntmps34
  go_wp2_with fail
  go_ret
  exact ⟨rfl, (Below.refl _ w).alloc (Nat.le_refl _) _⟩

def cellsG (g : Int × Int) : List Value := [.int .i64 g.1, .int .i64 g.2]

theorem cellsG_len (gs : List (Int × Int)) : (gs.flatMap cellsG).length = gs.length * 2 := by
  induction gs with
  | nil => rfl
  | cons g r ih => rw [List.flatMap_cons, List.length_append, ih]; simp [cellsG]; omega

theorem infoGap : (Try.prog.info? 26).map (fun i => (i.zero, i.size, i.bytes)) = some (some (.agg #[.int .i64 0, .int .i64 0]), 2, 16) := by kernel_rfl

/-- A row that is owned, read as gaps. -/
theorem gaps_of_row {w : World} {base e n : Nat} {v : Value} {gs : List (Int × Int)} (h : w.ownsRow base e 2 v n (gs.flatMap cellsG)) : ∃ A cap, v = .slice A n cap ∧ n = gs.length ∧ n ≤ maxLen ∧ GapsIn w A gs := by
  have hl := h.1
  rw [cellsG_len] at hl
  have hn : n = gs.length := by omega
  subst hn
  rcases h.2 with ⟨rfl, h0⟩ | ⟨g, cap, cur, rfl, hb, hg, hc, hm, hs, ht⟩
  · exact ⟨none, 0, by rw [h0], rfl, by rw [h0]; simp [maxLen], fun i hi => by omega⟩
  · refine ⟨_, cap, rfl, rfl, by omega, fun i hi => ⟨g, 0, rfl, lt_of_heap hg, ?_⟩⟩
    have h3 : ∀ j, j < 2 → w.cell? ⟨g, i * 2 + j, none⟩ = (cellsG gs[i])[j]? := by
      intro j hj
      have h1 : gs = gs.take i ++ gs[i] :: gs.drop (i + 1) := by rw [← List.drop_eq_getElem_cons hi, List.take_append_drop]
      have h2 : ((gs.take i).flatMap cellsG).length = i * 2 := by rw [cellsG_len, List.length_take, Nat.min_eq_left (by omega)]
      have h4 : (gs.flatMap cellsG)[i * 2 + j]? = (cellsG gs[i])[j]? := by
        conv => lhs; rw [h1]
        rw [List.flatMap_append, List.flatMap_cons, List.getElem?_append_right (by rw [h2]; omega), h2, show i * 2 + j - i * 2 = j by omega, List.getElem?_append_left (by show j < 2; omega)]
      rw [← h4, ← ht, List.getElem?_take, if_pos (by omega)]
      simp [World.cell?, hg]
    rw [Nat.zero_add]
    exact ⟨h3 0 (by omega), h3 1 (by omega)⟩

def rb1 (gs : List (Int × Int)) (s : Nat × (Int × Int)) (g : Int × Int) : Nat × (Int × Int) :=
  if s.1 < votesL g.1 gs ∨ (votesL g.1 gs = s.1 ∧ 0 < votesL g.1 gs ∧ g.1 < s.2.1) then (votesL g.1 gs, (g.1, g.1)) else s
def rbest1 (gs : List (Int × Int)) : Nat × (Int × Int) := gs.foldl (rb1 gs) (0, (0, 0))
def rb2 (lo hi : Int) (g : Int × Int) : Int := if okG g = true ∧ g.1 ≤ lo ∧ lo ≤ g.2 then min hi g.2 else hi
def refBest (gs : List (Int × Int)) : (Int × Int) × Nat :=
  if (rbest1 gs).1 = 0 then ((0, 0), 0) else (((rbest1 gs).2.1, gs.foldl (rb2 (rbest1 gs).2.1) 9223372036854775807), (rbest1 gs).1)

theorem foldl_step {α β : Type} (f : β → α → β) (s : β) (l : List α) (i : Nat) (h : i < l.length) : (l.take (i + 1)).foldl f s = f ((l.take i).foldl f s) l[i] := by
  rw [List.take_succ_eq_append_getElem h, List.foldl_append]; rfl

/-- A box of two numbers. -/
def Box2 (w : World) (b : Nat) (t : TypeId) (x y : Int) : Prop := w.heap[b]? = some (.cells #[.int .i64 x, .int .i64 y] t (0, 0))

theorem Box2.cells {w : World} {b : Nat} {t : TypeId} {x y : Int} (h : Box2 w b t x y) : w.cell? ⟨b, 0, none⟩ = some (.int .i64 x) ∧ w.cell? ⟨b, 1, none⟩ = some (.int .i64 y) ∧ (∀ o, w.frozen? ⟨b, o, none⟩ = false) ∧ b < w.heap.size := by
  unfold Box2 at h
  refine ⟨by simp [World.cell?, h], by simp [World.cell?, h], fun o => by simp [World.frozen?, h], lt_of_heap h⟩

theorem put2 {w w3 : World} {b0 b1 B : Nat} {t : TypeId} {x y u z : Int} (h0 : Box2 w3 b0 t u z) (h1 : Box2 w3 b1 t x y) (hB : Below B w w3) (p q : Int) (h01 : b0 ≠ b1) (hb : B ≤ b1) :
    Box2 ((w3.setCell ⟨b1, 0, none⟩ (.int .i64 p)).setCell ⟨b1, 1, none⟩ (.int .i64 q)) b0 t u z ∧ Box2 ((w3.setCell ⟨b1, 0, none⟩ (.int .i64 p)).setCell ⟨b1, 1, none⟩ (.int .i64 q)) b1 t p q ∧
      Below B w ((w3.setCell ⟨b1, 0, none⟩ (.int .i64 p)).setCell ⟨b1, 1, none⟩ (.int .i64 q)) := by
  refine ⟨?_, ?_, ?_⟩
  · exact ((Below.heap_setCell _ _ _ _ (by simpa using h01)).trans (Below.heap_setCell _ _ _ _ (by simpa using h01))).trans h0
  · exact setCell_heap (setCell_heap h1 _) _
  · exact (hB.setCell (by simpa using hb) _).setCell (by simpa using hb) _

theorem votesL_le (x : Int) (gs : List (Int × Int)) : votesL x gs ≤ gs.length := List.countP_le_length
theorem rightL_le (gs : List (Int × Int)) : rightL gs ≤ gs.length := List.countP_le_length

/-- Two boxes of two numbers, and what lay there lies. -/
structure St2 (w W : World) (b0 b1 : Nat) (t : TypeId) (u v x y : Int) : Prop where
  h0 : Box2 W b0 t u v
  h1 : Box2 W b1 t x y
  hB : Below w.heap.size w W
  ne : b0 ≠ b1
  g0 : w.heap.size ≤ b0
  g1 : w.heap.size ≤ b1

theorem St2.ext {w W W' : World} {b0 b1 : Nat} {t : TypeId} {u v x y : Int} (h : St2 w W b0 b1 t u v x y) (hB : Below W.heap.size W W') : St2 w W' b0 b1 t u v x y :=
  ⟨(hB.block _ (lt_of_heap h.h0)).trans h.h0, (hB.block _ (lt_of_heap h.h1)).trans h.h1, h.hB.trans (hB.mono h.hB.size), h.ne, h.g0, h.g1⟩
theorem St2.drew {w W : World} {b0 b1 : Nat} {t : TypeId} {u v x y : Int} (h : St2 w W b0 b1 t u v x y) : St2 w W.drew b0 b1 t u v x y := ⟨h.h0, h.h1, h.hB.drew, h.ne, h.g0, h.g1⟩
theorem St2.lo {w W : World} {b0 b1 : Nat} {t : TypeId} {u v x y : Int} (h : St2 w W b0 b1 t u v x y) (p : Int) : St2 w (W.setCell ⟨b1, 0, none⟩ (.int .i64 p)) b0 b1 t u v p y :=
  ⟨(Below.heap_setCell _ _ _ _ (by simpa using h.ne)).trans h.h0, setCell_heap h.h1 _, h.hB.setCell (by simpa using h.g1) _, h.ne, h.g0, h.g1⟩
theorem St2.hi {w W : World} {b0 b1 : Nat} {t : TypeId} {u v x y : Int} (h : St2 w W b0 b1 t u v x y) (p : Int) : St2 w (W.setCell ⟨b1, 1, none⟩ (.int .i64 p)) b0 b1 t u v x p :=
  ⟨(Below.heap_setCell _ _ _ _ (by simpa using h.ne)).trans h.h0, setCell_heap h.h1 _, h.hB.setCell (by simpa using h.g1) _, h.ne, h.g0, h.g1⟩
theorem St2.lo0 {w W : World} {b0 b1 : Nat} {t : TypeId} {u v x y : Int} (h : St2 w W b0 b1 t u v x y) (p : Int) : St2 w (W.setCell ⟨b0, 0, none⟩ (.int .i64 p)) b0 b1 t p v x y :=
  ⟨setCell_heap h.h0 _, (Below.heap_setCell _ _ _ _ (by simpa using h.ne.symm)).trans h.h1, h.hB.setCell (by simpa using h.g0) _, h.ne, h.g0, h.g1⟩
theorem St2.hi0 {w W : World} {b0 b1 : Nat} {t : TypeId} {u v x y : Int} (h : St2 w W b0 b1 t u v x y) (p : Int) : St2 w (W.setCell ⟨b0, 1, none⟩ (.int .i64 p)) b0 b1 t u p x y :=
  ⟨setCell_heap h.h0 _, (Below.heap_setCell _ _ _ _ (by simpa using h.ne.symm)).trans h.h1, h.hB.setCell (by simpa using h.g0) _, h.ne, h.g0, h.g1⟩

def refAgree (gs : List (Int × Int)) : Bool := decide (0 < gs.length) && ((refBest gs).2 == gs.length)

theorem rb1_le (gs : List (Int × Int)) : ∀ (l : List (Int × Int)) (s : Nat × (Int × Int)), s.1 ≤ gs.length → (l.foldl (rb1 gs) s).1 ≤ gs.length
  | [], s, h => h
  | g :: l, s, h => by
    rw [List.foldl_cons]
    refine rb1_le gs l _ ?_
    unfold rb1
    split
    · exact votesL_le _ gs
    · exact h
theorem refBest_le (gs : List (Int × Int)) : (refBest gs).2 ≤ gs.length := by
  unfold refBest
  split
  · exact Nat.zero_le _
  · exact rb1_le gs gs _ (Nat.zero_le _)


end Go.Proofs.Ytkgodolhcoeaeaa
