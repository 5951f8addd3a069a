/- Words: boxes of two numbers, and rows of pairs of numbers, in memory. No condition. -/
import Derived.Test.YtigepekcjigpaaaKtri
import Derived.Test.YtigepekcjigpaaaKext
namespace Go.Proofs.Ytigepekcjigpaaa
open Go.RowKit

/-- A block of two numbers. -/
def Bx (w : World) (b : Nat) (t : TypeId) (x y : Int) : Prop := w.heap[b]? = some (.cells #[.int .i64 x, .int .i64 y] t (0, 0))

theorem Bx.cells {w : World} {b : Nat} {t : TypeId} {x y : Int} (h : Bx w b t x y) : w.cell? ⟨b, 0, none⟩ = some (.int .i64 x) ∧ w.cell? ⟨b, 1, none⟩ = some (.int .i64 y) ∧ (∀ o, w.frozen? ⟨b, o, none⟩ = false) ∧ b < w.heap.size := by
  unfold Bx at h
  refine ⟨by simp [World.cell?, h], by simp [World.cell?, h], fun o => by simp [World.frozen?, h], lt_of_heap h⟩
theorem Bx.new (w : World) (t : TypeId) (x y : Int) : Bx (w.alloc (.cells #[.int .i64 x, .int .i64 y] t)) w.heap.size t x y := heap_alloc_new w _
theorem Bx.alloc {w : World} {b : Nat} {t : TypeId} {x y : Int} (h : Bx w b t x y) (B : Obj) : Bx (w.alloc B) b t x y := (Below.heap_alloc _ _ _ (lt_of_heap h)).trans h
theorem Bx.ext {w w' : World} {b : Nat} {t : TypeId} {x y : Int} (h : Bx w b t x y) (hB : Below w.heap.size w w') : Bx w' b t x y := (hB.block _ (lt_of_heap h)).trans h

structure PtIn (w : World) (b o : Nat) (g : Int × Int) : Prop where
  c0 : w.cell? ⟨b, o, none⟩ = some (.int .i64 g.1)
  c1 : w.cell? ⟨b, o + 1, none⟩ = some (.int .i64 g.2)

/-- A row of pairs in memory. -/
def PtsIn (w : World) (A : Option Addr) (gs : List (Int × Int)) : Prop := ∀ i (h : i < gs.length), ∃ b off, A = some ⟨b, off, none⟩ ∧ b < w.heap.size ∧ PtIn w b (off + i * 2) gs[i]

theorem PtIn.turn {w w' : World} {b o : Nat} {g : Int × Int} (h : PtIn w b o g) (hb : b < w.heap.size) (hT : Below w.heap.size w w') : PtIn w' b o g :=
  ⟨(hT.cell (p := ⟨b, o, none⟩) hb).trans h.c0, (hT.cell (p := ⟨b, o + 1, none⟩) hb).trans h.c1⟩

theorem PtsIn.turn {w w' : World} {A : Option Addr} {gs : List (Int × Int)} (h : PtsIn w A gs) (hT : Below w.heap.size w w') : PtsIn w' A gs := fun i hi => by
  obtain ⟨b, off, hA, hb, hg⟩ := h i hi
  exact ⟨b, off, hA, Nat.lt_of_lt_of_le hb hT.size, hg.turn hb hT⟩

theorem PtsIn.taken {w : World} {A : Option Addr} {gs : List (Int × Int)} (hG : PtsIn w A gs) (k : Nat) : PtsIn w A (gs.take k) := by
  intro i hi
  rw [List.length_take] at hi
  obtain ⟨b', off', hA, hb, hg⟩ := hG i (by omega)
  refine ⟨b', off', hA, hb, ?_⟩
  rw [List.getElem_take]
  exact hg

def cellsP (g : Int × Int) : List Value := [.int .i64 g.1, .int .i64 g.2]

theorem cellsP_len (gs : List (Int × Int)) : (gs.flatMap cellsP).length = gs.length * 2 := by
  induction gs with
  | nil => rfl
  | cons g r ih => rw [List.flatMap_cons, List.length_append, ih]; simp [cellsP]; omega

theorem cellsP_get (gs : List (Int × Int)) (i : Nat) (hi : i < gs.length) (j : Nat) (hj : j < 2) : (gs.flatMap cellsP)[i * 2 + j]? = (cellsP gs[i])[j]? := by
  have h1 : gs = gs.take i ++ gs[i] :: gs.drop (i + 1) := by rw [← List.drop_eq_getElem_cons hi, List.take_append_drop]
  have h2 : ((gs.take i).flatMap cellsP).length = i * 2 := by rw [cellsP_len, List.length_take, Nat.min_eq_left (by omega)]
  conv => lhs; rw [h1]
  rw [List.flatMap_append, List.flatMap_cons, List.getElem?_append_right (by rw [h2]; omega), h2, show i * 2 + j - i * 2 = j by omega, List.getElem?_append_left (by show j < 2; omega)]

theorem cellsP_one (gs : List (Int × Int)) : ∀ u ∈ gs.flatMap cellsP, u.oneCell' = true := by
  intro u hu
  obtain ⟨g, _, h⟩ := List.mem_flatMap.1 hu
  simp [cellsP] at h
  rcases h with rfl | rfl <;> rfl

/-- A row that is owned, read as pairs. -/
theorem pts_of_row {w : World} {base e n : Nat} {v : Value} {gs : List (Int × Int)} (h : w.ownsRow base e 2 v n (gs.flatMap cellsP)) : ∃ A cap, v = .slice A n cap ∧ n = gs.length ∧ n ≤ maxLen ∧ PtsIn w A gs := by
  have hl := h.1
  rw [cellsP_len] at hl
  have hn : n = gs.length := by omega
  subst hn
  rcases h.2 with ⟨rfl, h0⟩ | ⟨g, cap, cur, rfl, hb, hg, hc, hm, hs, ht⟩
  · exact ⟨none, 0, by rw [h0], rfl, by rw [h0]; simp [maxLen], fun i hi => by omega⟩
  · refine ⟨_, cap, rfl, rfl, by omega, fun i hi => ⟨g, 0, rfl, lt_of_heap hg, ?_⟩⟩
    have h3 : ∀ j, j < 2 → w.cell? ⟨g, i * 2 + j, none⟩ = (cellsP gs[i])[j]? := by
      intro j hj
      rw [← cellsP_get gs i hi j hj, ← ht, List.getElem?_take, if_pos (by omega)]
      simp [World.cell?, hg]
    rw [Nat.zero_add]
    exact ⟨h3 0 (by omega), h3 1 (by omega)⟩

theorem news_of_pts {w : World} {ad : Addr} {gs : List (Int × Int)} (hG : PtsIn w (some ad) gs) : ∀ j u, (gs.flatMap cellsP)[j]? = some u → w.cell? (ad.add j) = some u := by
  intro j u hu
  have hj : j < gs.length * 2 := by rw [← cellsP_len]; exact (List.getElem?_eq_some_iff.1 hu).1
  have hi : j / 2 < gs.length := by omega
  obtain ⟨b, off, hA, hb, hg⟩ := hG (j / 2) hi
  cases hA
  have hadd : (⟨b, off, none⟩ : Addr).add j = ⟨b, off + j, none⟩ := by
    unfold Addr.add
    split
    · rename_i h0; have h1 : j = 0 := by simpa using h0
      simp [h1]
    · simp
  rw [hadd]
  have h1 := cellsP_get gs (j / 2) hi (j % 2) (by omega)
  rw [show j / 2 * 2 + j % 2 = j by omega, hu] at h1
  rcases Nat.mod_two_eq_zero_or_one j with h | h
  · rw [h] at h1
    have h2 := hg.c0
    rw [show off + j / 2 * 2 = off + j by omega] at h2
    rw [h2]; simpa [cellsP] using h1.symm
  · rw [h] at h1
    have h2 := hg.c1
    rw [show off + j / 2 * 2 + 1 = off + j by omega] at h2
    rw [h2]; simpa [cellsP] using h1.symm

theorem pt_step {α β : Type} (f : β → α → β) (s : β) (l : List α) (i : Nat) (h : i < l.length) : (l.take (i + 1)).foldl f s = f ((l.take i).foldl f s) l[i] := by
  rw [List.take_succ_eq_append_getElem h, List.foldl_append]; rfl

theorem all_take {α : Type} (p : α → Bool) (l : List α) (i : Nat) (h : i < l.length) : (l.take (i + 1)).all p = ((l.take i).all p && p l[i]) := by
  rw [List.take_succ_eq_append_getElem h, List.all_append]; simp

end Go.Proofs.Ytigepekcjigpaaa
