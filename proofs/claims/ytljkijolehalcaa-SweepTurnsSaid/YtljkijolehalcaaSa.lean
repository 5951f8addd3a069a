/- Sweep: gaps in memory; Right, Has, Votes and the document's Votes and right, walked. No condition. -/
import Derived.Test.YtljkijolehalcaaKtri
import Derived.Test.YtljkijolehalcaaKrow
import Derived.Test.YtljkijolehalcaaKext
import Derived.Test.YtljkijolehalcaaProg
namespace Go.Proofs.Ytljkijolehalcaa
open Go.RowKit

/-- A gap in memory. -/
def encG (g : Int × Int) : Value := .agg #[.int .i64 g.1, .int .i64 g.2]

structure GapIn (w : World) (b o : Nat) (g : Int × Int) : Prop where
  c0 : w.cell? ⟨b, o, none⟩ = some (.int .i64 g.1)
  c1 : w.cell? ⟨b, o + 1, none⟩ = some (.int .i64 g.2)

/-- A row of gaps in memory. -/
def GapsIn (w : World) (A : Option Addr) (gs : List (Int × Int)) : Prop := ∀ i (h : i < gs.length), ∃ b off, A = some ⟨b, off, none⟩ ∧ b < w.heap.size ∧ GapIn w b (off + i * 2) gs[i]

theorem GapIn.turn {w w' : World} {b o : Nat} {g : Int × Int} (h : GapIn w b o g) (hb : b < w.heap.size) (hT : Below w.heap.size w w') : GapIn w' b o g :=
  ⟨(hT.cell (p := ⟨b, o, none⟩) hb).trans h.c0, (hT.cell (p := ⟨b, o + 1, none⟩) hb).trans h.c1⟩

theorem GapsIn.turn {w w' : World} {A : Option Addr} {gs : List (Int × Int)} (h : GapsIn w A gs) (hT : Below w.heap.size w w') : GapsIn w' A gs := fun i hi => by
  obtain ⟨b, off, hA, hb, hg⟩ := h i hi
  exact ⟨b, off, hA, Nat.lt_of_lt_of_le hb hT.size, hg.turn hb hT⟩

def okG (g : Int × Int) : Bool := decide (g.1 ≤ g.2)
def hasG (x : Int) (g : Int × Int) : Bool := decide (g.1 ≤ x) && decide (x ≤ g.2)
def votesL (x : Int) (gs : List (Int × Int)) : Nat := gs.countP (hasG x)
def rightL (gs : List (Int × Int)) : Nat := gs.countP okG

theorem countP_step {α : Type} (p : α → Bool) (l : List α) (i : Nat) (h : i < l.length) : (l.take (i + 1)).countP p = (l.take i).countP p + (if p l[i] then 1 else 0) := by
  rw [List.take_succ_eq_append_getElem h, List.countP_append]
  simp [List.countP_cons]

theorem countP_lt {α : Type} (p : α → Bool) (l : List α) (i : Nat) : (l.take i).countP p ≤ i := Nat.le_trans List.countP_le_length (List.length_take_le _ _)

set_option maxHeartbeats 1000000 in
theorem right17 (g : Int × Int) (w : World) : Calls Try.prog 17 #[encG g] w fun e w' => e = .returned (.bool (okG g)) ∧ Below w.heap.size w w' := by
  obtain ⟨a, b⟩ := g
  unfold encG okG
  go_enter Try.func17, Try.ntmps17
  go_wp2_with fail
  go_ret
  exact ⟨rfl, (Below.refl _ w).alloc (Nat.le_refl _) _⟩

set_option maxHeartbeats 1000000 in
theorem right24 (g : Int × Int) (w : World) : Calls Try.prog 24 #[encG g] w fun e w' => e = .returned (.bool (okG g)) ∧ Below w.heap.size w w' := by
  obtain ⟨a, b⟩ := g
  unfold encG okG
  go_enter Try.func24, Try.ntmps24
  go_wp2_with fail
  go_ret
  exact ⟨rfl, (Below.refl _ w).alloc (Nat.le_refl _) _⟩

set_option maxHeartbeats 1000000 in
theorem has18 (g : Int × Int) (x : Int) (w : World) : Calls Try.prog 18 #[encG g, .int .i64 x] w fun e w' => e = .returned (.bool (hasG x g)) ∧ Below w.heap.size w w' := by
  obtain ⟨a, b⟩ := g
  unfold encG hasG
  go_enter Try.func18, Try.ntmps18
  by_cases h : a ≤ x
  · go_wp2_with fail
    go_ret
    exact ⟨by simp [h], (Below.refl _ w).alloc (Nat.le_refl _) _⟩
  · go_wp2_with fail
    go_ret
    exact ⟨by simp [show ¬ a ≤ x by omega], (Below.refl _ w).alloc (Nat.le_refl _) _⟩

set_option maxHeartbeats 1000000 in
theorem votes13 (x : Int) (A : Option Addr) (n c : Nat) (gs : List (Int × Int)) (w : World) (hn : n = gs.length) (hn2 : n ≤ 1000) (hG : GapsIn w A gs) :
    Calls Try.prog 13 #[.int .i64 x, .slice A n c] w fun e w' => e = .returned (.int .i64 (votesL x gs)) ∧ Below w.heap.size w w' := by
  have HG := Lib.hid hG; clear hG
  have HN := Lib.hid hn; clear hn
  go_enter Try.func13, Try.ntmps13
  go_wp2_with fail
  go_loopw [5, 10] (fun t i wr => ∃ k : Nat, k ≤ n ∧ i = .int .i64 k ∧ t = .int .i64 ((gs.take k).countP (hasG x)) ∧ Below w.heap.size w wr) (fun _ i _ => n - (intOf i).toNat)
  case atStart => exact ⟨0, Nat.zero_le _, rfl, by simp, Below.refl _ _⟩
  case round =>
    obtain ⟨k, hk, rfl, rfl, hB⟩ := hrel
    by_cases hlt : k < n
    · have hkl : k < gs.length := by have := HN.out; omega
      obtain ⟨b, off, hA, hbl, hg⟩ := HG.out k hkl
      subst hA
      obtain ⟨e0, e1⟩ := hg.turn hbl hB
      have hbw : b < wr.heap.size := by have := hB.size; omega
      have hst := countP_step (hasG x) gs k hkl
      have hle := countP_lt (hasG x) gs k
      clear hg
      go_wp2_with fail
      refine (has18 gs[k] x _).mono ?_
      rintro e w2 ⟨rfl, hB2⟩
      have hB3 : Below w.heap.size w w2 := (hB.trans ((Below.refl _ wr).alloc hB.size _)).trans (hB2.mono (by have := hB.size; simp; omega))
      clear hB2
      by_cases hv : hasG x gs[k] = true
      · go_wp2_with fail
        go_roundw
        case rel => exact ⟨k + 1, hlt, by simp, by rw [hst, hv]; simp, hB3⟩
        case measure => simp [intOf]; omega
      · go_wp2_with fail
        go_roundw
        case rel => exact ⟨k + 1, hlt, by simp, by rw [hst]; simp [hv], hB3⟩
        case measure => simp [intOf]; omega
    · obtain rfl : k = n := by omega
      go_wp2_with fail
      go_ret
      have := HN.out
      exact ⟨by rw [this]; simp [votesL], hB⟩

end Go.Proofs.Ytljkijolehalcaa
