/- The walk of ProbeOnce: what holds of memory between two calls; the head of the law. -/
import Derived.Test.YthhgcoapohgiiaaPi
namespace Go.Proofs.Ythhgcoapohgiiaa
open Go.RowKit

/-- What holds of memory between two calls. -/
structure LInv (w0 W : World) (bp bm bs bd : Nat) (boot most count : Int) (rows : List Row) (last : List (Int × Int)) (sl : List ((Int × Int) × Cal)) (dl : List ((Int × Int) × Int)) (v : Value) : Prop where
  below : Below w0.heap.size w0 W
  p : PSt W bp boot count most rows last v bm
  ge : ∀ x ∈ foot bp bm v, w0.heap.size ≤ x
  ms : MapAt W bs encN encC sl
  md : MapAt W bd encN (Value.int .i64) dl
  hs : bs ∉ foot bp bm v
  hd : bd ∉ foot bp bm v
  hsd : bs ≠ bd
  gs : w0.heap.size ≤ bs
  gd : w0.heap.size ≤ bd

section
variable {w0 W W' : World} {bp bm bs bd : Nat} {boot most count : Int} {rows : List Row} {last : List (Int × Int)} {sl : List ((Int × Int) × Cal)} {dl : List ((Int × Int) × Int)} {v : Value}

/-- Nothing that was there has turned. -/
theorem LInv.still (h : LInv w0 W bp bm bs bd boot most count rows last sl dl v) (hT : Turn [] W W') : LInv w0 W' bp bm bs bd boot most count rows last sl dl v :=
  ⟨h.below.trans (hT.toBelow h.below.size (by simp)), h.p.still hT, h.ge, h.ms.turn hT (by simp), h.md.turn hT (by simp), h.hs, h.hd, h.hsd, h.gs, h.gd⟩

/-- A method of the probes has turned what is theirs. -/
theorem LInv.moved (h : LInv w0 W bp bm bs bd boot most count rows last sl dl v) (hT : Turn (foot bp bm v) W W') {count' : Int} {rows' : List Row} {last' : List (Int × Int)} {v' : Value} (hp : PSt W' bp boot count' most rows' last' v' bm)
    (hv : v'.ownBlock = v.ownBlock ∨ ∃ g, W.heap.size ≤ g ∧ v'.ownBlock = some g) : LInv w0 W' bp bm bs bd boot most count' rows' last' sl dl v' := by
  have hsub : ∀ x ∈ foot bp bm v', x ∈ foot bp bm v ∨ W.heap.size ≤ x := by
    intro x hx
    simp only [foot, List.mem_cons, Option.mem_toList] at hx ⊢
    rcases hx with hx | hx | hx
    · exact .inl (.inl hx)
    · exact .inl (.inr (.inl hx))
    · rcases hv with hv | ⟨g, hg, hv⟩
      · rw [hv] at hx; exact .inl (.inr (.inr hx))
      · rw [hv] at hx; cases hx; exact .inr hg
  have hsz := h.below.size
  refine ⟨h.below.trans (hT.toBelow hsz h.ge), hp, ?_, h.ms.turn hT h.hs, h.md.turn hT h.hd, ?_, ?_, h.hsd, h.gs, h.gd⟩
  · intro x hx
    rcases hsub x hx with h1 | h1
    · exact h.ge x h1
    · omega
  · intro hx
    rcases hsub _ hx with h1 | h1
    · exact h.hs h1
    · have := h.ms.lt; omega
  · intro hx
    rcases hsub _ hx with h1 | h1
    · exact h.hd h1
    · have := h.md.lt; omega

theorem LInv.putS (h : LInv w0 W bp bm bs bd boot most count rows last sl dl v) (hT : Turn [bs] W W') {sl' : List ((Int × Int) × Cal)} (hm : MapAt W' bs encN encC sl') :
    LInv w0 W' bp bm bs bd boot most count rows last sl' dl v :=
  ⟨h.below.trans (hT.toBelow h.below.size (by simpa using h.gs)), h.p.turn hT (fun b hb e => by simp at e; subst e; exact h.hs hb), h.ge, hm, h.md.turn hT (by simpa using Ne.symm h.hsd), h.hs, h.hd, h.hsd, h.gs, h.gd⟩

theorem LInv.putD (h : LInv w0 W bp bm bs bd boot most count rows last sl dl v) (hT : Turn [bd] W W') {dl' : List ((Int × Int) × Int)} (hm : MapAt W' bd encN (Value.int .i64) dl') :
    LInv w0 W' bp bm bs bd boot most count rows last sl dl' v :=
  ⟨h.below.trans (hT.toBelow h.below.size (by simpa using h.gd)), h.p.turn hT (fun b hb e => by simp at e; subst e; exact h.hd hb), h.ge, h.ms.turn hT (by simpa using h.hsd), hm, h.hs, h.hd, h.hsd, h.gs, h.gd⟩
end

/-- A block of the walk's own is none of those that are told of. -/
theorem LInv.apart {w0 W : World} {bp bm bs bd : Nat} {boot most count : Int} {rows : List Row} {last : List (Int × Int)} {sl : List ((Int × Int) × Cal)} {dl : List ((Int × Int) × Int)} {v : Value}
    (h : LInv w0 W bp bm bs bd boot most count rows last sl dl v) {x : Nat} (hx : W.heap.size ≤ x) : x ∉ foot bp bm v ∧ x ≠ bs ∧ x ≠ bd := by
  refine ⟨fun hm => ?_, ?_, ?_⟩
  · have := h.p.foot_lt _ hm; omega
  · have := h.ms.lt; omega
  · have := h.md.lt; omega

/-- A call of a row in memory. -/
structure CalIn (w : World) (b o : Nat) (c : Cal) : Prop where
  c0 : w.cell? ⟨b, o, none⟩ = some (.int .i64 c.what)
  c1 : w.cell? ⟨b, o + 1, none⟩ = some (.int .i64 c.agent)
  c2 : w.cell? ⟨b, o + 2, none⟩ = some (.int .i64 c.epoch)
  c3 : w.cell? ⟨b, o + 3, none⟩ = some (.int .i64 c.now)
  c4 : w.cell? ⟨b, o + 4, none⟩ = some (.int .i64 c.period)
  c5 : w.cell? ⟨b, o + 5, none⟩ = some (.int .i64 c.nb)
  c6 : w.cell? ⟨b, o + 6, none⟩ = some (.int .i64 c.nc)

/-- A row of calls in memory. -/
def CalsIn (w : World) (A : Option Addr) (calls : List Cal) : Prop := ∀ i (h : i < calls.length), ∃ b off, A = some ⟨b, off, none⟩ ∧ b < w.heap.size ∧ CalIn w b (off + i * 7) calls[i]

theorem CalIn.turn {w w' : World} {b o : Nat} {c : Cal} (h : CalIn w b o c) (hb : b < w.heap.size) (hT : Below w.heap.size w w') : CalIn w' b o c :=
  ⟨(hT.cell (p := ⟨b, o, none⟩) hb).trans h.c0, (hT.cell (p := ⟨b, o + 1, none⟩) hb).trans h.c1, (hT.cell (p := ⟨b, o + 2, none⟩) hb).trans h.c2, (hT.cell (p := ⟨b, o + 3, none⟩) hb).trans h.c3, (hT.cell (p := ⟨b, o + 4, none⟩) hb).trans h.c4, (hT.cell (p := ⟨b, o + 5, none⟩) hb).trans h.c5, (hT.cell (p := ⟨b, o + 6, none⟩) hb).trans h.c6⟩

set_option maxHeartbeats 1000000 in
set_option maxRecDepth 100000 in
theorem law_long (boot other most : Int) (A : Option Addr) (n c : Nat) (w : World) (hn : 100 < n) (hn2 : n ≤ 9223372036854775807) :
    Calls Try.prog 3 #[.int .i64 boot, .int .i64 other, .int .i64 most, .slice A n c] w fun e w' => e = .returned (.bool true) ∧ Below w.heap.size w w' := by
  go_enter Try.func3, Try.ntmps3
  go_wp2_with fail
  refine (alive_any w).mono ?_
  rintro e w1 ⟨rfl, hb1⟩
  go_wp2_with fail
  go_ret
  exact ⟨rfl, hb1⟩

set_option maxHeartbeats 1000000 in
set_option maxRecDepth 100000 in
theorem law_bad (boot other most : Int) (A : Option Addr) (n c : Nat) (w : World) (hn : n ≤ 100) (hb : newBad boot most) :
    Calls Try.prog 3 #[.int .i64 boot, .int .i64 other, .int .i64 most, .slice A n c] w fun e w' => e = .returned (.bool true) ∧ Below w.heap.size w w' := by
  go_enter Try.func3, Try.ntmps3
  go_wp2_with fail
  refine (alive_any w).mono ?_
  rintro e w1 ⟨rfl, hb1⟩
  go_wp2_with fail
  refine (new_bad boot most w1 hb).mono ?_
  rintro e w' ⟨rfl, rfl⟩
  go_wp2_with fail
  go_ret
  exact ⟨rfl, hb1⟩

end Go.Proofs.Ythhgcoapohgiiaa
