/- Clock: a clock in memory; New, Held, Streak, Samples, gaps, agrees, walked. No condition. -/
import Derived.Test.YtkgodolhcoeaeaaCb
import Derived.Test.YtkgodolhcoeaeaaCc

import Derived.Test.YtkgodolhcoeaeaaGk
import Derived.Test.YtkgodolhcoeaeaaGte
namespace Go.Proofs.Ytkgodolhcoeaeaa
open Go.RowKit

/-- A clock. -/
structure Clk where
  rho : Int
  need : Int
  held : Bool
  streak : Int
  list : List Smp

/-- A clock in memory: a block of five cells, and the row of its samples (v). -/
structure CSt (w : World) (b : Nat) (c : Clk) (v : Value) : Prop where
  at_ : w.heap[b]? = some (.cells #[.int .i64 c.rho, .int .i64 c.need, .bool c.held, .int .i64 c.streak, v] 58 (0, 0))
  row : w.ownsRow 0 23 4 v c.list.length (c.list.flatMap cellsS)

def footC (b : Nat) (v : Value) : List Nat := b :: v.ownBlock.toList

theorem CSt.ne {w : World} {b : Nat} {c : Clk} {v : Value} (h : CSt w b c v) : v.ownBlock ≠ some b := by
  rcases h.row.2 with ⟨rfl, _⟩ | ⟨g, cap, cur, rfl, _, hg, _⟩
  · simp [Value.ownBlock]
  · intro e
    have : g = b := by simpa [Value.ownBlock] using e
    subst this
    rw [h.at_] at hg
    have := Obj.cells.inj (Option.some.inj hg)
    exact absurd this.2.1 (by decide)

theorem CSt.lt {w : World} {b : Nat} {c : Clk} {v : Value} (h : CSt w b c v) : b < w.heap.size := lt_of_heap h.at_

theorem CSt.foot_lt {w : World} {b : Nat} {c : Clk} {v : Value} (h : CSt w b c v) : ∀ x ∈ footC b v, x < w.heap.size := by
  intro x hx
  simp only [footC, List.mem_cons, Option.mem_toList] at hx
  rcases hx with rfl | hx
  · exact h.lt
  · exact ownsRow_lt h.row x hx

theorem CSt.turn {w w' : World} {F : List Nat} {b : Nat} {c : Clk} {v : Value} (h : CSt w b c v) (ht : Turn F w w') (hF : ∀ x ∈ footC b v, x ∉ F) : CSt w' b c v :=
  ⟨(ht.block b h.lt (hF b (by simp [footC]))).trans h.at_, ownsRow_same h.row fun g hg => ht.block g (ownsRow_lt h.row g hg) (hF g (by simp [footC, hg]))⟩

theorem CSt.ext {w w' : World} {b : Nat} {c : Clk} {v : Value} (h : CSt w b c v) (hB : Below w.heap.size w w') : CSt w' b c v := h.turn (Turn.below hB) (by simp)

theorem CSt.cells {w : World} {b : Nat} {c : Clk} {v : Value} (h : CSt w b c v) : w.cell? ⟨b, 0, none⟩ = some (.int .i64 c.rho) ∧ w.cell? ⟨b, 1, none⟩ = some (.int .i64 c.need) ∧ w.cell? ⟨b, 2, none⟩ = some (.bool c.held) ∧ w.cell? ⟨b, 3, none⟩ = some (.int .i64 c.streak) ∧ w.cell? ⟨b, 4, none⟩ = some v ∧
    (∀ o, w.frozen? ⟨b, o, none⟩ = false) ∧ b < w.heap.size :=
  ⟨by simp [World.cell?, h.at_], by simp [World.cell?, h.at_], by simp [World.cell?, h.at_], by simp [World.cell?, h.at_], by simp [World.cell?, h.at_], fun o => by simp [World.frozen?, h.at_], h.lt⟩

theorem CSt.row_in {w : World} {b : Nat} {c : Clk} {v : Value} (h : CSt w b c v) : ∃ A cap, v = .slice A c.list.length cap ∧ c.list.length ≤ cap ∧ cap ≤ maxLen ∧ SmpsIn w A c.list ∧ (A = none → c.list.length = 0 ∧ cap = 0) := by
  obtain ⟨A, cap, h1, _, h3, h4, h5, h6⟩ := smps_of_row h.row
  exact ⟨A, cap, h1, h3, h4, h5, h6⟩

def newBad (rho need : Int) : Bool := !rateB rho || decide (need < 0) || decide (100 < need)

theorem newC_ok (rho need : Int) (h : newBad rho need = false) (w : World) : Calls Try.prog 9 #[.int .i64 rho, .int .i64 need] w fun e w' => ∃ b, e = .returned (.tuple #[.pointer (some ⟨b, 0, none⟩), .int .i64 0]) ∧ w.heap.size ≤ b ∧ CSt w' b ⟨rho, need, false, 0, []⟩ (.slice none 0 0) ∧ Below w.heap.size w w' := by
  unfold newBad at h
  simp at h
  obtain ⟨⟨h1, h2⟩, h3⟩ := h
  have hs : slackR 0 rho = (slackL 0 rho, 0) := by unfold slackR farB; rw [h1]; simp
  have hc := fun w => slack_walk 0 rho w
  rw [hs] at hc
  generalize slackL 0 rho = z at *
  clear hs h1
  go_enter Try.func9, Try.ntmps9
  go_wp2_with fail
  refine (hc _).mono ?_
  rintro e w2 ⟨rfl, hB⟩
  have HB := Lib.hid hB
  clear hc hB
  go_wp2_with fail
  go_ret2
  exact ⟨_, rfl, HB.out.size, ⟨heap_alloc_new w2 _, ⟨by simp, .inl ⟨rfl, rfl⟩⟩⟩, HB.out.alloc HB.out.size _⟩

theorem newC_bad (rho need : Int) (h : newBad rho need = true) (w : World) : Calls Try.prog 9 #[.int .i64 rho, .int .i64 need] w fun e w' => e = .returned (.tuple #[.pointer none, .int .i64 11]) ∧ Below w.heap.size w w' := by
  unfold newBad at h
  have hc := fun w => slack_walk 0 rho w
  have hs : slackR 0 rho = if rateB rho = true then (slackL 0 rho, 0) else (0, 11) := by unfold slackR farB; cases rateB rho <;> simp
  rw [hs] at hc
  generalize slackL 0 rho = z at *
  cases hr : rateB rho
  · rw [hr] at hc
    simp only [Bool.false_eq_true, if_false] at hc
    go_enter Try.func9, Try.ntmps9
    go_wp2_with fail
    refine (hc _).mono ?_
    rintro e w2 ⟨rfl, hB⟩
    have HB := Lib.hid hB
    clear hc hB
    go_wp2_with fail
    go_ret2
    exact ⟨rfl, HB.out⟩
  · rw [hr] at hc h
    simp only [if_true] at hc
    by_cases h1 : need < 0
    · go_enter Try.func9, Try.ntmps9
      go_wp2_with fail
      refine (hc _).mono ?_
      rintro e w2 ⟨rfl, hB⟩
      have HB := Lib.hid hB
      clear hc hB
      go_wp2_with fail
      go_ret2
      exact ⟨rfl, HB.out⟩
    · have h2 : 100 < need := by simp at h; omega
      go_enter Try.func9, Try.ntmps9
      go_wp2_with fail
      refine (hc _).mono ?_
      rintro e w2 ⟨rfl, hB⟩
      have HB := Lib.hid hB
      clear hc hB
      go_wp2_with fail
      go_ret2
      exact ⟨rfl, HB.out⟩

theorem held_walk (b : Nat) (c : Clk) (v : Value) (w : World) (h : CSt w b c v) : Calls Try.prog 13 #[.pointer (some ⟨b, 0, none⟩)] w fun e w' => e = .returned (.bool c.held) ∧ w' = w := by
  obtain ⟨c0, c1, c2, c3, c4, c5, c6⟩ := h.cells
  go_enter Try.func13, Try.ntmps13
  go_wp2_with fail
  go_ret
  exact ⟨rfl, rfl⟩

theorem streak_walk (b : Nat) (c : Clk) (v : Value) (w : World) (h : CSt w b c v) : Calls Try.prog 12 #[.pointer (some ⟨b, 0, none⟩)] w fun e w' => e = .returned (.int .i64 c.streak) ∧ w' = w := by
  obtain ⟨c0, c1, c2, c3, c4, c5, c6⟩ := h.cells
  go_enter Try.func12, Try.ntmps12
  go_wp2_with fail
  go_ret
  exact ⟨rfl, rfl⟩

theorem samples_walk (b : Nat) (c : Clk) (v : Value) (w : World) (h : CSt w b c v) (hl : c.list.length ≤ 1000) : Calls Try.prog 14 #[.pointer (some ⟨b, 0, none⟩)] w fun e w' => ∃ v', e = .returned v' ∧ w'.ownsRow w.heap.size 23 4 v' c.list.length (c.list.flatMap cellsS) ∧ Below w.heap.size w w' := by
  obtain ⟨A, cap, rfl, hc1, hc2, hG, hnil⟩ := h.row_in
  obtain ⟨c0, c1, c2, c3, c4, c5, c6⟩ := h.cells
  have hk := cloneS_walk A c.list.length cap c.list w rfl hl (fun hA => (hnil hA)) hG
  clear hG hnil hc1 hc2 h
  go_enter Try.func14, Try.ntmps14
  go_wp2_with fail
  refine hk.mono ?_
  rintro e w2 ⟨v', rfl, hO, hB⟩
  have HO := Lib.hid hO
  have HB := Lib.hid hB
  clear hO hB hk
  go_wp2_with fail
  go_ret
  exact ⟨_, rfl, HO.out, HB.out⟩

end Go.Proofs.Ytkgodolhcoeaeaa
