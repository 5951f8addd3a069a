/- Drift: sort.Search at Least's function, and Least, walked. No condition. -/
import Derived.Test.YtigepekcjigpaaaDo
namespace Go.Proofs.Ytigepekcjigpaaa
open Go.RowKit

theorem honestB_mono {i j : Int} (h : i ≤ j) (h' : j ≤ 100000) {ps : List (Int × Int)} (hh : honestB i ps = true) : honestB j ps = true :=
  (honestB_iff j ps).2 (honest_mono h h' ((honestB_iff i ps).1 hh))

set_option maxHeartbeats 2000000 in
theorem least1_walk (h : Int) (b0 : Nat) (A : Option Addr) (n c : Nat) (ps : List (Int × Int)) (w : World) (hn : n = ps.length) (hn2 : n ≤ 1000) (hG : PtsIn w A ps) (hc : w.cell? ⟨b0, 0, none⟩ = some (.slice A n c)) :
    Calls Try.prog 25 #[.int .i64 h, .pointer (some ⟨b0, 0, none⟩)] w fun e w' => e = .returned (.bool (honestB h ps)) ∧ Below w.heap.size w w' := by
  have hk := honest_walk h A n c ps w hn hn2 hG
  clear hn hG
  generalize honestB h ps = b at *
  go_enter Try.func25, Try.ntmps25
  go_wp2_with fail
  refine hk.mono ?_
  rintro e w1 ⟨rfl, hB⟩
  have HB := Lib.hid hB
  clear hB hk
  go_wp2_with fail
  go_ret
  exact ⟨rfl, HB.out⟩

set_option maxHeartbeats 4000000 in
theorem search_walk (b0 : Nat) (A : Option Addr) (n c : Nat) (ps : List (Int × Int)) (w : World) (hn : n = ps.length) (hn2 : n ≤ 1000) (hG : PtsIn w A ps) (hc : w.cell? ⟨b0, 0, none⟩ = some (.slice A n c)) (hb0 : b0 < w.heap.size) :
    Calls Try.prog 24 #[.int .i64 100001, .func (.func 25) #[] #[.pointer (some ⟨b0, 0, none⟩)]] w fun e w' =>
      (∃ k : Nat, e = .returned (.int .i64 k) ∧ k ≤ 100001 ∧ (∀ i : Nat, i < k → honestB i ps = false) ∧ (k < 100001 → honestB k ps = true)) ∧ Below w.heap.size w w' := by
  have hk := fun (h : Int) (W : World) (hW : Below w.heap.size w W) => least1_walk h b0 A n c ps W hn hn2 (hG.turn hW) ((hW.cell (p := ⟨b0, 0, none⟩) hb0).trans hc)
  have HK := Lib.hid hk
  clear hk hG hc hn
  go_enter Try.func24, Try.ntmps24
  go_wp2_with fail
  go_loopw [5, 6] (fun lo hi wr => ∃ i j : Nat, i ≤ j ∧ j ≤ 100001 ∧ lo = .int .i64 i ∧ hi = .int .i64 j ∧ (∀ a : Nat, a < i → honestB a ps = false) ∧ (j < 100001 → honestB j ps = true) ∧ Below w.heap.size w wr) (fun lo hi _ => (intOf hi).toNat - (intOf lo).toNat)
  case atStart => exact ⟨0, 100001, by omega, by omega, rfl, rfl, fun a h => by omega, fun h => by omega, Below.refl _ _⟩
  case round =>
    obtain ⟨i, j, hij, hj, rfl, rfl, hlo, hhi, hB⟩ := hrel
    have HLO := Lib.hid hlo
    have HHI := Lib.hid hhi
    have HB := Lib.hid hB
    clear hlo hhi hB
    by_cases hlt : i < j
    · obtain ⟨m, hm⟩ : ∃ m : Nat, (i + j) / 2 = m := ⟨_, rfl⟩
      have g0 : (0 : Int) ≤ (i : Int) := by omega
      have g1 : (i : Int) ≤ 100001 := by omega
      have g2 : (0 : Int) ≤ (j : Int) := by omega
      have g3 : (j : Int) ≤ 100001 := by omega
      have g4 : ((i : Int) + (j : Int)) / 2 = (m : Int) := by omega
      have g5 : i ≤ m := by omega
      have g6 : m < j := by omega
      have hc := HK.out m _ HB.out
      clear hm
      go_wp2_with fail
      refine hc.mono ?_
      rintro e w2 ⟨rfl, hB2⟩
      have HB2 := Lib.hid (HB.out.trans (hB2.mono HB.out.size))
      clear hc hB2
      cases hh : honestB (m : Int) ps
      · have hn2' : ∀ a : Nat, a < m + 1 → honestB (a : Int) ps = false := fun a ha => by
          rw [Bool.eq_false_iff]; intro h
          have := honestB_mono (i := (a : Int)) (j := (m : Int)) (by omega) (by omega) h
          rw [hh] at this; cases this
        have HN2 := Lib.hid hn2'
        clear hh hn2'
        go_wp2_with fail
        refine ⟨⟨m + 1, j, by omega, hj, by simp, rfl, HN2.out, HHI.out, HB2.out⟩, by simp [intOf]; omega⟩
      · have HH := Lib.hid hh
        clear hh
        go_wp2_with fail
        refine ⟨⟨i, m, by omega, by omega, rfl, rfl, HLO.out, fun _ => HH.out, HB2.out⟩, by simp [intOf]; omega⟩
    · obtain rfl : i = j := by omega
      go_wp2_with fail
      go_ret
      exact ⟨⟨i, rfl, hj, HLO.out, HHI.out⟩, HB.out⟩

set_option maxHeartbeats 2000000 in
theorem least_walk (A : Option Addr) (n c : Nat) (ps : List (Int × Int)) (w : World) (hn : n = ps.length) (hn2 : n ≤ 1000) (hG : PtsIn w A ps) :
    Calls Try.prog 11 #[.slice A n c] w fun e w' =>
      (∃ k : Nat, k ≤ 100001 ∧ (∀ i : Nat, i < k → honestB i ps = false) ∧ (k < 100001 → honestB k ps = true) ∧ e = .returned (.tuple #[.int .i64 (if k < 100001 then k else 0 : Nat), .bool (decide (k < 100001))])) ∧ Below w.heap.size w w' := by
  have hB0 := (Below.refl w.heap.size w).alloc (Nat.le_refl _) (.cells #[.slice A n c] 27)
  have hk := search_walk w.heap.size A n c ps (w.alloc (.cells #[.slice A n c] 27)) hn hn2 (hG.turn hB0) (by simp) (by simp)
  have HB0 := Lib.hid hB0
  clear hn hG hB0
  go_enter Try.func11, Try.ntmps11
  go_wp2_with fail
  refine hk.mono ?_
  rintro e w1 ⟨⟨k, rfl, h1, h2, h3⟩, hB⟩
  have HB := Lib.hid (HB0.out.trans (hB.mono HB0.out.size))
  have HH := Lib.hid (And.intro h2 h3)
  clear hk hB HB0 h2 h3
  by_cases h : k < 100001
  · have hd : decide ((k : Int) > 100000) = false := by simp; omega
    go_wp2_with fail
    go_ret2
    exact ⟨⟨k, h1, HH.out.1, HH.out.2, by rw [if_pos h, decide_eq_true h]; rfl⟩, HB.out⟩
  · have hd : decide ((k : Int) > 100000) = true := by simp; omega
    go_wp2_with fail
    go_ret2
    exact ⟨⟨k, h1, HH.out.1, HH.out.2, by rw [if_neg h, decide_eq_false h]; rfl⟩, HB.out⟩

end Go.Proofs.Ytigepekcjigpaaa
