/- Sweep: the document's Votes and right, and 'of', walked. No condition. -/
import Derived.Test.YtljkijolehalcaaSa
namespace Go.Proofs.Ytljkijolehalcaa
open Go.RowKit

/-- The document's test of a number and a gap. -/
theorem hasG_of_ok (x : Int) (g : Int × Int) : hasG x g = (okG g && decide (g.1 ≤ x) && decide (x ≤ g.2)) := by
  unfold hasG okG
  by_cases h1 : g.1 ≤ x <;> by_cases h2 : x ≤ g.2 <;> simp [h1, h2]
  omega

set_option maxHeartbeats 2000000 in
theorem votes14 (x : Int) (A : Option Addr) (n c : Nat) (gs : List (Int × Int)) (w : World) (hn : n = gs.length) (hn2 : n ≤ 1000) (hG : GapsIn w A gs) :
    Calls Try.prog 14 #[.int .i64 x, .slice A n c] w fun e w' => e = .returned (.int .i64 (votesL x gs)) ∧ Below w.heap.size w w' := by
  have HG := Lib.hid hG; clear hG
  have HN := Lib.hid hn; clear hn
  go_enter Try.func14, Try.ntmps14
  go_wp2_with fail
  go_loopw [5, 6] (fun t i wr => ∃ k : Nat, k ≤ n ∧ i = .int .i64 k ∧ t = .int .i64 ((gs.take k).countP (hasG x)) ∧ Below w.heap.size w wr) (fun _ i _ => n - (intOf i).toNat)
  case atStart => exact ⟨0, Nat.zero_le _, rfl, by simp, Below.refl _ _⟩
  case round =>
    obtain ⟨k, hk, rfl, rfl, hB⟩ := hrel
    by_cases hlt : k < n
    · have hkl : k < gs.length := by have := HN.out; omega
      obtain ⟨b, off, hA, hbl, hg⟩ := HG.out k hkl
      subst hA
      obtain ⟨e0, e1⟩ := hg.turn hbl hB
      have hbw : b < wr.heap.size := by have := hB.size; omega
      have hst := countP_step (hasG x) gs k hkl
      have hle := countP_lt (hasG x) gs k
      clear hg
      go_wp2_with fail
      refine (right24 gs[k] _).mono ?_
      rintro e w2 ⟨rfl, hB2⟩
      have hB3 : Below w.heap.size w w2 := hB.trans (hB2.mono (by have := hB.size; omega))
      have d0 := (hB2.cell (p := ⟨b, off + k * 2, none⟩) hbw).trans e0
      have d1 := (hB2.cell (p := ⟨b, off + k * 2 + 1, none⟩) hbw).trans e1
      have hbw2 : b < w2.heap.size := by have := hB2.size; omega
      clear hB2 e0 e1 hbw
      rw [hasG_of_ok] at hst
      cases hr : okG gs[k]
      · rw [hr] at hst
        go_wp2_with fail
        go_roundw
        case rel => exact ⟨k + 1, hlt, by simp, by rw [hst]; simp, hB3⟩
        case measure => simp [intOf]; omega
      · rw [hr] at hst
        by_cases h1 : gs[k].1 ≤ x
        · by_cases h2 : x ≤ gs[k].2
          · go_wp2_with fail
            go_roundw
            case rel => exact ⟨k + 1, hlt, by simp, by rw [hst]; simp [h1, h2], hB3⟩
            case measure => simp [intOf]; omega
          · go_wp2_with fail
            go_roundw
            case rel => exact ⟨k + 1, hlt, by simp, by rw [hst]; simp [show ¬ x ≤ gs[k].2 by omega], hB3⟩
            case measure => simp [intOf]; omega
        · go_wp2_with fail
          go_roundw
          case rel => exact ⟨k + 1, hlt, by simp, by rw [hst]; simp [show ¬ gs[k].1 ≤ x by omega], hB3⟩
          case measure => simp [intOf]; omega
    · obtain rfl : k = n := by omega
      go_wp2_with fail
      go_ret
      have := HN.out
      exact ⟨by rw [this]; simp [votesL], hB⟩

set_option maxHeartbeats 2000000 in
theorem right25 (A : Option Addr) (n c : Nat) (gs : List (Int × Int)) (w : World) (hn : n = gs.length) (hn2 : n ≤ 1000) (hG : GapsIn w A gs) :
    Calls Try.prog 25 #[.slice A n c] w fun e w' => e = .returned (.int .i64 (rightL gs)) ∧ Below w.heap.size w w' := by
  have HG := Lib.hid hG; clear hG
  have HN := Lib.hid hn; clear hn
  go_enter Try.func25, Try.ntmps25
  go_wp2_with fail
  go_loopw [3, 4] (fun t i wr => ∃ k : Nat, k ≤ n ∧ i = .int .i64 k ∧ t = .int .i64 ((gs.take k).countP okG) ∧ Below w.heap.size w wr) (fun _ i _ => n - (intOf i).toNat)
  case atStart => exact ⟨0, Nat.zero_le _, rfl, by simp, Below.refl _ _⟩
  case round =>
    obtain ⟨k, hk, rfl, rfl, hB⟩ := hrel
    by_cases hlt : k < n
    · have hkl : k < gs.length := by have := HN.out; omega
      obtain ⟨b, off, hA, hbl, hg⟩ := HG.out k hkl
      subst hA
      obtain ⟨e0, e1⟩ := hg.turn hbl hB
      have hbw : b < wr.heap.size := by have := hB.size; omega
      have hst := countP_step okG gs k hkl
      have hle := countP_lt okG gs k
      clear hg
      go_wp2_with fail
      refine (right24 gs[k] _).mono ?_
      rintro e w2 ⟨rfl, hB2⟩
      have hB3 : Below w.heap.size w w2 := hB.trans (hB2.mono (by have := hB.size; omega))
      clear hB2 e0 e1 hbw
      cases hr : okG gs[k]
      · rw [hr] at hst
        go_wp2_with fail
        go_roundw
        case rel => exact ⟨k + 1, hlt, by simp, by rw [hst]; simp, hB3⟩
        case measure => simp [intOf]; omega
      · rw [hr] at hst
        go_wp2_with fail
        go_roundw
        case rel => exact ⟨k + 1, hlt, by simp, by rw [hst]; simp, hB3⟩
        case measure => simp [intOf]; omega
    · obtain rfl : k = n := by omega
      go_wp2_with fail
      go_ret
      have := HN.out
      exact ⟨by rw [this]; simp [rightL], hB⟩

end Go.Proofs.Ytljkijolehalcaa
