/- Clock: ContainsFunc at samples, and Set, walked. No condition. -/
import Derived.Test.YtkgodolhcoeaeaaCi
namespace Go.Proofs.Ytkgodolhcoeaeaa
open Go.RowKit

theorem all_takeS (p : Smp → Bool) (l : List Smp) (i : Nat) (h : i < l.length) : (l.take (i + 1)).all p = ((l.take i).all p && p l[i]) := by
  rw [List.take_succ_eq_append_getElem h, List.all_append]; simp

set_option maxHeartbeats 2000000 in
theorem closureS_walk (s : Smp) (w : World) : Calls Try.prog 38 #[encS s] w fun e w' => e = .returned (.bool (!rightS s)) ∧ Below w.heap.size w w' := by
  have hr := fun w => rightS_walk s w
  generalize rightS s = b at *
  obtain ⟨a1, a2, a3, a4⟩ := s
  unfold encS at *
  simp only at *
  go_enter Try.func38, Try.ntmps38
  have HB0 := Lib.hid ((Below.refl w.heap.size w).alloc (Nat.le_refl _) (.cells #[.int .i64 a1, .int .i64 a2, .int .i64 a3, .int .i64 a4] 23))
  go_wp2_with fail
  refine (hr _).mono ?_
  rintro e w1 ⟨rfl, hB⟩
  have HB := Lib.hid (HB0.out.trans (hB.mono HB0.out.size))
  clear hB
  go_wp2_with fail
  go_ret
  exact ⟨rfl, HB.out⟩

set_option maxHeartbeats 4000000 in
theorem indexS_walk (A : Option Addr) (n c : Nat) (ps : List Smp) (w : World) (hn : n = ps.length) (hn2 : n ≤ 1000) (hG : SmpsIn w A ps) :
    Calls Try.prog 48 #[.slice A n c, .func (.func 38) #[] #[]] w fun e w' => (∃ v : Int, e = .returned (.int .i64 v) ∧ (0 ≤ v ↔ ps.all rightS = false)) ∧ Below w.heap.size w w' := by
  have HG := Lib.hid hG; clear hG
  have HN := Lib.hid hn; clear hn
  go_enter Try.func48, Try.ntmps48
  go_wp2_with fail
  go_loopw [8] (fun i wr => ∃ k : Nat, k ≤ n ∧ i = .int .i64 k ∧ (ps.take k).all rightS = true ∧ Below w.heap.size w wr) (fun i _ => n - (intOf i).toNat)
  case atStart => exact ⟨0, Nat.zero_le _, rfl, rfl, Below.refl _ _⟩
  case round =>
    obtain ⟨k, hk, rfl, hall, hB⟩ := hrel
    have HBk := Lib.hid hB
    by_cases hlt : k < n
    · have hkl : k < ps.length := by have := HN.out; omega
      obtain ⟨b, off, hA, hbl, hg⟩ := HG.out k hkl
      subst hA
      obtain ⟨e0, e1, e2, e3⟩ := hg.turn hbl hB
      have hbw : b < wr.heap.size := by have := hB.size; omega
      have hst := all_takeS rightS ps k hkl
      rw [hall] at hst
      have HST := Lib.hid hst
      have hx0 : (0 : Int) ≤ (k : Int) := Int.natCast_nonneg _
      have hx1 : (k : Int) < (n : Int) := by omega
      clear hg hst hall hB
      go_wp2_with fail
      refine (closureS_walk ps[k] _).mono ?_
      rintro e w2 ⟨rfl, hB2⟩
      have HB2 := Lib.hid (HBk.out.trans (hB2.mono HBk.out.size))
      clear hB2 HBk e0 e1 e2 e3 hbw
      cases hr : rightS ps[k]
      · go_wp2_with fail
        go_ret
        refine ⟨⟨k, rfl, ⟨fun _ => ?_, fun _ => hx0⟩⟩, HB2.out⟩
        rw [Bool.eq_false_iff]
        intro h
        have := List.all_eq_true.1 h ps[k] (List.getElem_mem hkl)
        rw [hr] at this; cases this
      · have HRT := Lib.hid hr
        clear hr
        go_wp2_with fail
        refine ⟨⟨k + 1, hlt, by simp, by rw [HST.out, HRT.out]; rfl, HB2.out⟩, by simp [intOf]; omega⟩
    · obtain rfl : k = n := by omega
      have hall2 : ps.all rightS = true := by rw [List.take_of_length_le (by have := HN.out; omega)] at hall; exact hall
      have HAL := Lib.hid hall2
      clear hall hall2 hB
      go_wp2_with fail
      go_ret
      exact ⟨⟨-1, rfl, ⟨fun h => absurd h (by decide), fun h => by rw [HAL.out] at h; cases h⟩⟩, HBk.out⟩

set_option maxHeartbeats 2000000 in
theorem containsS_walk (A : Option Addr) (n c : Nat) (ps : List Smp) (w : World) (hn : n = ps.length) (hn2 : n ≤ 1000) (hG : SmpsIn w A ps) :
    Calls Try.prog 39 #[.slice A n c, .func (.func 38) #[] #[]] w fun e w' => e = .returned (.bool (!ps.all rightS)) ∧ Below w.heap.size w w' := by
  have hc := fun w (h : SmpsIn w A ps) => indexS_walk A n c ps w hn hn2 h
  have HG := Lib.hid hG; clear hG
  clear hn
  generalize ps.all rightS = b at *
  go_enter Try.func39, Try.ntmps39
  go_wp2_with fail
  refine (hc _ HG.out).mono ?_
  rintro e w1 ⟨⟨v, rfl, hv⟩, hB⟩
  have HB := Lib.hid hB
  clear hB hc
  cases b
  · have h0 : 0 ≤ v := hv.2 rfl
    clear hv
    go_wp2_with fail
    go_ret
    exact ⟨by simp [h0], HB.out⟩
  · have h0 : ¬ 0 ≤ v := fun h => by have := hv.1 h; cases this
    clear hv
    go_wp2_with fail
    go_ret
    exact ⟨by simp; omega, HB.out⟩

set_option maxHeartbeats 4000000 in
theorem set_walk (b : Nat) (c : Clk) (v : Value) (held : Bool) (streak : Int) (A : Option Addr) (n cap : Nat) (l : List Smp) (w : World) (h : CSt w b c v) (hn : n = l.length) (hn2 : n ≤ 8) (hnil : A = none → n = 0 ∧ cap = 0) (hG : SmpsIn w A l) (hall : l.all rightS = true) (hs : 0 ≤ streak) :
    Calls Try.prog 22 #[.pointer (some ⟨b, 0, none⟩), .bool held, .int .i64 streak, .slice A n cap] w fun e w' => ∃ v', e = .returned (.int .i64 0) ∧ CSt w' b ⟨c.rho, c.need, held, streak, l⟩ v' ∧ Turn [b] w w' := by
  have hc := containsS_walk A n cap l w hn (by omega) hG
  rw [hall] at hc
  have HC := Lib.hid hc
  have HH := Lib.hid h
  have HG := Lib.hid hG
  have HN := Lib.hid hn
  have HNIL := Lib.hid hnil
  have hn8 : ¬ (8 : Int) < (n : Int) := by omega
  have hs0 : ¬ streak < 0 := by omega
  clear hc h hG hnil hn
  go_enter Try.func22, Try.ntmps22
  go_wp2_with fail
  refine HC.out.mono ?_
  rintro e w1 ⟨rfl, hB⟩
  have HB := Lib.hid hB
  have hcl := cloneS_walk A n cap l w1 HN.out (by omega) HNIL.out (HG.out.turn hB)
  have HCL := Lib.hid hcl
  clear hB hcl HC
  go_wp2_with fail
  refine HCL.out.mono ?_
  rintro e w2 ⟨v', rfl, hO, hB2⟩
  obtain ⟨A2, cap2, rfl, -, -, -, -, -⟩ := smps_of_row hO
  have HO := Lib.hid hO
  have HB2 := Lib.hid (HB.out.trans (hB2.mono HB.out.size))
  have HS := Lib.hid HB.out.size
  have HH2 := Lib.hid (HH.out.ext HB2.out)
  obtain ⟨c0, c1, c2, c3, c4, c5, c6⟩ := HH2.out.cells
  clear hO hB2 HB HCL
  go_wp2_with fail
  go_ret
  refine ⟨.slice A2 n cap2, rfl, ⟨(setCell_heap (setCell_heap (setCell_heap HH2.out.at_ _) _) _).trans rfl, ?_⟩, (((Turn.below HB2.out).mono (by simp)).setCell (.inl (by simp)) _).setCell (.inl (by simp)) _ |>.setCell (.inl (by simp)) _⟩
  have hr : w2.ownsRow 0 23 4 (.slice A2 n cap2) l.length (l.flatMap cellsS) := by rw [← HN.out]; exact ownsRow_zero HO.out
  refine ownsRow_same hr fun g hg => ?_
  have hgb : g ≠ b := by have := (HO.out.lt g hg).1; have := HS.out; have := HH.out.lt; omega
  exact (Below.heap_setCell _ _ _ _ (by simpa using hgb)).trans ((Below.heap_setCell _ _ _ _ (by simpa using hgb)).trans (Below.heap_setCell _ _ _ _ (by simpa using hgb)))

end Go.Proofs.Ytkgodolhcoeaeaa
