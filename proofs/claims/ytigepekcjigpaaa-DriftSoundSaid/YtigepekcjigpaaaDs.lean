/- Drift: the second law (Sound) walked: it holds. No condition. -/
import Derived.Test.YtigepekcjigpaaaDr
namespace Go.Proofs.Ytigepekcjigpaaa
open Go.RowKit

set_option maxRecDepth 100000 in
set_option maxHeartbeats 8000000 in
theorem law_sound (r : Int) (A : Option Addr) (n c : Nat) (ps : List (Int × Int)) (w : World) (hn : n = ps.length) (hG : PtsIn w A ps) :
    Calls Try.prog 4 #[.int .i64 r, .slice A n c] w fun e w' => e = .returned (.bool true) ∧ Below w.heap.size w w' := by
  have HG := Lib.hid hG; clear hG
  have HN := Lib.hid hn; clear hn
  go_enter Try.func4, Try.ntmps4
  go_wp2_with fail
  refine (alive_walk _).mono ?_
  rintro e w1 ⟨rfl, hB1⟩
  have HB1 := Lib.hid hB1
  clear hB1
  by_cases h30 : 30 < n
  · have hd : decide ((n : Int) > 30) = true := by simp; omega
    go_wp2_with fail
    go_ret
    exact ⟨rfl, HB1.out⟩
  have hn2 : n ≤ 1000 := by omega
  have hd : decide ((n : Int) > 30) = false := by simp; omega
  have hc := honest_walk r A n c ps _ HN.out hn2 (HG.out.turn HB1.out)
  go_wp2_with fail
  refine hc.mono ?_
  rintro e w2 ⟨rfl, hB2⟩
  have HB2 := Lib.hid (HB1.out.trans (hB2.mono HB1.out.size))
  clear hc hB2 HB1
  cases hh : honestB r ps
  · clear hh
    go_wp2_with fail
    go_ret
    exact ⟨rfl, HB2.out⟩
  have hP := (honestB_iff r ps).1 hh
  have HP := Lib.hid hP
  clear hP hh
  go_wp2_with fail
  go_loopw [5] (fun i wr => ∃ a : Nat, a ≤ n ∧ i = .int .i64 a ∧ Below w.heap.size w wr) (fun i _ => n - (intOf i).toNat)
  case atStart => exact ⟨0, Nat.zero_le _, rfl, HB2.out⟩
  case round =>
    obtain ⟨a, ha, rfl, hB⟩ := hrel
    have HBa := Lib.hid hB
    clear hB HB2
    by_cases hla : a < n
    · go_wp2_with fail
      go_loopw [6] (fun i wr' => ∃ k : Nat, k ≤ n ∧ i = .int .i64 k ∧ Below w.heap.size w wr') (fun i _ => n - (intOf i).toNat)
      case atStart => exact ⟨0, Nat.zero_le _, rfl, HBa.out⟩
      case round =>
        obtain ⟨k, hk, rfl, hB⟩ := hrel
        have HBk := Lib.hid hB
        clear HBa
        by_cases hlk : k < n
        · have hal : a < ps.length := by have := HN.out; omega
          have hkl : k < ps.length := by have := HN.out; omega
          obtain ⟨b, off, hA, hbl, hg⟩ := HG.out a hal
          subst hA
          obtain ⟨b', off', hA', hbl', hg'⟩ := HG.out k hkl
          cases hA'
          obtain ⟨e0, e1⟩ := hg.turn hbl hB
          obtain ⟨f0, f1⟩ := hg'.turn hbl hB
          have hbw : b < wr.heap.size := by have := hB.size; omega
          have hx0 : (0 : Int) ≤ (a : Int) := Int.natCast_nonneg _
          have hx1 : (a : Int) < (n : Int) := by omega
          have hy0 : (0 : Int) ≤ (k : Int) := Int.natCast_nonneg _
          have hy1 : (k : Int) < (n : Int) := by omega
          have hs := honest_sound HP.out hal hkl
          have ra := HP.out.2.1 _ (List.getElem_mem hal)
          have rk := HP.out.2.1 _ (List.getElem_mem hkl)
          have hrt := HP.out.1
          generalize ps[a] = pa at *
          generalize ps[k] = pk at *
          obtain ⟨a1, a2⟩ := pa
          obtain ⟨k1, k2⟩ := pk
          unfold rightB at ra rk
          simp at ra rk hs e0 e1 f0 f1
          have hfar : farB (k2 - a2) = false := by unfold farB; simp; omega
          have g1 : IntKind.i64.wrap (k2 - a2) = k2 - a2 := by simp [IntKind.wrap, IntKind.signed, IntKind.bits]; omega
          have g2 : IntKind.i64.wrap (k1 - a1) = k1 - a1 := by simp [IntKind.wrap, IntKind.signed, IntKind.bits]; omega
          have hlr : lowR (k2 - a2) r = (lowL (k2 - a2) r, 0) := by unfold lowR; rw [hfar, hrt]; rfl
          have hhr : highR (k2 - a2) r = (highL (k2 - a2) r, 0) := by unfold highR; rw [hfar, hrt]; rfl
          have hl := fun w => low_walk (k2 - a2) r w
          have hh := fun w => high_walk (k2 - a2) r w
          rw [hlr] at hl
          rw [hhr] at hh
          generalize lowL (k2 - a2) r = lo at *
          generalize highL (k2 - a2) r = hi at *
          obtain ⟨X, hX⟩ : ∃ X, k2 - a2 = X := ⟨_, rfl⟩
          obtain ⟨E, hE⟩ : ∃ E, k1 - a1 = E := ⟨_, rfl⟩
          rw [hX] at hl hh
          rw [hE] at hs
          have g1' : IntKind.i64.wrap (k2 - a2) = X := g1.trans hX
          have g2' : IntKind.i64.wrap (k1 - a1) = E := g2.trans hE
          have d1 : decide (E < lo) = false := by simp; omega
          have d2 : decide (E > hi) = false := by simp; omega
          have HL := Lib.hid hl
          have HH := Lib.hid hh
          clear hg hg' hB hs ra rk hrt hfar g1 g2 hlr hhr hl hh hX hE
          go_wp2_with fail
          go_quiet (fail)
          have E0 : (wr.drewN nq).cell? ⟨b, off + a * 2, none⟩ = some (.int .i64 a1) := e0
          have F0 : (wr.drewN nq).cell? ⟨b, off + k * 2, none⟩ = some (.int .i64 k1) := f0
          have HBq : Hid (Below w.heap.size w (wr.drewN nq)) := Lib.hid ⟨HBk.out.os, HBk.out.tape, HBk.out.output, HBk.out.size, HBk.out.block⟩
          have hbq : b < (wr.drewN nq).heap.size := hbw
          clear HBk e0 e1 f0 f1 hbw g1'
          generalize wr.drewN nq = w5 at *
          go_wp2_with fail
          go_quiet (fail)
          have HBr : Hid (Below w.heap.size w (w5.drewN nq)) := Lib.hid ⟨HBq.out.os, HBq.out.tape, HBq.out.output, HBq.out.size, HBq.out.block⟩
          clear HBq E0 F0 hbq g2'
          generalize w5.drewN nq = w6 at *
          go_wp2_with fail
          refine (HL.out _).mono ?_
          rintro e w7 ⟨rfl, hB7⟩
          have HB7 := Lib.hid (HBr.out.trans (hB7.mono HBr.out.size))
          clear hB7 HBr
          go_wp2_with fail
          refine (HH.out _).mono ?_
          rintro e w8 ⟨rfl, hB8⟩
          have HB8 := Lib.hid (HB7.out.trans (hB8.mono HB7.out.size))
          clear hB8 HB7
          go_wp2_with fail
          refine ⟨⟨k + 1, hlk, by simp, HB8.out⟩, by simp [intOf]; omega⟩
        · obtain rfl : k = n := by omega
          clear hB
          go_wp2_with fail
          refine ⟨⟨a + 1, hla, by simp, HBk.out⟩, by simp [intOf]; omega⟩
    · obtain rfl : a = n := by omega
      go_wp2_with fail
      go_ret
      exact ⟨rfl, HBa.out⟩

end Go.Proofs.Ytigepekcjigpaaa
