/- Drift: Honest walked. No condition. -/
import Derived.Test.YtigepekcjigpaaaDn
namespace Go.Proofs.Ytigepekcjigpaaa
open Go.RowKit

def pairsB (r : Int) (ss : List (Int × Int)) : Bool := (List.range ss.length).all fun k => (ss.take k).all fun o => stepB r o (ss[k]?.getD (0, 0))
def honestB (r : Int) (ps : List (Int × Int)) : Bool := rateB r && (ps.all rightB && pairsB r (sortP ps))

theorem pairsB_false {r : Int} {ss : List (Int × Int)} {k j : Nat} (hk : k < ss.length) (hj : j < k) (h : stepB r (ss[j]'(by omega)) ss[k] = false) : pairsB r ss = false := by
  rw [Bool.eq_false_iff]
  intro hp
  have h1 := List.all_eq_true.1 hp k (List.mem_range.2 hk)
  have h2 := List.all_eq_true.1 h1 (ss[j]'(by omega)) (by
    have : (ss.take k)[j]'(by rw [List.length_take]; omega) = ss[j]'(by omega) := List.getElem_take
    rw [← this]; exact List.getElem_mem _)
  rw [List.getElem?_eq_getElem hk] at h2
  simp only [Option.getD_some] at h2
  rw [h] at h2; cases h2

theorem pairsB_iff (r : Int) (ss : List (Int × Int)) : pairsB r ss = true ↔ ss.Pairwise (fun o p => stepB r o p = true) := by
  rw [List.pairwise_iff_getElem]
  constructor
  · intro h i j hi hj hij
    cases hs : stepB r ss[i] ss[j]
    · rw [pairsB_false hj hij hs] at h; cases h
    · rfl
  · intro h
    refine List.all_eq_true.2 fun k hk => List.all_eq_true.2 fun o ho => ?_
    have hk := List.mem_range.1 hk
    obtain ⟨j, hj, rfl⟩ := List.getElem_of_mem ho
    rw [List.length_take] at hj
    rw [List.getElem_take, List.getElem?_eq_getElem hk]
    exact h j k (by omega) hk (by omega)

theorem honestB_iff (r : Int) (ps : List (Int × Int)) : honestB r ps = true ↔ honestP r ps := by
  unfold honestB honestP
  rw [Bool.and_eq_true, Bool.and_eq_true, pairsB_iff, List.all_eq_true, pairs_sorted (sortP_perm ps) (sortP_sorted ps)]

set_option maxRecDepth 100000 in
set_option maxHeartbeats 8000000 in
theorem honest_walk (r : Int) (A : Option Addr) (n c : Nat) (ps : List (Int × Int)) (w : World) (hn : n = ps.length) (hn2 : n ≤ 1000) (hG : PtsIn w A ps) :
    Calls Try.prog 10 #[.int .i64 r, .slice A n c] w fun e w' => e = .returned (.bool (honestB r ps)) ∧ Below w.heap.size w w' := by
  have hcn := fun w (h : PtsIn w A ps) => contains_walk A n c ps w hn hn2 h
  have HG := Lib.hid hG; clear hG
  have HN := Lib.hid hn; clear hn
  have HCN := Lib.hid hcn
  clear hcn
  go_enter Try.func10, Try.ntmps10
  go_wp2_with fail
  refine (rate_walk r _).mono ?_
  rintro e w1 ⟨rfl, rfl⟩
  cases hr : rateB r
  · have hz : honestB r ps = false := by unfold honestB; rw [hr]; rfl
    have HZ := Lib.hid hz
    clear hz hr
    go_wp2_with fail
    go_ret
    exact ⟨by rw [HZ.out]; rfl, Below.refl _ _⟩
  have hrr := hr
  unfold rateB at hrr
  simp at hrr
  obtain ⟨r0, r1⟩ := hrr
  go_wp2_with fail
  refine (HCN.out _ HG.out).mono ?_
  rintro e w2 ⟨rfl, hB2⟩
  have HB2 := Lib.hid hB2
  clear hB2
  cases hall : ps.all rightB
  · have hz : honestB r ps = false := by unfold honestB; rw [hr, hall]; rfl
    have HZ := Lib.hid hz
    clear hz hr hall
    go_wp2_with fail
    go_ret
    exact ⟨by rw [HZ.out]; rfl, HB2.out⟩
  have hz : honestB r ps = pairsB r (sortP ps) := by unfold honestB; rw [hr, hall]; rfl
  have hal : ∀ p ∈ sortP ps, rightB p = true := fun p hp => List.all_eq_true.1 hall p ((sortP_perm ps).mem_iff.1 hp)
  have hso := sortP_sorted ps
  have hsl := sortP_len ps
  rw [← HN.out] at hsl
  have HZ := Lib.hid hz
  have HAL := Lib.hid hal
  have HSO := Lib.hid hso
  have HSL := Lib.hid hsl
  clear hz hal hso hsl hr hall HCN
  go_wp2_with fail
  refine (values_walk A n c _).mono ?_
  rintro e w3 ⟨rfl, rfl⟩
  have HG2 := HG.out.turn HB2.out
  have hv := sorted_walk w2.heap.size A n c ps (w2.alloc (.cells #[.slice A n c] 27)) HN.out hn2 (by simp) (by simp) (HG2.turn ((Below.refl _ w2).alloc (Nat.le_refl _) _))
  have HB3 := Lib.hid (HB2.out.alloc HB2.out.size (.cells #[.slice A n c] 27))
  clear HG2
  generalize w2.alloc (.cells #[.slice A n c] 27) = w3 at *
  go_wp2_with fail
  refine hv.mono ?_
  rintro e w4 ⟨A', c', rfl, hc', hP, hB4⟩
  have HP := Lib.hid hP
  have HB4 := Lib.hid (HB3.out.trans (hB4.mono HB3.out.size))
  clear hv hP hB4 HB3 HB2
  generalize sortP ps = ss at *
  go_wp2_with fail
  go_loopw [21] (fun i wr => ∃ k : Nat, k ≤ n ∧ i = .int .i64 k ∧ ((List.range k).all fun a => (ss.take a).all fun o => stepB r o (ss[a]?.getD (0, 0))) = true ∧ Below w4.heap.size w4 wr) (fun i _ => n - (intOf i).toNat)
  case atStart => exact ⟨0, Nat.zero_le _, rfl, rfl, Below.refl _ _⟩
  case round =>
    obtain ⟨k, hk, rfl, hdone, hB⟩ := hrel
    have HD := Lib.hid hdone
    have HB5 := Lib.hid hB
    by_cases hlt : k < n
    · have hkl : k < ss.length := by have := HSL.out; omega
      obtain ⟨b, off, hA, hbl, hg⟩ := HP.out k hkl
      subst hA
      obtain ⟨e0, e1⟩ := hg.turn hbl hB
      have hbw : b < wr.heap.size := by have := hB.size; omega
      have hx0 : (0 : Int) ≤ (k : Int) := Int.natCast_nonneg _
      have hx1 : (k : Int) < (n : Int) := by omega
      have hx2 : (k : Int) ≤ (c' : Int) := by omega
      have hBX := Bx.new wr 30 ss[k].1 ss[k].2
      have HBX := Lib.hid hBX
      have HB6 := Lib.hid (HB5.out.alloc HB5.out.size (.cells #[.int .i64 ss[k].1, .int .i64 ss[k].2] 30))
      clear hg hdone hB hBX
      go_wp2_with fail
      obtain ⟨pk, hpk⟩ : ∃ p, ss[k] = p := ⟨_, rfl⟩
      rw [hpk] at HBX HB6 ⊢
      have hgd : ss[k]?.getD (0, 0) = pk := by rw [List.getElem?_eq_getElem hkl, hpk]; rfl
      have hrk : rightB pk = true := HAL.out pk (by rw [← hpk]; exact List.getElem_mem hkl)
      have HRK := Lib.hid hrk
      have HGD := Lib.hid hgd
      have HPK := Lib.hid hpk
      clear hrk hgd hpk e0 e1 hbw
      generalize wr.alloc (.cells #[.int .i64 pk.1, .int .i64 pk.2] 30) = w6 at *
      generalize wr.heap.size = bk at *
      go_loopw [30] (fun i wr' => ∃ j : Nat, j ≤ k ∧ i = .int .i64 j ∧ ((ss.take j).all fun o => stepB r o pk) = true ∧ Bx wr' bk 30 pk.1 pk.2 ∧ Below w4.heap.size w4 wr') (fun i _ => k - (intOf i).toNat)
      case atStart => exact ⟨0, Nat.zero_le _, rfl, rfl, HBX.out, HB6.out⟩
      case round =>
        obtain ⟨j, hj, rfl, hdj, hbx, hB⟩ := hrel
        have HDJ := Lib.hid hdj
        have HBX2 := Lib.hid hbx
        have HB7 := Lib.hid hB
        clear HBX HB6
        by_cases hlj : j < k
        · have hjl : j < ss.length := by omega
          obtain ⟨b2, off2, hA2, hbl2, hg2⟩ := HP.out j hjl
          cases hA2
          obtain ⟨e0, e1⟩ := hg2.turn hbl2 hB
          have hbw : b < wr.heap.size := by have := hB.size; omega
          obtain ⟨c0, c1, c2, c3⟩ := hbx.cells
          have hy0 : (0 : Int) ≤ (j : Int) := Int.natCast_nonneg _
          have hy1 : (j : Int) < (k : Int) := by omega
          obtain ⟨pj, hpj⟩ : ∃ p, ss[j] = p := ⟨_, rfl⟩
          rw [hpj] at e0 e1
          have hrj : rightB pj = true := HAL.out pj (by rw [← hpj]; exact List.getElem_mem hjl)
          have hlex : lexP pj pk := by
            have := List.pairwise_iff_getElem.1 HSO.out j k hjl hkl hlj
            rw [hpj, HPK.out] at this; exact this
          have hle : pj.1 ≤ pk.1 := by unfold lexP at hlex; omega
          have hfw := fun w => follows_walk pk pj r HRK.out hrj hle r0 r1 w
          have hst := all_take (fun o => stepB r o pk) ss j hjl
          rw [hdj, hpj] at hst
          have hsb : stepB r pj pk = (flwB r pk pj && !(decide (pk.1 = pj.1) && !decide (pk.2 = pj.2))) := rfl
          have hbad : stepB r pj pk = false → pairsB r ss = false := fun h => pairsB_false hkl hlj (by rw [hpj, HPK.out]; exact h)
          have HFW := Lib.hid hfw
          have HST := Lib.hid hst
          have HSB := Lib.hid hsb
          have HBAD := Lib.hid hbad
          have HB8 := Lib.hid (HB7.out.alloc HB7.out.size (.cells #[.int .i64 pj.1, .int .i64 pj.2] 30))
          have HBX8 := Lib.hid (HBX2.out.alloc (.cells #[.int .i64 pj.1, .int .i64 pj.2] 30))
          have HBY8 := Lib.hid (Bx.new wr 30 pj.1 pj.2)
          clear hg2 hdj hbx hB hrj hlex hle hfw hst hsb hbad hpj HB7 HBX2
          go_wp2_with fail
          generalize flwB r pk pj = fl at *
          refine (HFW.out _).mono ?_
          rintro e w8 ⟨rfl, hB8⟩
          have HB9 := Lib.hid (HB8.out.trans (hB8.mono HB8.out.size))
          have HBX9 := Lib.hid (HBX8.out.ext hB8)
          have HBY9 := Lib.hid (HBY8.out.ext hB8)
          clear hB8 HB8 HBX8 HBY8 e0 e1 hbw c0 c1 c2 c3
          obtain ⟨c0, c1, c2, c3⟩ := HBX9.out.cells
          obtain ⟨d0, d1, d2, d3⟩ := HBY9.out.cells
          cases fl
          · have hz : honestB r ps = false := by rw [HZ.out]; exact HBAD.out (by rw [HSB.out]; rfl)
            have HZ2 := Lib.hid hz
            clear hz
            go_wp2_with fail
            go_ret
            exact ⟨by rw [HZ2.out]; rfl, HB4.out.trans (HB9.out.mono HB4.out.size)⟩
          · by_cases h1 : pk.1 = pj.1
            · by_cases h2 : pk.2 = pj.2
              · have hs : stepB r pj pk = true := by rw [HSB.out]; simp [h1, h2]
                have HS := Lib.hid hs
                have k1 : (pk.1 == pj.1) = true := by simpa using h1
                have k2 : (pk.2 != pj.2) = false := by simpa using h2
                clear hs h1 h2
                go_wp2_with fail
                refine ⟨⟨j + 1, hlj, by simp, by rw [HST.out, HS.out]; rfl, HBX9.out, HB9.out⟩, by simp [intOf]; omega⟩
              · have hz : honestB r ps = false := by rw [HZ.out]; exact HBAD.out (by rw [HSB.out]; simp [h1, h2])
                have HZ2 := Lib.hid hz
                have k1 : (pk.1 == pj.1) = true := by simpa using h1
                have k2 : (pk.2 != pj.2) = true := by simpa using h2
                clear hz h1 h2
                go_wp2_with fail
                go_ret
                exact ⟨by rw [HZ2.out]; rfl, HB4.out.trans (HB9.out.mono HB4.out.size)⟩
            · have hs : stepB r pj pk = true := by rw [HSB.out]; simp [h1]
              have HS := Lib.hid hs
              have k1 : (pk.1 == pj.1) = false := by simpa using h1
              clear hs h1
              go_wp2_with fail
              refine ⟨⟨j + 1, hlj, by simp, by rw [HST.out, HS.out]; rfl, HBX9.out, HB9.out⟩, by simp [intOf]; omega⟩
        · obtain rfl : j = k := by omega
          have hrs : ((List.range (j + 1)).all fun a => (ss.take a).all fun o => stepB r o (ss[a]?.getD (0, 0))) = true := by
            rw [List.range_succ, List.all_append, HD.out]
            simp only [List.all_cons, List.all_nil, Bool.and_true, Bool.true_and]
            rw [HGD.out]
            exact hdj
          have HRS := Lib.hid hrs
          clear hrs hdj hbx hB
          go_wp2_with fail
          refine ⟨⟨j + 1, hlt, by simp, HRS.out, HB7.out⟩, by simp [intOf]; omega⟩
    · obtain rfl : k = n := by omega
      have hzz : pairsB r ss = true := by unfold pairsB; rw [HSL.out]; exact hdone
      have HZZ := Lib.hid hzz
      clear hzz hdone hB
      go_wp2_with fail
      go_ret
      exact ⟨by rw [HZ.out, HZZ.out]; rfl, HB4.out.trans (HB5.out.mono HB4.out.size)⟩

end Go.Proofs.Ytigepekcjigpaaa
