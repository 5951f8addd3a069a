/- Clock: the law ClockTrusts walked. No condition. -/
import Derived.Test.YtkgodolhcoeaeaaCm
namespace Go.Proofs.Ytkgodolhcoeaeaa
open Go.RowKit

theorem addC_cases (c : Clk) (s : Smp) : (rightS s = false ∧ addC c s = (c, 10)) ∨ (addC c s = (⟨c.rho, c.need, c.held && decide (c.streak + 1 < c.need), c.streak + 1, addL c.list s⟩, 0)) ∨ (∃ l, addC c s = (⟨c.rho, c.need, true, 0, l⟩, 21) ∧ l.length ≤ 1) := by
  unfold addC
  cases rightS s
  · exact .inl ⟨rfl, rfl⟩
  · right
    rw [if_neg (by simp)]
    split
    · exact .inl rfl
    · right
      refine ⟨_, rfl, ?_⟩
      split <;> simp

theorem addL_len (l : List Smp) (s : Smp) : (addL l s).length ≤ l.length + 1 := by unfold addL; rw [List.length_drop, List.length_append]; simp

/-- A clock that a law's loop has. -/
structure LInv (w wr : World) (b : Nat) (rho need : Int) (k : Nat) (c : Clk) (v : Value) : Prop where
  inv : CInv w.heap.size w wr b c v
  rho : c.rho = rho
  need : c.need = need
  len : c.list.length ≤ 8
  s0 : 0 ≤ c.streak
  sk : c.streak ≤ k
  ls : (c.list.length : Int) ≤ c.streak + 1

theorem LInv.ext {w wr w' : World} {b : Nat} {rho need : Int} {k : Nat} {c : Clk} {v : Value} (h : LInv w wr b rho need k c v) (hB : Below wr.heap.size wr w') : LInv w w' b rho need k c v :=
  ⟨h.inv.ext h.inv.bel.size hB, h.rho, h.need, h.len, h.s0, h.sk, h.ls⟩

theorem LInv.step {w wr w' : World} {b : Nat} {rho need : Int} {k : Nat} {c : Clk} {v v' : Value} {s : Smp} (h : LInv w wr b rho need k c v) (hs : CSt w' b (addC c s).1 v') (hT : Turn (footC b v) wr w') (ho : ∀ g, v'.ownBlock = some g → v.ownBlock = some g ∨ wr.heap.size ≤ g) : LInv w w' b rho need (k + 1) (addC c s).1 v' := by
  have h1 := h.inv.step h.inv.bel.size hs hT ho
  have h2 := add_len c s h.len
  have h3 := addL_len c.list s
  have := h.s0
  have := h.sk
  have := h.ls
  refine ⟨h1, ?_, ?_, h2, ?_, ?_, ?_⟩ <;> rcases addC_cases c s with ⟨-, e⟩ | e | ⟨l, e, hl⟩ <;> rw [e] <;> simp only
  · exact h.rho
  · exact h.rho
  · exact h.rho
  · exact h.need
  · exact h.need
  · exact h.need
  all_goals omega

theorem LInv.start {w wr : World} {b : Nat} {rho need : Int} (hs : CSt wr b ⟨rho, need, false, 0, []⟩ (.slice none 0 0)) (hb : w.heap.size ≤ b) (hB : Below w.heap.size w wr) : LInv w wr b rho need 0 ⟨rho, need, false, 0, []⟩ (.slice none 0 0) :=
  ⟨⟨hs, hB, hb, fun g hg => by simp [Value.ownBlock] at hg⟩, rfl, rfl, by simp, by simp, by simp, by simp⟩

theorem LInv.add {w wr : World} {b : Nat} {rho need : Int} {k : Nat} {c : Clk} {v : Value} (h : LInv w wr b rho need k c v) (hk : k ≤ 1000) (s : Smp) :
    Calls Try.prog 10 #[.pointer (some ⟨b, 0, none⟩), encS s] wr fun e w' => e = .returned (.int .i64 (addC c s).2) ∧ ∃ v', LInv w w' b rho need (k + 1) (addC c s).1 v' := by
  have := h.sk
  refine (add_any b c v s wr h.inv.st h.len h.s0 (by omega)).mono ?_
  rintro e w' ⟨he, v', h1, h2, h3⟩
  exact ⟨he, v', h.step h1 h2 h3⟩

set_option maxRecDepth 100000 in
set_option maxHeartbeats 8000000 in
theorem trusts_ok (rho need : Int) (A : Option Addr) (n cap : Nat) (l : List Smp) (w : World) (hn : n = l.length) (hn2 : n ≤ 60) (hnb : newBad rho need = false) (hG : SmpsIn w A l) :
    Calls Try.prog 4 #[.int .i64 rho, .int .i64 need, .slice A n cap] w fun e w' => e = .returned (.bool true) ∧ Below w.heap.size w w' := by
  have HG := Lib.hid hG
  have HN := Lib.hid hn
  have HNB := Lib.hid hnb
  clear hG hn hnb
  have h60 : ¬ (60 : Int) < (n : Int) := by omega
  go_enter Try.func4, Try.ntmps4
  go_wp2_with fail
  refine (alive_walk w).mono ?_
  rintro e w1 ⟨rfl, hB1⟩
  have HB1 := Lib.hid hB1
  clear hB1
  go_wp2_with fail
  refine (newC_ok rho need HNB.out _).mono ?_
  rintro e w2 ⟨bc, rfl, hb2, hs2, hB2⟩
  have HL0 := Lib.hid (LInv.start (w := w) hs2 (Nat.le_trans HB1.out.size hb2) (HB1.out.trans (hB2.mono HB1.out.size)))
  clear hb2 hs2 hB2 HB1
  go_wp2_with fail
  go_loopw [9, 10, 11] (fun st hd i wr => ∃ (k : Nat) (c : Clk) (v : Value), k ≤ n ∧ i = .int .i64 k ∧ st = .int .i64 c.streak ∧ hd = .bool c.held ∧ LInv w wr bc rho need k c v) (fun _ _ i _ => n - (intOf i).toNat)
  case atStart => exact ⟨0, _, _, Nat.zero_le _, rfl, rfl, rfl, HL0.out⟩
  case round =>
    clear HL0
    obtain ⟨k, c, v, hk, rfl, rfl, rfl, hL⟩ := hrel
    have HL := Lib.hid hL
    clear hL
    by_cases hlt : k < n
    · have hkl : k < l.length := by have := HN.out; omega
      obtain ⟨bb, off, hA, hbl, hg⟩ := HG.out k hkl
      subst hA
      obtain ⟨e0, e1, e2, e3⟩ := hg.turn hbl HL.out.inv.bel
      have hbw : bb < wr.heap.size := by have := HL.out.inv.bel.size; omega
      have hkw : wrap64 (0 + (k : Int)) = k := by simp [wrap64]; omega
      have hx0 : (0 : Int) ≤ (k : Int) := Int.natCast_nonneg _
      have hx1 : (k : Int) < (n : Int) := by omega
      generalize hs : l[k] = s at e0 e1 e2 e3
      have HS := Lib.hid hs
      have hc0 := HL.out.s0
      have hc1 := HL.out.sk
      have hca := HL.out.add (by omega) s
      have HCA := Lib.hid hca
      have hcs := addC_cases c s
      have HCS := Lib.hid hcs
      have hnd := HL.out.need
      have HND := Lib.hid hnd
      clear hg hs hca hcs hnd
      go_wp2_with fail
      refine HCA.out.mono ?_
      rintro e w3 ⟨rfl, v3, hL3⟩
      have HL3 := Lib.hid hL3
      clear hL3 HCA hkw
      rcases HCS.out with ⟨hr, hq⟩ | hq | ⟨l', hq, hl'⟩
      · clear HCS
        rw [hq]
        have HL4 := Lib.hid (hq ▸ HL3.out)
        clear hq HL3
        have HR := Lib.hid hr
        clear hr
        simp only at HL4 ⊢
        have hw2 : wrap64 (c.streak + 1) = c.streak + 1 := by simp [wrap64]; omega
        clear HL HND
        obtain ⟨b', off', hA', hbl', hg'⟩ := HG.out k hkl
        cases hA'
        obtain ⟨f0, f1, f2, f3⟩ := hg'.turn hbl HL4.out.inv.bel
        rw [HS.out] at f0 f1 f2 f3
        clear hg' hbl' e0 e1 e2 e3
        have hb3 : bb < w3.heap.size := by have := HL4.out.inv.bel.size; omega
        go_wp2_with fail
        refine (rightS_walk s _).mono ?_
        rintro e w8 ⟨rfl, hB8⟩
        have HL8 := Lib.hid (HL4.out.ext hB8)
        clear hB8 HL4 f0 f1 f2 f3
        rw [HR.out]
        have HL4 := HL8
        clear HL8
        have hl8 := HL4.out.len
        have hls := HL4.out.ls
        try simp only at hl8 hls
        have hls' : ¬ c.streak + 1 < (c.list.length : Int) := by omega
        have hl8' : ¬ (8 : Int) < (c.list.length : Int) := by omega
        go_wp2_with fail
        refine (streak_walk bc _ _ _ HL4.out.inv.st).mono ?_
        rintro e w4 ⟨rfl, hw4⟩
        subst hw4
        try simp only
        go_wp2_with fail
        refine (held_walk bc _ _ _ HL4.out.inv.st).mono ?_
        rintro e w5 ⟨rfl, hw5⟩
        subst hw5
        try simp only
        go_wp2_with fail
        refine (samples_walk bc _ _ _ HL4.out.inv.st (by first | omega | (simp only; omega))).mono ?_
        rintro e w6 ⟨v6, rfl, hO, hB⟩
        obtain ⟨A6, cap6, rfl, -, -, -, -, -⟩ := smps_of_row hO
        have HL6 := Lib.hid (HL4.out.ext hB)
        clear hO hB HL4
        try simp only
        go_wp2_with fail
        refine (samples_walk bc _ _ _ HL6.out.inv.st (by first | omega | (simp only; omega))).mono ?_
        rintro e w7 ⟨v7, rfl, hO, hB⟩
        obtain ⟨A7, cap7, rfl, -, -, -, -, -⟩ := smps_of_row hO
        have HL7 := Lib.hid (HL6.out.ext hB)
        clear hO hB HL6
        try simp only
        go_wp2_with fail
        go_roundw
        case rel => exact ⟨k + 1, _, _, hlt, by simp, rfl, rfl, HL7.out⟩
        case measure => simp [intOf]; omega
      · clear HCS
        rw [hq]
        have HL4 := Lib.hid (hq ▸ HL3.out)
        clear hq HL3
        have hnn := HND.out
        obtain ⟨crho, cneed, cheld, cst, cl⟩ := c
        simp only at hnn hc0 hc1 HL4 ⊢
        subst hnn
        have hw1 : wrap64 (cst + 1) = cst + 1 := by simp [wrap64]; omega
        have hw2 : wrap64 (cst + 1 + 1) = cst + 1 + 1 := by simp [wrap64]; omega
        clear HL HND
        cases cheld
        · simp only [Bool.false_and] at HL4
          have hl8 := HL4.out.len
          have hls := HL4.out.ls
          try simp only at hl8 hls
          have hls' : ¬ cst + 1 + 1 < ((addL cl s).length : Int) := by omega
          have hl8' : ¬ (8 : Int) < ((addL cl s).length : Int) := by omega
          go_wp2_with fail
          refine (streak_walk bc _ _ _ HL4.out.inv.st).mono ?_
          rintro e w4 ⟨rfl, hw4⟩
          subst hw4
          try simp only
          go_wp2_with fail
          refine (held_walk bc _ _ _ HL4.out.inv.st).mono ?_
          rintro e w5 ⟨rfl, hw5⟩
          subst hw5
          try simp only
          go_wp2_with fail
          refine (samples_walk bc _ _ _ HL4.out.inv.st (by first | omega | (simp only; omega))).mono ?_
          rintro e w6 ⟨v6, rfl, hO, hB⟩
          obtain ⟨A6, cap6, rfl, -, -, -, -, -⟩ := smps_of_row hO
          have HL6 := Lib.hid (HL4.out.ext hB)
          clear hO hB HL4
          try simp only
          go_wp2_with fail
          refine (samples_walk bc _ _ _ HL6.out.inv.st (by first | omega | (simp only; omega))).mono ?_
          rintro e w7 ⟨v7, rfl, hO, hB⟩
          obtain ⟨A7, cap7, rfl, -, -, -, -, -⟩ := smps_of_row hO
          have HL7 := Lib.hid (HL6.out.ext hB)
          clear hO hB HL6
          try simp only
          go_wp2_with fail
          go_roundw
          case rel => exact ⟨k + 1, _, _, hlt, by simp, rfl, rfl, HL7.out⟩
          case measure => simp [intOf]; omega
        · by_cases hlt2 : cst + 1 < cneed
          · simp only [hlt2, decide_true, Bool.and_self] at HL4
            have hl8 := HL4.out.len
            have hls := HL4.out.ls
            try simp only at hl8 hls
            have hls' : ¬ cst + 1 + 1 < ((addL cl s).length : Int) := by omega
            have hl8' : ¬ (8 : Int) < ((addL cl s).length : Int) := by omega
            go_wp2_with fail
            refine (streak_walk bc _ _ _ HL4.out.inv.st).mono ?_
            rintro e w4 ⟨rfl, hw4⟩
            subst hw4
            try simp only
            go_wp2_with fail
            refine (held_walk bc _ _ _ HL4.out.inv.st).mono ?_
            rintro e w5 ⟨rfl, hw5⟩
            subst hw5
            try simp only
            go_wp2_with fail
            refine (samples_walk bc _ _ _ HL4.out.inv.st (by first | omega | (simp only; omega))).mono ?_
            rintro e w6 ⟨v6, rfl, hO, hB⟩
            obtain ⟨A6, cap6, rfl, -, -, -, -, -⟩ := smps_of_row hO
            have HL6 := Lib.hid (HL4.out.ext hB)
            clear hO hB HL4
            try simp only
            go_wp2_with fail
            refine (samples_walk bc _ _ _ HL6.out.inv.st (by first | omega | (simp only; omega))).mono ?_
            rintro e w7 ⟨v7, rfl, hO, hB⟩
            obtain ⟨A7, cap7, rfl, -, -, -, -, -⟩ := smps_of_row hO
            have HL7 := Lib.hid (HL6.out.ext hB)
            clear hO hB HL6
            try simp only
            go_wp2_with fail
            go_roundw
            case rel => exact ⟨k + 1, _, _, hlt, by simp, rfl, rfl, HL7.out⟩
            case measure => simp [intOf]; omega
          · simp only [hlt2, decide_false, Bool.and_false] at HL4
            have hl8 := HL4.out.len
            have hls := HL4.out.ls
            try simp only at hl8 hls
            have hls' : ¬ cst + 1 + 1 < ((addL cl s).length : Int) := by omega
            have hl8' : ¬ (8 : Int) < ((addL cl s).length : Int) := by omega
            go_wp2_with fail
            refine (streak_walk bc _ _ _ HL4.out.inv.st).mono ?_
            rintro e w4 ⟨rfl, hw4⟩
            subst hw4
            try simp only
            go_wp2_with fail
            refine (held_walk bc _ _ _ HL4.out.inv.st).mono ?_
            rintro e w5 ⟨rfl, hw5⟩
            subst hw5
            try simp only
            go_wp2_with fail
            refine (samples_walk bc _ _ _ HL4.out.inv.st (by first | omega | (simp only; omega))).mono ?_
            rintro e w6 ⟨v6, rfl, hO, hB⟩
            obtain ⟨A6, cap6, rfl, -, -, -, -, -⟩ := smps_of_row hO
            have HL6 := Lib.hid (HL4.out.ext hB)
            clear hO hB HL4
            try simp only
            go_wp2_with fail
            refine (samples_walk bc _ _ _ HL6.out.inv.st (by first | omega | (simp only; omega))).mono ?_
            rintro e w7 ⟨v7, rfl, hO, hB⟩
            obtain ⟨A7, cap7, rfl, -, -, -, -, -⟩ := smps_of_row hO
            have HL7 := Lib.hid (HL6.out.ext hB)
            clear hO hB HL6
            try simp only
            go_wp2_with fail
            go_roundw
            case rel => exact ⟨k + 1, _, _, hlt, by simp, rfl, rfl, HL7.out⟩
            case measure => simp [intOf]; omega
      · clear HCS
        rw [hq]
        have HL4 := Lib.hid (hq ▸ HL3.out)
        clear hq HL3
        simp only at HL4 ⊢
        clear HL HND
        have hl8 := HL4.out.len
        have hls := HL4.out.ls
        try simp only at hl8 hls
        have hls' : ¬ (0 : Int) + 1 < (l'.length : Int) := by omega
        have hl8' : ¬ (8 : Int) < (l'.length : Int) := by omega
        go_wp2_with fail
        refine (streak_walk bc _ _ _ HL4.out.inv.st).mono ?_
        rintro e w4 ⟨rfl, hw4⟩
        subst hw4
        try simp only
        go_wp2_with fail
        refine (held_walk bc _ _ _ HL4.out.inv.st).mono ?_
        rintro e w5 ⟨rfl, hw5⟩
        subst hw5
        try simp only
        go_wp2_with fail
        refine (samples_walk bc _ _ _ HL4.out.inv.st (by first | omega | (simp only; omega))).mono ?_
        rintro e w6 ⟨v6, rfl, hO, hB⟩
        obtain ⟨A6, cap6, rfl, -, -, -, -, -⟩ := smps_of_row hO
        have HL6 := Lib.hid (HL4.out.ext hB)
        clear hO hB HL4
        try simp only
        go_wp2_with fail
        refine (samples_walk bc _ _ _ HL6.out.inv.st (by first | omega | (simp only; omega))).mono ?_
        rintro e w7 ⟨v7, rfl, hO, hB⟩
        obtain ⟨A7, cap7, rfl, -, -, -, -, -⟩ := smps_of_row hO
        have HL7 := Lib.hid (HL6.out.ext hB)
        clear hO hB HL6
        try simp only
        go_wp2_with fail
        go_roundw
        case rel => exact ⟨k + 1, _, _, hlt, by simp, rfl, rfl, HL7.out⟩
        case measure => simp [intOf]; omega
    · obtain rfl : k = n := by omega
      go_wp2_with fail
      go_ret
      exact ⟨rfl, HL.out.inv.bel⟩

/-- ClockTrusts, whatever the input. -/
theorem law_trusts (rho need : Int) (A : Option Addr) (n cap : Nat) (l : List Smp) (w : World) (hn : n = l.length) (hn2 : n ≤ 9223372036854775807) (hG : SmpsIn w A l) :
    Calls Try.prog 4 #[.int .i64 rho, .int .i64 need, .slice A n cap] w fun e w' => e = .returned (.bool true) ∧ Below w.heap.size w w' := by
  by_cases h60 : n ≤ 60
  · cases hnb : newBad rho need
    · exact trusts_ok rho need A n cap l w hn h60 hnb hG
    · have hk : ¬ (60 : Int) < (n : Int) := by omega
      have HNB := Lib.hid hnb
      clear hG hn hnb
      go_enter Try.func4, Try.ntmps4
      go_wp2_with fail
      refine (alive_walk w).mono ?_
      rintro e w1 ⟨rfl, hB1⟩
      have HB1 := Lib.hid hB1
      clear hB1
      go_wp2_with fail
      refine (newC_bad rho need HNB.out _).mono ?_
      rintro e w2 ⟨rfl, hB2⟩
      have HB2 := Lib.hid (HB1.out.trans (hB2.mono HB1.out.size))
      clear hB2 HB1
      go_wp2_with fail
      go_ret
      exact ⟨rfl, HB2.out⟩
  · have hk : (60 : Int) < (n : Int) := by omega
    clear hG hn
    go_enter Try.func4, Try.ntmps4
    go_wp2_with fail
    refine (alive_walk w).mono ?_
    rintro e w1 ⟨rfl, hB1⟩
    have HB1 := Lib.hid hB1
    clear hB1
    go_wp2_with fail
    go_ret
    exact ⟨rfl, HB1.out⟩

end Go.Proofs.Ytkgodolhcoeaeaa
