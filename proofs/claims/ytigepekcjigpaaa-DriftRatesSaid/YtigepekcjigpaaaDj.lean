/- Drift: follows, and ContainsFunc at a point's right, walked. No condition. -/
import Derived.Test.YtigepekcjigpaaaDi
namespace Go.Proofs.Ytigepekcjigpaaa
open Go.RowKit

def encPt (p : Int × Int) : Value := .agg #[.int .i64 p.1, .int .i64 p.2]

set_option maxRecDepth 100000 in
set_option maxHeartbeats 4000000 in
theorem follows_walk (p o : Int × Int) (r : Int) (hp : rightB p = true) (ho : rightB o = true) (hd : o.1 ≤ p.1) (hr0 : 0 ≤ r) (hr1 : r ≤ 100000) (w : World) :
    Calls Try.prog 23 #[encPt p, encPt o, .int .i64 r] w fun e w' => e = .returned (.bool (flwB r p o)) ∧ Below w.heap.size w w' := by
  obtain ⟨a1, a2⟩ := p
  obtain ⟨b1, b2⟩ := o
  unfold rightB at hp ho
  simp at hp ho hd
  have hfl : flwB r (a1, a2) (b1, b2) = (decide (0 ≤ a2 - b2) && (decide (max ((a2 - b2) - (a1 - b1)) ((a1 - b1) - (a2 - b2)) - 1 ≤ 0) || decide ((max ((a2 - b2) - (a1 - b1)) ((a1 - b1) - (a2 - b2)) - 1) * 1000000 ≤ r * (a1 - b1)))) := rfl
  have f1 : IntKind.i64.wrap (a1 - b1) = a1 - b1 := by simp [IntKind.wrap, IntKind.signed, IntKind.bits]; omega
  have f2 : IntKind.i64.wrap (a2 - b2) = a2 - b2 := by simp [IntKind.wrap, IntKind.signed, IntKind.bits]; omega
  have g0 : 0 ≤ a1 - b1 := by omega
  have g1 : a1 - b1 ≤ 4611686018427387903 := by omega
  have g2 : -4611686018427387903 ≤ a2 - b2 := by omega
  have g3 : a2 - b2 ≤ 4611686018427387903 := by omega
  unfold encPt
  simp only
  obtain ⟨D, hD⟩ : ∃ D, IntKind.i64.wrap (a1 - b1) = D := ⟨_, rfl⟩
  obtain ⟨C, hC⟩ : ∃ C, IntKind.i64.wrap (a2 - b2) = C := ⟨_, rfl⟩
  have hD' : a1 - b1 = D := f1.symm.trans hD
  have hC' : a2 - b2 = C := f2.symm.trans hC
  rw [hD'] at g0 g1 hfl
  rw [hC'] at g2 g3 hfl
  clear f1 f2 hD' hC'
  have HFL := Lib.hid hfl
  clear hp ho hd hfl
  go_enter Try.func23, Try.ntmps23
  obtain ⟨W0, hW0⟩ : ∃ W0, (w.alloc (.cells #[.int .i64 a1, .int .i64 a2] 30)).alloc (.cells #[.int .i64 b1, .int .i64 b2] 30) = W0 := ⟨_, rfl⟩
  have c0 : W0.cell? ⟨w.heap.size, 0, none⟩ = some (.int .i64 a1) := by rw [← hW0]; simp
  have c1 : W0.cell? ⟨w.heap.size, 1, none⟩ = some (.int .i64 a2) := by rw [← hW0]; simp
  have d0 : W0.cell? ⟨w.heap.size + 1, 0, none⟩ = some (.int .i64 b1) := by rw [← hW0]; simp
  have d1 : W0.cell? ⟨w.heap.size + 1, 1, none⟩ = some (.int .i64 b2) := by rw [← hW0]; simp
  have HB0 := Lib.hid (((Below.refl w.heap.size w).alloc (Nat.le_refl _) (.cells #[.int .i64 a1, .int .i64 a2] 30)).alloc (by simp) (.cells #[.int .i64 b1, .int .i64 b2] 30))
  rw [hW0] at HB0
  go_wp2_with fail
  clear hW0
  go_quiet (fail)
  have HB1 : Hid (Below w.heap.size w (W0.drewN nq)) := Lib.hid ⟨HB0.out.os, HB0.out.tape, HB0.out.output, HB0.out.size, HB0.out.block⟩
  generalize W0.drewN nq = W1 at *
  clear c0 c1 d0 d1 hD hC HB0
  have e1 : wrap64 (C - D) = C - D := by simp [wrap64]; omega
  have e2 : wrap64 (D - C) = D - C := by simp [wrap64]; omega
  obtain ⟨X, hX⟩ : ∃ X, max (C - D) (D - C) - 1 = X := ⟨_, rfl⟩
  have hf := HFL.out
  rw [hX] at hf
  have HF := Lib.hid hf
  clear HFL hf
  by_cases hC0 : 0 ≤ C
  · by_cases hX0 : X ≤ 0
    · have hv : flwB r (a1, a2) (b1, b2) = true := by rw [HF.out]; simp [hC0, hX0]
      have HV := Lib.hid hv
      clear hv
      by_cases hm : C - D ≤ D - C
      · have e3 : D - C - 1 = X := by omega
        go_wp2_with fail
        all_goals
          (go_ret
           exact ⟨by rw [HV.out]; rfl, HB1.out⟩)
      · have e3 : C - D - 1 = X := by omega
        go_wp2_with fail
        all_goals
          (go_ret
           exact ⟨by rw [HV.out]; rfl, HB1.out⟩)
    · have hv : flwB r (a1, a2) (b1, b2) = decide (X * 1000000 ≤ r * D) := by rw [HF.out]; simp [hC0, hX0]
      have t1 := fun w => times_walk X 1000000 (by omega) (by omega) (by omega) (by omega) w
      have t2 := fun w => times_walk r D hr0 (by omega) g0 (by omega) w
      have hcw := cmp_words (X * 1000000) (r * D)
      have hv2 : flwB r (a1, a2) (b1, b2) = decide (or2 (cmpI (X * 1000000 / 18446744073709551616) (r * D / 18446744073709551616)) (cmpI (X * 1000000 % 18446744073709551616) (r * D % 18446744073709551616)) ≤ 0) := by
        rw [hv]; exact decide_eq_decide.2 hcw.symm
      have HV := Lib.hid hv2
      have HT1 := Lib.hid t1
      have HT2 := Lib.hid t2
      clear hv hv2 t1 t2 hcw
      generalize X * 1000000 / 18446744073709551616 = n1 at *
      generalize X * 1000000 % 18446744073709551616 = n2 at *
      generalize r * D / 18446744073709551616 = m1 at *
      generalize r * D % 18446744073709551616 = m2 at *
      have HCW := Lib.hid (fun w => cmp_walk n1 n2 m1 m2 w)
      generalize or2 (cmpI n1 m1) (cmpI n2 m2) = z at *
      by_cases hm : C - D ≤ D - C
      · have e3 : D - C - 1 = X := by omega
        go_wp2_with fail
        refine (HT1.out _).mono ?_
        rintro e w2 ⟨rfl, hB2⟩
        have HB2 := Lib.hid (HB1.out.trans (hB2.mono HB1.out.size))
        clear hB2
        go_wp2_with fail
        refine (HT2.out _).mono ?_
        rintro e w3 ⟨rfl, hB3⟩
        have HB3 := Lib.hid (HB2.out.trans (hB3.mono HB2.out.size))
        clear hB3 HB2
        go_wp2_with fail
        refine (HCW.out _).mono ?_
        rintro e w4 ⟨rfl, hB4⟩
        have HB4 := Lib.hid (HB3.out.trans (hB4.mono HB3.out.size))
        clear hB4 HB3
        go_wp2_with fail
        all_goals
          (go_ret
           exact ⟨by rw [HV.out]; rfl, HB4.out⟩)
      · have e3 : C - D - 1 = X := by omega
        go_wp2_with fail
        refine (HT1.out _).mono ?_
        rintro e w2 ⟨rfl, hB2⟩
        have HB2 := Lib.hid (HB1.out.trans (hB2.mono HB1.out.size))
        clear hB2
        go_wp2_with fail
        refine (HT2.out _).mono ?_
        rintro e w3 ⟨rfl, hB3⟩
        have HB3 := Lib.hid (HB2.out.trans (hB3.mono HB2.out.size))
        clear hB3 HB2
        go_wp2_with fail
        refine (HCW.out _).mono ?_
        rintro e w4 ⟨rfl, hB4⟩
        have HB4 := Lib.hid (HB3.out.trans (hB4.mono HB3.out.size))
        clear hB4 HB3
        go_wp2_with fail
        all_goals
          (go_ret
           exact ⟨by rw [HV.out]; rfl, HB4.out⟩)
  · have hv : flwB r (a1, a2) (b1, b2) = false := by rw [HF.out]; simp [hC0]
    have HV := Lib.hid hv
    clear hv
    by_cases hm : C - D ≤ D - C
    · have e3 : D - C - 1 = X := by omega
      go_wp2_with fail
      all_goals
        (go_ret
         exact ⟨by rw [HV.out]; rfl, HB1.out⟩)
    · have e3 : C - D - 1 = X := by omega
      go_wp2_with fail
      all_goals
        (go_ret
         exact ⟨by rw [HV.out]; rfl, HB1.out⟩)

set_option maxHeartbeats 2000000 in
theorem closure_walk (p : Int × Int) (w : World) : Calls Try.prog 16 #[encPt p] w fun e w' => e = .returned (.bool (!rightB p)) ∧ Below w.heap.size w w' := by
  have hr := fun w => right_walk p w
  generalize rightB p = b at *
  obtain ⟨a1, a2⟩ := p
  unfold encPt
  go_enter Try.func16, Try.ntmps16
  have HB0 := Lib.hid ((Below.refl w.heap.size w).alloc (Nat.le_refl _) (.cells #[.int .i64 a1, .int .i64 a2] 30))
  go_wp2_with fail
  refine (hr _).mono ?_
  rintro e w1 ⟨rfl, hB⟩
  have HB := Lib.hid (HB0.out.trans (hB.mono HB0.out.size))
  clear hB
  go_wp2_with fail
  go_ret
  exact ⟨rfl, HB.out⟩

/-- Where a point stands that isn't right; -1: nowhere. -/
def wrongAt (ps : List (Int × Int)) : Int := match ps.findIdx? (fun p => !rightB p) with | some i => (i : Int) | none => -1

set_option maxHeartbeats 4000000 in
theorem index_walk (A : Option Addr) (n c : Nat) (ps : List (Int × Int)) (w : World) (hn : n = ps.length) (hn2 : n ≤ 1000) (hG : PtsIn w A ps) :
    Calls Try.prog 30 #[.slice A n c, .func (.func 16) #[] #[]] w fun e w' => (∃ v : Int, e = .returned (.int .i64 v) ∧ (0 ≤ v ↔ ps.all rightB = false)) ∧ Below w.heap.size w w' := by
  have HG := Lib.hid hG; clear hG
  have HN := Lib.hid hn; clear hn
  go_enter Try.func30, Try.ntmps30
  go_wp2_with fail
  go_loopw [8] (fun i wr => ∃ k : Nat, k ≤ n ∧ i = .int .i64 k ∧ (ps.take k).all rightB = true ∧ Below w.heap.size w wr) (fun i _ => n - (intOf i).toNat)
  case atStart => exact ⟨0, Nat.zero_le _, rfl, rfl, Below.refl _ _⟩
  case round =>
    obtain ⟨k, hk, rfl, hall, hB⟩ := hrel
    have HBk := Lib.hid hB
    by_cases hlt : k < n
    · have hkl : k < ps.length := by have := HN.out; omega
      obtain ⟨b, off, hA, hbl, hg⟩ := HG.out k hkl
      subst hA
      obtain ⟨e0, e1⟩ := hg.turn hbl hB
      have hbw : b < wr.heap.size := by have := hB.size; omega
      have hst := all_take rightB ps k hkl
      rw [hall] at hst
      have HST := Lib.hid hst
      have hx0 : (0 : Int) ≤ (k : Int) := Int.natCast_nonneg _
      have hx1 : (k : Int) < (n : Int) := by omega
      clear hg hst hall hB
      go_wp2_with fail
      refine (closure_walk ps[k] _).mono ?_
      rintro e w2 ⟨rfl, hB2⟩
      have HB2 := Lib.hid (HBk.out.trans (hB2.mono HBk.out.size))
      clear hB2 HBk e0 e1 hbw
      cases hr : rightB ps[k]
      · go_wp2_with fail
        go_ret
        refine ⟨⟨k, rfl, ⟨fun _ => ?_, fun _ => hx0⟩⟩, HB2.out⟩
        rw [Bool.eq_false_iff]
        intro h
        have := List.all_eq_true.1 h ps[k] (List.getElem_mem hkl)
        rw [hr] at this; cases this
      · have HRT := Lib.hid hr
        clear hr
        go_wp2_with fail
        refine ⟨⟨k + 1, hlt, by simp, by rw [HST.out, HRT.out]; rfl, HB2.out⟩, by simp [intOf]; omega⟩
    · obtain rfl : k = n := by omega
      have hall2 : ps.all rightB = true := by rw [List.take_of_length_le (by have := HN.out; omega)] at hall; exact hall
      have HAL := Lib.hid hall2
      clear hall hall2 hB
      go_wp2_with fail
      go_ret
      exact ⟨⟨-1, rfl, ⟨fun h => absurd h (by decide), fun h => by rw [HAL.out] at h; cases h⟩⟩, HBk.out⟩

set_option maxHeartbeats 2000000 in
theorem contains_walk (A : Option Addr) (n c : Nat) (ps : List (Int × Int)) (w : World) (hn : n = ps.length) (hn2 : n ≤ 1000) (hG : PtsIn w A ps) :
    Calls Try.prog 15 #[.slice A n c, .func (.func 16) #[] #[]] w fun e w' => e = .returned (.bool (!ps.all rightB)) ∧ Below w.heap.size w w' := by
  have hc := fun w (h : PtsIn w A ps) => index_walk A n c ps w hn hn2 h
  have HG := Lib.hid hG; clear hG
  clear hn
  generalize ps.all rightB = b at *
  go_enter Try.func15, Try.ntmps15
  go_wp2_with fail
  refine (hc _ HG.out).mono ?_
  rintro e w1 ⟨⟨v, rfl, hv⟩, hB⟩
  have HB := Lib.hid hB
  clear hB hc
  cases b
  · have h0 : 0 ≤ v := hv.2 rfl
    clear hv
    go_wp2_with fail
    go_ret
    exact ⟨by simp [h0], HB.out⟩
  · have h0 : ¬ 0 ≤ v := fun h => by have := hv.1 h; cases this
    clear hv
    go_wp2_with fail
    go_ret
    exact ⟨by simp; omega, HB.out⟩

end Go.Proofs.Ytigepekcjigpaaa
