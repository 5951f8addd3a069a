/- Drift: the third law (Rates) walked: it holds. No condition. -/
import Derived.Test.YtigepekcjigpaaaDr
import Derived.Test.YtigepekcjigpaaaDw
namespace Go.Proofs.Ytigepekcjigpaaa
open Go.RowKit

theorem left_sub (ps : List (Int × Int)) (s : Nat) : (ps.take s ++ ps.drop (s + 1)).Sublist ps := by
  have h : (ps.take s ++ ps.drop (s + 1)).Sublist (ps.take s ++ ps.drop s) := List.Sublist.append (List.Sublist.refl _) (by
    rw [← List.drop_drop]
    exact List.drop_sublist 1 _)
  rw [List.take_append_drop] at h
  exact h

set_option maxRecDepth 100000 in
set_option maxHeartbeats 8000000 in
theorem law_rates (r more : Int) (A : Option Addr) (n c : Nat) (ps : List (Int × Int)) (skip : Int) (w : World) (hn : n = ps.length) (hnc : n ≤ c) (hnil : A = none → n = 0 ∧ c = 0) (hG : PtsIn w A ps) :
    Calls Try.prog 5 #[.int .i64 r, .int .i64 more, .slice A n c, .int .i64 skip] w fun e w' => e = .returned (.bool true) ∧ Below w.heap.size w w' := by
  have HG := Lib.hid hG; clear hG
  have HN := Lib.hid hn; clear hn
  go_enter Try.func5, Try.ntmps5
  go_wp2_with fail
  refine (alive_walk _).mono ?_
  rintro e w1 ⟨rfl, hB1⟩
  have HB1 := Lib.hid hB1
  clear hB1
  by_cases h30 : 30 < n
  · have hd : decide ((n : Int) > 30) = true := by simp; omega
    go_wp2_with fail
    go_ret
    exact ⟨rfl, HB1.out⟩
  have hn2 : n ≤ 1000 := by omega
  have hd : decide ((n : Int) > 30) = false := by simp; omega
  have hcc := fun (h : Int) (w' : World) (hw : PtsIn w' A ps) => honest_walk h A n c ps w' HN.out hn2 hw
  have HCC := Lib.hid hcc
  clear hcc
  go_wp2_with fail
  refine (HCC.out r _ (HG.out.turn HB1.out)).mono ?_
  rintro e w2 ⟨rfl, hB2⟩
  have HB2 := Lib.hid (HB1.out.trans (hB2.mono HB1.out.size))
  clear hB2 HB1
  cases hh : honestB r ps
  · clear hh
    go_wp2_with fail
    go_ret
    exact ⟨rfl, HB2.out⟩
  have hP := (honestB_iff r ps).1 hh
  have hrr := hP.1
  unfold rateB at hrr
  simp at hrr
  obtain ⟨r0, r1⟩ := hrr
  have HP := Lib.hid hP
  have HH := Lib.hid hh
  clear hP hh
  by_cases m0 : r ≤ more
  · have d1 : decide (more ≥ r) = true := by simpa using m0
    by_cases m1 : more ≤ 100000
    · have d2 : decide (more ≤ 100000) = true := by simpa using m1
      have hmo : honestB more ps = true := honestB_mono m0 m1 HH.out
      have hc := HCC.out more _ (HG.out.turn HB2.out)
      rw [hmo] at hc
      clear hmo m0 m1
      go_wp2_with fail
      refine hc.mono ?_
      rintro e w3 ⟨rfl, hB3⟩
      have HB3 := Lib.hid (HB2.out.trans (hB3.mono HB2.out.size))
      clear hc hB3 HB2 d1 d2
      go_wp2_with fail
      refine (least_walk A n c ps _ HN.out hn2 (HG.out.turn HB3.out)).mono ?_
      rintro e w4 ⟨⟨k, h1, h2, h3, rfl⟩, hB4⟩
      have HB4 := Lib.hid (HB3.out.trans (hB4.mono HB3.out.size))
      have hkr : (k : Int) ≤ r := Int.not_lt.1 fun h => by
        have := h2 r.toNat (by omega)
        rw [show ((r.toNat : Nat) : Int) = r by omega, HH.out] at this; cases this
      have hk1 : k < 100001 := by omega
      have hkt := h3 hk1
      rw [if_pos hk1, decide_eq_true hk1]
      have hc := HCC.out k _ (HG.out.turn HB4.out)
      rw [hkt] at hc
      have H2 := Lib.hid h2
      have d3 : decide ((k : Int) > r) = false := by simp; omega
      clear hB4 HB3 h1 h2 h3 hkt hk1
      go_wp2_with fail
      refine hc.mono ?_
      rintro e w5 ⟨rfl, hB5⟩
      have HB5 := Lib.hid (HB4.out.trans (hB5.mono HB4.out.size))
      clear hc hB5 HB4 d3
      by_cases hk0 : k = 0
      · have d4 : decide ((k : Int) > 0) = false := by simp; omega
        clear hkr
        by_cases s0 : skip < 0
        · have d5 : decide (skip < 0) = true := by simpa using s0
          go_wp2_with fail
          go_ret
          exact ⟨rfl, HB5.out⟩
        by_cases s1 : (n : Int) ≤ skip
        · have d5 : decide (skip < 0) = false := by simp; omega
          have d6 : decide (skip ≥ (n : Int)) = true := by simpa using s1
          go_wp2_with fail
          go_ret
          exact ⟨rfl, HB5.out⟩
        obtain ⟨s, rfl⟩ := Int.eq_ofNat_of_zero_le (by omega : 0 ≤ skip)
        have d5 : decide ((s : Int) < 0) = false := by simp
        have d6 : decide ((s : Int) ≥ (n : Int)) = false := by simp; omega
        cases A with
        | none => exact absurd (hnil rfl).1 (by omega)
        | some ad =>
          have hk0 : (0 : Int) ≤ (s : Int) := by omega
          have hk2 : (s : Int) ≤ (c : Int) := by omega
          obtain ⟨t, ht⟩ : ∃ t : Nat, t = s + 1 := ⟨_, rfl⟩
          have hs1 : IntKind.i64.wrap ((s : Int) + 1) = (t : Int) := by simp [IntKind.wrap, IntKind.signed, IntKind.bits]; omega
          have hs2 : (0 : Int) ≤ (t : Int) := by omega
          have hs3 : (t : Int) ≤ (n : Int) := by omega
          have hlit := World.ownsRow_lit (base := w.heap.size) (e := 30) (size := 2) w5 #[] 0 HB5.out.size (by unfold maxLen; omega) rfl
          have HLIT := Lib.hid hlit
          have HBA := Lib.hid (HB5.out.alloc HB5.out.size (.cells #[] 30))
          have HGT := Lib.hid (fun (w' : World) (h : Below w.heap.size w w') => PtsIn.taken (HG.out.turn h) s)
          have hfin : ∀ (v3 : Value) (L : List (Int × Int)), L = ps.take s ++ ps.drop t → L.length ≤ 1000 ∧ honestB r L = true := fun v3 L hL => by
            rw [ht] at hL
            subst hL
            refine ⟨by have := (left_sub ps s).length_le; have := HN.out; omega, ?_⟩
            exact (honestB_iff r _).2 (honest_sub (left_sub ps s) HP.out)
          have HF := Lib.hid hfin
          have HTT := Lib.hid ht
          have htn : t ≤ n := by omega
          clear hlit hfin ht
          by_cases hck : c = t
          · have hdr : ps.drop t = [] := List.drop_of_length_le (by have := HN.out; omega)
            have HDR := Lib.hid hdr
            obtain rfl : n = c := by omega
            subst hck
            have hk3 : (s : Int) ≤ (n : Int) := by have := HTT.out; omega
            clear hdr
            go_wp2_with fail
            go_region_held3 (fun _ => True) (trivial) ((first
              | (refine step_append_pts (by rfl) _ _ (by rfl) w.heap.size _ [] (ps.take s) 0 (by rfl) (by rfl) HLIT.out.drew (some ad) s n (by rfl) (by have := HN.out; rw [List.length_take]; omega) (fun h => by cases h) (HGT.out _ HBA.out.drew) (by have := HN.out; simp; omega) HBA.out.drew.size ?_; intro v2 w2' hown2 hgrow2; have HB2' := Lib.hid (HBA.out.drew.grown hgrow2 HBA.out.drew.size (fun q hq => (HLIT.out.lt q hq).1)))
              | (refine step_append_pts (by rfl) _ _ (by rfl) w.heap.size v2 ([] ++ ps.take s) [] ([] ++ ps.take s).length (by rfl) (by rfl) hown2 (some ad) 0 0 (by rfl) (by rfl) (fun h => by cases h) (fun i hi => absurd hi (by simp)) (by have := HN.out; simp; omega) HB2'.out.size ?_; intro v3 w3' hown3 hgrow3)))
            have HB3' := Lib.hid (HB2'.out.grown hgrow3 HB2'.out.size (fun q hq => (hown2.lt q hq).1))
            obtain ⟨hl1, hl2⟩ := HF.out v3 (([] ++ ps.take s) ++ []) (by rw [HDR.out]; simp)
            generalize ([] ++ ps.take s) ++ [] = L at *
            obtain ⟨A5, c5, hv5, -, -, hG5⟩ := pts_of_row hown3
            subst hv5
            have hc := honest_walk r A5 L.length c5 L w3' rfl hl1 hG5
            rw [hl2] at hc
            generalize L.length = nn at *
            clear hown3 hgrow3 hown2 hgrow2 HB2' HLIT HBA HGT HF hG5 hl2
            go_wp2_with fail
            refine hc.mono ?_
            rintro e w9 ⟨rfl, hB9⟩
            have HB9 := Lib.hid (HB3'.out.trans (hB9.mono HB3'.out.size))
            clear hc hB9
            go_wp2_with fail
            go_ret
            exact ⟨rfl, HB9.out⟩
          · have HGD := Lib.hid (fun (w' : World) (h : Below w.heap.size w w') => PtsIn.slicedAt (HG.out.turn h) (k := t) (c := c) (by have := HN.out; omega) (by have := HN.out; omega))
            rw [if_neg hck] at HGD
            go_wp2_with fail
            go_region_held3 (fun _ => True) (trivial) ((first
              | (refine step_append_pts (by rfl) _ _ (by rfl) w.heap.size _ [] (ps.take s) 0 (by rfl) (by rfl) HLIT.out.drew (some ad) s c (by rfl) (by have := HN.out; rw [List.length_take]; omega) (fun h => by cases h) (HGT.out _ HBA.out.drew) (by have := HN.out; simp; omega) HBA.out.drew.size ?_; intro v2 w2' hown2 hgrow2; have HB2' := Lib.hid (HBA.out.drew.grown hgrow2 HBA.out.drew.size (fun q hq => (HLIT.out.lt q hq).1)))
              | (refine step_append_pts (by rfl) _ _ (by rfl) w.heap.size v2 ([] ++ ps.take s) (ps.drop t) ([] ++ ps.take s).length (by rfl) (by rfl) hown2 (some (ad.add (t * 2))) (n - t) (c - t) (by rfl) (by have := HN.out; rw [List.length_drop]; omega) (fun h => by cases h) (HGD.out _ HB2'.out) (by have := HN.out; simp; omega) HB2'.out.size ?_; intro v3 w3' hown3 hgrow3)))
            have HB3' := Lib.hid (HB2'.out.grown hgrow3 HB2'.out.size (fun q hq => (hown2.lt q hq).1))
            obtain ⟨hl1, hl2⟩ := HF.out v3 (([] ++ ps.take s) ++ ps.drop t) (by simp)
            generalize ([] ++ ps.take s) ++ ps.drop t = L at *
            obtain ⟨A5, c5, hv5, -, -, hG5⟩ := pts_of_row hown3
            subst hv5
            have hc := honest_walk r A5 L.length c5 L w3' rfl hl1 hG5
            rw [hl2] at hc
            generalize L.length = nn at *
            clear hown3 hgrow3 hown2 hgrow2 HB2' HLIT HBA HGT HGD HF hG5 hl2
            go_wp2_with fail
            refine hc.mono ?_
            rintro e w9 ⟨rfl, hB9⟩
            have HB9 := Lib.hid (HB3'.out.trans (hB9.mono HB3'.out.size))
            clear hc hB9
            go_wp2_with fail
            go_ret
            exact ⟨rfl, HB9.out⟩
      · have d4 : decide ((k : Int) > 0) = true := by simp; omega
        have hkm := H2.out (k - 1) (by omega)
        have hw : wrap64 ((k : Int) - 1) = ((k - 1 : Nat) : Int) := by simp [wrap64]; omega
        have hc := HCC.out ((k - 1 : Nat) : Int) _ (HG.out.turn HB5.out)
        rw [hkm] at hc
        generalize ((k - 1 : Nat) : Int) = km at *
        clear hkr hkm
        go_wp2_with fail
        refine hc.mono ?_
        rintro e w6 ⟨rfl, hB6⟩
        have HB6 := Lib.hid (HB5.out.trans (hB6.mono HB5.out.size))
        clear hc hB6 HB5
        by_cases s0 : skip < 0
        · have d5 : decide (skip < 0) = true := by simpa using s0
          go_wp2_with fail
          go_ret
          exact ⟨rfl, HB6.out⟩
        by_cases s1 : (n : Int) ≤ skip
        · have d5 : decide (skip < 0) = false := by simp; omega
          have d6 : decide (skip ≥ (n : Int)) = true := by simpa using s1
          go_wp2_with fail
          go_ret
          exact ⟨rfl, HB6.out⟩
        obtain ⟨s, rfl⟩ := Int.eq_ofNat_of_zero_le (by omega : 0 ≤ skip)
        have d5 : decide ((s : Int) < 0) = false := by simp
        have d6 : decide ((s : Int) ≥ (n : Int)) = false := by simp; omega
        cases A with
        | none => exact absurd (hnil rfl).1 (by omega)
        | some ad =>
          have hk0 : (0 : Int) ≤ (s : Int) := by omega
          have hk2 : (s : Int) ≤ (c : Int) := by omega
          obtain ⟨t, ht⟩ : ∃ t : Nat, t = s + 1 := ⟨_, rfl⟩
          have hs1 : IntKind.i64.wrap ((s : Int) + 1) = (t : Int) := by simp [IntKind.wrap, IntKind.signed, IntKind.bits]; omega
          have hs2 : (0 : Int) ≤ (t : Int) := by omega
          have hs3 : (t : Int) ≤ (n : Int) := by omega
          have hlit := World.ownsRow_lit (base := w.heap.size) (e := 30) (size := 2) w6 #[] 0 HB6.out.size (by unfold maxLen; omega) rfl
          have HLIT := Lib.hid hlit
          have HBA := Lib.hid (HB6.out.alloc HB6.out.size (.cells #[] 30))
          have HGT := Lib.hid (fun (w' : World) (h : Below w.heap.size w w') => PtsIn.taken (HG.out.turn h) s)
          have hfin : ∀ (v3 : Value) (L : List (Int × Int)), L = ps.take s ++ ps.drop t → L.length ≤ 1000 ∧ honestB r L = true := fun v3 L hL => by
            rw [ht] at hL
            subst hL
            refine ⟨by have := (left_sub ps s).length_le; have := HN.out; omega, ?_⟩
            exact (honestB_iff r _).2 (honest_sub (left_sub ps s) HP.out)
          have HF := Lib.hid hfin
          have HTT := Lib.hid ht
          have htn : t ≤ n := by omega
          clear hlit hfin ht
          by_cases hck : c = t
          · have hdr : ps.drop t = [] := List.drop_of_length_le (by have := HN.out; omega)
            have HDR := Lib.hid hdr
            obtain rfl : n = c := by omega
            subst hck
            have hk3 : (s : Int) ≤ (n : Int) := by have := HTT.out; omega
            clear hdr
            go_wp2_with fail
            go_region_held3 (fun _ => True) (trivial) ((first
              | (refine step_append_pts (by rfl) _ _ (by rfl) w.heap.size _ [] (ps.take s) 0 (by rfl) (by rfl) HLIT.out.drew (some ad) s n (by rfl) (by have := HN.out; rw [List.length_take]; omega) (fun h => by cases h) (HGT.out _ HBA.out.drew) (by have := HN.out; simp; omega) HBA.out.drew.size ?_; intro v2 w2' hown2 hgrow2; have HB2' := Lib.hid (HBA.out.drew.grown hgrow2 HBA.out.drew.size (fun q hq => (HLIT.out.lt q hq).1)))
              | (refine step_append_pts (by rfl) _ _ (by rfl) w.heap.size v2 ([] ++ ps.take s) [] ([] ++ ps.take s).length (by rfl) (by rfl) hown2 (some ad) 0 0 (by rfl) (by rfl) (fun h => by cases h) (fun i hi => absurd hi (by simp)) (by have := HN.out; simp; omega) HB2'.out.size ?_; intro v3 w3' hown3 hgrow3)))
            have HB3' := Lib.hid (HB2'.out.grown hgrow3 HB2'.out.size (fun q hq => (hown2.lt q hq).1))
            obtain ⟨hl1, hl2⟩ := HF.out v3 (([] ++ ps.take s) ++ []) (by rw [HDR.out]; simp)
            generalize ([] ++ ps.take s) ++ [] = L at *
            obtain ⟨A5, c5, hv5, -, -, hG5⟩ := pts_of_row hown3
            subst hv5
            have hc := honest_walk r A5 L.length c5 L w3' rfl hl1 hG5
            rw [hl2] at hc
            generalize L.length = nn at *
            clear hown3 hgrow3 hown2 hgrow2 HB2' HLIT HBA HGT HF hG5 hl2
            go_wp2_with fail
            refine hc.mono ?_
            rintro e w9 ⟨rfl, hB9⟩
            have HB9 := Lib.hid (HB3'.out.trans (hB9.mono HB3'.out.size))
            clear hc hB9
            go_wp2_with fail
            go_ret
            exact ⟨rfl, HB9.out⟩
          · have HGD := Lib.hid (fun (w' : World) (h : Below w.heap.size w w') => PtsIn.slicedAt (HG.out.turn h) (k := t) (c := c) (by have := HN.out; omega) (by have := HN.out; omega))
            rw [if_neg hck] at HGD
            go_wp2_with fail
            go_region_held3 (fun _ => True) (trivial) ((first
              | (refine step_append_pts (by rfl) _ _ (by rfl) w.heap.size _ [] (ps.take s) 0 (by rfl) (by rfl) HLIT.out.drew (some ad) s c (by rfl) (by have := HN.out; rw [List.length_take]; omega) (fun h => by cases h) (HGT.out _ HBA.out.drew) (by have := HN.out; simp; omega) HBA.out.drew.size ?_; intro v2 w2' hown2 hgrow2; have HB2' := Lib.hid (HBA.out.drew.grown hgrow2 HBA.out.drew.size (fun q hq => (HLIT.out.lt q hq).1)))
              | (refine step_append_pts (by rfl) _ _ (by rfl) w.heap.size v2 ([] ++ ps.take s) (ps.drop t) ([] ++ ps.take s).length (by rfl) (by rfl) hown2 (some (ad.add (t * 2))) (n - t) (c - t) (by rfl) (by have := HN.out; rw [List.length_drop]; omega) (fun h => by cases h) (HGD.out _ HB2'.out) (by have := HN.out; simp; omega) HB2'.out.size ?_; intro v3 w3' hown3 hgrow3)))
            have HB3' := Lib.hid (HB2'.out.grown hgrow3 HB2'.out.size (fun q hq => (hown2.lt q hq).1))
            obtain ⟨hl1, hl2⟩ := HF.out v3 (([] ++ ps.take s) ++ ps.drop t) (by simp)
            generalize ([] ++ ps.take s) ++ ps.drop t = L at *
            obtain ⟨A5, c5, hv5, -, -, hG5⟩ := pts_of_row hown3
            subst hv5
            have hc := honest_walk r A5 L.length c5 L w3' rfl hl1 hG5
            rw [hl2] at hc
            generalize L.length = nn at *
            clear hown3 hgrow3 hown2 hgrow2 HB2' HLIT HBA HGT HGD HF hG5 hl2
            go_wp2_with fail
            refine hc.mono ?_
            rintro e w9 ⟨rfl, hB9⟩
            have HB9 := Lib.hid (HB3'.out.trans (hB9.mono HB3'.out.size))
            clear hc hB9
            go_wp2_with fail
            go_ret
            exact ⟨rfl, HB9.out⟩
      
    · have d2 : decide (more ≤ 100000) = false := by simpa using m1
      clear m0 m1
      go_wp2_with fail
      refine (least_walk A n c ps _ HN.out hn2 (HG.out.turn HB2.out)).mono ?_
      rintro e w4 ⟨⟨k, h1, h2, h3, rfl⟩, hB4⟩
      have HB4 := Lib.hid (HB2.out.trans (hB4.mono HB2.out.size))
      have hkr : (k : Int) ≤ r := Int.not_lt.1 fun h => by
        have := h2 r.toNat (by omega)
        rw [show ((r.toNat : Nat) : Int) = r by omega, HH.out] at this; cases this
      have hk1 : k < 100001 := by omega
      have hkt := h3 hk1
      rw [if_pos hk1, decide_eq_true hk1]
      have hc := HCC.out k _ (HG.out.turn HB4.out)
      rw [hkt] at hc
      have H2 := Lib.hid h2
      have d3 : decide ((k : Int) > r) = false := by simp; omega
      clear hB4 HB2 h1 h2 h3 hkt hk1
      go_wp2_with fail
      refine hc.mono ?_
      rintro e w5 ⟨rfl, hB5⟩
      have HB5 := Lib.hid (HB4.out.trans (hB5.mono HB4.out.size))
      clear hc hB5 HB4 d3
      by_cases hk0 : k = 0
      · have d4 : decide ((k : Int) > 0) = false := by simp; omega
        clear hkr
        by_cases s0 : skip < 0
        · have d5 : decide (skip < 0) = true := by simpa using s0
          go_wp2_with fail
          go_ret
          exact ⟨rfl, HB5.out⟩
        by_cases s1 : (n : Int) ≤ skip
        · have d5 : decide (skip < 0) = false := by simp; omega
          have d6 : decide (skip ≥ (n : Int)) = true := by simpa using s1
          go_wp2_with fail
          go_ret
          exact ⟨rfl, HB5.out⟩
        obtain ⟨s, rfl⟩ := Int.eq_ofNat_of_zero_le (by omega : 0 ≤ skip)
        have d5 : decide ((s : Int) < 0) = false := by simp
        have d6 : decide ((s : Int) ≥ (n : Int)) = false := by simp; omega
        cases A with
        | none => exact absurd (hnil rfl).1 (by omega)
        | some ad =>
          have hk0 : (0 : Int) ≤ (s : Int) := by omega
          have hk2 : (s : Int) ≤ (c : Int) := by omega
          obtain ⟨t, ht⟩ : ∃ t : Nat, t = s + 1 := ⟨_, rfl⟩
          have hs1 : IntKind.i64.wrap ((s : Int) + 1) = (t : Int) := by simp [IntKind.wrap, IntKind.signed, IntKind.bits]; omega
          have hs2 : (0 : Int) ≤ (t : Int) := by omega
          have hs3 : (t : Int) ≤ (n : Int) := by omega
          have hlit := World.ownsRow_lit (base := w.heap.size) (e := 30) (size := 2) w5 #[] 0 HB5.out.size (by unfold maxLen; omega) rfl
          have HLIT := Lib.hid hlit
          have HBA := Lib.hid (HB5.out.alloc HB5.out.size (.cells #[] 30))
          have HGT := Lib.hid (fun (w' : World) (h : Below w.heap.size w w') => PtsIn.taken (HG.out.turn h) s)
          have hfin : ∀ (v3 : Value) (L : List (Int × Int)), L = ps.take s ++ ps.drop t → L.length ≤ 1000 ∧ honestB r L = true := fun v3 L hL => by
            rw [ht] at hL
            subst hL
            refine ⟨by have := (left_sub ps s).length_le; have := HN.out; omega, ?_⟩
            exact (honestB_iff r _).2 (honest_sub (left_sub ps s) HP.out)
          have HF := Lib.hid hfin
          have HTT := Lib.hid ht
          have htn : t ≤ n := by omega
          clear hlit hfin ht
          by_cases hck : c = t
          · have hdr : ps.drop t = [] := List.drop_of_length_le (by have := HN.out; omega)
            have HDR := Lib.hid hdr
            obtain rfl : n = c := by omega
            subst hck
            have hk3 : (s : Int) ≤ (n : Int) := by have := HTT.out; omega
            clear hdr
            go_wp2_with fail
            go_region_held3 (fun _ => True) (trivial) ((first
              | (refine step_append_pts (by rfl) _ _ (by rfl) w.heap.size _ [] (ps.take s) 0 (by rfl) (by rfl) HLIT.out.drew (some ad) s n (by rfl) (by have := HN.out; rw [List.length_take]; omega) (fun h => by cases h) (HGT.out _ HBA.out.drew) (by have := HN.out; simp; omega) HBA.out.drew.size ?_; intro v2 w2' hown2 hgrow2; have HB2' := Lib.hid (HBA.out.drew.grown hgrow2 HBA.out.drew.size (fun q hq => (HLIT.out.lt q hq).1)))
              | (refine step_append_pts (by rfl) _ _ (by rfl) w.heap.size v2 ([] ++ ps.take s) [] ([] ++ ps.take s).length (by rfl) (by rfl) hown2 (some ad) 0 0 (by rfl) (by rfl) (fun h => by cases h) (fun i hi => absurd hi (by simp)) (by have := HN.out; simp; omega) HB2'.out.size ?_; intro v3 w3' hown3 hgrow3)))
            have HB3' := Lib.hid (HB2'.out.grown hgrow3 HB2'.out.size (fun q hq => (hown2.lt q hq).1))
            obtain ⟨hl1, hl2⟩ := HF.out v3 (([] ++ ps.take s) ++ []) (by rw [HDR.out]; simp)
            generalize ([] ++ ps.take s) ++ [] = L at *
            obtain ⟨A5, c5, hv5, -, -, hG5⟩ := pts_of_row hown3
            subst hv5
            have hc := honest_walk r A5 L.length c5 L w3' rfl hl1 hG5
            rw [hl2] at hc
            generalize L.length = nn at *
            clear hown3 hgrow3 hown2 hgrow2 HB2' HLIT HBA HGT HF hG5 hl2
            go_wp2_with fail
            refine hc.mono ?_
            rintro e w9 ⟨rfl, hB9⟩
            have HB9 := Lib.hid (HB3'.out.trans (hB9.mono HB3'.out.size))
            clear hc hB9
            go_wp2_with fail
            go_ret
            exact ⟨rfl, HB9.out⟩
          · have HGD := Lib.hid (fun (w' : World) (h : Below w.heap.size w w') => PtsIn.slicedAt (HG.out.turn h) (k := t) (c := c) (by have := HN.out; omega) (by have := HN.out; omega))
            rw [if_neg hck] at HGD
            go_wp2_with fail
            go_region_held3 (fun _ => True) (trivial) ((first
              | (refine step_append_pts (by rfl) _ _ (by rfl) w.heap.size _ [] (ps.take s) 0 (by rfl) (by rfl) HLIT.out.drew (some ad) s c (by rfl) (by have := HN.out; rw [List.length_take]; omega) (fun h => by cases h) (HGT.out _ HBA.out.drew) (by have := HN.out; simp; omega) HBA.out.drew.size ?_; intro v2 w2' hown2 hgrow2; have HB2' := Lib.hid (HBA.out.drew.grown hgrow2 HBA.out.drew.size (fun q hq => (HLIT.out.lt q hq).1)))
              | (refine step_append_pts (by rfl) _ _ (by rfl) w.heap.size v2 ([] ++ ps.take s) (ps.drop t) ([] ++ ps.take s).length (by rfl) (by rfl) hown2 (some (ad.add (t * 2))) (n - t) (c - t) (by rfl) (by have := HN.out; rw [List.length_drop]; omega) (fun h => by cases h) (HGD.out _ HB2'.out) (by have := HN.out; simp; omega) HB2'.out.size ?_; intro v3 w3' hown3 hgrow3)))
            have HB3' := Lib.hid (HB2'.out.grown hgrow3 HB2'.out.size (fun q hq => (hown2.lt q hq).1))
            obtain ⟨hl1, hl2⟩ := HF.out v3 (([] ++ ps.take s) ++ ps.drop t) (by simp)
            generalize ([] ++ ps.take s) ++ ps.drop t = L at *
            obtain ⟨A5, c5, hv5, -, -, hG5⟩ := pts_of_row hown3
            subst hv5
            have hc := honest_walk r A5 L.length c5 L w3' rfl hl1 hG5
            rw [hl2] at hc
            generalize L.length = nn at *
            clear hown3 hgrow3 hown2 hgrow2 HB2' HLIT HBA HGT HGD HF hG5 hl2
            go_wp2_with fail
            refine hc.mono ?_
            rintro e w9 ⟨rfl, hB9⟩
            have HB9 := Lib.hid (HB3'.out.trans (hB9.mono HB3'.out.size))
            clear hc hB9
            go_wp2_with fail
            go_ret
            exact ⟨rfl, HB9.out⟩
      · have d4 : decide ((k : Int) > 0) = true := by simp; omega
        have hkm := H2.out (k - 1) (by omega)
        have hw : wrap64 ((k : Int) - 1) = ((k - 1 : Nat) : Int) := by simp [wrap64]; omega
        have hc := HCC.out ((k - 1 : Nat) : Int) _ (HG.out.turn HB5.out)
        rw [hkm] at hc
        generalize ((k - 1 : Nat) : Int) = km at *
        clear hkr hkm
        go_wp2_with fail
        refine hc.mono ?_
        rintro e w6 ⟨rfl, hB6⟩
        have HB6 := Lib.hid (HB5.out.trans (hB6.mono HB5.out.size))
        clear hc hB6 HB5
        by_cases s0 : skip < 0
        · have d5 : decide (skip < 0) = true := by simpa using s0
          go_wp2_with fail
          go_ret
          exact ⟨rfl, HB6.out⟩
        by_cases s1 : (n : Int) ≤ skip
        · have d5 : decide (skip < 0) = false := by simp; omega
          have d6 : decide (skip ≥ (n : Int)) = true := by simpa using s1
          go_wp2_with fail
          go_ret
          exact ⟨rfl, HB6.out⟩
        obtain ⟨s, rfl⟩ := Int.eq_ofNat_of_zero_le (by omega : 0 ≤ skip)
        have d5 : decide ((s : Int) < 0) = false := by simp
        have d6 : decide ((s : Int) ≥ (n : Int)) = false := by simp; omega
        cases A with
        | none => exact absurd (hnil rfl).1 (by omega)
        | some ad =>
          have hk0 : (0 : Int) ≤ (s : Int) := by omega
          have hk2 : (s : Int) ≤ (c : Int) := by omega
          obtain ⟨t, ht⟩ : ∃ t : Nat, t = s + 1 := ⟨_, rfl⟩
          have hs1 : IntKind.i64.wrap ((s : Int) + 1) = (t : Int) := by simp [IntKind.wrap, IntKind.signed, IntKind.bits]; omega
          have hs2 : (0 : Int) ≤ (t : Int) := by omega
          have hs3 : (t : Int) ≤ (n : Int) := by omega
          have hlit := World.ownsRow_lit (base := w.heap.size) (e := 30) (size := 2) w6 #[] 0 HB6.out.size (by unfold maxLen; omega) rfl
          have HLIT := Lib.hid hlit
          have HBA := Lib.hid (HB6.out.alloc HB6.out.size (.cells #[] 30))
          have HGT := Lib.hid (fun (w' : World) (h : Below w.heap.size w w') => PtsIn.taken (HG.out.turn h) s)
          have hfin : ∀ (v3 : Value) (L : List (Int × Int)), L = ps.take s ++ ps.drop t → L.length ≤ 1000 ∧ honestB r L = true := fun v3 L hL => by
            rw [ht] at hL
            subst hL
            refine ⟨by have := (left_sub ps s).length_le; have := HN.out; omega, ?_⟩
            exact (honestB_iff r _).2 (honest_sub (left_sub ps s) HP.out)
          have HF := Lib.hid hfin
          have HTT := Lib.hid ht
          have htn : t ≤ n := by omega
          clear hlit hfin ht
          by_cases hck : c = t
          · have hdr : ps.drop t = [] := List.drop_of_length_le (by have := HN.out; omega)
            have HDR := Lib.hid hdr
            obtain rfl : n = c := by omega
            subst hck
            have hk3 : (s : Int) ≤ (n : Int) := by have := HTT.out; omega
            clear hdr
            go_wp2_with fail
            go_region_held3 (fun _ => True) (trivial) ((first
              | (refine step_append_pts (by rfl) _ _ (by rfl) w.heap.size _ [] (ps.take s) 0 (by rfl) (by rfl) HLIT.out.drew (some ad) s n (by rfl) (by have := HN.out; rw [List.length_take]; omega) (fun h => by cases h) (HGT.out _ HBA.out.drew) (by have := HN.out; simp; omega) HBA.out.drew.size ?_; intro v2 w2' hown2 hgrow2; have HB2' := Lib.hid (HBA.out.drew.grown hgrow2 HBA.out.drew.size (fun q hq => (HLIT.out.lt q hq).1)))
              | (refine step_append_pts (by rfl) _ _ (by rfl) w.heap.size v2 ([] ++ ps.take s) [] ([] ++ ps.take s).length (by rfl) (by rfl) hown2 (some ad) 0 0 (by rfl) (by rfl) (fun h => by cases h) (fun i hi => absurd hi (by simp)) (by have := HN.out; simp; omega) HB2'.out.size ?_; intro v3 w3' hown3 hgrow3)))
            have HB3' := Lib.hid (HB2'.out.grown hgrow3 HB2'.out.size (fun q hq => (hown2.lt q hq).1))
            obtain ⟨hl1, hl2⟩ := HF.out v3 (([] ++ ps.take s) ++ []) (by rw [HDR.out]; simp)
            generalize ([] ++ ps.take s) ++ [] = L at *
            obtain ⟨A5, c5, hv5, -, -, hG5⟩ := pts_of_row hown3
            subst hv5
            have hc := honest_walk r A5 L.length c5 L w3' rfl hl1 hG5
            rw [hl2] at hc
            generalize L.length = nn at *
            clear hown3 hgrow3 hown2 hgrow2 HB2' HLIT HBA HGT HF hG5 hl2
            go_wp2_with fail
            refine hc.mono ?_
            rintro e w9 ⟨rfl, hB9⟩
            have HB9 := Lib.hid (HB3'.out.trans (hB9.mono HB3'.out.size))
            clear hc hB9
            go_wp2_with fail
            go_ret
            exact ⟨rfl, HB9.out⟩
          · have HGD := Lib.hid (fun (w' : World) (h : Below w.heap.size w w') => PtsIn.slicedAt (HG.out.turn h) (k := t) (c := c) (by have := HN.out; omega) (by have := HN.out; omega))
            rw [if_neg hck] at HGD
            go_wp2_with fail
            go_region_held3 (fun _ => True) (trivial) ((first
              | (refine step_append_pts (by rfl) _ _ (by rfl) w.heap.size _ [] (ps.take s) 0 (by rfl) (by rfl) HLIT.out.drew (some ad) s c (by rfl) (by have := HN.out; rw [List.length_take]; omega) (fun h => by cases h) (HGT.out _ HBA.out.drew) (by have := HN.out; simp; omega) HBA.out.drew.size ?_; intro v2 w2' hown2 hgrow2; have HB2' := Lib.hid (HBA.out.drew.grown hgrow2 HBA.out.drew.size (fun q hq => (HLIT.out.lt q hq).1)))
              | (refine step_append_pts (by rfl) _ _ (by rfl) w.heap.size v2 ([] ++ ps.take s) (ps.drop t) ([] ++ ps.take s).length (by rfl) (by rfl) hown2 (some (ad.add (t * 2))) (n - t) (c - t) (by rfl) (by have := HN.out; rw [List.length_drop]; omega) (fun h => by cases h) (HGD.out _ HB2'.out) (by have := HN.out; simp; omega) HB2'.out.size ?_; intro v3 w3' hown3 hgrow3)))
            have HB3' := Lib.hid (HB2'.out.grown hgrow3 HB2'.out.size (fun q hq => (hown2.lt q hq).1))
            obtain ⟨hl1, hl2⟩ := HF.out v3 (([] ++ ps.take s) ++ ps.drop t) (by simp)
            generalize ([] ++ ps.take s) ++ ps.drop t = L at *
            obtain ⟨A5, c5, hv5, -, -, hG5⟩ := pts_of_row hown3
            subst hv5
            have hc := honest_walk r A5 L.length c5 L w3' rfl hl1 hG5
            rw [hl2] at hc
            generalize L.length = nn at *
            clear hown3 hgrow3 hown2 hgrow2 HB2' HLIT HBA HGT HGD HF hG5 hl2
            go_wp2_with fail
            refine hc.mono ?_
            rintro e w9 ⟨rfl, hB9⟩
            have HB9 := Lib.hid (HB3'.out.trans (hB9.mono HB3'.out.size))
            clear hc hB9
            go_wp2_with fail
            go_ret
            exact ⟨rfl, HB9.out⟩
      
  · have d1 : decide (more ≥ r) = false := by simp; omega
    clear m0
    go_wp2_with fail
    refine (least_walk A n c ps _ HN.out hn2 (HG.out.turn HB2.out)).mono ?_
    rintro e w4 ⟨⟨k, h1, h2, h3, rfl⟩, hB4⟩
    have HB4 := Lib.hid (HB2.out.trans (hB4.mono HB2.out.size))
    have hkr : (k : Int) ≤ r := Int.not_lt.1 fun h => by
      have := h2 r.toNat (by omega)
      rw [show ((r.toNat : Nat) : Int) = r by omega, HH.out] at this; cases this
    have hk1 : k < 100001 := by omega
    have hkt := h3 hk1
    rw [if_pos hk1, decide_eq_true hk1]
    have hc := HCC.out k _ (HG.out.turn HB4.out)
    rw [hkt] at hc
    have H2 := Lib.hid h2
    have d3 : decide ((k : Int) > r) = false := by simp; omega
    clear hB4 HB2 h1 h2 h3 hkt hk1
    go_wp2_with fail
    refine hc.mono ?_
    rintro e w5 ⟨rfl, hB5⟩
    have HB5 := Lib.hid (HB4.out.trans (hB5.mono HB4.out.size))
    clear hc hB5 HB4 d3
    by_cases hk0 : k = 0
    · have d4 : decide ((k : Int) > 0) = false := by simp; omega
      clear hkr
      by_cases s0 : skip < 0
      · have d5 : decide (skip < 0) = true := by simpa using s0
        go_wp2_with fail
        go_ret
        exact ⟨rfl, HB5.out⟩
      by_cases s1 : (n : Int) ≤ skip
      · have d5 : decide (skip < 0) = false := by simp; omega
        have d6 : decide (skip ≥ (n : Int)) = true := by simpa using s1
        go_wp2_with fail
        go_ret
        exact ⟨rfl, HB5.out⟩
      obtain ⟨s, rfl⟩ := Int.eq_ofNat_of_zero_le (by omega : 0 ≤ skip)
      have d5 : decide ((s : Int) < 0) = false := by simp
      have d6 : decide ((s : Int) ≥ (n : Int)) = false := by simp; omega
      cases A with
      | none => exact absurd (hnil rfl).1 (by omega)
      | some ad =>
        have hk0 : (0 : Int) ≤ (s : Int) := by omega
        have hk2 : (s : Int) ≤ (c : Int) := by omega
        obtain ⟨t, ht⟩ : ∃ t : Nat, t = s + 1 := ⟨_, rfl⟩
        have hs1 : IntKind.i64.wrap ((s : Int) + 1) = (t : Int) := by simp [IntKind.wrap, IntKind.signed, IntKind.bits]; omega
        have hs2 : (0 : Int) ≤ (t : Int) := by omega
        have hs3 : (t : Int) ≤ (n : Int) := by omega
        have hlit := World.ownsRow_lit (base := w.heap.size) (e := 30) (size := 2) w5 #[] 0 HB5.out.size (by unfold maxLen; omega) rfl
        have HLIT := Lib.hid hlit
        have HBA := Lib.hid (HB5.out.alloc HB5.out.size (.cells #[] 30))
        have HGT := Lib.hid (fun (w' : World) (h : Below w.heap.size w w') => PtsIn.taken (HG.out.turn h) s)
        have hfin : ∀ (v3 : Value) (L : List (Int × Int)), L = ps.take s ++ ps.drop t → L.length ≤ 1000 ∧ honestB r L = true := fun v3 L hL => by
          rw [ht] at hL
          subst hL
          refine ⟨by have := (left_sub ps s).length_le; have := HN.out; omega, ?_⟩
          exact (honestB_iff r _).2 (honest_sub (left_sub ps s) HP.out)
        have HF := Lib.hid hfin
        have HTT := Lib.hid ht
        have htn : t ≤ n := by omega
        clear hlit hfin ht
        by_cases hck : c = t
        · have hdr : ps.drop t = [] := List.drop_of_length_le (by have := HN.out; omega)
          have HDR := Lib.hid hdr
          obtain rfl : n = c := by omega
          subst hck
          have hk3 : (s : Int) ≤ (n : Int) := by have := HTT.out; omega
          clear hdr
          go_wp2_with fail
          go_region_held3 (fun _ => True) (trivial) ((first
            | (refine step_append_pts (by rfl) _ _ (by rfl) w.heap.size _ [] (ps.take s) 0 (by rfl) (by rfl) HLIT.out.drew (some ad) s n (by rfl) (by have := HN.out; rw [List.length_take]; omega) (fun h => by cases h) (HGT.out _ HBA.out.drew) (by have := HN.out; simp; omega) HBA.out.drew.size ?_; intro v2 w2' hown2 hgrow2; have HB2' := Lib.hid (HBA.out.drew.grown hgrow2 HBA.out.drew.size (fun q hq => (HLIT.out.lt q hq).1)))
            | (refine step_append_pts (by rfl) _ _ (by rfl) w.heap.size v2 ([] ++ ps.take s) [] ([] ++ ps.take s).length (by rfl) (by rfl) hown2 (some ad) 0 0 (by rfl) (by rfl) (fun h => by cases h) (fun i hi => absurd hi (by simp)) (by have := HN.out; simp; omega) HB2'.out.size ?_; intro v3 w3' hown3 hgrow3)))
          have HB3' := Lib.hid (HB2'.out.grown hgrow3 HB2'.out.size (fun q hq => (hown2.lt q hq).1))
          obtain ⟨hl1, hl2⟩ := HF.out v3 (([] ++ ps.take s) ++ []) (by rw [HDR.out]; simp)
          generalize ([] ++ ps.take s) ++ [] = L at *
          obtain ⟨A5, c5, hv5, -, -, hG5⟩ := pts_of_row hown3
          subst hv5
          have hc := honest_walk r A5 L.length c5 L w3' rfl hl1 hG5
          rw [hl2] at hc
          generalize L.length = nn at *
          clear hown3 hgrow3 hown2 hgrow2 HB2' HLIT HBA HGT HF hG5 hl2
          go_wp2_with fail
          refine hc.mono ?_
          rintro e w9 ⟨rfl, hB9⟩
          have HB9 := Lib.hid (HB3'.out.trans (hB9.mono HB3'.out.size))
          clear hc hB9
          go_wp2_with fail
          go_ret
          exact ⟨rfl, HB9.out⟩
        · have HGD := Lib.hid (fun (w' : World) (h : Below w.heap.size w w') => PtsIn.slicedAt (HG.out.turn h) (k := t) (c := c) (by have := HN.out; omega) (by have := HN.out; omega))
          rw [if_neg hck] at HGD
          go_wp2_with fail
          go_region_held3 (fun _ => True) (trivial) ((first
            | (refine step_append_pts (by rfl) _ _ (by rfl) w.heap.size _ [] (ps.take s) 0 (by rfl) (by rfl) HLIT.out.drew (some ad) s c (by rfl) (by have := HN.out; rw [List.length_take]; omega) (fun h => by cases h) (HGT.out _ HBA.out.drew) (by have := HN.out; simp; omega) HBA.out.drew.size ?_; intro v2 w2' hown2 hgrow2; have HB2' := Lib.hid (HBA.out.drew.grown hgrow2 HBA.out.drew.size (fun q hq => (HLIT.out.lt q hq).1)))
            | (refine step_append_pts (by rfl) _ _ (by rfl) w.heap.size v2 ([] ++ ps.take s) (ps.drop t) ([] ++ ps.take s).length (by rfl) (by rfl) hown2 (some (ad.add (t * 2))) (n - t) (c - t) (by rfl) (by have := HN.out; rw [List.length_drop]; omega) (fun h => by cases h) (HGD.out _ HB2'.out) (by have := HN.out; simp; omega) HB2'.out.size ?_; intro v3 w3' hown3 hgrow3)))
          have HB3' := Lib.hid (HB2'.out.grown hgrow3 HB2'.out.size (fun q hq => (hown2.lt q hq).1))
          obtain ⟨hl1, hl2⟩ := HF.out v3 (([] ++ ps.take s) ++ ps.drop t) (by simp)
          generalize ([] ++ ps.take s) ++ ps.drop t = L at *
          obtain ⟨A5, c5, hv5, -, -, hG5⟩ := pts_of_row hown3
          subst hv5
          have hc := honest_walk r A5 L.length c5 L w3' rfl hl1 hG5
          rw [hl2] at hc
          generalize L.length = nn at *
          clear hown3 hgrow3 hown2 hgrow2 HB2' HLIT HBA HGT HGD HF hG5 hl2
          go_wp2_with fail
          refine hc.mono ?_
          rintro e w9 ⟨rfl, hB9⟩
          have HB9 := Lib.hid (HB3'.out.trans (hB9.mono HB3'.out.size))
          clear hc hB9
          go_wp2_with fail
          go_ret
          exact ⟨rfl, HB9.out⟩
    · have d4 : decide ((k : Int) > 0) = true := by simp; omega
      have hkm := H2.out (k - 1) (by omega)
      have hw : wrap64 ((k : Int) - 1) = ((k - 1 : Nat) : Int) := by simp [wrap64]; omega
      have hc := HCC.out ((k - 1 : Nat) : Int) _ (HG.out.turn HB5.out)
      rw [hkm] at hc
      generalize ((k - 1 : Nat) : Int) = km at *
      clear hkr hkm
      go_wp2_with fail
      refine hc.mono ?_
      rintro e w6 ⟨rfl, hB6⟩
      have HB6 := Lib.hid (HB5.out.trans (hB6.mono HB5.out.size))
      clear hc hB6 HB5
      by_cases s0 : skip < 0
      · have d5 : decide (skip < 0) = true := by simpa using s0
        go_wp2_with fail
        go_ret
        exact ⟨rfl, HB6.out⟩
      by_cases s1 : (n : Int) ≤ skip
      · have d5 : decide (skip < 0) = false := by simp; omega
        have d6 : decide (skip ≥ (n : Int)) = true := by simpa using s1
        go_wp2_with fail
        go_ret
        exact ⟨rfl, HB6.out⟩
      obtain ⟨s, rfl⟩ := Int.eq_ofNat_of_zero_le (by omega : 0 ≤ skip)
      have d5 : decide ((s : Int) < 0) = false := by simp
      have d6 : decide ((s : Int) ≥ (n : Int)) = false := by simp; omega
      cases A with
      | none => exact absurd (hnil rfl).1 (by omega)
      | some ad =>
        have hk0 : (0 : Int) ≤ (s : Int) := by omega
        have hk2 : (s : Int) ≤ (c : Int) := by omega
        obtain ⟨t, ht⟩ : ∃ t : Nat, t = s + 1 := ⟨_, rfl⟩
        have hs1 : IntKind.i64.wrap ((s : Int) + 1) = (t : Int) := by simp [IntKind.wrap, IntKind.signed, IntKind.bits]; omega
        have hs2 : (0 : Int) ≤ (t : Int) := by omega
        have hs3 : (t : Int) ≤ (n : Int) := by omega
        have hlit := World.ownsRow_lit (base := w.heap.size) (e := 30) (size := 2) w6 #[] 0 HB6.out.size (by unfold maxLen; omega) rfl
        have HLIT := Lib.hid hlit
        have HBA := Lib.hid (HB6.out.alloc HB6.out.size (.cells #[] 30))
        have HGT := Lib.hid (fun (w' : World) (h : Below w.heap.size w w') => PtsIn.taken (HG.out.turn h) s)
        have hfin : ∀ (v3 : Value) (L : List (Int × Int)), L = ps.take s ++ ps.drop t → L.length ≤ 1000 ∧ honestB r L = true := fun v3 L hL => by
          rw [ht] at hL
          subst hL
          refine ⟨by have := (left_sub ps s).length_le; have := HN.out; omega, ?_⟩
          exact (honestB_iff r _).2 (honest_sub (left_sub ps s) HP.out)
        have HF := Lib.hid hfin
        have HTT := Lib.hid ht
        have htn : t ≤ n := by omega
        clear hlit hfin ht
        by_cases hck : c = t
        · have hdr : ps.drop t = [] := List.drop_of_length_le (by have := HN.out; omega)
          have HDR := Lib.hid hdr
          obtain rfl : n = c := by omega
          subst hck
          have hk3 : (s : Int) ≤ (n : Int) := by have := HTT.out; omega
          clear hdr
          go_wp2_with fail
          go_region_held3 (fun _ => True) (trivial) ((first
            | (refine step_append_pts (by rfl) _ _ (by rfl) w.heap.size _ [] (ps.take s) 0 (by rfl) (by rfl) HLIT.out.drew (some ad) s n (by rfl) (by have := HN.out; rw [List.length_take]; omega) (fun h => by cases h) (HGT.out _ HBA.out.drew) (by have := HN.out; simp; omega) HBA.out.drew.size ?_; intro v2 w2' hown2 hgrow2; have HB2' := Lib.hid (HBA.out.drew.grown hgrow2 HBA.out.drew.size (fun q hq => (HLIT.out.lt q hq).1)))
            | (refine step_append_pts (by rfl) _ _ (by rfl) w.heap.size v2 ([] ++ ps.take s) [] ([] ++ ps.take s).length (by rfl) (by rfl) hown2 (some ad) 0 0 (by rfl) (by rfl) (fun h => by cases h) (fun i hi => absurd hi (by simp)) (by have := HN.out; simp; omega) HB2'.out.size ?_; intro v3 w3' hown3 hgrow3)))
          have HB3' := Lib.hid (HB2'.out.grown hgrow3 HB2'.out.size (fun q hq => (hown2.lt q hq).1))
          obtain ⟨hl1, hl2⟩ := HF.out v3 (([] ++ ps.take s) ++ []) (by rw [HDR.out]; simp)
          generalize ([] ++ ps.take s) ++ [] = L at *
          obtain ⟨A5, c5, hv5, -, -, hG5⟩ := pts_of_row hown3
          subst hv5
          have hc := honest_walk r A5 L.length c5 L w3' rfl hl1 hG5
          rw [hl2] at hc
          generalize L.length = nn at *
          clear hown3 hgrow3 hown2 hgrow2 HB2' HLIT HBA HGT HF hG5 hl2
          go_wp2_with fail
          refine hc.mono ?_
          rintro e w9 ⟨rfl, hB9⟩
          have HB9 := Lib.hid (HB3'.out.trans (hB9.mono HB3'.out.size))
          clear hc hB9
          go_wp2_with fail
          go_ret
          exact ⟨rfl, HB9.out⟩
        · have HGD := Lib.hid (fun (w' : World) (h : Below w.heap.size w w') => PtsIn.slicedAt (HG.out.turn h) (k := t) (c := c) (by have := HN.out; omega) (by have := HN.out; omega))
          rw [if_neg hck] at HGD
          go_wp2_with fail
          go_region_held3 (fun _ => True) (trivial) ((first
            | (refine step_append_pts (by rfl) _ _ (by rfl) w.heap.size _ [] (ps.take s) 0 (by rfl) (by rfl) HLIT.out.drew (some ad) s c (by rfl) (by have := HN.out; rw [List.length_take]; omega) (fun h => by cases h) (HGT.out _ HBA.out.drew) (by have := HN.out; simp; omega) HBA.out.drew.size ?_; intro v2 w2' hown2 hgrow2; have HB2' := Lib.hid (HBA.out.drew.grown hgrow2 HBA.out.drew.size (fun q hq => (HLIT.out.lt q hq).1)))
            | (refine step_append_pts (by rfl) _ _ (by rfl) w.heap.size v2 ([] ++ ps.take s) (ps.drop t) ([] ++ ps.take s).length (by rfl) (by rfl) hown2 (some (ad.add (t * 2))) (n - t) (c - t) (by rfl) (by have := HN.out; rw [List.length_drop]; omega) (fun h => by cases h) (HGD.out _ HB2'.out) (by have := HN.out; simp; omega) HB2'.out.size ?_; intro v3 w3' hown3 hgrow3)))
          have HB3' := Lib.hid (HB2'.out.grown hgrow3 HB2'.out.size (fun q hq => (hown2.lt q hq).1))
          obtain ⟨hl1, hl2⟩ := HF.out v3 (([] ++ ps.take s) ++ ps.drop t) (by simp)
          generalize ([] ++ ps.take s) ++ ps.drop t = L at *
          obtain ⟨A5, c5, hv5, -, -, hG5⟩ := pts_of_row hown3
          subst hv5
          have hc := honest_walk r A5 L.length c5 L w3' rfl hl1 hG5
          rw [hl2] at hc
          generalize L.length = nn at *
          clear hown3 hgrow3 hown2 hgrow2 HB2' HLIT HBA HGT HGD HF hG5 hl2
          go_wp2_with fail
          refine hc.mono ?_
          rintro e w9 ⟨rfl, hB9⟩
          have HB9 := Lib.hid (HB3'.out.trans (hB9.mono HB3'.out.size))
          clear hc hB9
          go_wp2_with fail
          go_ret
          exact ⟨rfl, HB9.out⟩
    

end Go.Proofs.Ytigepekcjigpaaa
