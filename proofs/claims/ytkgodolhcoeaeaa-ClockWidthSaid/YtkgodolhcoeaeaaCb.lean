/- Clock: safe.Add, cut and a sample's At, walked. No condition. -/
import Derived.Test.YtkgodolhcoeaeaaCa
import Derived.Test.YtkgodolhcoeaeaaKmax
import Derived.Deep.DeepCutAuto
namespace Go.Proofs.Ytkgodolhcoeaeaa
open Go.RowKit

def inL (x : Int) : Prop := -9223372036854775808 ≤ x ∧ x ≤ 9223372036854775807

theorem add_in (a b : Int) (ha : inL a) (hb : inL b) (hs : inL (a + b)) (w : World) : Calls Try.prog 40 #[.int .i64 a, .int .i64 b] w fun e w' => e = .returned (.tuple #[.int .i64 (a + b), .int .i64 0]) ∧ w' = w := by
  unfold inL at *
  have hw : wrap64 (a + b) = a + b := by simp [wrap64]; omega
  go_enter Try.func40, Try.ntmps40
  by_cases h1 : 0 ≤ a
  · by_cases h2 : 0 ≤ b
    · have d1 : decide (0 ≤ a) = true := by simpa using h1
      have d2 : decide (0 ≤ b) = true := by simpa using h2
      have d3 : decide (0 ≤ a + b) = true := by simp; omega
      go_wp2_with fail
      go_ret2
      exact ⟨by simp, rfl⟩
    · have d1 : decide (0 ≤ a) = true := by simpa using h1
      have d2 : decide (0 ≤ b) = false := by simpa using h2
      go_wp2_with fail
      go_ret2
      exact ⟨by simp, rfl⟩
  · by_cases h2 : 0 ≤ b
    · have d1 : decide (0 ≤ a) = false := by simpa using h1
      have d2 : decide (0 ≤ b) = true := by simpa using h2
      go_wp2_with fail
      go_ret2
      exact ⟨by simp, rfl⟩
    · have d1 : decide (0 ≤ a) = false := by simpa using h1
      have d2 : decide (0 ≤ b) = false := by simpa using h2
      have d3 : decide (0 ≤ a + b) = false := by simp; omega
      go_wp2_with fail
      go_ret2
      exact ⟨by simp, rfl⟩

theorem add_over (a b : Int) (ha : inL a) (hb : inL b) (hs : ¬ inL (a + b)) (w : World) : Calls Try.prog 40 #[.int .i64 a, .int .i64 b] w fun e w' => e = .returned (.tuple #[.int .i64 0, .int .i64 12]) ∧ w' = w := by
  unfold inL at *
  by_cases h1 : 0 ≤ a
  · have h2 : 0 ≤ b := by omega
    have hw : wrap64 (a + b) = a + b - 18446744073709551616 := by simp [wrap64]; omega
    go_enter Try.func40, Try.ntmps40
    have d1 : decide (0 ≤ a) = true := by simpa using h1
    have d2 : decide (0 ≤ b) = true := by simpa using h2
    have d3 : decide (0 ≤ a + b - 18446744073709551616) = false := by simp; omega
    have d4 : decide (18446744073709551616 ≤ a + b) = false := by simp; omega
    go_wp2_with fail
    go_ret2
    exact ⟨by simp, rfl⟩
  · have h2 : ¬ 0 ≤ b := by omega
    have hw : wrap64 (a + b) = a + b + 18446744073709551616 := by simp [wrap64]; omega
    go_enter Try.func40, Try.ntmps40
    have d1 : decide (0 ≤ a) = false := by simpa using h1
    have d2 : decide (0 ≤ b) = false := by simpa using h2
    have d3 : decide (0 ≤ a + b + 18446744073709551616) = true := by simp; omega
    go_wp2_with fail
    go_ret2
    exact ⟨by simp, rfl⟩

/-- A sum within the times, as near as can be. -/
theorem cut_walk (a b : Int) (ha : inL a) (hb : inL b) (w : World) : Calls Try.prog 27 #[.int .i64 a, .int .i64 b] w fun e w' => e = .returned (.int .i64 (cutL a b)) ∧ w' = w := by
  by_cases hs : inL (a + b)
  · have hc : cutL a b = a + b := by unfold cutL; unfold inL at hs; rw [if_neg (by omega)]
    have hk := fun w => add_in a b ha hb hs w
    rw [hc]
    clear hc
    go_enter Try.func27, Try.ntmps27
    go_wp2_with fail
    refine (hk _).mono ?_
    rintro e w' ⟨rfl, rfl⟩
    go_wp2_with fail
    go_ret
    exact ⟨rfl, rfl⟩
  · have hc : cutL a b = 4611686018427387904 := by unfold cutL; unfold inL at hs; rw [if_pos (by omega)]
    have hk := fun w => add_over a b ha hb hs w
    rw [hc]
    clear hc
    go_enter Try.func27, Try.ntmps27
    go_wp2_with fail
    refine (hk _).mono ?_
    rintro e w' ⟨rfl, rfl⟩
    go_wp2_with fail
    go_ret
    exact ⟨rfl, rfl⟩

/-- The interval of a stamp. -/
def atLo (s : Smp) (x r : Int) : Int := max (cutL s.asked (lowL (x - s.got) r)) 0
def atHi (s : Smp) (x r : Int) : Int := min (cutL s.came (highL (x - s.sent) r)) 4611686018427387903
def atS (s : Smp) (x r : Int) : (Int × Int) × Int :=
  if rightS s = false then ((0, 0), 10) else if timeB x = false then ((0, 0), 11) else if rateB r = false then ((0, 0), 11) else
  if atHi s x r < atLo s x r then ((0, 0), 13) else ((atLo s x r, atHi s x r), 0)

theorem cell_far2 {w : World} {b c o : Nat} (h : c ≠ b) (p q : Value) : ((w.setCell ⟨c, 0, none⟩ p).setCell ⟨c, 1, none⟩ q).cell? ⟨b, o, none⟩ = w.cell? ⟨b, o, none⟩ := by
  have : ((w.setCell ⟨c, 0, none⟩ p).setCell ⟨c, 1, none⟩ q).heap[b]? = w.heap[b]? := (Below.heap_setCell _ _ _ _ (by simpa using h.symm)).trans (Below.heap_setCell _ _ _ _ (by simpa using h.symm))
  simp only [World.cell?, this]

theorem Box2.ret {w : World} {b : Nat} {t : TypeId} {x y : Int} (h : Box2 w b t x y) : (World.cell? w ⟨b, 0, Option.none⟩ = some (.int .i64 x)) ∧ (World.cell? w ⟨b, 1, Option.none⟩ = some (.int .i64 y)) := ⟨h.cells.1, h.cells.2.1⟩

set_option maxRecDepth 100000 in
set_option maxHeartbeats 4000000 in
theorem at_walk (s : Smp) (x r : Int) (hx : inL x) (w : World) : Calls Try.prog 8 #[encS s, .int .i64 x, .int .i64 r] w fun e w' => e = .returned (.tuple #[encG (atS s x r).1, .int .i64 (atS s x r).2]) ∧ Below w.heap.size w w' := by
  have kR := fun w => rightS_walk s w
  have kP := @rightS_parts s
  have kA : atS s x r = if rightS s = false then ((0, 0), 10) else if timeB x = false then ((0, 0), 11) else if rateB r = false then ((0, 0), 11) else if atHi s x r < atLo s x r then ((0, 0), 13) else ((atLo s x r, atHi s x r), 0) := rfl
  have kL : atLo s x r = max (cutL s.asked (lowL (x - s.got) r)) 0 := rfl
  have kH : atHi s x r = min (cutL s.came (highL (x - s.sent) r)) 4611686018427387903 := rfl
  generalize rightS s = b at *
  generalize atS s x r = t at *
  generalize atLo s x r = lo at *
  generalize atHi s x r = hi at *
  obtain ⟨a, g, s, c⟩ := s
  unfold encS at *
  simp only at *
  go_enter Try.func8, Try.ntmps8
  have HN := Lib.hid ((Bx4.new w 23 ⟨a, g, s, c⟩).alloc (.cells #[.int .i64 0, .int .i64 0] 26))
  have HG := Lib.hid (Box2.new (w.alloc (.cells #[.int .i64 a, .int .i64 g, .int .i64 s, .int .i64 c] 23)) 26 0 0)
  have HB := Lib.hid (((Below.refl w.heap.size w).alloc (Nat.le_refl _) (.cells #[.int .i64 a, .int .i64 g, .int .i64 s, .int .i64 c] 23)).alloc (by simp) (.cells #[.int .i64 0, .int .i64 0] 26))
  have HA := Lib.hid kA
  have HP := Lib.hid kP
  have HL := Lib.hid kL
  have HH := Lib.hid kH
  have HX := Lib.hid hx
  clear kA kP kL kH hx
  go_wp2_with fail
  refine (kR _).mono ?_
  rintro e w1 ⟨rfl, hB2⟩
  have HN1 := Lib.hid (HN.out.ext hB2)
  have HG1 := Lib.hid (HG.out.ext hB2)
  have HB1 := Lib.hid (HB.out.trans (hB2.mono (by simp; omega)))
  rw [World.size_alloc] at HG1
  clear hB2 HN HG HB kR
  obtain ⟨c0, c1, c2, c3, c4⟩ := HN1.out.cells
  obtain ⟨g0, g1, g2, g3⟩ := HG1.out.cells
  simp only at c0 c1 c2 c3
  cases b
  · go_wp2_with fail
    have p2 := HG1.out.put 0 0
    obtain ⟨p4, p5⟩ := p2.ret
    exact bodyPost_ret (v := .tuple #[.agg #[.int .i64 0, .int .i64 0], .int .i64 10]) (by simp [results, Try.results8, go_sem, p4, p5]) rfl ⟨by rw [HA.out]; simp [encG], below_put HB1.out (by omega) 0 0⟩
  · go_wp2_with fail
    refine (isTime_walk x _).mono ?_
    rintro e w' ⟨rfl, rfl⟩
    cases htx : timeB x
    · have HTX := Lib.hid htx
      clear htx
      go_wp2_with fail
      have p2 := HG1.out.put 0 0
      obtain ⟨p4, p5⟩ := p2.ret
      exact bodyPost_ret (v := .tuple #[.agg #[.int .i64 0, .int .i64 0], .int .i64 11]) (by simp [results, Try.results8, go_sem, p4, p5]) rfl ⟨by rw [HA.out, HTX.out]; simp [encG], below_put HB1.out (by omega) 0 0⟩
    · have htx' := htx
      unfold timeB at htx'
      simp at htx'
      obtain ⟨x0, x1⟩ := htx'
      have HTX := Lib.hid htx
      clear htx
      obtain ⟨p0, p1, p2, p3, p4, p5⟩ := HP.out trivial
      have q1 : wrap64 (x - g) = x - g := by simp [wrap64]; omega
      have q2 : wrap64 (x - s) = x - s := by simp [wrap64]; omega
      have f1 : farB (x - g) = false := by unfold farB; simp; omega
      have f2 : farB (x - s) = false := by unfold farB; simp; omega
      have kl := fun w => low_walk (x - g) r w
      have kh := fun w => high_walk (x - s) r w
      have el : lowR (x - g) r = if rateB r = true then (lowL (x - g) r, 0) else (0, 11) := by unfold lowR; rw [f1]; cases rateB r <;> rfl
      have eh : highR (x - s) r = if rateB r = true then (highL (x - s) r, 0) else (0, 11) := by unfold highR; rw [f2]; cases rateB r <;> rfl
      rw [el] at kl
      rw [eh] at kh
      clear el eh
      have HLr := Lib.hid (show rateB r = true → x - g ≤ 4611686018427387903 → lowL (x - g) r ≤ 4611686018427387904 ∧ -9223372036854775807 ≤ lowL (x - g) r from fun h _ => ⟨(low_range f1 h).2, (low_range f1 h).1⟩)
      have HHr := Lib.hid (show rateB r = true → -4611686018427387904 ≤ highL (x - s) r ∧ highL (x - s) r ≤ 9223372036854775807 from fun h => by
        have := low_range (x := -(x - s)) (by rw [farB_neg]; exact f2) h
        unfold highL
        omega)
      clear f1 f2
      generalize lowL (x - g) r = lv at *
      generalize highL (x - s) r = hv at *
      cases hr : rateB r
      · rw [hr] at kl kh
        simp only [Bool.false_eq_true, if_false] at kl kh
        have HR := Lib.hid hr
        clear hr
        go_wp2_with fail
        refine (kl _).mono ?_
        rintro e w2 ⟨rfl, hB2⟩
        have HG2 := Lib.hid (HG1.out.ext hB2)
        have HB2 := Lib.hid (HB1.out.trans (hB2.mono HB1.out.size))
        obtain ⟨g0', g1', g2', g3'⟩ := HG2.out.cells
        clear hB2 kl kh g0 g1 g2 g3 c0 c1 c2 c3 c4
        go_wp2_with fail
        have p2 := HG2.out.put 0 0
        obtain ⟨p4, p5⟩ := p2.ret
        exact bodyPost_ret (v := .tuple #[.agg #[.int .i64 0, .int .i64 0], .int .i64 11]) (by simp [results, Try.results8, go_sem, p4, p5]) rfl ⟨by rw [HA.out, HTX.out, HR.out]; simp [encG], below_put HB2.out (by omega) 0 0⟩
      · rw [hr] at kl kh
        simp only [if_true] at kl kh
        obtain ⟨l1, l0⟩ := HLr.out hr (by omega)
        obtain ⟨h0, h1⟩ := HHr.out hr
        have HR := Lib.hid hr
        clear hr
        go_wp2_with fail
        refine (kl _).mono ?_
        rintro e w2 ⟨rfl, hB2⟩
        have HG2 := Lib.hid (HG1.out.ext hB2)
        have HN2 := Lib.hid (HN1.out.ext hB2)
        have HB2 := Lib.hid (HB1.out.trans (hB2.mono HB1.out.size))
        clear hB2 kl g0 g1 g2 g3 c0 c1 c2 c3 c4 HG1 HN1 HB1
        obtain ⟨c0, c1, c2, c3, c4⟩ := HN2.out.cells
        simp only at c0 c1 c2 c3
        go_wp2_with fail
        refine (kh _).mono ?_
        rintro e w3 ⟨rfl, hB3⟩
        have HG3 := Lib.hid (HG2.out.ext hB3)
        have HN3 := Lib.hid (HN2.out.ext hB3)
        have HB3 := Lib.hid (HB2.out.trans (hB3.mono HB2.out.size))
        clear hB3 kh c0 c1 c2 c3 c4 HG2 HN2 HB2
        obtain ⟨c0, c1, c2, c3, c4⟩ := HN3.out.cells
        simp only at c0 c1 c2 c3
        have HA2 := Lib.hid (show t = if hi < lo then ((0, 0), 13) else ((lo, hi), 0) by rw [HA.out, HTX.out, HR.out]; simp)
        have KC : Hid (∀ p q w, inL p ∧ inL q → Calls Try.prog 27 #[.int .i64 p, .int .i64 q] w fun e w' => e = .returned (.int .i64 (cutL p q)) ∧ w' = w) := fun p q w h => cut_walk p q h.1 h.2 w
        have i1 : inL a ∧ inL lv := by unfold inL; omega
        have i2 : inL c ∧ inL hv := by unfold inL; omega
        have KN : Hid (∃ z1 z2 z3 bk, (z1, z2) = t.1 ∧ z3 = t.2 ∧ bk = decide (lo ≤ hi) ∧ z3 = (if bk = true then 0 else 13) ∧ (bk = false → z1 = 0 ∧ z2 = 0) ∧ ∀ p q w, p = lo → q = hi → Calls Try.prog 26 #[.int .i64 p, .int .i64 q] w fun e w' => e = .returned (.tuple #[.agg #[.int .i64 z1, .int .i64 z2], .bool bk]) ∧ Below w.heap.size w w') := by
          by_cases hh : hi < lo
          · refine ⟨0, 0, 13, false, by rw [HA2.out, if_pos hh], by rw [HA2.out, if_pos hh], by simp; omega, rfl, fun _ => ⟨rfl, rfl⟩, fun p q w hp hq => ?_⟩
            subst hp hq
            have := new36 p q w
            rw [if_pos hh, show decide (p ≤ q) = false by simp; omega] at this
            exact this
          · refine ⟨lo, hi, 0, true, by rw [HA2.out, if_neg hh], by rw [HA2.out, if_neg hh], by simp; omega, rfl, (fun h => by simp at h), fun p q w hp hq => ?_⟩
            subst hp hq
            have := new36 p q w
            rw [if_neg hh, show decide (p ≤ q) = true by simp; omega] at this
            exact this
        obtain ⟨z1, z2, z3, bk, ht1, ht2, hbk, hz3, hz0, hkn⟩ := KN.out
        have HT := Lib.hid (show t = ((z1, z2), z3) from Prod.ext ht1.symm ht2.symm)
        have HK := Lib.hid hkn
        have HZ3 := Lib.hid hz3
        have HZ0 := Lib.hid hz0
        have hne : w.heap.size ≠ w3.heap.size := by omega
        clear HA HP HLr HHr HTX HR HX q1 q2 x0 x1 c1 c2 p0 p1 p2 p3 p4 p5 l0 l1 h0 h1 HA2 KN ht1 ht2 hbk hz3 hkn hz0
        go_wp2_with fail
        have HS := Lib.hid (show w.heap.size + 1 < w3.heap.size from HG3.out.cells.2.2.2)
        have HL' := Lib.hid HL.out.symm
        have HH' := Lib.hid HH.out.symm
        clear HL HH
        go_cut [12, 13] (fun p v wx => ∃ b', p = .pointer (some ⟨b', 0, none⟩) ∧ v = .bool bk ∧ Box2 wx b' 26 z1 z2 ∧ Box2 wx (w.heap.size + 1) 26 0 0 ∧ Below w.heap.size w wx)
        case first =>
          go_region_held3 (fun w' => w'.cell? ⟨w.heap.size, 0, none⟩ = some (.int .i64 a) ∧ w'.cell? ⟨w.heap.size, 3, none⟩ = some (.int .i64 c))
            (first | (go_keep; done) | (go_split_ands; refine ⟨?_, ?_⟩ <;> (rw [cell_far2 (by omega)]; assumption)))
            ((first
              | (refine step_max (by rfl) _ _ _ (by rfl) _ _ (by rfl) (by rfl) ?_)
              | (refine step_min (by rfl) _ _ _ (by rfl) _ _ (by rfl) (by rfl) ?_)
              | ((go_at_call 27; refine (KC.out _ _ _ (by assumption)).mono ?_; rintro e w' ⟨rfl, rfl⟩))
              | ((go_at_call 26; refine (HK.out _ _ _ HL'.out HH'.out).mono ?_
                  rintro e w4 ⟨rfl, hB4⟩
                  have hE : Below w3.heap.size w3 w4 := by first | exact ((Below.refl _ w3).drew).trans (hB4.mono (by simp)) | exact (((Below.refl _ w3).drew).alloc (by simp) _).trans (hB4.mono (by simp))
                  have y0 := (hE.cell (p := ⟨w.heap.size, 0, none⟩) c4).trans c0
                  have y3 := (hE.cell (p := ⟨w.heap.size, 3, none⟩) c4).trans c3
                  have ysz := Nat.lt_of_lt_of_le c4 hE.size
                  try
                    (have yb : Box2 w4 w3.heap.size 26 0 0 := (Box2.new w3.drew 26 0 0).ext hB4
                     obtain ⟨b0, b1, b2, b3⟩ := yb.cells)))))
          all_goals go_wp2_with fail
          all_goals go_meet
          all_goals first
            | exact ⟨_, rfl, rfl, (Box2.new w4 _ z1 z2), (((HG3.out.ext hE).alloc _)), ((HB3.out.trans (hE.mono HB3.out.size)).alloc (Nat.le_trans HB3.out.size hE.size) _)⟩
            | exact ⟨_, rfl, rfl, yb.put z1 z2, ((HG3.out.ext hE).far (by have := HS.out; omega) z1 z2), below_put (HB3.out.trans (hE.mono HB3.out.size)) HB3.out.size z1 z2⟩
        case rest =>
          obtain ⟨b', rfl, rfl, h1, h2, h3⟩ := hcut
          obtain ⟨c0, c1, c2, c3⟩ := h1.cells
          obtain ⟨e0, e1, e2, e3⟩ := h2.cells
          have H2 := Lib.hid h2
          have H3 := Lib.hid h3
          clear h1 h2 h3 HG3 HN3 HB3 KC HK HL' HH' HS hne
          cases bk
          · obtain ⟨rfl, rfl⟩ := HZ0.out rfl
            go_wp2_with fail
            have p2 := H2.out.put 0 0
            obtain ⟨p4, p5⟩ := p2.ret
            exact bodyPost_ret (v := .tuple #[.agg #[.int .i64 0, .int .i64 0], .int .i64 13]) (by simp [results, Try.results8, go_sem, p4, p5]) rfl ⟨by rw [HT.out, HZ3.out]; rfl, below_put H3.out (by omega) 0 0⟩
          · go_wp2_with fail
            have p2 := H2.out.put z1 z2
            obtain ⟨p4, p5⟩ := p2.ret
            exact bodyPost_ret (v := .tuple #[.agg #[.int .i64 z1, .int .i64 z2], .int .i64 0]) (by simp [results, Try.results8, go_sem, p4, p5]) rfl ⟨by rw [HT.out, HZ3.out]; rfl, below_put H3.out (by omega) z1 z2⟩

end Go.Proofs.Ytkgodolhcoeaeaa
