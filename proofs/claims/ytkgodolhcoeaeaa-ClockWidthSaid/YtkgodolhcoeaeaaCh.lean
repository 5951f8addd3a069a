/- Clock: Add walked. No condition. -/
import Derived.Test.YtkgodolhcoeaeaaCg
import Derived.Deep.DeepCutAuto
import Derived.Test.YtkgodolhcoeaeaaKsti
namespace Go.Proofs.Ytkgodolhcoeaeaa
open Go.RowKit

def addL (l : List Smp) (s : Smp) : List Smp := (l ++ [s]).drop ((l ++ [s]).length - 8)
/-- What Add leaves, and answers. -/
def addC (c : Clk) (s : Smp) : Clk × Int :=
  if rightS s = false then (c, 10)
  else if agreesC (addL c.list s) s.sent c.rho = true then (⟨c.rho, c.need, c.held && decide (c.streak + 1 < c.need), c.streak + 1, addL c.list s⟩, 0)
  else (⟨c.rho, c.need, true, 0, if (atS s s.sent c.rho).2 = 0 then [s] else []⟩, 21)

theorem smps_drop {w : World} {b off : Nat} {l : List Smp} (h : SmpsIn w (some ⟨b, off, none⟩) l) (k : Nat) : SmpsIn w (some ⟨b, off + k * 4, none⟩) (l.drop k) := fun i hi => by
  rw [List.length_drop] at hi
  obtain ⟨b', off', hA, hb, hg⟩ := h (k + i) (by omega)
  cases hA
  refine ⟨b, off + k * 4, rfl, hb, ?_⟩
  rw [List.getElem_drop, show off + k * 4 + i * 4 = off + (k + i) * 4 by omega]
  exact hg

theorem ownsRow_zero {w : World} {B e size n : Nat} {v : Value} {xs : List Value} (h : w.ownsRow B e size v n xs) : w.ownsRow 0 e size v n xs := by
  refine ⟨h.1, ?_⟩
  rcases h.2 with ⟨rfl, h0⟩ | ⟨g, cap, cur, rfl, hb, hg, hc, hm, hs, ht⟩
  · exact .inl ⟨rfl, h0⟩
  · exact .inr ⟨g, cap, cur, rfl, Nat.zero_le _, hg, hc, hm, hs, ht⟩

theorem addL_le (l : List Smp) (s : Smp) : (addL l s).length ≤ 8 := by unfold addL; rw [List.length_drop]; omega

set_option maxRecDepth 100000 in
set_option maxHeartbeats 8000000 in
theorem add_right (b : Nat) (c : Clk) (v : Value) (s : Smp) (w : World) (h : CSt w b c v) (hl : c.list.length ≤ 8) (hs0 : 0 ≤ c.streak) (hs1 : c.streak ≤ 1152921504606846976) (hr : rightS s = true) :
    Calls Try.prog 10 #[.pointer (some ⟨b, 0, none⟩), encS s] w fun e w' => e = .returned (.int .i64 (addC c s).2) ∧ ∃ v', AddSt w w' b v s (addC c s).1 v' := by
  obtain ⟨i0, hi, hz0, hz1, hz2⟩ := info_parts infoS
  have hq : addC c s = if agreesC (addL c.list s) s.sent c.rho = true then (⟨c.rho, c.need, c.held && decide (c.streak + 1 < c.need), c.streak + 1, addL c.list s⟩, 0) else (⟨c.rho, c.need, true, 0, if (atS s s.sent c.rho).2 = 0 then [s] else []⟩, 21) := by
    unfold addC; rw [hr]; simp
  have hsent : inL s.sent := by have := rightS_parts hr; unfold inL; omega
  have HQ := Lib.hid hq
  have HH := Lib.hid h
  have HS := Lib.hid hsent
  have kR := fun w => rightS_walk s w
  rw [hr] at kR
  have HAT := Lib.hid (fun w => at_walk s s.sent c.rho hsent w)
  obtain ⟨rho, need, held, streak, l⟩ := c
  simp only at hl hs0 hs1 HQ HAT
  obtain ⟨c0, c1, c2, c3, c4, c5, c6⟩ := h.cells
  simp only at c0 c1 c2 c3
  have hrow := Lib.hid h.row
  simp only at hrow
  generalize hn : l.length = n at *
  have HN := Lib.hid hn
  clear h hq hr hn hsent
  obtain ⟨sa, sg, ss, sc⟩ := s
  unfold encS at kR ⊢
  simp only at kR HS HAT HQ ⊢
  go_enter Try.func10, Try.ntmps10
  go_wp2_with fail
  refine (kR _).mono ?_
  rintro e w2 ⟨rfl, hB2⟩
  have HE := Lib.hid (((Below.refl w.heap.size w).alloc (Nat.le_refl _) (.cells #[.int .i64 sa, .int .i64 sg, .int .i64 ss, .int .i64 sc] 23)).trans (hB2.mono (by simp)))
  have HX : Hid (Bx4 w2 w.heap.size 23 ⟨sa, sg, ss, sc⟩) := (Bx4.new w 23 ⟨sa, sg, ss, sc⟩).ext hB2
  have hC2 := (HH.out.ext HE.out).cells
  have HO2 : Hid (w2.ownsRow 0 23 4 v n (l.flatMap cellsS)) := by
    have := (HH.out.ext HE.out).row
    simp only [HN.out] at this
    exact this
  clear hB2 kR c0 c1 c2 c3 c4 c5 c6 hrow
  obtain ⟨c0, c1, c2, c3, c4, c5, c6⟩ := hC2
  obtain ⟨y0, y1, y2, y3, y4⟩ := HX.out.cells
  simp only at c0 c1 c2 c3 y0 y1 y2 y3
  go_wp2_with fail
  go_cut [] (fun wx => ∃ gg cap, AddSt w wx b v ⟨sa, sg, ss, sc⟩ ⟨rho, need, held, streak, l ++ [⟨sa, sg, ss, sc⟩]⟩ (.slice (some ⟨gg, 0, none⟩) (n + 1) cap))
  case first =>
    go_region_law (first | (refine step_append_lies _ (by rfl) _ _ _ (by rfl) 0 23 i0 _ 4 32 Try.underlying31 hi hz0 hz1 hz2 rfl (by omega) v n (l.flatMap cellsS) (by rfl) ((HO2.out.alloc _).drew) ⟨w2.heap.size, 0, none⟩ 1 1 (cellsS ⟨sa, sg, ss, sc⟩) (by rfl) (by rfl) (World.news_of_block (cs := #[.int .i64 sa, .int .i64 sg, .int .i64 ss, .int .i64 sc]) (t := 23) (fr := (0, 0)) (heap_alloc_new w2 _)) (by simp [cellsS, Value.oneCell']) (by omega) (by unfold maxLen; omega) (by omega) (by omega) (w2.heap.size + 1) (by simp) ?_; intro gg cap w3 hown1 hgrow hat hlt; have K0 := AddSt.first (gg := gg) (cap := cap) HH.out HE.out HX.out hgrow hat (by simp only [HN.out]; exact hown1); obtain ⟨K1, K2⟩ := K0; have k3 : w3.cell? ⟨b, 4, none⟩ = some v := (by simp [World.cell?, K1]); have kf : w3.frozen? ⟨b, 4, none⟩ = false := (by simp [World.frozen?, K1]); have KK1 := Lib.hid K1; have KK2 := Lib.hid K2; have HAA := Lib.hid hat; clear K1 K2 hown1 hgrow hat hlt))
    all_goals go_wp2_with fail
    all_goals go_meet
    all_goals
      (have := KK2.out
       simp only [HN.out] at this
       exact ⟨gg, cap, this⟩)
  case rest =>
    obtain ⟨gg, cap, h1⟩ := hcut
    have HA := Lib.hid h1
    clear h1 HE HX HO2 HH c0 c1 c2 c3 c4 c5 c6 y0 y1 y2 y3 y4
    obtain ⟨c0, c1, c2, c3, c4, c5, c6⟩ := HA.out.st.cells
    obtain ⟨y0, y1, y2, y3, y4⟩ := HA.out.cells
    simp only at c0 c1 c2 c3 y0 y1 y2 y3
    by_cases h8 : n = 8
    · subst h8
      have hrow := HA.out.st.row
      have hin : Hid (SmpsIn wc (some ⟨gg, 0, none⟩) (l ++ [⟨sa, sg, ss, sc⟩]) ∧ 9 ≤ cap ∧ cap ≤ maxLen) := by
        obtain ⟨A', cap', q1, _, q3, q4, q5, _⟩ := smps_of_row hrow
        have q2 : (l ++ [(⟨sa, sg, ss, sc⟩ : Smp)]).length = 9 := by rw [List.length_append, HN.out]; rfl
        rw [q2] at q1 q3
        cases q1
        exact ⟨q5, q3, q4⟩
      have hcl := cloneS_walk (some ⟨gg, 4, none⟩) 8 (cap - 1) ((l ++ [(⟨sa, sg, ss, sc⟩ : Smp)]).drop 1) wc (by rw [List.length_drop, List.length_append, HN.out]; rfl) (by omega) (by simp) (by have := smps_drop hin.out.1 1; simpa using this)
      have hcap : 9 ≤ cap := hin.out.2.1
      have HCL := Lib.hid hcl
      clear hrow hin hcl
      have hne : w.heap.size ≠ b := by have := HA.out.lt; omega
      have hne' : b ≠ w.heap.size := by have := HA.out.lt; omega
      go_wp2_with fail
      refine HCL.out.mono ?_
      rintro e w5 ⟨v2, rfl, hO, hB⟩
      obtain ⟨A2, cap2, rfl, -, -, -, -, -⟩ := smps_of_row hO
      have HWC := Lib.hid y4
      have HA5 := Lib.hid (HA.out.ext hB)
      have HO5 := Lib.hid hO
      have HB5 := Lib.hid hB
      have hal : addL l ⟨sa, sg, ss, sc⟩ = (l ++ [(⟨sa, sg, ss, sc⟩ : Smp)]).drop 1 := by unfold addL; rw [List.length_append, HN.out]; rfl
      have HAL := Lib.hid hal
      have hln : ((l ++ [(⟨sa, sg, ss, sc⟩ : Smp)]).drop 1).length = 8 := by rw [List.length_drop, List.length_append, HN.out]; rfl
      have HLN := Lib.hid hln
      generalize (l ++ [(⟨sa, sg, ss, sc⟩ : Smp)]).drop 1 = l1 at *
      clear hO hB hal hln HCL c0 c1 c2 c3 c4 c5 c6 y0 y1 y2 y3 y4
      obtain ⟨c0, c1, c2, c3, c4, c5, c6⟩ := HA5.out.st.cells
      obtain ⟨y0, y1, y2, y3, y4⟩ := HA5.out.cells
      simp only at c0 c1 c2 c3 y0 y1 y2 y3
      go_wp2_with fail
      have h2 : AddSt w (w5.setCell ⟨b, 4, none⟩ (.slice A2 8 cap2)) b v ⟨sa, sg, ss, sc⟩ ⟨rho, need, held, streak, l1⟩ (.slice A2 8 cap2) := by
        have h3 := HA5.out.put2 (w'' := w5.setCell ⟨b, 4, none⟩ (.slice A2 8 cap2)) (v2 := .slice A2 8 cap2) ((Turn.refl [b] w5).setCell (.inl (by simp)) _) held streak l1
          (by rw [setCell_heap HA5.out.st.at_]; rfl)
          (by rw [HLN.out]; exact ownsRow_same (ownsRow_zero HO5.out) fun g hg => Below.heap_setCell _ _ _ _ (by have := HO5.out.lt g hg; have := HA.out.st.lt; simp; omega))
          (fun g hg => Nat.lt_of_lt_of_le HWC.out (HO5.out.lt g hg).1)
        exact h3
      have HA2 := Lib.hid h2
      clear h2 HA5 HO5 HB5 HWC c0 c1 c2 c3 c4 c5 c6 y0 y1 y2 y3 y4 HA hl hcap HLN hne hne'
      generalize w5.setCell ⟨b, 4, none⟩ (.slice A2 8 cap2) = W at *
      generalize Value.slice A2 8 cap2 = v1 at *
      have HL8 := Lib.hid (HAL.out ▸ addL_le l ⟨sa, sg, ss, sc⟩ : l1.length ≤ 8)
      have hag := agrees_walk b ⟨rho, need, held, streak, l1⟩ v1 ss W HA2.out.st (Nat.le_trans HL8.out (by omega)) HS.out
      simp only at hag
      rw [← HAL.out] at hag
      have HQ2 := HQ.out
      generalize agreesC (addL l ⟨sa, sg, ss, sc⟩) ss rho = ag at *
      have HQ3 := Lib.hid HQ2
      clear HQ HQ2
      refine hag.mono ?_
      rintro e w6 ⟨rfl, hB6⟩
      have HA6 := Lib.hid (HA2.out.ext hB6)
      clear hag hB6 HA2
      obtain ⟨c0, c1, c2, c3, c4, c5, c6⟩ := HA6.out.st.cells
      obtain ⟨y0, y1, y2, y3, y4⟩ := HA6.out.cells
      simp only at c0 c1 c2 c3 y0 y1 y2 y3
      have hne : w.heap.size ≠ b := by have := HA6.out.lt; omega
      have hne' : b ≠ w.heap.size := by have := HA6.out.lt; omega
      cases ag
      · have HQ4 := Lib.hid (show addC ⟨rho, need, held, streak, l⟩ ⟨sa, sg, ss, sc⟩ = (⟨rho, need, true, 0, if (atS ⟨sa, sg, ss, sc⟩ ss rho).2 = 0 then [⟨sa, sg, ss, sc⟩] else []⟩, 21) by have := HQ3.out; simpa using this)
        clear HQ3
        generalize atS ⟨sa, sg, ss, sc⟩ ss rho = q at *
        obtain ⟨⟨z1, z2⟩, z3⟩ := q
        have HAT2 : Hid (∀ w, Calls Try.prog 8 #[.agg #[.int .i64 sa, .int .i64 sg, .int .i64 ss, .int .i64 sc], .int .i64 ss, .int .i64 rho] w fun e w' => e = .returned (.tuple #[.agg #[.int .i64 z1, .int .i64 z2], .int .i64 z3]) ∧ Below w.heap.size w w') := HAT.out
        clear HAT
        go_wp2_with fail
        have h7 := HA6.out.put2 (w'' := ((w6.setCell ⟨b, 2, none⟩ (.bool true)).setCell ⟨b, 3, none⟩ (.int .i64 0)).setCell ⟨b, 4, none⟩ (.slice none 0 0)) (v2 := .slice none 0 0) ((((Turn.refl [b] w6).setCell (.inl (by simp)) _).setCell (.inl (by simp)) _).setCell (.inl (by simp)) _) true 0 []
          ((setCell_heap (setCell_heap (setCell_heap HA6.out.st.at_ _) _) _).trans rfl) ⟨by simp, .inl ⟨rfl, rfl⟩⟩ (fun g hg => by simp [Value.ownBlock] at hg)
        have HA7 := Lib.hid h7
        simp only at HA7
        clear h7 HA6 c0 c1 c2 c3 c4 c5 c6 y0 y1 y2 y3 y4 hs0 hs1
        generalize ((w6.setCell ⟨b, 2, none⟩ (.bool true)).setCell ⟨b, 3, none⟩ (.int .i64 0)).setCell ⟨b, 4, none⟩ (.slice none 0 0) = w7 at *
        obtain ⟨c0, c1, c2, c3, c4, c5, c6⟩ := HA7.out.st.cells
        obtain ⟨y0, y1, y2, y3, y4⟩ := HA7.out.cells
        simp only at c0 c1 c2 c3 y0 y1 y2 y3
        clear c1 c2 c3 c4 c5
        have hn1 : b ≠ w7.heap.size := by omega
        have hn2 : w.heap.size ≠ w7.heap.size := by omega
        go_cut [6, 7] (fun p e wx => ∃ b', p = .pointer (some ⟨b', 0, none⟩) ∧ e = .int .i64 z3 ∧ Below w7.heap.size w7 wx)
        case first =>
          go_region_held3 (fun w' => w'.cell? ⟨b, 0, none⟩ = some (.int .i64 rho) ∧ w'.cell? ⟨w.heap.size, 0, none⟩ = some (.int .i64 sa) ∧ w'.cell? ⟨w.heap.size, 1, none⟩ = some (.int .i64 sg) ∧ w'.cell? ⟨w.heap.size, 2, none⟩ = some (.int .i64 ss) ∧ w'.cell? ⟨w.heap.size, 3, none⟩ = some (.int .i64 sc))
            (first | (go_keep; done) | (go_split_ands; refine ⟨?_, ?_, ?_, ?_, ?_⟩ <;> (rw [cell_far2 (by omega)]; assumption)))
            ((go_at_call 8; refine (HAT2.out _).mono ?_
              rintro e w4 ⟨rfl, hB4⟩
              have hE : Below w7.heap.size w7 w4 := by first | exact ((Below.refl _ w7).drew).trans (hB4.mono (by simp)) | exact (((Below.refl _ w7).drew).alloc (by simp) _).trans (hB4.mono (by simp))
              have x0 := (hE.cell (p := ⟨b, 0, none⟩) c6).trans c0
              have x1 := (hE.cell (p := ⟨w.heap.size, 0, none⟩) y4).trans y0
              have x2 := (hE.cell (p := ⟨w.heap.size, 1, none⟩) y4).trans y1
              have x3 := (hE.cell (p := ⟨w.heap.size, 2, none⟩) y4).trans y2
              have x4 := (hE.cell (p := ⟨w.heap.size, 3, none⟩) y4).trans y3
              have ysz := Nat.lt_of_lt_of_le y4 hE.size
              have ysz2 := Nat.lt_of_lt_of_le c6 hE.size
              try
                (have yb : Box2 w4 w7.heap.size 26 0 0 := (Box2.new w7.drew 26 0 0).ext hB4
                 obtain ⟨b0, b1, b2, b3⟩ := yb.cells)))
          all_goals go_wp2_with fail
          all_goals go_meet
          all_goals first
            | exact ⟨_, rfl, rfl, hE.alloc hE.size _⟩
            | exact ⟨_, rfl, rfl, below_put hE (Nat.le_refl _) z1 z2⟩
        case rest =>
          obtain ⟨b', rfl, rfl, h2⟩ := hcut
          have HA8 := Lib.hid (HA7.out.ext h2)
          clear h2 HA7 c0 c6 y0 y1 y2 y3 y4 hn1 hn2 HAT2
          obtain ⟨c0, c1, c2, c3, c4, c5, c6⟩ := HA8.out.st.cells
          obtain ⟨y0, y1, y2, y3, y4⟩ := HA8.out.cells
          simp only at c0 c1 c2 c3 y0 y1 y2 y3
          by_cases hz : z3 = 0
          · subst hz
            go_wp2_with fail
            go_ret
            refine ⟨by rw [HQ4.out]; rfl, .slice (some ⟨wc.heap.size, 0, none⟩) 1 1, ?_⟩
            rw [HQ4.out, if_pos trivial]
            have hnb : wc.heap.size ≠ b := by omega
            have hnew := heap_alloc_new (wc.setCell ⟨b, 4, none⟩ (.slice (some ⟨wc.heap.size, 0, none⟩) 1 1)) (.cells #[.int .i64 sa, .int .i64 sg, .int .i64 ss, .int .i64 sc] 23)
            have hsz : (wc.setCell ⟨b, 4, none⟩ (.slice (some ⟨wc.heap.size, 0, none⟩) 1 1)).heap.size = wc.heap.size := by simp
            rw [hsz] at hnew
            refine HA8.out.put2 (v2 := .slice (some ⟨wc.heap.size, 0, none⟩) 1 1) (((Turn.refl [b] _).setCell (.inl (by simp)) _).alloc _) true 0 [⟨sa, sg, ss, sc⟩] ((Below.heap_alloc _ _ _ (by rw [hsz]; exact c6)).trans (by rw [setCell_heap HA8.out.st.at_]; rfl)) ?_ (fun g hg => by simp [Value.ownBlock] at hg; omega)
            exact ⟨by simp [cellsS], .inr ⟨wc.heap.size, 1, _, rfl, Nat.zero_le _, hnew, Nat.le_refl _, by simp [maxLen], rfl, rfl⟩⟩
          · have hzb : (z3 == 0) = false := by simpa using hz
            go_wp2_with fail
            go_ret
            refine ⟨by rw [HQ4.out]; rfl, .slice none 0 0, ?_⟩
            rw [HQ4.out, if_neg hz]
            exact HA8.out
      · have HQ4 := Lib.hid (show addC ⟨rho, need, held, streak, l⟩ ⟨sa, sg, ss, sc⟩ = (⟨rho, need, held && decide (streak + 1 < need), streak + 1, l1⟩, 0) by have := HQ3.out; rw [HAL.out] at this; simpa using this)
        clear HQ3
        have hw1 : wrap64 (streak + 1) = streak + 1 := by simp [wrap64]; omega
        go_wp2_with fail
        have h7 := HA6.out.put (w'' := w6.setCell ⟨b, 3, none⟩ (.int .i64 (streak + 1))) ((Turn.refl [b] w6).setCell (.inl (by simp)) _) held (streak + 1) (by rw [setCell_heap HA6.out.st.at_]; rfl)
        have HA7 := Lib.hid (h7.ext ((Below.refl _ _).drew))
        simp only at HA7
        clear h7 HA6 c0 c1 c2 c3 c4 c5 c6 y0 y1 y2 y3 y4
        obtain ⟨c0, c1, c2, c3, c4, c5, c6⟩ := HA7.out.st.cells
        simp only at c0 c1 c2 c3
        generalize w6.setCell ⟨b, 3, none⟩ (.int .i64 (streak + 1)) = w7 at *
        rename_i Q1 K1 hk1 K2 hk2
        have HK1 := Lib.hid hk1
        have HK2 := Lib.hid hk2
        clear hk1 hk2
        refine wp_region_still_tail 21 (by kernel_rfl) (by kernel_rfl) ?_
        simp only [List.take_succ_cons, List.take_zero, List.drop_succ_cons, List.drop_zero]
        change wpStill _ _ w7.drew (fun a' => wpList _ _ _ _ a' w7.drew) _ _
        generalize w7.drew = w8 at *
        cases held
        · skip
          generalize hA0 : Act.mk _ _ = aa
          have hA := Lib.hid hA0
          clear hA0
          (refine still_plain rfl (fun K hK => ?_); have hA1 := hA.out; clear hA; subst hA1; go_simp; generalize hA0 : Act.mk _ _ = aa; have h9 := hK.out aa; clear hK; suffices hh : _ from h9 hh; clear h9 K; have hA := Lib.hid hA0; clear hA0)
          (refine still_plain rfl (fun K hK => ?_); have hA1 := hA.out; clear hA; subst hA1; go_simp; generalize hA0 : Act.mk _ _ = aa; have h9 := hK.out aa; clear hK; suffices hh : _ from h9 hh; clear h9 K; have hA := Lib.hid hA0; clear hA0)
          (refine still_plain rfl (fun K hK => ?_); have hA1 := hA.out; clear hA; subst hA1; go_simp; generalize hA0 : Act.mk _ _ = aa; have h9 := hK.out aa; clear hK; suffices hh : _ from h9 hh; clear h9 K; have hA := Lib.hid hA0; clear hA0)
          (refine still_plain rfl (fun K hK => ?_); have hA1 := hA.out; clear hA; subst hA1; go_simp; generalize hA0 : Act.mk _ _ = aa; have h9 := hK.out aa; clear hK; suffices hh : _ from h9 hh; clear h9 K; have hA := Lib.hid hA0; clear hA0)
          (refine still_plain rfl (fun K hK => ?_); have hA1 := hA.out; clear hA; subst hA1; go_simp; generalize hA0 : Act.mk _ _ = aa; have h9 := hK.out aa; clear hK; suffices hh : _ from h9 hh; clear h9 K; have hA := Lib.hid hA0; clear hA0)
          (refine still_plain rfl (fun K hK => ?_); have hA1 := hA.out; clear hA; subst hA1; go_simp; generalize hA0 : Act.mk _ _ = aa; have h9 := hK.out aa; clear hK; suffices hh : _ from h9 hh; clear h9 K; have hA := Lib.hid hA0; clear hA0)
          (refine still_plain rfl (fun K hK => ?_); have hA1 := hA.out; clear hA; subst hA1; go_simp; generalize hA0 : Act.mk _ _ = aa; have h9 := hK.out aa; clear hK; suffices hh : _ from h9 hh; clear h9 K; have hA := Lib.hid hA0; clear hA0)
          (refine still_off rfl (by rw [← hA.out]; rfl) ?_; have hA1 := hA.out; clear hA; generalize hA0 : Act.put aa _ _ = a9; subst hA1; simp [go_sem] at hA0; have hA := Lib.hid hA0; clear hA0; revert hA; revert a9; intro aa hA)
          (refine still_off rfl (by rw [← hA.out]; rfl) ?_; have hA1 := hA.out; clear hA; generalize hA0 : Act.put aa _ _ = a9; subst hA1; simp [go_sem] at hA0; have hA := Lib.hid hA0; clear hA0; revert hA; revert a9; intro aa hA)
          (refine still_off rfl (by rw [← hA.out]; rfl) ?_; have hA1 := hA.out; clear hA; generalize hA0 : Act.put aa _ _ = a9; subst hA1; simp [go_sem] at hA0; have hA := Lib.hid hA0; clear hA0; revert hA; revert a9; intro aa hA)
          (refine still_off rfl (by rw [← hA.out]; rfl) ?_; have hA1 := hA.out; clear hA; generalize hA0 : Act.put aa _ _ = a9; subst hA1; simp [go_sem] at hA0; have hA := Lib.hid hA0; clear hA0; revert hA; revert a9; intro aa hA)
          (refine still_off rfl (by rw [← hA.out]; rfl) ?_; have hA1 := hA.out; clear hA; generalize hA0 : Act.put aa _ _ = a9; subst hA1; simp [go_sem] at hA0; have hA := Lib.hid hA0; clear hA0; revert hA; revert a9; intro aa hA)
          (refine still_off rfl (by rw [← hA.out]; rfl) ?_; have hA1 := hA.out; clear hA; generalize hA0 : Act.put aa _ _ = a9; subst hA1; simp [go_sem] at hA0; have hA := Lib.hid hA0; clear hA0; revert hA; revert a9; intro aa hA)
          (refine still_off rfl (by rw [← hA.out]; rfl) ?_; have hA1 := hA.out; clear hA; generalize hA0 : Act.put aa _ _ = a9; subst hA1; simp [go_sem] at hA0; have hA := Lib.hid hA0; clear hA0; revert hA; revert a9; intro aa hA)
          (refine still_off rfl (by rw [← hA.out]; rfl) ?_; have hA1 := hA.out; clear hA; generalize hA0 : Act.put aa _ _ = a9; subst hA1; simp [go_sem] at hA0; have hA := Lib.hid hA0; clear hA0; revert hA; revert a9; intro aa hA)
          (refine still_off rfl (by rw [← hA.out]; rfl) ?_; have hA1 := hA.out; clear hA; generalize hA0 : Act.put aa _ _ = a9; subst hA1; simp [go_sem] at hA0; have hA := Lib.hid hA0; clear hA0; revert hA; revert a9; intro aa hA)
          (refine still_off rfl (by rw [← hA.out]; rfl) ?_; have hA1 := hA.out; clear hA; generalize hA0 : Act.put aa _ _ = a9; subst hA1; simp [go_sem] at hA0; have hA := Lib.hid hA0; clear hA0; revert hA; revert a9; intro aa hA)
          (refine still_plain rfl (fun K hK => ?_); have hA1 := hA.out; clear hA; subst hA1; go_simp; generalize hA0 : Act.mk _ _ = aa; have h9 := hK.out aa; clear hK; suffices hh : _ from h9 hh; clear h9 K; have hA := Lib.hid hA0; clear hA0)
          (refine still_plain rfl (fun K hK => ?_); have hA1 := hA.out; clear hA; subst hA1; go_simp; generalize hA0 : Act.mk _ _ = aa; have h9 := hK.out aa; clear hK; suffices hh : _ from h9 hh; clear h9 K; have hA := Lib.hid hA0; clear hA0)
          (refine still_plain rfl (fun K hK => ?_); have hA1 := hA.out; clear hA; subst hA1; go_simp; generalize hA0 : Act.mk _ _ = aa; have h9 := hK.out aa; clear hK; suffices hh : _ from h9 hh; clear h9 K; have hA := Lib.hid hA0; clear hA0)
          (refine still_plain rfl (fun K hK => ?_); have hA1 := hA.out; clear hA; subst hA1; go_simp; generalize hA0 : Act.mk _ _ = aa; have h9 := hK.out aa; clear hK; suffices hh : _ from h9 hh; clear h9 K; have hA := Lib.hid hA0; clear hA0)
          refine wpStill_nil ?_
          have hA1 := hA.out
          clear hA
          subst hA1
          have hk1 := HK1.out
          have hk2 := HK2.out
          clear HK1 HK2
          go_wp2_with fail
          go_ret
          refine ⟨by rw [HQ4.out]; rfl, v1, ?_⟩
          rw [HQ4.out]
          exact HA7.out.put ((Turn.refl [b] w8).setCell (.inl (by simp)) _) false (streak + 1) (by rw [setCell_heap HA7.out.st.at_]; rfl)
        · by_cases hlt : streak + 1 < need
          · have hdl : decide (streak + 1 < need) = true := by simpa using hlt
            generalize hA0 : Act.mk _ _ = aa
            have hA := Lib.hid hA0
            clear hA0
            (refine still_plain rfl (fun K hK => ?_); have hA1 := hA.out; clear hA; subst hA1; go_simp; generalize hA0 : Act.mk _ _ = aa; have h9 := hK.out aa; clear hK; suffices hh : _ from h9 hh; clear h9 K; have hA := Lib.hid hA0; clear hA0)
            (refine still_plain rfl (fun K hK => ?_); have hA1 := hA.out; clear hA; subst hA1; go_simp; generalize hA0 : Act.mk _ _ = aa; have h9 := hK.out aa; clear hK; suffices hh : _ from h9 hh; clear h9 K; have hA := Lib.hid hA0; clear hA0)
            (refine still_plain rfl (fun K hK => ?_); have hA1 := hA.out; clear hA; subst hA1; go_simp; generalize hA0 : Act.mk _ _ = aa; have h9 := hK.out aa; clear hK; suffices hh : _ from h9 hh; clear h9 K; have hA := Lib.hid hA0; clear hA0)
            (refine still_plain rfl (fun K hK => ?_); have hA1 := hA.out; clear hA; subst hA1; go_simp; generalize hA0 : Act.mk _ _ = aa; have h9 := hK.out aa; clear hK; suffices hh : _ from h9 hh; clear h9 K; have hA := Lib.hid hA0; clear hA0)
            (refine still_plain rfl (fun K hK => ?_); have hA1 := hA.out; clear hA; subst hA1; go_simp; generalize hA0 : Act.mk _ _ = aa; have h9 := hK.out aa; clear hK; suffices hh : _ from h9 hh; clear h9 K; have hA := Lib.hid hA0; clear hA0)
            (refine still_plain rfl (fun K hK => ?_); have hA1 := hA.out; clear hA; subst hA1; go_simp; generalize hA0 : Act.mk _ _ = aa; have h9 := hK.out aa; clear hK; suffices hh : _ from h9 hh; clear h9 K; have hA := Lib.hid hA0; clear hA0)
            (refine still_plain rfl (fun K hK => ?_); have hA1 := hA.out; clear hA; subst hA1; go_simp; generalize hA0 : Act.mk _ _ = aa; have h9 := hK.out aa; clear hK; suffices hh : _ from h9 hh; clear h9 K; have hA := Lib.hid hA0; clear hA0)
            (refine still_on rfl (by rw [← hA.out]; rfl) (fun K hK => ?_); have hA1 := hA.out; clear hA; subst hA1; go_simp; generalize hA0 : Act.mk _ _ = aa; have h9 := hK.out aa; clear hK; suffices hh : _ from h9 hh; clear h9 K; have hA := Lib.hid hA0; clear hA0)
            (refine still_on rfl (by rw [← hA.out]; rfl) (fun K hK => ?_); have hA1 := hA.out; clear hA; subst hA1; go_simp; generalize hA0 : Act.mk _ _ = aa; have h9 := hK.out aa; clear hK; suffices hh : _ from h9 hh; clear h9 K; have hA := Lib.hid hA0; clear hA0)
            (refine still_on rfl (by rw [← hA.out]; rfl) (fun K hK => ?_); have hA1 := hA.out; clear hA; subst hA1; go_simp; generalize hA0 : Act.mk _ _ = aa; have h9 := hK.out aa; clear hK; suffices hh : _ from h9 hh; clear h9 K; have hA := Lib.hid hA0; clear hA0)
            (refine still_on rfl (by rw [← hA.out]; rfl) (fun K hK => ?_); have hA1 := hA.out; clear hA; subst hA1; go_simp; generalize hA0 : Act.mk _ _ = aa; have h9 := hK.out aa; clear hK; suffices hh : _ from h9 hh; clear h9 K; have hA := Lib.hid hA0; clear hA0)
            (refine still_on rfl (by rw [← hA.out]; rfl) (fun K hK => ?_); have hA1 := hA.out; clear hA; subst hA1; go_simp; generalize hA0 : Act.mk _ _ = aa; have h9 := hK.out aa; clear hK; suffices hh : _ from h9 hh; clear h9 K; have hA := Lib.hid hA0; clear hA0)
            (refine still_on rfl (by rw [← hA.out]; rfl) (fun K hK => ?_); have hA1 := hA.out; clear hA; subst hA1; go_simp; generalize hA0 : Act.mk _ _ = aa; have h9 := hK.out aa; clear hK; suffices hh : _ from h9 hh; clear h9 K; have hA := Lib.hid hA0; clear hA0)
            (refine still_on rfl (by rw [← hA.out]; rfl) (fun K hK => ?_); have hA1 := hA.out; clear hA; subst hA1; go_simp; generalize hA0 : Act.mk _ _ = aa; have h9 := hK.out aa; clear hK; suffices hh : _ from h9 hh; clear h9 K; have hA := Lib.hid hA0; clear hA0)
            (refine still_on rfl (by rw [← hA.out]; rfl) (fun K hK => ?_); have hA1 := hA.out; clear hA; subst hA1; go_simp; generalize hA0 : Act.mk _ _ = aa; have h9 := hK.out aa; clear hK; suffices hh : _ from h9 hh; clear h9 K; have hA := Lib.hid hA0; clear hA0)
            (refine still_on rfl (by rw [← hA.out]; rfl) (fun K hK => ?_); have hA1 := hA.out; clear hA; subst hA1; go_simp; generalize hA0 : Act.mk _ _ = aa; have h9 := hK.out aa; clear hK; suffices hh : _ from h9 hh; clear h9 K; have hA := Lib.hid hA0; clear hA0)
            (refine still_on rfl (by rw [← hA.out]; rfl) (fun K hK => ?_); have hA1 := hA.out; clear hA; subst hA1; go_simp; generalize hA0 : Act.mk _ _ = aa; have h9 := hK.out aa; clear hK; suffices hh : _ from h9 hh; clear h9 K; have hA := Lib.hid hA0; clear hA0)
            (refine still_plain rfl (fun K hK => ?_); have hA1 := hA.out; clear hA; subst hA1; go_simp; generalize hA0 : Act.mk _ _ = aa; have h9 := hK.out aa; clear hK; suffices hh : _ from h9 hh; clear h9 K; have hA := Lib.hid hA0; clear hA0)
            (refine still_plain rfl (fun K hK => ?_); have hA1 := hA.out; clear hA; subst hA1; go_simp; generalize hA0 : Act.mk _ _ = aa; have h9 := hK.out aa; clear hK; suffices hh : _ from h9 hh; clear h9 K; have hA := Lib.hid hA0; clear hA0)
            (refine still_plain rfl (fun K hK => ?_); have hA1 := hA.out; clear hA; subst hA1; go_simp; generalize hA0 : Act.mk _ _ = aa; have h9 := hK.out aa; clear hK; suffices hh : _ from h9 hh; clear h9 K; have hA := Lib.hid hA0; clear hA0)
            (refine still_plain rfl (fun K hK => ?_); have hA1 := hA.out; clear hA; subst hA1; go_simp; generalize hA0 : Act.mk _ _ = aa; have h9 := hK.out aa; clear hK; suffices hh : _ from h9 hh; clear h9 K; have hA := Lib.hid hA0; clear hA0)
            refine wpStill_nil ?_
            have hA1 := hA.out
            clear hA
            subst hA1
            have hk1 := HK1.out
            have hk2 := HK2.out
            clear HK1 HK2
            go_wp2_with fail
            go_ret
            refine ⟨by rw [HQ4.out]; rfl, v1, ?_⟩
            rw [HQ4.out]
            rw [hdl]
            exact HA7.out.put ((Turn.refl [b] w8).setCell (.inl (by simp)) _) true (streak + 1) (by rw [setCell_heap HA7.out.st.at_]; rfl)
          · have hdl : decide (streak + 1 < need) = false := by simpa using hlt
            generalize hA0 : Act.mk _ _ = aa
            have hA := Lib.hid hA0
            clear hA0
            (refine still_plain rfl (fun K hK => ?_); have hA1 := hA.out; clear hA; subst hA1; go_simp; generalize hA0 : Act.mk _ _ = aa; have h9 := hK.out aa; clear hK; suffices hh : _ from h9 hh; clear h9 K; have hA := Lib.hid hA0; clear hA0)
            (refine still_plain rfl (fun K hK => ?_); have hA1 := hA.out; clear hA; subst hA1; go_simp; generalize hA0 : Act.mk _ _ = aa; have h9 := hK.out aa; clear hK; suffices hh : _ from h9 hh; clear h9 K; have hA := Lib.hid hA0; clear hA0)
            (refine still_plain rfl (fun K hK => ?_); have hA1 := hA.out; clear hA; subst hA1; go_simp; generalize hA0 : Act.mk _ _ = aa; have h9 := hK.out aa; clear hK; suffices hh : _ from h9 hh; clear h9 K; have hA := Lib.hid hA0; clear hA0)
            (refine still_plain rfl (fun K hK => ?_); have hA1 := hA.out; clear hA; subst hA1; go_simp; generalize hA0 : Act.mk _ _ = aa; have h9 := hK.out aa; clear hK; suffices hh : _ from h9 hh; clear h9 K; have hA := Lib.hid hA0; clear hA0)
            (refine still_plain rfl (fun K hK => ?_); have hA1 := hA.out; clear hA; subst hA1; go_simp; generalize hA0 : Act.mk _ _ = aa; have h9 := hK.out aa; clear hK; suffices hh : _ from h9 hh; clear h9 K; have hA := Lib.hid hA0; clear hA0)
            (refine still_plain rfl (fun K hK => ?_); have hA1 := hA.out; clear hA; subst hA1; go_simp; generalize hA0 : Act.mk _ _ = aa; have h9 := hK.out aa; clear hK; suffices hh : _ from h9 hh; clear h9 K; have hA := Lib.hid hA0; clear hA0)
            (refine still_plain rfl (fun K hK => ?_); have hA1 := hA.out; clear hA; subst hA1; go_simp; generalize hA0 : Act.mk _ _ = aa; have h9 := hK.out aa; clear hK; suffices hh : _ from h9 hh; clear h9 K; have hA := Lib.hid hA0; clear hA0)
            (refine still_on rfl (by rw [← hA.out]; rfl) (fun K hK => ?_); have hA1 := hA.out; clear hA; subst hA1; go_simp; generalize hA0 : Act.mk _ _ = aa; have h9 := hK.out aa; clear hK; suffices hh : _ from h9 hh; clear h9 K; have hA := Lib.hid hA0; clear hA0)
            (refine still_on rfl (by rw [← hA.out]; rfl) (fun K hK => ?_); have hA1 := hA.out; clear hA; subst hA1; go_simp; generalize hA0 : Act.mk _ _ = aa; have h9 := hK.out aa; clear hK; suffices hh : _ from h9 hh; clear h9 K; have hA := Lib.hid hA0; clear hA0)
            (refine still_on rfl (by rw [← hA.out]; rfl) (fun K hK => ?_); have hA1 := hA.out; clear hA; subst hA1; go_simp; generalize hA0 : Act.mk _ _ = aa; have h9 := hK.out aa; clear hK; suffices hh : _ from h9 hh; clear h9 K; have hA := Lib.hid hA0; clear hA0)
            (refine still_on rfl (by rw [← hA.out]; rfl) (fun K hK => ?_); have hA1 := hA.out; clear hA; subst hA1; go_simp; generalize hA0 : Act.mk _ _ = aa; have h9 := hK.out aa; clear hK; suffices hh : _ from h9 hh; clear h9 K; have hA := Lib.hid hA0; clear hA0)
            (refine still_on rfl (by rw [← hA.out]; rfl) (fun K hK => ?_); have hA1 := hA.out; clear hA; subst hA1; go_simp; generalize hA0 : Act.mk _ _ = aa; have h9 := hK.out aa; clear hK; suffices hh : _ from h9 hh; clear h9 K; have hA := Lib.hid hA0; clear hA0)
            (refine still_on rfl (by rw [← hA.out]; rfl) (fun K hK => ?_); have hA1 := hA.out; clear hA; subst hA1; go_simp; generalize hA0 : Act.mk _ _ = aa; have h9 := hK.out aa; clear hK; suffices hh : _ from h9 hh; clear h9 K; have hA := Lib.hid hA0; clear hA0)
            (refine still_on rfl (by rw [← hA.out]; rfl) (fun K hK => ?_); have hA1 := hA.out; clear hA; subst hA1; go_simp; generalize hA0 : Act.mk _ _ = aa; have h9 := hK.out aa; clear hK; suffices hh : _ from h9 hh; clear h9 K; have hA := Lib.hid hA0; clear hA0)
            (refine still_on rfl (by rw [← hA.out]; rfl) (fun K hK => ?_); have hA1 := hA.out; clear hA; subst hA1; go_simp; generalize hA0 : Act.mk _ _ = aa; have h9 := hK.out aa; clear hK; suffices hh : _ from h9 hh; clear h9 K; have hA := Lib.hid hA0; clear hA0)
            (refine still_on rfl (by rw [← hA.out]; rfl) (fun K hK => ?_); have hA1 := hA.out; clear hA; subst hA1; go_simp; generalize hA0 : Act.mk _ _ = aa; have h9 := hK.out aa; clear hK; suffices hh : _ from h9 hh; clear h9 K; have hA := Lib.hid hA0; clear hA0)
            (refine still_on rfl (by rw [← hA.out]; rfl) (fun K hK => ?_); have hA1 := hA.out; clear hA; subst hA1; go_simp; generalize hA0 : Act.mk _ _ = aa; have h9 := hK.out aa; clear hK; suffices hh : _ from h9 hh; clear h9 K; have hA := Lib.hid hA0; clear hA0)
            (refine still_plain rfl (fun K hK => ?_); have hA1 := hA.out; clear hA; subst hA1; go_simp; generalize hA0 : Act.mk _ _ = aa; have h9 := hK.out aa; clear hK; suffices hh : _ from h9 hh; clear h9 K; have hA := Lib.hid hA0; clear hA0)
            (refine still_plain rfl (fun K hK => ?_); have hA1 := hA.out; clear hA; subst hA1; go_simp; generalize hA0 : Act.mk _ _ = aa; have h9 := hK.out aa; clear hK; suffices hh : _ from h9 hh; clear h9 K; have hA := Lib.hid hA0; clear hA0)
            (refine still_plain rfl (fun K hK => ?_); have hA1 := hA.out; clear hA; subst hA1; go_simp; generalize hA0 : Act.mk _ _ = aa; have h9 := hK.out aa; clear hK; suffices hh : _ from h9 hh; clear h9 K; have hA := Lib.hid hA0; clear hA0)
            (refine still_plain rfl (fun K hK => ?_); have hA1 := hA.out; clear hA; subst hA1; go_simp; generalize hA0 : Act.mk _ _ = aa; have h9 := hK.out aa; clear hK; suffices hh : _ from h9 hh; clear h9 K; have hA := Lib.hid hA0; clear hA0)
            refine wpStill_nil ?_
            have hA1 := hA.out
            clear hA
            subst hA1
            have hk1 := HK1.out
            have hk2 := HK2.out
            clear HK1 HK2
            go_wp2_with fail
            go_ret
            refine ⟨by rw [HQ4.out]; rfl, v1, ?_⟩
            rw [HQ4.out]
            rw [hdl]
            exact HA7.out.put ((Turn.refl [b] w8).setCell (.inl (by simp)) _) false (streak + 1) (by rw [setCell_heap HA7.out.st.at_]; rfl)
    · have hal : addL l ⟨sa, sg, ss, sc⟩ = l ++ [(⟨sa, sg, ss, sc⟩ : Smp)] := by
        have h0 : (l ++ [(⟨sa, sg, ss, sc⟩ : Smp)]).length - 8 = 0 := by rw [List.length_append, HN.out]; simp; omega
        unfold addL
        rw [h0]; rfl
      have HAL := Lib.hid hal
      clear hal
      have h8' : ¬ (8 : Int) < (n : Int) + 1 := by omega
      go_wp2_with fail
      have HA2 := HA
      clear HA c0 c1 c2 c3 c4 c5 c6 y0 y1 y2 y3 y4
      generalize l ++ [(⟨sa, sg, ss, sc⟩ : Smp)] = l1 at *
      generalize Value.slice (some ⟨gg, 0, none⟩) (n + 1) cap = v1 at *
      generalize wc = W at *
      have HL8 := Lib.hid (HAL.out ▸ addL_le l ⟨sa, sg, ss, sc⟩ : l1.length ≤ 8)
      have hag := agrees_walk b ⟨rho, need, held, streak, l1⟩ v1 ss W HA2.out.st (Nat.le_trans HL8.out (by omega)) HS.out
      simp only at hag
      rw [← HAL.out] at hag
      have HQ2 := HQ.out
      generalize agreesC (addL l ⟨sa, sg, ss, sc⟩) ss rho = ag at *
      have HQ3 := Lib.hid HQ2
      clear HQ HQ2
      refine hag.mono ?_
      rintro e w6 ⟨rfl, hB6⟩
      have HA6 := Lib.hid (HA2.out.ext hB6)
      clear hag hB6 HA2
      obtain ⟨c0, c1, c2, c3, c4, c5, c6⟩ := HA6.out.st.cells
      obtain ⟨y0, y1, y2, y3, y4⟩ := HA6.out.cells
      simp only at c0 c1 c2 c3 y0 y1 y2 y3
      have hne : w.heap.size ≠ b := by have := HA6.out.lt; omega
      have hne' : b ≠ w.heap.size := by have := HA6.out.lt; omega
      cases ag
      · have HQ4 := Lib.hid (show addC ⟨rho, need, held, streak, l⟩ ⟨sa, sg, ss, sc⟩ = (⟨rho, need, true, 0, if (atS ⟨sa, sg, ss, sc⟩ ss rho).2 = 0 then [⟨sa, sg, ss, sc⟩] else []⟩, 21) by have := HQ3.out; simpa using this)
        clear HQ3
        generalize atS ⟨sa, sg, ss, sc⟩ ss rho = q at *
        obtain ⟨⟨z1, z2⟩, z3⟩ := q
        have HAT2 : Hid (∀ w, Calls Try.prog 8 #[.agg #[.int .i64 sa, .int .i64 sg, .int .i64 ss, .int .i64 sc], .int .i64 ss, .int .i64 rho] w fun e w' => e = .returned (.tuple #[.agg #[.int .i64 z1, .int .i64 z2], .int .i64 z3]) ∧ Below w.heap.size w w') := HAT.out
        clear HAT
        go_wp2_with fail
        have h7 := HA6.out.put2 (w'' := ((w6.setCell ⟨b, 2, none⟩ (.bool true)).setCell ⟨b, 3, none⟩ (.int .i64 0)).setCell ⟨b, 4, none⟩ (.slice none 0 0)) (v2 := .slice none 0 0) ((((Turn.refl [b] w6).setCell (.inl (by simp)) _).setCell (.inl (by simp)) _).setCell (.inl (by simp)) _) true 0 []
          ((setCell_heap (setCell_heap (setCell_heap HA6.out.st.at_ _) _) _).trans rfl) ⟨by simp, .inl ⟨rfl, rfl⟩⟩ (fun g hg => by simp [Value.ownBlock] at hg)
        have HA7 := Lib.hid h7
        simp only at HA7
        clear h7 HA6 c0 c1 c2 c3 c4 c5 c6 y0 y1 y2 y3 y4 hs0 hs1
        generalize ((w6.setCell ⟨b, 2, none⟩ (.bool true)).setCell ⟨b, 3, none⟩ (.int .i64 0)).setCell ⟨b, 4, none⟩ (.slice none 0 0) = w7 at *
        obtain ⟨c0, c1, c2, c3, c4, c5, c6⟩ := HA7.out.st.cells
        obtain ⟨y0, y1, y2, y3, y4⟩ := HA7.out.cells
        simp only at c0 c1 c2 c3 y0 y1 y2 y3
        clear c1 c2 c3 c4 c5
        have hn1 : b ≠ w7.heap.size := by omega
        have hn2 : w.heap.size ≠ w7.heap.size := by omega
        go_cut [6, 7] (fun p e wx => ∃ b', p = .pointer (some ⟨b', 0, none⟩) ∧ e = .int .i64 z3 ∧ Below w7.heap.size w7 wx)
        case first =>
          go_region_held3 (fun w' => w'.cell? ⟨b, 0, none⟩ = some (.int .i64 rho) ∧ w'.cell? ⟨w.heap.size, 0, none⟩ = some (.int .i64 sa) ∧ w'.cell? ⟨w.heap.size, 1, none⟩ = some (.int .i64 sg) ∧ w'.cell? ⟨w.heap.size, 2, none⟩ = some (.int .i64 ss) ∧ w'.cell? ⟨w.heap.size, 3, none⟩ = some (.int .i64 sc))
            (first | (go_keep; done) | (go_split_ands; refine ⟨?_, ?_, ?_, ?_, ?_⟩ <;> (rw [cell_far2 (by omega)]; assumption)))
            ((go_at_call 8; refine (HAT2.out _).mono ?_
              rintro e w4 ⟨rfl, hB4⟩
              have hE : Below w7.heap.size w7 w4 := by first | exact ((Below.refl _ w7).drew).trans (hB4.mono (by simp)) | exact (((Below.refl _ w7).drew).alloc (by simp) _).trans (hB4.mono (by simp))
              have x0 := (hE.cell (p := ⟨b, 0, none⟩) c6).trans c0
              have x1 := (hE.cell (p := ⟨w.heap.size, 0, none⟩) y4).trans y0
              have x2 := (hE.cell (p := ⟨w.heap.size, 1, none⟩) y4).trans y1
              have x3 := (hE.cell (p := ⟨w.heap.size, 2, none⟩) y4).trans y2
              have x4 := (hE.cell (p := ⟨w.heap.size, 3, none⟩) y4).trans y3
              have ysz := Nat.lt_of_lt_of_le y4 hE.size
              have ysz2 := Nat.lt_of_lt_of_le c6 hE.size
              try
                (have yb : Box2 w4 w7.heap.size 26 0 0 := (Box2.new w7.drew 26 0 0).ext hB4
                 obtain ⟨b0, b1, b2, b3⟩ := yb.cells)))
          all_goals go_wp2_with fail
          all_goals go_meet
          all_goals first
            | exact ⟨_, rfl, rfl, hE.alloc hE.size _⟩
            | exact ⟨_, rfl, rfl, below_put hE (Nat.le_refl _) z1 z2⟩
        case rest =>
          obtain ⟨b', rfl, rfl, h2⟩ := hcut
          have HA8 := Lib.hid (HA7.out.ext h2)
          clear h2 HA7 c0 c6 y0 y1 y2 y3 y4 hn1 hn2 HAT2
          obtain ⟨c0, c1, c2, c3, c4, c5, c6⟩ := HA8.out.st.cells
          obtain ⟨y0, y1, y2, y3, y4⟩ := HA8.out.cells
          simp only at c0 c1 c2 c3 y0 y1 y2 y3
          by_cases hz : z3 = 0
          · subst hz
            go_wp2_with fail
            go_ret
            refine ⟨by rw [HQ4.out]; rfl, .slice (some ⟨wc.heap.size, 0, none⟩) 1 1, ?_⟩
            rw [HQ4.out, if_pos trivial]
            have hnb : wc.heap.size ≠ b := by omega
            have hnew := heap_alloc_new (wc.setCell ⟨b, 4, none⟩ (.slice (some ⟨wc.heap.size, 0, none⟩) 1 1)) (.cells #[.int .i64 sa, .int .i64 sg, .int .i64 ss, .int .i64 sc] 23)
            have hsz : (wc.setCell ⟨b, 4, none⟩ (.slice (some ⟨wc.heap.size, 0, none⟩) 1 1)).heap.size = wc.heap.size := by simp
            rw [hsz] at hnew
            refine HA8.out.put2 (v2 := .slice (some ⟨wc.heap.size, 0, none⟩) 1 1) (((Turn.refl [b] _).setCell (.inl (by simp)) _).alloc _) true 0 [⟨sa, sg, ss, sc⟩] ((Below.heap_alloc _ _ _ (by rw [hsz]; exact c6)).trans (by rw [setCell_heap HA8.out.st.at_]; rfl)) ?_ (fun g hg => by simp [Value.ownBlock] at hg; omega)
            exact ⟨by simp [cellsS], .inr ⟨wc.heap.size, 1, _, rfl, Nat.zero_le _, hnew, Nat.le_refl _, by simp [maxLen], rfl, rfl⟩⟩
          · have hzb : (z3 == 0) = false := by simpa using hz
            go_wp2_with fail
            go_ret
            refine ⟨by rw [HQ4.out]; rfl, .slice none 0 0, ?_⟩
            rw [HQ4.out, if_neg hz]
            exact HA8.out
      · have HQ4 := Lib.hid (show addC ⟨rho, need, held, streak, l⟩ ⟨sa, sg, ss, sc⟩ = (⟨rho, need, held && decide (streak + 1 < need), streak + 1, l1⟩, 0) by have := HQ3.out; rw [HAL.out] at this; simpa using this)
        clear HQ3
        have hw1 : wrap64 (streak + 1) = streak + 1 := by simp [wrap64]; omega
        go_wp2_with fail
        have h7 := HA6.out.put (w'' := w6.setCell ⟨b, 3, none⟩ (.int .i64 (streak + 1))) ((Turn.refl [b] w6).setCell (.inl (by simp)) _) held (streak + 1) (by rw [setCell_heap HA6.out.st.at_]; rfl)
        have HA7 := Lib.hid (h7.ext ((Below.refl _ _).drew))
        simp only at HA7
        clear h7 HA6 c0 c1 c2 c3 c4 c5 c6 y0 y1 y2 y3 y4
        obtain ⟨c0, c1, c2, c3, c4, c5, c6⟩ := HA7.out.st.cells
        simp only at c0 c1 c2 c3
        generalize w6.setCell ⟨b, 3, none⟩ (.int .i64 (streak + 1)) = w7 at *
        rename_i Q1 K1 hk1 K2 hk2
        have HK1 := Lib.hid hk1
        have HK2 := Lib.hid hk2
        clear hk1 hk2
        refine wp_region_still_tail 21 (by kernel_rfl) (by kernel_rfl) ?_
        simp only [List.take_succ_cons, List.take_zero, List.drop_succ_cons, List.drop_zero]
        change wpStill _ _ w7.drew (fun a' => wpList _ _ _ _ a' w7.drew) _ _
        generalize w7.drew = w8 at *
        cases held
        · skip
          generalize hA0 : Act.mk _ _ = aa
          have hA := Lib.hid hA0
          clear hA0
          (refine still_plain rfl (fun K hK => ?_); have hA1 := hA.out; clear hA; subst hA1; go_simp; generalize hA0 : Act.mk _ _ = aa; have h9 := hK.out aa; clear hK; suffices hh : _ from h9 hh; clear h9 K; have hA := Lib.hid hA0; clear hA0)
          (refine still_plain rfl (fun K hK => ?_); have hA1 := hA.out; clear hA; subst hA1; go_simp; generalize hA0 : Act.mk _ _ = aa; have h9 := hK.out aa; clear hK; suffices hh : _ from h9 hh; clear h9 K; have hA := Lib.hid hA0; clear hA0)
          (refine still_plain rfl (fun K hK => ?_); have hA1 := hA.out; clear hA; subst hA1; go_simp; generalize hA0 : Act.mk _ _ = aa; have h9 := hK.out aa; clear hK; suffices hh : _ from h9 hh; clear h9 K; have hA := Lib.hid hA0; clear hA0)
          (refine still_plain rfl (fun K hK => ?_); have hA1 := hA.out; clear hA; subst hA1; go_simp; generalize hA0 : Act.mk _ _ = aa; have h9 := hK.out aa; clear hK; suffices hh : _ from h9 hh; clear h9 K; have hA := Lib.hid hA0; clear hA0)
          (refine still_plain rfl (fun K hK => ?_); have hA1 := hA.out; clear hA; subst hA1; go_simp; generalize hA0 : Act.mk _ _ = aa; have h9 := hK.out aa; clear hK; suffices hh : _ from h9 hh; clear h9 K; have hA := Lib.hid hA0; clear hA0)
          (refine still_plain rfl (fun K hK => ?_); have hA1 := hA.out; clear hA; subst hA1; go_simp; generalize hA0 : Act.mk _ _ = aa; have h9 := hK.out aa; clear hK; suffices hh : _ from h9 hh; clear h9 K; have hA := Lib.hid hA0; clear hA0)
          (refine still_plain rfl (fun K hK => ?_); have hA1 := hA.out; clear hA; subst hA1; go_simp; generalize hA0 : Act.mk _ _ = aa; have h9 := hK.out aa; clear hK; suffices hh : _ from h9 hh; clear h9 K; have hA := Lib.hid hA0; clear hA0)
          (refine still_off rfl (by rw [← hA.out]; rfl) ?_; have hA1 := hA.out; clear hA; generalize hA0 : Act.put aa _ _ = a9; subst hA1; simp [go_sem] at hA0; have hA := Lib.hid hA0; clear hA0; revert hA; revert a9; intro aa hA)
          (refine still_off rfl (by rw [← hA.out]; rfl) ?_; have hA1 := hA.out; clear hA; generalize hA0 : Act.put aa _ _ = a9; subst hA1; simp [go_sem] at hA0; have hA := Lib.hid hA0; clear hA0; revert hA; revert a9; intro aa hA)
          (refine still_off rfl (by rw [← hA.out]; rfl) ?_; have hA1 := hA.out; clear hA; generalize hA0 : Act.put aa _ _ = a9; subst hA1; simp [go_sem] at hA0; have hA := Lib.hid hA0; clear hA0; revert hA; revert a9; intro aa hA)
          (refine still_off rfl (by rw [← hA.out]; rfl) ?_; have hA1 := hA.out; clear hA; generalize hA0 : Act.put aa _ _ = a9; subst hA1; simp [go_sem] at hA0; have hA := Lib.hid hA0; clear hA0; revert hA; revert a9; intro aa hA)
          (refine still_off rfl (by rw [← hA.out]; rfl) ?_; have hA1 := hA.out; clear hA; generalize hA0 : Act.put aa _ _ = a9; subst hA1; simp [go_sem] at hA0; have hA := Lib.hid hA0; clear hA0; revert hA; revert a9; intro aa hA)
          (refine still_off rfl (by rw [← hA.out]; rfl) ?_; have hA1 := hA.out; clear hA; generalize hA0 : Act.put aa _ _ = a9; subst hA1; simp [go_sem] at hA0; have hA := Lib.hid hA0; clear hA0; revert hA; revert a9; intro aa hA)
          (refine still_off rfl (by rw [← hA.out]; rfl) ?_; have hA1 := hA.out; clear hA; generalize hA0 : Act.put aa _ _ = a9; subst hA1; simp [go_sem] at hA0; have hA := Lib.hid hA0; clear hA0; revert hA; revert a9; intro aa hA)
          (refine still_off rfl (by rw [← hA.out]; rfl) ?_; have hA1 := hA.out; clear hA; generalize hA0 : Act.put aa _ _ = a9; subst hA1; simp [go_sem] at hA0; have hA := Lib.hid hA0; clear hA0; revert hA; revert a9; intro aa hA)
          (refine still_off rfl (by rw [← hA.out]; rfl) ?_; have hA1 := hA.out; clear hA; generalize hA0 : Act.put aa _ _ = a9; subst hA1; simp [go_sem] at hA0; have hA := Lib.hid hA0; clear hA0; revert hA; revert a9; intro aa hA)
          (refine still_off rfl (by rw [← hA.out]; rfl) ?_; have hA1 := hA.out; clear hA; generalize hA0 : Act.put aa _ _ = a9; subst hA1; simp [go_sem] at hA0; have hA := Lib.hid hA0; clear hA0; revert hA; revert a9; intro aa hA)
          (refine still_plain rfl (fun K hK => ?_); have hA1 := hA.out; clear hA; subst hA1; go_simp; generalize hA0 : Act.mk _ _ = aa; have h9 := hK.out aa; clear hK; suffices hh : _ from h9 hh; clear h9 K; have hA := Lib.hid hA0; clear hA0)
          (refine still_plain rfl (fun K hK => ?_); have hA1 := hA.out; clear hA; subst hA1; go_simp; generalize hA0 : Act.mk _ _ = aa; have h9 := hK.out aa; clear hK; suffices hh : _ from h9 hh; clear h9 K; have hA := Lib.hid hA0; clear hA0)
          (refine still_plain rfl (fun K hK => ?_); have hA1 := hA.out; clear hA; subst hA1; go_simp; generalize hA0 : Act.mk _ _ = aa; have h9 := hK.out aa; clear hK; suffices hh : _ from h9 hh; clear h9 K; have hA := Lib.hid hA0; clear hA0)
          (refine still_plain rfl (fun K hK => ?_); have hA1 := hA.out; clear hA; subst hA1; go_simp; generalize hA0 : Act.mk _ _ = aa; have h9 := hK.out aa; clear hK; suffices hh : _ from h9 hh; clear h9 K; have hA := Lib.hid hA0; clear hA0)
          refine wpStill_nil ?_
          have hA1 := hA.out
          clear hA
          subst hA1
          have hk1 := HK1.out
          have hk2 := HK2.out
          clear HK1 HK2
          go_wp2_with fail
          go_ret
          refine ⟨by rw [HQ4.out]; rfl, v1, ?_⟩
          rw [HQ4.out]
          exact HA7.out.put ((Turn.refl [b] w8).setCell (.inl (by simp)) _) false (streak + 1) (by rw [setCell_heap HA7.out.st.at_]; rfl)
        · by_cases hlt : streak + 1 < need
          · have hdl : decide (streak + 1 < need) = true := by simpa using hlt
            generalize hA0 : Act.mk _ _ = aa
            have hA := Lib.hid hA0
            clear hA0
            (refine still_plain rfl (fun K hK => ?_); have hA1 := hA.out; clear hA; subst hA1; go_simp; generalize hA0 : Act.mk _ _ = aa; have h9 := hK.out aa; clear hK; suffices hh : _ from h9 hh; clear h9 K; have hA := Lib.hid hA0; clear hA0)
            (refine still_plain rfl (fun K hK => ?_); have hA1 := hA.out; clear hA; subst hA1; go_simp; generalize hA0 : Act.mk _ _ = aa; have h9 := hK.out aa; clear hK; suffices hh : _ from h9 hh; clear h9 K; have hA := Lib.hid hA0; clear hA0)
            (refine still_plain rfl (fun K hK => ?_); have hA1 := hA.out; clear hA; subst hA1; go_simp; generalize hA0 : Act.mk _ _ = aa; have h9 := hK.out aa; clear hK; suffices hh : _ from h9 hh; clear h9 K; have hA := Lib.hid hA0; clear hA0)
            (refine still_plain rfl (fun K hK => ?_); have hA1 := hA.out; clear hA; subst hA1; go_simp; generalize hA0 : Act.mk _ _ = aa; have h9 := hK.out aa; clear hK; suffices hh : _ from h9 hh; clear h9 K; have hA := Lib.hid hA0; clear hA0)
            (refine still_plain rfl (fun K hK => ?_); have hA1 := hA.out; clear hA; subst hA1; go_simp; generalize hA0 : Act.mk _ _ = aa; have h9 := hK.out aa; clear hK; suffices hh : _ from h9 hh; clear h9 K; have hA := Lib.hid hA0; clear hA0)
            (refine still_plain rfl (fun K hK => ?_); have hA1 := hA.out; clear hA; subst hA1; go_simp; generalize hA0 : Act.mk _ _ = aa; have h9 := hK.out aa; clear hK; suffices hh : _ from h9 hh; clear h9 K; have hA := Lib.hid hA0; clear hA0)
            (refine still_plain rfl (fun K hK => ?_); have hA1 := hA.out; clear hA; subst hA1; go_simp; generalize hA0 : Act.mk _ _ = aa; have h9 := hK.out aa; clear hK; suffices hh : _ from h9 hh; clear h9 K; have hA := Lib.hid hA0; clear hA0)
            (refine still_on rfl (by rw [← hA.out]; rfl) (fun K hK => ?_); have hA1 := hA.out; clear hA; subst hA1; go_simp; generalize hA0 : Act.mk _ _ = aa; have h9 := hK.out aa; clear hK; suffices hh : _ from h9 hh; clear h9 K; have hA := Lib.hid hA0; clear hA0)
            (refine still_on rfl (by rw [← hA.out]; rfl) (fun K hK => ?_); have hA1 := hA.out; clear hA; subst hA1; go_simp; generalize hA0 : Act.mk _ _ = aa; have h9 := hK.out aa; clear hK; suffices hh : _ from h9 hh; clear h9 K; have hA := Lib.hid hA0; clear hA0)
            (refine still_on rfl (by rw [← hA.out]; rfl) (fun K hK => ?_); have hA1 := hA.out; clear hA; subst hA1; go_simp; generalize hA0 : Act.mk _ _ = aa; have h9 := hK.out aa; clear hK; suffices hh : _ from h9 hh; clear h9 K; have hA := Lib.hid hA0; clear hA0)
            (refine still_on rfl (by rw [← hA.out]; rfl) (fun K hK => ?_); have hA1 := hA.out; clear hA; subst hA1; go_simp; generalize hA0 : Act.mk _ _ = aa; have h9 := hK.out aa; clear hK; suffices hh : _ from h9 hh; clear h9 K; have hA := Lib.hid hA0; clear hA0)
            (refine still_on rfl (by rw [← hA.out]; rfl) (fun K hK => ?_); have hA1 := hA.out; clear hA; subst hA1; go_simp; generalize hA0 : Act.mk _ _ = aa; have h9 := hK.out aa; clear hK; suffices hh : _ from h9 hh; clear h9 K; have hA := Lib.hid hA0; clear hA0)
            (refine still_on rfl (by rw [← hA.out]; rfl) (fun K hK => ?_); have hA1 := hA.out; clear hA; subst hA1; go_simp; generalize hA0 : Act.mk _ _ = aa; have h9 := hK.out aa; clear hK; suffices hh : _ from h9 hh; clear h9 K; have hA := Lib.hid hA0; clear hA0)
            (refine still_on rfl (by rw [← hA.out]; rfl) (fun K hK => ?_); have hA1 := hA.out; clear hA; subst hA1; go_simp; generalize hA0 : Act.mk _ _ = aa; have h9 := hK.out aa; clear hK; suffices hh : _ from h9 hh; clear h9 K; have hA := Lib.hid hA0; clear hA0)
            (refine still_on rfl (by rw [← hA.out]; rfl) (fun K hK => ?_); have hA1 := hA.out; clear hA; subst hA1; go_simp; generalize hA0 : Act.mk _ _ = aa; have h9 := hK.out aa; clear hK; suffices hh : _ from h9 hh; clear h9 K; have hA := Lib.hid hA0; clear hA0)
            (refine still_on rfl (by rw [← hA.out]; rfl) (fun K hK => ?_); have hA1 := hA.out; clear hA; subst hA1; go_simp; generalize hA0 : Act.mk _ _ = aa; have h9 := hK.out aa; clear hK; suffices hh : _ from h9 hh; clear h9 K; have hA := Lib.hid hA0; clear hA0)
            (refine still_on rfl (by rw [← hA.out]; rfl) (fun K hK => ?_); have hA1 := hA.out; clear hA; subst hA1; go_simp; generalize hA0 : Act.mk _ _ = aa; have h9 := hK.out aa; clear hK; suffices hh : _ from h9 hh; clear h9 K; have hA := Lib.hid hA0; clear hA0)
            (refine still_plain rfl (fun K hK => ?_); have hA1 := hA.out; clear hA; subst hA1; go_simp; generalize hA0 : Act.mk _ _ = aa; have h9 := hK.out aa; clear hK; suffices hh : _ from h9 hh; clear h9 K; have hA := Lib.hid hA0; clear hA0)
            (refine still_plain rfl (fun K hK => ?_); have hA1 := hA.out; clear hA; subst hA1; go_simp; generalize hA0 : Act.mk _ _ = aa; have h9 := hK.out aa; clear hK; suffices hh : _ from h9 hh; clear h9 K; have hA := Lib.hid hA0; clear hA0)
            (refine still_plain rfl (fun K hK => ?_); have hA1 := hA.out; clear hA; subst hA1; go_simp; generalize hA0 : Act.mk _ _ = aa; have h9 := hK.out aa; clear hK; suffices hh : _ from h9 hh; clear h9 K; have hA := Lib.hid hA0; clear hA0)
            (refine still_plain rfl (fun K hK => ?_); have hA1 := hA.out; clear hA; subst hA1; go_simp; generalize hA0 : Act.mk _ _ = aa; have h9 := hK.out aa; clear hK; suffices hh : _ from h9 hh; clear h9 K; have hA := Lib.hid hA0; clear hA0)
            refine wpStill_nil ?_
            have hA1 := hA.out
            clear hA
            subst hA1
            have hk1 := HK1.out
            have hk2 := HK2.out
            clear HK1 HK2
            go_wp2_with fail
            go_ret
            refine ⟨by rw [HQ4.out]; rfl, v1, ?_⟩
            rw [HQ4.out]
            rw [hdl]
            exact HA7.out.put ((Turn.refl [b] w8).setCell (.inl (by simp)) _) true (streak + 1) (by rw [setCell_heap HA7.out.st.at_]; rfl)
          · have hdl : decide (streak + 1 < need) = false := by simpa using hlt
            generalize hA0 : Act.mk _ _ = aa
            have hA := Lib.hid hA0
            clear hA0
            (refine still_plain rfl (fun K hK => ?_); have hA1 := hA.out; clear hA; subst hA1; go_simp; generalize hA0 : Act.mk _ _ = aa; have h9 := hK.out aa; clear hK; suffices hh : _ from h9 hh; clear h9 K; have hA := Lib.hid hA0; clear hA0)
            (refine still_plain rfl (fun K hK => ?_); have hA1 := hA.out; clear hA; subst hA1; go_simp; generalize hA0 : Act.mk _ _ = aa; have h9 := hK.out aa; clear hK; suffices hh : _ from h9 hh; clear h9 K; have hA := Lib.hid hA0; clear hA0)
            (refine still_plain rfl (fun K hK => ?_); have hA1 := hA.out; clear hA; subst hA1; go_simp; generalize hA0 : Act.mk _ _ = aa; have h9 := hK.out aa; clear hK; suffices hh : _ from h9 hh; clear h9 K; have hA := Lib.hid hA0; clear hA0)
            (refine still_plain rfl (fun K hK => ?_); have hA1 := hA.out; clear hA; subst hA1; go_simp; generalize hA0 : Act.mk _ _ = aa; have h9 := hK.out aa; clear hK; suffices hh : _ from h9 hh; clear h9 K; have hA := Lib.hid hA0; clear hA0)
            (refine still_plain rfl (fun K hK => ?_); have hA1 := hA.out; clear hA; subst hA1; go_simp; generalize hA0 : Act.mk _ _ = aa; have h9 := hK.out aa; clear hK; suffices hh : _ from h9 hh; clear h9 K; have hA := Lib.hid hA0; clear hA0)
            (refine still_plain rfl (fun K hK => ?_); have hA1 := hA.out; clear hA; subst hA1; go_simp; generalize hA0 : Act.mk _ _ = aa; have h9 := hK.out aa; clear hK; suffices hh : _ from h9 hh; clear h9 K; have hA := Lib.hid hA0; clear hA0)
            (refine still_plain rfl (fun K hK => ?_); have hA1 := hA.out; clear hA; subst hA1; go_simp; generalize hA0 : Act.mk _ _ = aa; have h9 := hK.out aa; clear hK; suffices hh : _ from h9 hh; clear h9 K; have hA := Lib.hid hA0; clear hA0)
            (refine still_on rfl (by rw [← hA.out]; rfl) (fun K hK => ?_); have hA1 := hA.out; clear hA; subst hA1; go_simp; generalize hA0 : Act.mk _ _ = aa; have h9 := hK.out aa; clear hK; suffices hh : _ from h9 hh; clear h9 K; have hA := Lib.hid hA0; clear hA0)
            (refine still_on rfl (by rw [← hA.out]; rfl) (fun K hK => ?_); have hA1 := hA.out; clear hA; subst hA1; go_simp; generalize hA0 : Act.mk _ _ = aa; have h9 := hK.out aa; clear hK; suffices hh : _ from h9 hh; clear h9 K; have hA := Lib.hid hA0; clear hA0)
            (refine still_on rfl (by rw [← hA.out]; rfl) (fun K hK => ?_); have hA1 := hA.out; clear hA; subst hA1; go_simp; generalize hA0 : Act.mk _ _ = aa; have h9 := hK.out aa; clear hK; suffices hh : _ from h9 hh; clear h9 K; have hA := Lib.hid hA0; clear hA0)
            (refine still_on rfl (by rw [← hA.out]; rfl) (fun K hK => ?_); have hA1 := hA.out; clear hA; subst hA1; go_simp; generalize hA0 : Act.mk _ _ = aa; have h9 := hK.out aa; clear hK; suffices hh : _ from h9 hh; clear h9 K; have hA := Lib.hid hA0; clear hA0)
            (refine still_on rfl (by rw [← hA.out]; rfl) (fun K hK => ?_); have hA1 := hA.out; clear hA; subst hA1; go_simp; generalize hA0 : Act.mk _ _ = aa; have h9 := hK.out aa; clear hK; suffices hh : _ from h9 hh; clear h9 K; have hA := Lib.hid hA0; clear hA0)
            (refine still_on rfl (by rw [← hA.out]; rfl) (fun K hK => ?_); have hA1 := hA.out; clear hA; subst hA1; go_simp; generalize hA0 : Act.mk _ _ = aa; have h9 := hK.out aa; clear hK; suffices hh : _ from h9 hh; clear h9 K; have hA := Lib.hid hA0; clear hA0)
            (refine still_on rfl (by rw [← hA.out]; rfl) (fun K hK => ?_); have hA1 := hA.out; clear hA; subst hA1; go_simp; generalize hA0 : Act.mk _ _ = aa; have h9 := hK.out aa; clear hK; suffices hh : _ from h9 hh; clear h9 K; have hA := Lib.hid hA0; clear hA0)
            (refine still_on rfl (by rw [← hA.out]; rfl) (fun K hK => ?_); have hA1 := hA.out; clear hA; subst hA1; go_simp; generalize hA0 : Act.mk _ _ = aa; have h9 := hK.out aa; clear hK; suffices hh : _ from h9 hh; clear h9 K; have hA := Lib.hid hA0; clear hA0)
            (refine still_on rfl (by rw [← hA.out]; rfl) (fun K hK => ?_); have hA1 := hA.out; clear hA; subst hA1; go_simp; generalize hA0 : Act.mk _ _ = aa; have h9 := hK.out aa; clear hK; suffices hh : _ from h9 hh; clear h9 K; have hA := Lib.hid hA0; clear hA0)
            (refine still_on rfl (by rw [← hA.out]; rfl) (fun K hK => ?_); have hA1 := hA.out; clear hA; subst hA1; go_simp; generalize hA0 : Act.mk _ _ = aa; have h9 := hK.out aa; clear hK; suffices hh : _ from h9 hh; clear h9 K; have hA := Lib.hid hA0; clear hA0)
            (refine still_plain rfl (fun K hK => ?_); have hA1 := hA.out; clear hA; subst hA1; go_simp; generalize hA0 : Act.mk _ _ = aa; have h9 := hK.out aa; clear hK; suffices hh : _ from h9 hh; clear h9 K; have hA := Lib.hid hA0; clear hA0)
            (refine still_plain rfl (fun K hK => ?_); have hA1 := hA.out; clear hA; subst hA1; go_simp; generalize hA0 : Act.mk _ _ = aa; have h9 := hK.out aa; clear hK; suffices hh : _ from h9 hh; clear h9 K; have hA := Lib.hid hA0; clear hA0)
            (refine still_plain rfl (fun K hK => ?_); have hA1 := hA.out; clear hA; subst hA1; go_simp; generalize hA0 : Act.mk _ _ = aa; have h9 := hK.out aa; clear hK; suffices hh : _ from h9 hh; clear h9 K; have hA := Lib.hid hA0; clear hA0)
            (refine still_plain rfl (fun K hK => ?_); have hA1 := hA.out; clear hA; subst hA1; go_simp; generalize hA0 : Act.mk _ _ = aa; have h9 := hK.out aa; clear hK; suffices hh : _ from h9 hh; clear h9 K; have hA := Lib.hid hA0; clear hA0)
            refine wpStill_nil ?_
            have hA1 := hA.out
            clear hA
            subst hA1
            have hk1 := HK1.out
            have hk2 := HK2.out
            clear HK1 HK2
            go_wp2_with fail
            go_ret
            refine ⟨by rw [HQ4.out]; rfl, v1, ?_⟩
            rw [HQ4.out]
            rw [hdl]
            exact HA7.out.put ((Turn.refl [b] w8).setCell (.inl (by simp)) _) false (streak + 1) (by rw [setCell_heap HA7.out.st.at_]; rfl)

end Go.Proofs.Ytkgodolhcoeaeaa
