/- The walk of ProbeOnce: the loop over the calls, and the one behind it. -/
import Derived.Test.YthhgcoapohgiiaaPj
namespace Go.Proofs.Ythhgcoapohgiiaa
open Go.RowKit

theorem zero33 (w : World) : (zeroValue 33).run Try.prog w = .ok (encC zeroC) w := by kernel_rfl

theorem zero3 (w : World) : (zeroValue 3).run Try.prog w = .ok (.int .i64 0) w := by kernel_rfl

theorem box7 {w : World} {b : Nat} {c : Cal} (h : w.heap[b]? = some (.cells #[.int .i64 c.what, .int .i64 c.agent, .int .i64 c.epoch, .int .i64 c.now, .int .i64 c.period, .int .i64 c.nb, .int .i64 c.nc] 33 (0, 0))) :
    w.cell? ⟨b, 0, none⟩ = some (.int .i64 c.what) ∧ w.cell? ⟨b, 1, none⟩ = some (.int .i64 c.agent) ∧ w.cell? ⟨b, 2, none⟩ = some (.int .i64 c.epoch) ∧ w.cell? ⟨b, 3, none⟩ = some (.int .i64 c.now) ∧ w.cell? ⟨b, 4, none⟩ = some (.int .i64 c.period) ∧ w.cell? ⟨b, 5, none⟩ = some (.int .i64 c.nb) ∧ w.cell? ⟨b, 6, none⟩ = some (.int .i64 c.nc) :=
  ⟨by simp [World.cell?, h], by simp [World.cell?, h], by simp [World.cell?, h], by simp [World.cell?, h], by simp [World.cell?, h], by simp [World.cell?, h], by simp [World.cell?, h]⟩

theorem nonce_in {w : World} {g : Nat} {rs : List Row} {cur : Array Value} (hg : w.heap[g]? = some (.cells cur 31 (0, 0))) (ht : cur.toList.take (rs.length * 2) = rs.flatMap Row.nonce) (i : Nat) (h : i < rs.length) :
    w.cell? ⟨g, i * 2, none⟩ = some (.int .i64 rs[i].boot) ∧ w.cell? ⟨g, i * 2 + 1, none⟩ = some (.int .i64 rs[i].count) := by
  have h1 : rs = rs.take i ++ rs[i] :: rs.drop (i + 1) := by rw [← List.drop_eq_getElem_cons h, List.take_append_drop]
  have h2 : ((rs.take i).flatMap Row.nonce).length = i * 2 := by rw [nonces_length, List.length_take, Nat.min_eq_left (by omega)]
  have h3 : ∀ j, j < 2 → w.cell? ⟨g, i * 2 + j, none⟩ = (rs[i].nonce)[j]? := by
    intro j hj
    have h4 : (rs.flatMap Row.nonce)[i * 2 + j]? = (rs[i].nonce)[j]? := by
      conv => lhs; rw [h1]
      rw [List.flatMap_append, List.flatMap_cons, List.getElem?_append_right (by rw [h2]; omega), h2, show i * 2 + j - i * 2 = j by omega, List.getElem?_append_left (by show j < 2; omega)]
    rw [← h4, ← ht, List.getElem?_take, if_pos (by omega)]
    simp [World.cell?, hg]
  exact ⟨h3 0 (by omega), h3 1 (by omega)⟩

set_option maxHeartbeats 4000000 in
set_option maxRecDepth 100000 in
theorem law_ok (boot other most : Int) (A : Option Addr) (n c : Nat) (calls : List Cal) (w : World) (hnl : n = calls.length) (hn : n ≤ 100) (b1 : 1 ≤ boot) (b2 : boot ≤ 1099511627776) (b3 : 1 ≤ most) (b4 : most ≤ 1024) (hc : CalsIn w A calls) :
    Calls Try.prog 3 #[.int .i64 boot, .int .i64 other, .int .i64 most, .slice A n c] w fun e w' => e = .returned (.bool true) ∧ Below w.heap.size w w' := by
  have HC := Lib.hid hc; clear hc
  have HNL := Lib.hid hnl; clear hnl
  have hmm := @run_makeMap Try.prog
  go_enter Try.func3, Try.ntmps3
  go_wp2_with fail
  refine (alive_any w).mono ?_
  rintro e w1 ⟨rfl, hb1⟩
  go_wp2_with fail
  refine (new_ok boot most w1 b1 b2 b3 b4).mono ?_
  rintro e w2 ⟨rfl, hb2, hS2⟩
  have hz2 := lt_of_heap hS2.at_
  have hL : LInv w ((w2.alloc (.map #[] 0)).alloc (.map #[] 0)) (w1.heap.size + 1) w1.heap.size w2.heap.size (w2.heap.size + 1) boot most 0 [] [] [] [] (.slice none 0 0) := by
    have hz1 := hb1.size
    have hT := ((Turn.refl [] w2).alloc (.map #[] 0)).alloc (.map #[] 0)
    refine ⟨(hb1.trans (hb2.mono hz1)).trans (hT.toBelow (by omega) (by simp)), hS2.still hT, ?_, ?_, ?_, ?_, ?_, by omega, by omega, by omega⟩
    · intro x hx; simp [foot, Value.ownBlock] at hx; omega
    · exact (MapAt.made w2 _ _).same (Below.heap_alloc _ _ _ (by simp))
    · have := MapAt.made (w2.alloc (.map #[] 0)) encN (Value.int .i64) (κ := Int × Int) (ν := Int)
      simpa using this
    · intro hx; simp [foot, Value.ownBlock] at hx; omega
    · intro hx; simp [foot, Value.ownBlock] at hx; omega
  have HL := Lib.hid hL; clear hL hS2
  have HB1 := Lib.hid hb1; have HB2 := Lib.hid hb2; clear hb1 hb2
  go_wp2_with fail
  clear hz2 hmm
  generalize (w2.alloc (.map #[] 0)).alloc (.map #[] 0) = W0 at HL ⊢
  generalize w1.heap.size + 1 = bp at HL ⊢
  generalize w1.heap.size = bm at HL ⊢
  generalize w2.heap.size + 1 = bd at HL ⊢
  generalize w2.heap.size = bs at HL ⊢
  clear HB1 HB2
  go_loopw [13] (fun i wr => ∃ (k : Nat) (count : Int) (rows : List Row) (last : List (Int × Int)) (sl : List ((Int × Int) × Cal)) (dl : List ((Int × Int) × Int)) (v : Value), k ≤ n ∧ i = .int .i64 k ∧ LInv w wr bp bm bs bd boot most count rows last sl dl v ∧ PInv boot most count rows sl dl k) (fun i _ => n - (intOf i).toNat)
  case atStart => exact ⟨0, _, _, _, _, _, _, Nat.zero_le _, rfl, HL.out, PInv.start boot most b3⟩
  case round =>
    clear HL
    obtain ⟨k, count, rows, last, sl, dl, v, hk, rfl, hL, hP⟩ := hrel
    have HL := Lib.hid hL; have HP := Lib.hid hP; clear hL hP
    by_cases hlt : k < n
    · obtain ⟨b, off, hA, hbl, hci⟩ := HC.out k (by have := HNL.out; omega)
      subst hA
      generalize hcal : calls[k]'(by have := HNL.out; omega) = cal at hci
      have hci2 := hci.turn hbl HL.out.below
      obtain ⟨e0, e1, e2, e3, e4, e5, e6⟩ := hci2
      have hbw : b < wr.heap.size := by have := HL.out.below.size; omega
      have HLb := Lib.hid (HL.out.still ((Turn.refl [] wr).alloc (.cells #[.int .i64 cal.what, .int .i64 cal.agent, .int .i64 cal.epoch, .int .i64 cal.now, .int .i64 cal.period, .int .i64 cal.nb, .int .i64 cal.nc] 33)))
      have HBX : Hid ((wr.alloc (.cells #[.int .i64 cal.what, .int .i64 cal.agent, .int .i64 cal.epoch, .int .i64 cal.now, .int .i64 cal.period, .int .i64 cal.nb, .int .i64 cal.nc] 33)).heap[wr.heap.size]? = some _) := heap_alloc_new wr _
      clear hci hcal
      have hrl : rows.length ≤ 1000000 := by have := HP.out.len; omega
      by_cases h0 : cal.what = 0
      · have t0 : (cal.what == 0) = true := by simpa using h0
        clear h0
        go_wp2_with fail
        clear e0 e1 e2 e3 e4 e5 e6 t0
        have hap := HL.out.apart (Nat.le_refl _)
        generalize wr.alloc (.cells #[.int .i64 cal.what, .int .i64 cal.agent, .int .i64 cal.epoch, .int .i64 cal.now, .int .i64 cal.period, .int .i64 cal.nb, .int .i64 cal.nc] 33) = wb at HLb HBX ⊢
        generalize wr.heap.size = bx at HBX hap ⊢
        have HAP := Lib.hid hap; clear hap
        by_cases hbad : sendBad cal.agent cal.epoch cal.now
        · refine (send_bad bp cal.agent cal.epoch cal.now wb hbad).mono ?_
          rintro e w3 ⟨rfl, hB⟩
          clear hbad
          go_wp2_with fail
          go_roundw
          case rel => exact ⟨k + 1, count, rows, last, sl, dl, v, by omega, by go_num, (HLb.out.still (Turn.below hB)).still ((Turn.refl [] w3).alloc _), HP.out.skip⟩
          case measure => simp [intOf]; omega
        · have hg : 0 ≤ cal.agent ∧ cal.agent < 64 ∧ 1 ≤ cal.epoch ∧ cal.epoch ≤ 1099511627776 ∧ isTimeB cal.now = true := by
            unfold sendBad at hbad
            simp only [not_or, Bool.not_eq_false] at hbad
            exact ⟨by omega, by omega, by omega, by omega, hbad.2.2.2.2⟩
          clear hbad
          refine (send_ok bp bm boot count most cal.agent cal.epoch cal.now rows last v wb hg.1 hg.2.1 hg.2.2.1 hg.2.2.2.1 hg.2.2.2.2 HLb.out.p hrl).mono ?_
          rintro e w3 ⟨rfl, hT3, v3, hS3, hv3⟩
          have hw : wrap64 (count + 1) = count + 1 := by have h1 := HP.out.c0; have h2 := HP.out.c1; unfold wrap64; omega
          rw [hw] at hS3
          have hL3 := HLb.out.moved hT3 hS3 hv3
          have hX3 := (hT3.block bx (lt_of_heap HBX.out) HAP.out.1).trans HBX.out
          have hL4 := hL3.still ((Turn.refl [] w3).alloc (.cells #[.int .i64 boot, .int .i64 count] 31))
          have hL5 := hL4.still ((Turn.refl [] _).alloc (.cells #[.int .i64 0, .int .i64 0, .int .i64 0, .int .i64 0, .int .i64 0, .int .i64 0, .int .i64 0] 33))
          have hbx3 : bx < w3.heap.size := lt_of_heap hX3
          obtain ⟨x0, x1, x2, x3, x4, x5, x6⟩ := box7 hX3
          have HL4 := Lib.hid hL4; have HL5 := Lib.hid hL5; have HFR := Lib.hid HP.out.fresh
          have hlen : ¬ most < ((sent rows ⟨boot, count, cal.agent, cal.epoch, cal.now⟩ most).length : Int) := by have := sent_length (r := ⟨boot, count, cal.agent, cal.epoch, cal.now⟩) HP.out.len; omega
          have hlen2 : (sent rows ⟨boot, count, cal.agent, cal.epoch, cal.now⟩ most).length ≤ 1000000 := by omega
          generalize hsr : sent rows ⟨boot, count, cal.agent, cal.epoch, cal.now⟩ most = sr at HL4 HL5 hlen hlen2
          have HSR := Lib.hid hsr; clear hsr
          have hbb : (boot != boot) = false := by simp
          clear hT3 hS3 hv3 hw hL3 hX3 hL4 hL5 hg
          go_wp2_with (first | (at_lookup; refine wpList_lookup_al rfl _ _ 28 true rfl 31 33 mkey31 Try.underlying28 (encC zeroC) (zero33 _) bs sl HL4.out.ms (boot, count) rfl rfl ?_; rw [HFR.out]; simp only [Option.map_none, Option.getD_none, Option.isSome_none, if_true, encC, zeroC]) | (at_mapUpdate; refine wpList_mapUpdate_al rfl _ _ _ 28 rfl 31 33 mkey31 Try.underlying28 bs sl HL5.out.ms (boot, count) cal rfl rfl rfl ?_; intro w4 hm4 ht4 hs4; have HL6 := Lib.hid (HL5.out.putS ht4 hm4); clear hm4 ht4 hs4))
          clear x0 x1 x2 x3 x4 x5 x6
          refine (out_any bp bm boot (count + 1) most sr (aput cal.agent cal.now last) v3 w4 HL6.out.p hlen2).mono ?_
          rintro e w5 ⟨A5, c5, rfl, hB5, -⟩
          go_wp2_with fail
          go_roundw
          case rel => exact ⟨k + 1, count + 1, _, _, _, dl, v3, by omega, by go_num, HL6.out.still (Turn.below hB5), by rw [← HSR.out]; exact HP.out.send cal⟩
          case measure => simp [intOf]; omega
      · have t0 : (cal.what == 0) = false := by simpa using h0
        by_cases h1 : cal.what = 1
        · have t1 : (cal.what == 1) = true := by simpa using h1
          clear h0 h1
          go_wp2_with fail
          clear e0 e1 e2 e3 e4 e5 e6 t0 t1
          have hap := HL.out.apart (Nat.le_refl _)
          generalize wr.alloc (.cells #[.int .i64 cal.what, .int .i64 cal.agent, .int .i64 cal.epoch, .int .i64 cal.now, .int .i64 cal.period, .int .i64 cal.nb, .int .i64 cal.nc] 33) = wb at HLb HBX ⊢
          generalize wr.heap.size = bx at HBX hap ⊢
          have HAP := Lib.hid hap; clear hap
          by_cases hnb : cal.nb = boot
          · rw [hnb]
            have han := answer_any bp bm boot count most cal.agent cal.epoch cal.nc rows last v wb HLb.out.p hrl
            rcases answer_cases rows boot cal.agent cal.epoch cal.nc with ha | ha | ⟨j, r, hj, hr1, hr2, hr3, hr4, ha⟩
            · rw [ha] at han
              refine han.mono ?_
              rintro e w3 ⟨rfl, hT3, v3, hS3, hv3⟩
              dsimp only at hS3 ⊢
              have HL3 := Lib.hid (HLb.out.moved hT3 hS3 (.inl hv3))
              clear hT3 hS3 hv3 han ha hnb
              go_wp2_with fail
              go_roundw
              case rel => exact ⟨k + 1, _, _, _, _, _, _, by omega, by go_num, HL3.out, HP.out.skip⟩
              case measure => simp [intOf]; omega
            · rw [ha] at han
              refine han.mono ?_
              rintro e w3 ⟨rfl, hT3, v3, hS3, hv3⟩
              dsimp only at hS3 ⊢
              have HL3 := Lib.hid (HLb.out.moved hT3 hS3 (.inl hv3))
              clear hT3 hS3 hv3 han ha hnb
              go_wp2_with fail
              go_roundw
              case rel => exact ⟨k + 1, _, _, _, _, _, _, by omega, by go_num, HL3.out, HP.out.skip⟩
              case measure => simp [intOf]; omega
            · rw [ha] at han
              refine han.mono ?_
              rintro e w3 ⟨rfl, hT3, v3, hS3, hv3⟩
              dsimp only at hS3 ⊢
              have hL3 := HLb.out.moved hT3 hS3 (.inl hv3)
              have hX3 := (hT3.block bx (lt_of_heap HBX.out) HAP.out.1).trans HBX.out
              obtain ⟨hP3, hd3, c0, hc0, hca, hce, hcn⟩ := HP.out.answer hj
              rw [hr2] at hP3 hd3 hc0
              obtain ⟨x0, x1, x2, x3, x4, x5, x6⟩ := box7 hX3
              rw [hnb] at x5
              have hnb' := Lib.hid hnb
              have hbx3 : bx < w3.heap.size := lt_of_heap hX3
              have hL5 := hL3.still ((Turn.refl [] w3).alloc (.cells #[.int .i64 c0.what, .int .i64 c0.agent, .int .i64 c0.epoch, .int .i64 c0.now, .int .i64 c0.period, .int .i64 c0.nb, .int .i64 c0.nc] 33))
              have HL3 := Lib.hid hL3; have HL5 := Lib.hid hL5; have HX3 := Lib.hid hX3; have HP3 := Lib.hid hP3; have HD3 := Lib.hid hd3; have HC0 := Lib.hid hc0
              have q1 : (c0.agent != cal.agent) = false := by simp [hca, hr3]
              have q2 : (c0.epoch != cal.epoch) = false := by simp [hce, hr4]
              have q3 : (c0.now != r.at_) = false := by simp [hcn]
              clear hT3 hS3 hv3 han ha hnb hL3 hL5 hX3 hP3 hd3 hc0 hca hce hcn hr1 hr2 hr3 hr4
              go_wp2_with (at_lookup; refine wpList_lookup_al rfl _ _ 28 true rfl 31 33 mkey31 Try.underlying28 (encC zeroC) (zero33 _) bs sl HL3.out.ms (boot, cal.nc) rfl rfl ?_; rw [HC0.out]; simp only [Option.map_some, Option.getD_some, Option.isSome_some, if_true, encC])
              have hbx5 : bx < w3.heap.size + 1 := by omega
              have f5 := heap_alloc_new w3 (.cells #[.int .i64 c0.what, .int .i64 c0.agent, .int .i64 c0.epoch, .int .i64 c0.now, .int .i64 c0.period, .int .i64 c0.nb, .int .i64 c0.nc] 33)
              have g5 := ((Turn.refl [] w3).alloc (.cells #[.int .i64 c0.what, .int .i64 c0.agent, .int .i64 c0.epoch, .int .i64 c0.now, .int .i64 c0.period, .int .i64 c0.nb, .int .i64 c0.nc] 33)).block bx hbx3 (by simp) |>.trans HX3.out
              generalize w3.alloc (.cells #[.int .i64 c0.what, .int .i64 c0.agent, .int .i64 c0.epoch, .int .i64 c0.now, .int .i64 c0.period, .int .i64 c0.nb, .int .i64 c0.nc] 33) = w5 at HL5 f5 g5 ⊢
              have hap5 := HL3.out.apart (Nat.le_refl _)
              generalize w3.heap.size = by_ at f5 hap5 hbx5 ⊢
              obtain ⟨es1, c1, st, hM, hmd1, hst⟩ := MapAt.entry (P := Try.prog) (w := w5.drew) (t := 29) (k := 31) (e := 3) (y0 := (0 : Int)) (show MapAt w5.drew bd encN (Value.int .i64) dl from HL5.out.md) mkey31 Try.underlying29 (fun u => zero3 u) (boot, cal.nc)
              obtain ⟨es2, hE, hmd2⟩ := hst 1
              have hL1 := (show MapAt w5.drew bd encN (Value.int .i64) dl from HL5.out.md).lookup (P := Try.prog) (t := 29) (e := 3) mkey31 Try.underlying29 (zero3 _) (boot, cal.nc) false
              have hL2 := hmd1.lookup (P := Try.prog) (t := 29) (e := 3) mkey31 Try.underlying29 (zero3 _) (boot, cal.nc) false
              have hL3 := hmd2.lookup (P := Try.prog) (t := 29) (e := 3) mkey31 Try.underlying29 (zero3 _) (boot, cal.nc) false
              rw [aget_aput_same] at hL2 hL3
              rw [HD3.out] at hM hL1 hL2
              simp only [Option.getD_none, Option.map_none, Option.map_some, Option.getD_some, Bool.false_eq_true, if_false, encN, goInt] at hM hL1 hL2 hL3 hE
              have hTm : Turn [bd] w5 (setMap w5.drew bd es1 c1) := (Turn.refl [bd] w5).drew.setMap (.inl (by simp)) _ _
              have hTn : Turn [bd] w5 (setMap (setMap w5.drew bd es1 c1) bd es2 c1) := hTm.setMap (.inl (by simp)) _ _
              have HL6 := Lib.hid (HL5.out.putD hTn hmd2)
              have g6 := (hTn.block bx (lt_of_heap g5) (by simpa using HAP.out.2.2)).trans g5
              have f6 := (hTn.block by_ (lt_of_heap f5) (by simpa using hap5.2.2)).trans f5
              obtain ⟨y0, y1, y2, y3, y4, y5, y6⟩ := box7 g5
              obtain ⟨z0, z1, z2, z3, z4, z5, z6⟩ := box7 g6
              obtain ⟨v0, v1, v2, v3', v4, v5, v6⟩ := box7 f6
              rw [hnb'.out] at y5 z5
              clear x0 x1 x2 x3 x4 x5 x6 hst hmd1 hmd2 hTm hTn g5 f5 g6 f6 hap5
              generalize setMap (setMap w5.drew bd es1 c1) bd es2 c1 = wn at hE hL3 HL6 z0 z1 z2 z3 z4 z5 z6 v0 v1 v2 v3' v4 v5 v6
              generalize setMap w5.drew bd es1 c1 = wm at hM hL2 hE
              go_region
              all_goals
                clear hM hL1 hL2 hE y0 y1 y2 y3 y4 y5 y6
                have hlen : ¬ most < ((rows.eraseIdx j).length : Int) := by have := HP3.out.len; omega
                have hlen2 : (rows.eraseIdx j).length ≤ 1000000 := by omega
                go_wp2_with fail
                refine (out_any bp bm boot count most (rows.eraseIdx j) last v3 wn HL6.out.p hlen2).mono ?_
                rintro e w7 ⟨A5, c5, rfl, hB5, -⟩
                clear hL3
                go_wp2_with fail
                go_roundw
                case rel => exact ⟨k + 1, _, _, _, _, _, _, by omega, by go_num, HL6.out.still (Turn.below hB5), HP3.out⟩
                case measure => simp [intOf]; omega
          · refine (answer_old bp bm boot count most cal.agent cal.epoch cal.nb cal.nc rows last v wb HLb.out.p hnb).mono ?_
            rintro e w3 ⟨rfl, hT3⟩
            have HL3 := Lib.hid (HLb.out.still hT3)
            clear hT3 hnb
            go_wp2_with fail
            go_roundw
            case rel => exact ⟨k + 1, _, _, _, _, _, _, by omega, by go_num, HL3.out, HP.out.skip⟩
            case measure => simp [intOf]; omega
        · have t1 : (cal.what == 1) = false := by simpa using h1
          by_cases h2 : cal.what = 2
          · have t2 : (cal.what == 2) = true := by simpa using h2
            clear h0 h1 h2
            go_wp2_with fail
            clear e0 e1 e2 e3 e4 e5 e6 t0 t1 t2
            generalize wr.alloc (.cells #[.int .i64 cal.what, .int .i64 cal.agent, .int .i64 cal.epoch, .int .i64 cal.now, .int .i64 cal.period, .int .i64 cal.nb, .int .i64 cal.nc] 33) = wb at HLb HBX ⊢
            refine (forget_any bp bm boot count most cal.agent rows last v wb HLb.out.p hrl).mono ?_
            rintro e w3 ⟨rfl, hT3, v3, hS3, hv3⟩
            have HL3 := Lib.hid (HLb.out.moved hT3 hS3 (.inl hv3))
            have hP3 := HP.out.forget cal.agent
            have hlen : ¬ most < ((others cal.agent rows).length : Int) := by have := hP3.len; omega
            have hlen2 : (others cal.agent rows).length ≤ 1000000 := by omega
            have HP3 := Lib.hid hP3
            clear hT3 hS3 hv3 hP3
            go_wp2_with fail
            refine (out_any bp bm boot count most (others cal.agent rows) (adel cal.agent last) v3 w3 HL3.out.p hlen2).mono ?_
            rintro e w5 ⟨A5, c5, rfl, hB5, -⟩
            go_wp2_with fail
            go_roundw
            case rel => exact ⟨k + 1, _, _, _, _, _, _, by omega, by go_num, HL3.out.still (Turn.below hB5), HP3.out⟩
            case measure => simp [intOf]; omega
          · have t2 : (cal.what == 2) = false := by simpa using h2
            clear h0 h1 h2
            have hlen : ¬ most < (rows.length : Int) := by have := HP.out.len; omega
            go_wp2_with fail
            clear e0 e1 e2 e3 e4 e5 e6 t0 t1 t2
            generalize wr.alloc (.cells #[.int .i64 cal.what, .int .i64 cal.agent, .int .i64 cal.epoch, .int .i64 cal.now, .int .i64 cal.period, .int .i64 cal.nb, .int .i64 cal.nc] 33) = wb at HLb HBX ⊢
            refine (out_any bp bm boot count most rows last v wb HLb.out.p hrl).mono ?_
            rintro e w5 ⟨A5, c5, rfl, hB5, -⟩
            go_wp2_with fail
            go_roundw
            case rel => exact ⟨k + 1, _, _, _, _, _, _, by omega, by go_num, HLb.out.still (Turn.below hB5), HP.out.skip⟩
            case measure => simp [intOf]; omega
    · obtain rfl : k = n := by omega
      have hrl : rows.length ≤ 1000000 := by have := HP.out.len; omega
      by_cases hob : other = boot
      · have t0 : (other == boot) = true := by simpa using hob
        clear hob
        go_wp2_with fail
        go_ret
        exact ⟨rfl, HL.out.below⟩
      · have t0 : (other == boot) = false := by simpa using hob
        have HOB := Lib.hid hob; clear hob
        go_wp2_with fail
        refine (out_any bp bm boot count most rows last v wr HL.out.p hrl).mono ?_
        rintro e w5 ⟨A5, c5, rfl, hB5, ho5⟩
        have HL5 := Lib.hid (HL.out.still (Turn.below hB5)); have HO5 := Lib.hid ho5
        clear hB5 ho5
        go_wp2_with fail
        go_loopw [24] (fun i wx => ∃ k2 : Nat, k2 ≤ rows.length ∧ i = .int .i64 k2 ∧ Turn [] w5 wx) (fun i _ => rows.length - (intOf i).toNat)
        case atStart => exact ⟨0, Nat.zero_le _, rfl, Turn.refl _ _⟩
        case round =>
          obtain ⟨k2, hk2, rfl, hT⟩ := hrel
          have HT := Lib.hid hT; clear hT
          by_cases hlt2 : k2 < rows.length
          · rcases HO5.out.2 with ⟨_, h0⟩ | ⟨g, cap, cur, hv, hg8, hg9, hnc, hcm, hcs, ht⟩
            · omega
            simp only [Value.slice.injEq, true_and] at hv
            obtain ⟨rfl, rfl⟩ := hv
            have hg10 := (HT.out.block g (lt_of_heap hg9) (by simp)).trans hg9
            have hgl := lt_of_heap hg10
            obtain ⟨x0, x1⟩ := nonce_in hg10 ht k2 hlt2
            have hrb : rows[k2].boot = boot := (HP.out.row _ (List.getElem_mem hlt2)).1
            rw [hrb] at x0
            have HLx := Lib.hid (HL5.out.still HT.out)
            obtain ⟨c0, hc0⟩ : ∃ c0 : Cal, ((aget (boot, rows[k2].count) sl).map encC).getD (encC zeroC) = encC c0 := by
              cases aget (boot, rows[k2].count) sl with
              | none => exact ⟨_, rfl⟩
              | some c1 => exact ⟨c1, rfl⟩
            have HC0 := Lib.hid hc0
            have hans := fun W (h : Turn [] wr W) => answer_old bp bm boot count most c0.agent c0.epoch other rows[k2].count rows last v W (HLx.out.p.still h) HOB.out
            have HANS := Lib.hid hans
            clear hg9 hg10 ht hcs hrb hc0 hans hg8
            go_wp2_with (at_lookup; refine wpList_lookup_al rfl _ _ 28 false rfl 31 33 mkey31 Try.underlying28 (encC zeroC) (zero33 _) bs sl HLx.out.ms (boot, rows[k2].count) rfl rfl ?_; rw [HC0.out]; simp only [Bool.false_eq_true, if_false, encC])
            have f5 := heap_alloc_new wr (.cells #[.int .i64 c0.what, .int .i64 c0.agent, .int .i64 c0.epoch, .int .i64 c0.now, .int .i64 c0.period, .int .i64 c0.nb, .int .i64 c0.nc] 33)
            have hTa := (Turn.refl [] wr).alloc (.cells #[.int .i64 c0.what, .int .i64 c0.agent, .int .i64 c0.epoch, .int .i64 c0.now, .int .i64 c0.period, .int .i64 c0.nb, .int .i64 c0.nc] 33)
            have y1 := (hTa.cell (p := ⟨g, k2 * 2 + 1, none⟩) hgl (by simp)).trans x1
            have hgl2 : g < (wr.alloc (.cells #[.int .i64 c0.what, .int .i64 c0.agent, .int .i64 c0.epoch, .int .i64 c0.now, .int .i64 c0.period, .int .i64 c0.nb, .int .i64 c0.nc] 33)).heap.size := by simp; omega
            have hbl2 : wr.heap.size < (wr.alloc (.cells #[.int .i64 c0.what, .int .i64 c0.agent, .int .i64 c0.epoch, .int .i64 c0.now, .int .i64 c0.period, .int .i64 c0.nb, .int .i64 c0.nc] 33)).heap.size := by simp
            clear x0 x1
            generalize wr.alloc (.cells #[.int .i64 c0.what, .int .i64 c0.agent, .int .i64 c0.epoch, .int .i64 c0.now, .int .i64 c0.period, .int .i64 c0.nb, .int .i64 c0.nc] 33) = wa at f5 hTa y1 hgl2 hbl2 ⊢
            obtain ⟨-, z1, z2, -, -, -, -⟩ := box7 f5
            clear f5
            go_region_held3 (fun w' => w'.cell? ⟨g, k2 * 2 + 1, none⟩ = some (.int .i64 rows[k2].count) ∧ w'.cell? ⟨wr.heap.size, 1, none⟩ = some (.int .i64 c0.agent) ∧ w'.cell? ⟨wr.heap.size, 2, none⟩ = some (.int .i64 c0.epoch))
              (first
                | (go_keep; done)
                | (go_split_ands
                   refine ⟨?_, ?_, ?_⟩
                   · (rw [hT7.cell (by simpa using hgl2) (by simp)]; assumption)
                   · (rw [hT7.cell (by simpa using hbl2) (by simp)]; assumption)
                   · (rw [hT7.cell (by simpa using hbl2) (by simp)]; assumption)))
              ((go_at_call 7; refine (HANS.out _ ?_).mono ?_; exact hTa.drew; rintro e w7 ⟨rfl, hT7⟩))
            all_goals
              go_wp2_with fail
              go_roundw
              case rel => exact ⟨k2 + 1, by omega, by go_num, (HT.out.trans hTa.drew (by simp)).trans hT7 (by simp)⟩
              case measure => simp [intOf]; omega
          · go_wp2_with fail
            go_ret
            exact ⟨rfl, (HL5.out.still HT.out).below⟩

theorem law_any (boot other most : Int) (A : Option Addr) (n c : Nat) (calls : List Cal) (w : World) (hnl : n = calls.length) (hn2 : n ≤ 9223372036854775807) (hc : CalsIn w A calls) :
    Calls Try.prog 3 #[.int .i64 boot, .int .i64 other, .int .i64 most, .slice A n c] w fun e w' => e = .returned (.bool true) ∧ Below w.heap.size w w' := by
  by_cases h1 : n ≤ 100
  · by_cases h2 : newBad boot most
    · exact law_bad boot other most A n c w h1 h2
    · unfold newBad at h2
      exact law_ok boot other most A n c calls w hnl h1 (by omega) (by omega) (by omega) (by omega) hc
  · exact law_long boot other most A n c w (by omega) hn2

end Go.Proofs.Ythhgcoapohgiiaa
