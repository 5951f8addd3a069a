/- Clock: all samples' intervals of a stamp, walked. No condition. -/
import Derived.Test.YtkgodolhcoeaeaaCd
import Derived.Deep.DeepCutAuto
namespace Go.Proofs.Ytkgodolhcoeaeaa
open Go.RowKit

def gapsOk (l : List Smp) (x r : Int) : Bool := l.all fun s => decide ((atS s x r).2 = 0)
def gapsL (l : List Smp) (x r : Int) : List (Int × Int) := l.map fun s => (atS s x r).1
def gapsR (l : List Smp) (x r : Int) : List (Int × Int) := if gapsOk l x r = true then gapsL l x r else []

theorem gapsOk_take (l : List Smp) (x r : Int) (i : Nat) (h : i < l.length) : gapsOk (l.take (i + 1)) x r = (gapsOk (l.take i) x r && decide ((atS l[i] x r).2 = 0)) := by
  unfold gapsOk
  rw [List.take_succ_eq_append_getElem h, List.all_append]; simp

theorem gapsL_take (l : List Smp) (x r : Int) (i : Nat) (h : i < l.length) : (gapsL (l.take (i + 1)) x r).flatMap cellsG = (gapsL (l.take i) x r).flatMap cellsG ++ cellsG (atS l[i] x r).1 := by
  unfold gapsL
  rw [List.take_succ_eq_append_getElem h, List.map_append, List.flatMap_append, List.map_cons, List.map_nil, List.flatMap_cons, List.flatMap_nil, List.append_nil]

theorem gapsOk_of {l : List Smp} {x r : Int} (h : gapsOk l x r = true) (i : Nat) : gapsOk (l.take i) x r = true := by
  unfold gapsOk at *
  rw [List.all_eq_true] at *
  exact fun s hs => h s (List.mem_of_mem_take hs)

theorem gapsL_len (l : List Smp) (x r : Int) : (gapsL l x r).length = l.length := List.length_map _

set_option maxRecDepth 100000 in
set_option maxHeartbeats 8000000 in
theorem gaps_walk (b : Nat) (c : Clk) (v : Value) (x : Int) (w : World) (h : CSt w b c v) (hl : c.list.length ≤ 1000) (hx : inL x) :
    Calls Try.prog 30 #[.pointer (some ⟨b, 0, none⟩), .int .i64 x] w fun e w' => ∃ A' n' cap, e = .returned (.tuple #[.slice A' n' cap, .bool (gapsOk c.list x c.rho)]) ∧ n' = (gapsR c.list x c.rho).length ∧ GapsIn w' A' (gapsR c.list x c.rho) ∧ Below w.heap.size w w' := by
  obtain ⟨i0, hi, hz0, hz1, hz2⟩ := info_parts infoGap
  obtain ⟨A, cap, rfl, hc1, hc2, hG, hnil⟩ := h.row_in
  obtain ⟨rho, need, held, streak, l⟩ := c
  simp only at hl hG hc1 hnil ⊢
  generalize hn : l.length = n at *
  have HH := Lib.hid h
  have HN := Lib.hid hn
  have HG := Lib.hid hG
  obtain ⟨c0, c1, c2, c3, c4, c5, c6⟩ := h.cells
  simp only [hn] at c0 c4
  clear c1 c2 c3 c5 h hn hG hc1 hc2 hnil
  go_enter Try.func30, Try.ntmps30
  go_wp2_with fail
  go_loopw [6, 17] (fun u i wr => ∃ k : Nat, k ≤ n ∧ i = .int .i64 k ∧ gapsOk (l.take k) x rho = true ∧ wr.ownsRow w.heap.size 26 2 u k ((gapsL (l.take k) x rho).flatMap cellsG) ∧ Below w.heap.size w wr) (fun _ i _ => n - (intOf i).toNat)
  case atStart => exact ⟨0, Nat.zero_le _, rfl, rfl, by simpa [gapsL] using World.ownsRow_nil w _ _ _, Below.refl _ _⟩
  case round =>
    obtain ⟨k, hk, rfl, hall, hown, hB⟩ := hrel
    have HB := Lib.hid hB
    have HO := Lib.hid hown
    by_cases hlt : k < n
    · have hkl : k < l.length := by have := HN.out; omega
      obtain ⟨bb, off, hA, hbl, hg⟩ := HG.out k hkl
      subst hA
      obtain ⟨e0, e1, e2, e3⟩ := hg.turn hbl hB
      have hbw : bb < wr.heap.size := by have := hB.size; omega
      have hkw : wrap64 (0 + (k : Int)) = k := by simp [wrap64]; omega
      have hx0 : (0 : Int) ≤ (k : Int) := Int.natCast_nonneg _
      have hx1 : (k : Int) < (n : Int) := by omega
      have hst := gapsOk_take l x rho k hkl
      rw [hall] at hst
      have HST := Lib.hid hst
      have HSL := Lib.hid (gapsL_take l x rho k hkl)
      have hat := fun w => at_walk l[k] x rho hx w
      have HS4 := Lib.hid (Bx4.new wr 23 l[k])
      have HBa := Lib.hid (HB.out.alloc HB.out.size (.cells #[.int .i64 l[k].asked, .int .i64 l[k].got, .int .i64 l[k].sent, .int .i64 l[k].came] 23))
      have r0 : wr.cell? ⟨b, 0, none⟩ = some (.int .i64 rho) := (hB.cell (p := ⟨b, 0, none⟩) c6).trans c0
      have c6' : b < wr.heap.size := by have := hB.size; omega
      unfold encS at hat
      generalize l[k] = s at *
      obtain ⟨sa, sg, ss, sc⟩ := s
      simp only at e0 e1 e2 e3 hat HS4 HBa
      generalize atS ⟨sa, sg, ss, sc⟩ x rho = q at *
      obtain ⟨⟨z1, z2⟩, z3⟩ := q
      have HAT := Lib.hid hat
      unfold encG at HAT
      simp only at HAT
      clear hg hB hall hown hst hat
      go_wp2_with fail
      obtain ⟨y0, y1, y2, y3, y4⟩ := HS4.out.cells
      simp only at y0 y1 y2 y3
      have hr1 : (wr.alloc (.cells #[.int .i64 sa, .int .i64 sg, .int .i64 ss, .int .i64 sc] 23)).cell? ⟨b, 0, none⟩ = some (.int .i64 rho) := ((Below.refl _ wr).alloc (Nat.le_refl _) _).cell (p := ⟨b, 0, none⟩) c6' |>.trans r0
      have hr2 : b < (wr.alloc (.cells #[.int .i64 sa, .int .i64 sg, .int .i64 ss, .int .i64 sc] 23)).heap.size := by simp; omega
      have HO2 := Lib.hid (HO.out.alloc (.cells #[.int .i64 sa, .int .i64 sg, .int .i64 ss, .int .i64 sc] 23))
      clear HO HB e0 e1 e2 e3 hbw hkw r0 HS4
      generalize wr.alloc (.cells #[.int .i64 sa, .int .i64 sg, .int .i64 ss, .int .i64 sc] 23) = w1 at *
      generalize wr.heap.size = b1 at *
      have hne : b ≠ w1.heap.size := by omega
      have hne1 : b1 ≠ w1.heap.size := by omega
      go_cut [9, 10] (fun p e wx => ∃ b', p = .pointer (some ⟨b', 0, none⟩) ∧ e = .int .i64 z3 ∧ Box2 wx b' 26 z1 z2 ∧ Below w1.heap.size w1 wx)
      case first =>
        go_region_held3 (fun w' => w'.cell? ⟨b, 0, none⟩ = some (.int .i64 rho) ∧ w'.cell? ⟨b1, 0, none⟩ = some (.int .i64 sa) ∧ w'.cell? ⟨b1, 1, none⟩ = some (.int .i64 sg) ∧ w'.cell? ⟨b1, 2, none⟩ = some (.int .i64 ss) ∧ w'.cell? ⟨b1, 3, none⟩ = some (.int .i64 sc))
          (first | (go_keep; done) | (go_split_ands; refine ⟨?_, ?_, ?_, ?_, ?_⟩ <;> (rw [cell_far2 (by omega)]; assumption)))
          ((go_at_call 8; refine (HAT.out _).mono ?_
            rintro e w4 ⟨rfl, hB4⟩
            have hE : Below w1.heap.size w1 w4 := by first | exact ((Below.refl _ w1).drew).trans (hB4.mono (by simp)) | exact (((Below.refl _ w1).drew).alloc (by simp) _).trans (hB4.mono (by simp))
            have x0 := (hE.cell (p := ⟨b, 0, none⟩) hr2).trans hr1
            have x1 := (hE.cell (p := ⟨b1, 0, none⟩) y4).trans y0
            have x2 := (hE.cell (p := ⟨b1, 1, none⟩) y4).trans y1
            have x3 := (hE.cell (p := ⟨b1, 2, none⟩) y4).trans y2
            have x4 := (hE.cell (p := ⟨b1, 3, none⟩) y4).trans y3
            have ysz := Nat.lt_of_lt_of_le y4 hE.size
            have ysz2 := Nat.lt_of_lt_of_le hr2 hE.size
            try
              (have yb : Box2 w4 w1.heap.size 26 0 0 := (Box2.new w1.drew 26 0 0).ext hB4
               obtain ⟨b0, b1, b2, b3⟩ := yb.cells)))
        all_goals go_wp2_with fail
        all_goals go_meet
        all_goals first
          | exact ⟨_, rfl, rfl, (Box2.new w4 _ z1 z2), hE.alloc hE.size _⟩
          | exact ⟨_, rfl, rfl, yb.put z1 z2, below_put hE (Nat.le_refl _) z1 z2⟩
      case rest =>
        obtain ⟨b', rfl, rfl, h1, h2⟩ := hcut
        obtain ⟨d0, d1, d2, d3⟩ := h1.cells
        have HO3 : Hid (wc.ownsRow w.heap.size 26 2 u6 k ((gapsL (l.take k) x rho).flatMap cellsG)) := owns_below HO2.out h2
        have HB3 := Lib.hid (HBa.out.trans (h2.mono HBa.out.size))
        clear h1 h2 HO2 HBa hr1 y0 y1 y2 y3 HAT
        by_cases hz : z3 = 0
        · subst hz
          have hnews := World.news_of_block (cs := #[.int .i64 z1, .int .i64 z2]) (t := 26) (fr := (0, 0)) (heap_alloc_new wc _)
          have HNW := Lib.hid hnews
          clear hnews
          go_wp2_with (at_builtin; refine wpList_append_lies _ rfl _ _ _ rfl w.heap.size 26 i0 _ 2 16 Try.underlying45 hi hz0 hz1 hz2 rfl (by omega) u6 k ((gapsL (l.take k) x rho).flatMap cellsG) rfl (HO3.out.alloc _) ⟨wc.heap.size, 0, none⟩ 1 1 [.int .i64 z1, .int .i64 z2] rfl rfl HNW.out (by simp [Value.oneCell']) (by omega) (by unfold maxLen; omega) (by omega) (by have := HB3.out.size; simp; omega) (wc.heap.size + 1) (by simp) ?_; intro gg cap' w3 hown1 hgrow hat hlt'; have HB4 := Lib.hid ((HB3.out.alloc HB3.out.size _).grown hgrow (by have := HB3.out.size; simp; omega) (fun q hq => (HO3.out.lt q hq).1)); have HO4 := Lib.hid hown1; clear hown1 hgrow hat hlt')
          go_roundw
          case rel =>
            refine ⟨k + 1, hlt, by simp, by rw [HST.out]; rfl, ?_, HB4.out⟩
            rw [HSL.out]
            exact HO4.out
          case measure => simp [intOf]; omega
        · have hno : gapsOk l x rho = false := by
            cases hq : gapsOk l x rho
            · rfl
            · have := gapsOk_of hq (k + 1)
              rw [HST.out] at this
              simp at this
              exact absurd this hz
          have hzb : (z3 == 0) = false := by simpa using hz
          have HNO := Lib.hid hno
          clear hno
          go_wp2_with fail
          go_ret2
          refine ⟨none, 0, 0, by rw [HNO.out]; rfl, by unfold gapsR; rw [HNO.out]; rfl, ?_, HB3.out⟩
          unfold gapsR
          rw [HNO.out]
          exact fun i hi => by simp at hi
    · obtain rfl : k = n := by omega
      have hf : l.take k = l := List.take_of_length_le (by have := HN.out; omega)
      rw [hf] at hall hown
      obtain ⟨A', cap', rfl, h1, h2, h3⟩ := gaps_of_row hown
      have HL := Lib.hid hall
      have H1 := Lib.hid h1
      have H3 := Lib.hid h3
      clear hall hown HO h1 h3
      go_wp2_with fail
      go_ret2
      refine ⟨A', k, cap', by rw [HL.out]; rfl, ?_, ?_, HB.out⟩
      · unfold gapsR
        rw [HL.out]
        exact H1.out
      · unfold gapsR
        rw [HL.out]
        exact H3.out

end Go.Proofs.Ytkgodolhcoeaeaa
