/- Sweep: the document's Best, walked. No condition. -/
import Derived.Test.YtljkijolehalcaaSc
namespace Go.Proofs.Ytljkijolehalcaa
open Go.RowKit

def rb1 (gs : List (Int × Int)) (s : Nat × (Int × Int)) (g : Int × Int) : Nat × (Int × Int) :=
  if s.1 < votesL g.1 gs ∨ (votesL g.1 gs = s.1 ∧ 0 < votesL g.1 gs ∧ g.1 < s.2.1) then (votesL g.1 gs, (g.1, g.1)) else s
def rbest1 (gs : List (Int × Int)) : Nat × (Int × Int) := gs.foldl (rb1 gs) (0, (0, 0))
def rb2 (lo hi : Int) (g : Int × Int) : Int := if okG g = true ∧ g.1 ≤ lo ∧ lo ≤ g.2 then min hi g.2 else hi
def refBest (gs : List (Int × Int)) : (Int × Int) × Nat :=
  if (rbest1 gs).1 = 0 then ((0, 0), 0) else (((rbest1 gs).2.1, gs.foldl (rb2 (rbest1 gs).2.1) 9223372036854775807), (rbest1 gs).1)

theorem foldl_step {α β : Type} (f : β → α → β) (s : β) (l : List α) (i : Nat) (h : i < l.length) : (l.take (i + 1)).foldl f s = f ((l.take i).foldl f s) l[i] := by
  rw [List.take_succ_eq_append_getElem h, List.foldl_append]; rfl

/-- A box of two numbers. -/
def Box2 (w : World) (b : Nat) (t : TypeId) (x y : Int) : Prop := w.heap[b]? = some (.cells #[.int .i64 x, .int .i64 y] t (0, 0))

theorem Box2.cells {w : World} {b : Nat} {t : TypeId} {x y : Int} (h : Box2 w b t x y) : w.cell? ⟨b, 0, none⟩ = some (.int .i64 x) ∧ w.cell? ⟨b, 1, none⟩ = some (.int .i64 y) ∧ (∀ o, w.frozen? ⟨b, o, none⟩ = false) ∧ b < w.heap.size := by
  unfold Box2 at h
  refine ⟨by simp [World.cell?, h], by simp [World.cell?, h], fun o => by simp [World.frozen?, h], lt_of_heap h⟩

theorem put2 {w w3 : World} {b0 b1 B : Nat} {t : TypeId} {x y u z : Int} (h0 : Box2 w3 b0 t u z) (h1 : Box2 w3 b1 t x y) (hB : Below B w w3) (p q : Int) (h01 : b0 ≠ b1) (hb : B ≤ b1) :
    Box2 ((w3.setCell ⟨b1, 0, none⟩ (.int .i64 p)).setCell ⟨b1, 1, none⟩ (.int .i64 q)) b0 t u z ∧ Box2 ((w3.setCell ⟨b1, 0, none⟩ (.int .i64 p)).setCell ⟨b1, 1, none⟩ (.int .i64 q)) b1 t p q ∧
      Below B w ((w3.setCell ⟨b1, 0, none⟩ (.int .i64 p)).setCell ⟨b1, 1, none⟩ (.int .i64 q)) := by
  refine ⟨?_, ?_, ?_⟩
  · exact ((Below.heap_setCell _ _ _ _ (by simpa using h01)).trans (Below.heap_setCell _ _ _ _ (by simpa using h01))).trans h0
  · exact setCell_heap (setCell_heap h1 _) _
  · exact (hB.setCell (by simpa using hb) _).setCell (by simpa using hb) _

set_option maxHeartbeats 4000000 in
set_option maxRecDepth 100000 in
theorem rbest9 (A : Option Addr) (n c : Nat) (gs : List (Int × Int)) (w : World) (hn : n = gs.length) (hn2 : n ≤ 1000) (hG : GapsIn w A gs) :
    Calls Try.prog 9 #[.slice A n c] w fun e w' => e = .returned (.tuple #[encG (refBest gs).1, .int .i64 (refBest gs).2]) ∧ Below w.heap.size w w' := by
  have HG := Lib.hid hG; clear hG
  have HN := Lib.hid hn; clear hn
  go_enter Try.func9, Try.ntmps9
  go_wp2_with fail
  go_loopw [4, 6] (fun t i wr => ∃ (k m : Nat) (x y : Int), k ≤ n ∧ i = .int .i64 k ∧ (m, (x, y)) = (gs.take k).foldl (rb1 gs) (0, (0, 0)) ∧ t = .int .i64 m ∧ m ≤ 1000 ∧ Box2 wr w.heap.size 28 0 0 ∧ Box2 wr (w.heap.size + 1) 28 x y ∧ Below w.heap.size w wr) (fun _ i _ => n - (intOf i).toNat)
  case atStart =>
    refine ⟨0, 0, 0, 0, Nat.zero_le _, rfl, by simp, rfl, by omega, ?_, ?_, ?_⟩
    · exact (Below.heap_alloc _ _ _ (by simp)).trans (heap_alloc_new w _)
    · have := heap_alloc_new (w.alloc (.cells #[.int .i64 0, .int .i64 0] 28)) (.cells #[.int .i64 0, .int .i64 0] 28)
      rw [World.size_alloc] at this
      exact this
    · exact ((Below.refl _ w).alloc (Nat.le_refl _) _).alloc (by simp) _
  case round =>
    obtain ⟨k, m, x, y, hk, rfl, hs, rfl, hs1, hb0, hb1, hB⟩ := hrel
    have HS := Lib.hid hs; clear hs
    have HB0 := Lib.hid hb0
    have HB1 := Lib.hid hb1
    by_cases hlt : k < n
    · have hkl : k < gs.length := by have := HN.out; omega
      obtain ⟨b, off, hA, hbl, hg⟩ := HG.out k hkl
      subst hA
      obtain ⟨e0, e1⟩ := hg.turn hbl hB
      have hbw : b < wr.heap.size := by have := hB.size; omega
      have HGw := Lib.hid (HG.out.turn hB)
      clear hg hb0 hb1
      go_wp2_with fail
      refine (votes14 gs[k].1 (some ⟨b, off, none⟩) n c gs wr HN.out hn2 HGw.out).mono ?_
      rintro e w2 ⟨rfl, hB2⟩
      have hvn : votesL gs[k].1 gs ≤ n := by have := HN.out; rw [this]; exact List.countP_le_length
      have hst := foldl_step (rb1 gs) (0, (0, 0)) gs k hkl
      rw [← HS.out] at hst
      have q0 : Box2 w2 w.heap.size 28 0 0 := (hB2.block _ (lt_of_heap HB0.out)).trans HB0.out
      have q1 : Box2 w2 (w.heap.size + 1) 28 x y := (hB2.block _ (lt_of_heap HB1.out)).trans HB1.out
      have hB3 : Below w.heap.size w w2 := hB.trans (hB2.mono hB.size)
      have d0 := (hB2.cell (p := ⟨b, off + k * 2, none⟩) hbw).trans e0
      have d1 := (hB2.cell (p := ⟨b, off + k * 2 + 1, none⟩) hbw).trans e1
      have hbw2 : b < w2.heap.size := by have := hB2.size; omega
      obtain ⟨c0, c1, c2, c3⟩ := q1.cells
      have hx0 : (0 : Int) ≤ (k : Int) := Int.natCast_nonneg _
      have hx1 : (k : Int) < (n : Int) := by omega
      have Q0 := Lib.hid q0
      have Q1 := Lib.hid q1
      have HST := Lib.hid hst
      have HB3 := Lib.hid hB3
      clear q0 q1 hst hB3 hB2 hB e0 e1 hbw HB0 HB1
      generalize hvv : votesL gs[k].1 gs = v at *
      have HV := Lib.hid hvv
      clear hvv
      have n1 : ∀ h : ¬ m < v, decide ((v : Int) > m) = false := fun h => by simp; omega
      by_cases h1 : m < v
      · go_wp2_with fail
        go_quiet (fail)
        go_wp2_with fail
        have Q0' : Hid (Box2 (w2.drewN nq) w.heap.size 28 0 0) := Q0
        have Q1' : Hid (Box2 (w2.drewN nq) (w.heap.size + 1) 28 x y) := Q1
        have HB3' : Hid (Below w.heap.size w (w2.drewN nq)) := Lib.hid ⟨HB3.out.os, HB3.out.tape, HB3.out.output, HB3.out.size, HB3.out.block⟩
        have hbw' : b < (w2.drewN nq).heap.size := hbw2
        have hsz' : w.heap.size + 1 < (w2.drewN nq).heap.size := c3
        have d0' : (w2.drewN nq).cell? ⟨b, off + k * 2, none⟩ = some (.int .i64 gs[k].1) := d0
        have c0' : (w2.drewN nq).cell? ⟨w.heap.size + 1, 0, none⟩ = some (.int .i64 x) := c0
        have c1' : (w2.drewN nq).cell? ⟨w.heap.size + 1, 1, none⟩ = some (.int .i64 y) := c1
        have c2' : ∀ o, (w2.drewN nq).frozen? ⟨w.heap.size + 1, o, none⟩ = false := c2
        clear Q0 Q1 HB3 d0 d1 c0 c1 c2 c3 hbw2
        generalize w2.drewN nq = w3 at *
        go_still_tail 11, (by kernel_rfl)
        go_wp2_with fail
        refine ⟨⟨k + 1, v, gs[k].1, gs[k].1, hlt, by simp, ?_, rfl, by omega, ?_⟩, by simp [intOf]; omega⟩
        · rw [HST.out]; unfold rb1; rw [HV.out, if_pos (by simp; omega)]
        · obtain ⟨p1, p2, p3⟩ := put2 Q0'.out Q1'.out HB3'.out gs[k].1 gs[k].1 (by omega) (by omega)
          exact ⟨p1, p2, p3.drew⟩
      by_cases h2 : v = m
      · subst h2
        by_cases h3 : 0 < v
        · by_cases h4 : gs[k].1 < x
          · go_wp2_with fail
            go_quiet (fail)
            go_wp2_with fail
            have Q0' : Hid (Box2 (w2.drewN nq) w.heap.size 28 0 0) := Q0
            have Q1' : Hid (Box2 (w2.drewN nq) (w.heap.size + 1) 28 x y) := Q1
            have HB3' : Hid (Below w.heap.size w (w2.drewN nq)) := Lib.hid ⟨HB3.out.os, HB3.out.tape, HB3.out.output, HB3.out.size, HB3.out.block⟩
            have hbw' : b < (w2.drewN nq).heap.size := hbw2
            have hsz' : w.heap.size + 1 < (w2.drewN nq).heap.size := c3
            have d0' : (w2.drewN nq).cell? ⟨b, off + k * 2, none⟩ = some (.int .i64 gs[k].1) := d0
            have c0' : (w2.drewN nq).cell? ⟨w.heap.size + 1, 0, none⟩ = some (.int .i64 x) := c0
            have c1' : (w2.drewN nq).cell? ⟨w.heap.size + 1, 1, none⟩ = some (.int .i64 y) := c1
            have c2' : ∀ o, (w2.drewN nq).frozen? ⟨w.heap.size + 1, o, none⟩ = false := c2
            clear Q0 Q1 HB3 d0 d1 c0 c1 c2 c3 hbw2
            generalize w2.drewN nq = w3 at *
            go_still_tail 11, (by kernel_rfl)
            go_wp2_with fail
            refine ⟨⟨k + 1, v, gs[k].1, gs[k].1, hlt, by simp, ?_, rfl, by omega, ?_⟩, by simp [intOf]; omega⟩
            · rw [HST.out]; unfold rb1; rw [HV.out, if_pos (by simp; omega)]
            · obtain ⟨p1, p2, p3⟩ := put2 Q0'.out Q1'.out HB3'.out gs[k].1 gs[k].1 (by omega) (by omega)
              exact ⟨p1, p2, p3.drew⟩
          · go_wp2_with fail
            go_quiet (fail)
            go_wp2_with fail
            refine ⟨⟨k + 1, v, x, y, hlt, by simp, ?_, rfl, hs1, Q0.out, Q1.out, ⟨HB3.out.os, HB3.out.tape, HB3.out.output, HB3.out.size, HB3.out.block⟩⟩, by simp [intOf]; omega⟩
            rw [HST.out]; unfold rb1; rw [HV.out, if_neg (by simp; omega)]
        · go_wp2_with fail
          go_quiet (fail)
          go_wp2_with fail
          refine ⟨⟨k + 1, v, x, y, hlt, by simp, ?_, rfl, hs1, Q0.out, Q1.out, ⟨HB3.out.os, HB3.out.tape, HB3.out.output, HB3.out.size, HB3.out.block⟩⟩, by simp [intOf]; omega⟩
          rw [HST.out]; unfold rb1; rw [HV.out, if_neg (by simp; omega)]
      · have h5 : ((v : Int) == (m : Int)) = false := by simp; omega
        go_wp2_with fail
        go_quiet (fail)
        go_wp2_with fail
        refine ⟨⟨k + 1, m, x, y, hlt, by simp, ?_, rfl, hs1, Q0.out, Q1.out, ⟨HB3.out.os, HB3.out.tape, HB3.out.output, HB3.out.size, HB3.out.block⟩⟩, by simp [intOf]; omega⟩
        rw [HST.out]; unfold rb1; rw [HV.out, if_neg (by simp; omega)]
    · obtain rfl : k = n := by omega
      obtain ⟨a0, a1, a2, a3⟩ := hb0.cells
      obtain ⟨c0, c1, c2, c3⟩ := hb1.cells
      have HB := Lib.hid hB
      have hsf : (m, (x, y)) = rbest1 gs := by rw [HS.out, List.take_of_length_le (by have := HN.out; omega)]; rfl
      have HSF := Lib.hid hsf
      clear hb0 hb1 hB hsf HS
      by_cases hm0 : m = 0
      · subst hm0
        go_wp2_with fail
        obtain ⟨p1, p2, p3⟩ := put2 HB1.out HB0.out HB.out 0 0 (by omega) (Nat.le_refl _)
        have p4 := p2.cells.1
        have p5 := p2.cells.2.1
        have hr : refBest gs = ((0, 0), 0) := by unfold refBest; rw [← HSF.out]; simp
        exact bodyPost_ret (v := .tuple #[.agg #[.int .i64 0, .int .i64 0], .int .i64 0]) (by simp [results, Try.results9, go_sem, p4, p5]) rfl ⟨by rw [hr]; rfl, p3⟩
      · have hm1 : ((m : Int) == 0) = false := by simpa using hm0
        have hr : refBest gs = ((x, gs.foldl (rb2 x) 9223372036854775807), m) := by unfold refBest; rw [← HSF.out]; simp [hm0]
        have HR := Lib.hid hr
        clear hr
        go_wp2_with fail
        have p1 : Box2 (wr.setCell ⟨w.heap.size + 1, 1, none⟩ (.int .i64 9223372036854775807)) w.heap.size 28 0 0 := (Below.heap_setCell _ _ _ _ (by simp)).trans HB0.out
        have p2 : Box2 (wr.setCell ⟨w.heap.size + 1, 1, none⟩ (.int .i64 9223372036854775807)) (w.heap.size + 1) 28 x 9223372036854775807 := setCell_heap HB1.out _
        have p3 : Below w.heap.size w (wr.setCell ⟨w.heap.size + 1, 1, none⟩ (.int .i64 9223372036854775807)) := HB.out.setCell (by simp) _
        clear HB0 HB1 HB a0 a1 a2 a3 c0 c1 c2 c3 HSF
        generalize wr.setCell ⟨w.heap.size + 1, 1, none⟩ (.int .i64 9223372036854775807) = wq at p1 p2 p3 ⊢
        go_loopw [8] (fun i wr => ∃ (k2 : Nat) (z : Int), k2 ≤ k ∧ i = .int .i64 k2 ∧ z = (gs.take k2).foldl (rb2 x) 9223372036854775807 ∧ Box2 wr w.heap.size 28 0 0 ∧ Box2 wr (w.heap.size + 1) 28 x z ∧ Below w.heap.size w wr) (fun i _ => k - (intOf i).toNat)
        case atStart => exact ⟨0, _, Nat.zero_le _, rfl, by simp, p1, p2, p3⟩
        case round =>
          clear p1 p2 p3
          obtain ⟨k2, z, hk2, rfl, hz, hb0, hb1, hB⟩ := hrel
          have HZ := Lib.hid hz
          have HB0 := Lib.hid hb0
          have HB1 := Lib.hid hb1
          have HBb := Lib.hid hB
          by_cases hlt2 : k2 < k
          · have hkl : k2 < gs.length := by have := HN.out; omega
            obtain ⟨b, off, hA, hbl, hg⟩ := HG.out k2 hkl
            subst hA
            have hst := foldl_step (rb2 x) 9223372036854775807 gs k2 hkl
            rw [← hz] at hst
            have HST := Lib.hid hst
            obtain ⟨e0, e1⟩ := hg.turn hbl hB
            have hbw : b < wr.heap.size := by have := hB.size; omega
            obtain ⟨c0, c1, c2, c3⟩ := hb1.cells
            have hx0 : (0 : Int) ≤ (k2 : Int) := Int.natCast_nonneg _
            have hx1 : (k2 : Int) < (k : Int) := by omega
            clear hz hb0 hb1 hB hst hg
            have HIX : Hid (∀ w7, Below wr.heap.size wr w7 → Box2 w7 w.heap.size 28 0 0 ∧ Box2 w7 (w.heap.size + 1) 28 x z ∧ Below w.heap.size w w7) := Lib.hid fun w7 h7 => ⟨(h7.block _ (lt_of_heap HB0.out)).trans HB0.out, (h7.block _ (lt_of_heap HB1.out)).trans HB1.out, HBb.out.trans (h7.mono HBb.out.size)⟩
            clear HB0 HB1 HBb
            cases hr : okG gs[k2]
            · have K24 : Hid (∀ W, Calls Try.prog 24 #[encG gs[k2]] W fun e w' => e = .returned (.bool false) ∧ Below W.heap.size W w') := Lib.hid fun W => by have := right24 gs[k2] W; rwa [hr] at this
              have HRR := Lib.hid hr
              clear hr
              go_wp2_with fail
              have x0 := fun e : Ext wr => e.cell (p := ⟨b, off + k2 * 2, none⟩) hbw e0
              have x1 := fun e : Ext wr => e.cell (p := ⟨b, off + k2 * 2 + 1, none⟩) hbw e1
              have x2 := fun e : Ext wr => e.cell (p := ⟨w.heap.size + 1, 0, none⟩) c3 c0
              refine wp_region_ext (by kernel_rfl) (by kernel_rfl) ?_
              repeat (go_big_quiet_step ((go_at_call 24; exact Calls.ext (K24.out _))))
              refine wpQuiet_nil ?_
              rintro _ ⟨e7, rfl⟩
              obtain ⟨y0, y1, y2⟩ := HIX.out _ e7.below
              have Y0 := Lib.hid y0; have Y1 := Lib.hid y1; have Y2 := Lib.hid y2
              clear y0 y1 y2 x0 x1 x2
              go_wp2_with fail
              refine ⟨⟨k2 + 1, z, hlt2, by simp, ?_, Y0.out, Y1.out, Y2.out⟩, by simp [intOf]; omega⟩
              rw [HST.out]; unfold rb2; rw [if_neg (by rw [HRR.out]; simp)]
            · have K24 : Hid (∀ W, Calls Try.prog 24 #[encG gs[k2]] W fun e w' => e = .returned (.bool true) ∧ Below W.heap.size W w') := Lib.hid fun W => by have := right24 gs[k2] W; rwa [hr] at this
              have HRR := Lib.hid hr
              clear hr
              by_cases h1 : gs[k2].1 ≤ x
              · by_cases h2 : x ≤ gs[k2].2
                · go_wp2_with fail
                  have x0 := fun e : Ext wr => e.cell (p := ⟨b, off + k2 * 2, none⟩) hbw e0
                  have x1 := fun e : Ext wr => e.cell (p := ⟨b, off + k2 * 2 + 1, none⟩) hbw e1
                  have x2 := fun e : Ext wr => e.cell (p := ⟨w.heap.size + 1, 0, none⟩) c3 c0
                  refine wp_region_ext (by kernel_rfl) (by kernel_rfl) ?_
                  repeat (go_big_quiet_step ((go_at_call 24; exact Calls.ext (K24.out _))))
                  refine wpQuiet_nil ?_
                  rintro _ ⟨e7, rfl⟩
                  obtain ⟨y0, y1, y2⟩ := HIX.out _ e7.below
                  have Y0 := Lib.hid y0; have Y1 := Lib.hid y1; have Y2 := Lib.hid y2
                  have z0 := x0 e7; have z1 := x1 e7; have z2 := x2 e7
                  obtain ⟨-, z3, z4, z5⟩ := y1.cells
                  have hbw7 := e7.lt hbw
                  clear y0 y1 y2 x0 x1 x2 e0 e1 c0 c1 c2 c3 hbw
                  generalize e7.out = w7 at *
                  go_wp2_with fail
                  go_still_tail 9, (by kernel_rfl)
                  go_wp2_with fail
                  refine ⟨⟨k2 + 1, if gs[k2].2 < z then gs[k2].2 else z, hlt2, by simp, ?_, ?_, ?_, ?_⟩, by simp [intOf]; omega⟩
                  · rw [HST.out]; unfold rb2; rw [if_pos (show _ ∧ _ ∧ _ from ⟨HRR.out, h1, h2⟩), Int.min_def]; split <;> split <;> omega
                  · exact (Below.heap_setCell _ _ _ _ (by simp)).trans Y0.out
                  · exact setCell_heap Y1.out _
                  · exact (Y2.out.setCell (by simp) _).drew
                · go_wp2_with fail
                  have x0 := fun e : Ext wr => e.cell (p := ⟨b, off + k2 * 2, none⟩) hbw e0
                  have x1 := fun e : Ext wr => e.cell (p := ⟨b, off + k2 * 2 + 1, none⟩) hbw e1
                  have x2 := fun e : Ext wr => e.cell (p := ⟨w.heap.size + 1, 0, none⟩) c3 c0
                  refine wp_region_ext (by kernel_rfl) (by kernel_rfl) ?_
                  repeat (go_big_quiet_step ((go_at_call 24; exact Calls.ext (K24.out _))))
                  refine wpQuiet_nil ?_
                  rintro _ ⟨e7, rfl⟩
                  obtain ⟨y0, y1, y2⟩ := HIX.out _ e7.below
                  have Y0 := Lib.hid y0; have Y1 := Lib.hid y1; have Y2 := Lib.hid y2
                  clear y0 y1 y2 x0 x1 x2
                  go_wp2_with fail
                  refine ⟨⟨k2 + 1, z, hlt2, by simp, ?_, Y0.out, Y1.out, Y2.out⟩, by simp [intOf]; omega⟩
                  rw [HST.out]; unfold rb2; rw [if_neg (by simp; omega)]
              · have n1 : decide (gs[k2].1 ≤ x) = false := decide_eq_false h1
                go_wp2_with fail
                have x0 := fun e : Ext wr => e.cell (p := ⟨b, off + k2 * 2, none⟩) hbw e0
                have x1 := fun e : Ext wr => e.cell (p := ⟨b, off + k2 * 2 + 1, none⟩) hbw e1
                have x2 := fun e : Ext wr => e.cell (p := ⟨w.heap.size + 1, 0, none⟩) c3 c0
                refine wp_region_ext (by kernel_rfl) (by kernel_rfl) ?_
                repeat (go_big_quiet_step ((go_at_call 24; exact Calls.ext (K24.out _))))
                refine wpQuiet_nil ?_
                rintro _ ⟨e7, rfl⟩
                obtain ⟨y0, y1, y2⟩ := HIX.out _ e7.below
                have Y0 := Lib.hid y0; have Y1 := Lib.hid y1; have Y2 := Lib.hid y2
                clear y0 y1 y2 x0 x1 x2
                go_wp2_with fail
                refine ⟨⟨k2 + 1, z, hlt2, by simp, ?_, Y0.out, Y1.out, Y2.out⟩, by simp [intOf]; omega⟩
                rw [HST.out]; unfold rb2; rw [if_neg (by simp; omega)]
          · obtain rfl : k2 = k := by omega
            obtain ⟨a0, a1, a2, a3⟩ := hb0.cells
            obtain ⟨c0, c1, c2, c3⟩ := hb1.cells
            have hzf : z = gs.foldl (rb2 x) 9223372036854775807 := by rw [hz, List.take_of_length_le (by have := HN.out; omega)]
            have HZF := Lib.hid hzf
            clear hzf hz hb0 hb1 hB HZ
            go_wp2_with fail
            obtain ⟨p1, p2, p3⟩ := put2 HB1.out HB0.out HBb.out x z (by omega) (Nat.le_refl _)
            have p4 := p2.cells.1
            have p5 := p2.cells.2.1
            exact bodyPost_ret (v := .tuple #[.agg #[.int .i64 x, .int .i64 z], .int .i64 m]) (by simp [results, Try.results9, go_sem, p4, p5]) rfl ⟨by rw [HR.out, ← HZF.out]; rfl, p3⟩

end Go.Proofs.Ytljkijolehalcaa
