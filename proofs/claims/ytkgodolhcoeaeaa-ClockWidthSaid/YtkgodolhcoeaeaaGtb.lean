/- Clock: the gaps' ends, fold and Meet, walked. No condition. -/
import Derived.Test.YtkgodolhcoeaeaaGta
namespace Go.Proofs.Ytkgodolhcoeaeaa
open Go.RowKit

def endsL (a b : Int) : (Int × Int) × Int := if b < a then ((0, 0), 13) else ((a, b), 0)

set_option maxHeartbeats 2000000 in
theorem ends32 (a b : Int) (w : World) : Calls Try.prog 46 #[.int .i64 a, .int .i64 0, .int .i64 b, .int .i64 0] w fun e w' => e = .returned (.tuple #[encG (endsL a b).1, .int .i64 (endsL a b).2]) ∧ Below w.heap.size w w' := by
  go_enter Try.func46, Try.ntmps46
  go_wp2_with fail
  refine (new36 a b _).mono ?_
  rintro e w2 ⟨rfl, hB2⟩
  have q0 := (Box2.new w 26 0 0).ext hB2
  have hB := ((Below.refl w.heap.size w).alloc (Nat.le_refl _) (.cells #[.int .i64 0, .int .i64 0] 26)).trans (hB2.mono (by simp))
  have hne : w.heap.size < w2.heap.size := q0.cells.2.2.2
  by_cases h : b < a
  · have hd : decide (a ≤ b) = false := by simp; omega
    have he : endsL a b = ((0, 0), 13) := by unfold endsL; rw [if_pos h]
    rw [if_pos h, hd]
    unfold encG
    obtain ⟨c0, c1, c2, c3⟩ := q0.cells
    have Q1 := Lib.hid q0
    have HB1 := Lib.hid hB
    clear q0 hB hB2
    go_wp2_with fail
    have p2 := (Q1.out.put 0 0).alloc (.cells #[.int .i64 0, .int .i64 0] 26)
    have p4 := p2.cells.1
    have p5 := p2.cells.2.1
    exact bodyPost_ret (v := .tuple #[.agg #[.int .i64 0, .int .i64 0], .int .i64 13]) (by simp [results, Try.results46, go_sem, p4, p5]) rfl ⟨by rw [he]; rfl, (below_put HB1.out (Nat.le_refl _) 0 0).alloc (by simp; omega) _⟩
  · have hd : decide (a ≤ b) = true := by simp; omega
    have he : endsL a b = ((a, b), 0) := by unfold endsL; rw [if_neg h]
    rw [if_neg h, hd]
    unfold encG
    obtain ⟨c0, c1, c2, c3⟩ := q0.cells
    have Q1 := Lib.hid q0
    have HB1 := Lib.hid hB
    clear q0 hB hB2
    go_wp2_with fail
    have p2 := (Q1.out.put a b).alloc (.cells #[.int .i64 a, .int .i64 b] 26)
    have p4 := p2.cells.1
    have p5 := p2.cells.2.1
    exact bodyPost_ret (v := .tuple #[.agg #[.int .i64 a, .int .i64 b], .int .i64 0]) (by simp [results, Try.results46, go_sem, p4, p5]) rfl ⟨by rw [he]; rfl, (below_put HB1.out (Nat.le_refl _) a b).alloc (by simp; omega) _⟩

def meetStep (s g : Int × Int) : Int × Int := (max s.1 g.1, min s.2 g.2)
def foldG (s : Int × Int) (gs : List (Int × Int)) : (Int × Int) × Int := if gs.all okG = true then endsL (gs.foldl meetStep s).1 (gs.foldl meetStep s).2 else ((0, 0), 10)

theorem all_step (gs : List (Int × Int)) (i : Nat) (h : i < gs.length) : (gs.take (i + 1)).all okG = ((gs.take i).all okG && okG gs[i]) := by
  rw [List.take_succ_eq_append_getElem h, List.all_append]; simp

set_option maxHeartbeats 4000000 in
set_option maxRecDepth 100000 in
theorem fold27 (s : Int × Int) (A : Option Addr) (n c : Nat) (gs : List (Int × Int)) (w : World) (hn : n = gs.length) (hn2 : n ≤ 1000) (hG : GapsIn w A gs) :
    Calls Try.prog 35 #[encG s, .slice A n c, .func (.func 36) #[] #[]] w fun e w' => e = .returned (.tuple #[encG (foldG s gs).1, .int .i64 (foldG s gs).2]) ∧ Below w.heap.size w w' := by
  have HG := Lib.hid hG; clear hG
  have HN := Lib.hid hn; clear hn
  obtain ⟨x0, y0⟩ := s
  unfold encG
  go_enter Try.func35, Try.ntmps35
  have hS : St2 w ((w.alloc (.cells #[.int .i64 x0, .int .i64 y0] 26)).alloc (.cells #[.int .i64 0, .int .i64 0] 26)) (w.heap.size + 1) w.heap.size 26 0 0 x0 y0 := by
    have h1 := Box2.new (w.alloc (.cells #[.int .i64 x0, .int .i64 y0] 26)) 26 0 0
    rw [World.size_alloc] at h1
    exact ⟨h1, (Box2.new w 26 x0 y0).alloc _, ((Below.refl _ w).alloc (Nat.le_refl _) _).alloc (by simp) _, by omega, by omega, Nat.le_refl _⟩
  have HS := Lib.hid hS
  clear hS
  go_wp2_with fail
  generalize (w.alloc (.cells #[.int .i64 x0, .int .i64 y0] 26)).alloc (.cells #[.int .i64 0, .int .i64 0] 26) = wq at HS ⊢
  go_loopw [14] (fun i wr => ∃ (k : Nat), k ≤ n ∧ i = .int .i64 k ∧ (gs.take k).all okG = true ∧ St2 w wr (w.heap.size + 1) w.heap.size 26 0 0 x0 y0) (fun i _ => n - (intOf i).toNat)
  case atStart => exact ⟨0, Nat.zero_le _, rfl, rfl, HS.out⟩
  case round =>
    obtain ⟨k, hk, rfl, hall, hS⟩ := hrel
    have HSk := Lib.hid hS
    clear HS
    by_cases hlt : k < n
    · have hkl : k < gs.length := by have := HN.out; omega
      obtain ⟨b, off, hA, hbl, hg⟩ := HG.out k hkl
      subst hA
      obtain ⟨e0, e1⟩ := hg.turn hbl hS.hB
      have hbw : b < wr.heap.size := by have := hS.hB.size; omega
      have hkw : wrap64 (0 + (k : Int)) = k := by simp [wrap64]; omega
      have hx0 : (0 : Int) ≤ (k : Int) := Int.natCast_nonneg _
      have hx1 : (k : Int) < (n : Int) := by omega
      have hst := all_step gs k hkl
      rw [hall] at hst
      have HST := Lib.hid hst
      clear hg hS hst hall hkw
      go_wp2_with fail
      refine (right17 gs[k] _).mono ?_
      rintro e w2 ⟨rfl, hB2⟩
      have HS2 : Hid (St2 w w2 (w.heap.size + 1) w.heap.size 26 0 0 x0 y0) := Lib.hid ((HSk.out.ext ((Below.refl _ wr).alloc (Nat.le_refl _) _)).ext hB2)
      clear HSk hB2 e0 e1 hbw
      cases hok : okG gs[k]
      · have hf : foldG (x0, y0) gs = ((0, 0), 10) := by
          unfold foldG; rw [if_neg]
          intro h
          have := List.all_eq_true.1 h gs[k] (List.getElem_mem hkl)
          rw [hok] at this; cases this
        have HF := Lib.hid hf
        obtain ⟨c0, c1, c2, c3⟩ := HS2.out.h0.cells
        clear hf hok
        go_wp2_with fail
        have p2 := HS2.out.h0.put 0 0
        have p4 := p2.cells.1
        have p5 := p2.cells.2.1
        exact bodyPost_ret (v := .tuple #[.agg #[.int .i64 0, .int .i64 0], .int .i64 10]) (by simp [results, Try.results35, go_sem, p4, p5]) rfl ⟨by rw [HF.out], below_put HS2.out.hB (by omega) 0 0⟩
      · have HK := Lib.hid hok
        clear hok
        go_wp2_with fail
        refine ⟨⟨k + 1, hlt, by simp, by rw [HST.out, HK.out]; rfl, HS2.out⟩, by simp [intOf]; omega⟩
    · obtain rfl : k = n := by omega
      have hall2 : gs.all okG = true := by rw [List.take_of_length_le (by have := HN.out; omega)] at hall; exact hall
      have hf : foldG (x0, y0) gs = endsL (gs.foldl meetStep (x0, y0)).1 (gs.foldl meetStep (x0, y0)).2 := by unfold foldG; rw [if_pos hall2]
      have HF := Lib.hid hf
      clear hf hall hall2 hS
      go_wp2_with fail
      go_loopw [25] (fun i wr' => ∃ (j : Nat) (x y : Int), j ≤ k ∧ i = .int .i64 j ∧ (x, y) = (gs.take j).foldl meetStep (x0, y0) ∧ St2 w wr' (w.heap.size + 1) w.heap.size 26 0 0 x y) (fun i _ => k - (intOf i).toNat)
      case atStart => exact ⟨0, x0, y0, Nat.zero_le _, rfl, rfl, HSk.out⟩
      case round =>
        obtain ⟨j, x, y, hj, rfl, hxy, hS⟩ := hrel
        have HXY := Lib.hid hxy
        have HSj := Lib.hid hS
        clear HSk hxy
        by_cases hlt : j < k
        · have hkl : j < gs.length := by have := HN.out; omega
          obtain ⟨b, off, hA, hbl, hg⟩ := HG.out j hkl
          subst hA
          obtain ⟨e0, e1⟩ := hg.turn hbl hS.hB
          obtain ⟨c0, c1, c2, c3⟩ := hS.h1.cells
          have hbw : b < wr.heap.size := by have := hS.hB.size; omega
          have hst := foldl_step meetStep (x0, y0) gs j hkl
          rw [← HXY.out] at hst
          have HST := Lib.hid hst
          have hx0 : (0 : Int) ≤ (j : Int) := Int.natCast_nonneg _
          have hx1 : (j : Int) < (k : Int) := by omega
          clear hg hS hst
          go_wp2_with fail
          refine (join28 (x, y) gs[j] _).mono ?_
          rintro e w2 ⟨rfl, hB2⟩
          have HS2 : Hid (St2 w w2 (w.heap.size + 1) w.heap.size 26 0 0 x y) := Lib.hid ((HSj.out.ext ((Below.refl _ _).alloc (Nat.le_refl _) _)).ext hB2)
          obtain ⟨d0, d1, d2, d3⟩ := HS2.out.h1.cells
          clear HSj hB2 e0 e1 hbw c0 c1 c2 c3
          unfold encG
          go_wp2_with fail
          refine ⟨⟨j + 1, _, _, hlt, by simp, ?_, (HS2.out.lo _).hi _⟩, by simp [intOf]; omega⟩
          rw [HST.out]; rfl
        · obtain rfl : j = k := by omega
          have hz : (x, y) = gs.foldl meetStep (x0, y0) := by rw [HXY.out, List.take_of_length_le (by have := HN.out; omega)]
          obtain ⟨c0, c1, c2, c3⟩ := hS.h1.cells
          have hf2 : foldG (x0, y0) gs = endsL x y := by rw [HF.out, ← hz]
          have HF2 := Lib.hid hf2
          clear hz hS hf2
          go_wp2_with fail
          refine (ends32 x y _).mono ?_
          rintro e w2 ⟨rfl, hB2⟩
          have HS2 := Lib.hid (HSj.out.ext hB2)
          obtain ⟨d0, d1, d2, d3⟩ := HS2.out.h0.cells
          generalize hq : endsL x y = q
          have HQ := Lib.hid hq
          obtain ⟨⟨p, r⟩, t⟩ := q
          clear HSj hB2 c0 c1 c2 c3 hq
          unfold encG
          go_wp2_with fail
          have p2 := HS2.out.h0.put p r
          have p4 := p2.cells.1
          have p5 := p2.cells.2.1
          exact bodyPost_ret (v := .tuple #[.agg #[.int .i64 p, .int .i64 r], .int .i64 t]) (by simp [results, Try.results35, go_sem, p4, p5]) rfl ⟨by rw [HF2.out, HQ.out], below_put HS2.out.hB (by omega) p r⟩

end Go.Proofs.Ytkgodolhcoeaeaa
