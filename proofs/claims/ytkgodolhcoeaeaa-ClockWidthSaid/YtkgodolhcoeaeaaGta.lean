/- Clock: the gaps' Width, Mid, Within, New, ends and Meet, walked. No condition. -/
import Derived.Test.YtkgodolhcoeaeaaGa
namespace Go.Proofs.Ytkgodolhcoeaeaa
open Go.RowKit

theorem Box2.new (w : World) (t : TypeId) (x y : Int) : Box2 (w.alloc (.cells #[.int .i64 x, .int .i64 y] t)) w.heap.size t x y := heap_alloc_new w _
theorem Box2.alloc {w : World} {b : Nat} {t : TypeId} {x y : Int} (h : Box2 w b t x y) (B : Obj) : Box2 (w.alloc B) b t x y := (Below.heap_alloc _ _ _ (lt_of_heap h)).trans h
theorem Box2.ext {w w' : World} {b : Nat} {t : TypeId} {x y : Int} (h : Box2 w b t x y) (hB : Below w.heap.size w w') : Box2 w' b t x y := (hB.block _ (lt_of_heap h)).trans h
theorem Box2.put {w : World} {b : Nat} {t : TypeId} {x y : Int} (h : Box2 w b t x y) (p q : Int) : Box2 ((w.setCell ⟨b, 0, none⟩ (.int .i64 p)).setCell ⟨b, 1, none⟩ (.int .i64 q)) b t p q := setCell_heap (setCell_heap h _) _
theorem Box2.far {w : World} {b c : Nat} {t : TypeId} {x y : Int} (h : Box2 w b t x y) (hc : c ≠ b) (p q : Int) : Box2 ((w.setCell ⟨c, 0, none⟩ (.int .i64 p)).setCell ⟨c, 1, none⟩ (.int .i64 q)) b t x y :=
  ((Below.heap_setCell _ _ _ _ (by simpa using hc.symm)).trans (Below.heap_setCell _ _ _ _ (by simpa using hc.symm))).trans h
theorem below_put {w w' : World} {B b : Nat} (h : Below B w w') (hb : B ≤ b) (p q : Int) : Below B w ((w'.setCell ⟨b, 0, none⟩ (.int .i64 p)).setCell ⟨b, 1, none⟩ (.int .i64 q)) := (h.setCell (by simpa using hb) _).setCell (by simpa using hb) _

set_option maxHeartbeats 2000000 in
theorem new36 (a b : Int) (w : World) : Calls Try.prog 26 #[.int .i64 a, .int .i64 b] w fun e w' => e = .returned (.tuple #[encG (if b < a then (0, 0) else (a, b)), .bool (decide (a ≤ b))]) ∧ Below w.heap.size w w' := by
  go_enter Try.func26, Try.ntmps26
  by_cases h : b < a
  · go_wp2_with fail
    have p2 := Box2.new w 26 0 0
    have p4 := p2.cells.1
    have p5 := p2.cells.2.1
    exact bodyPost_ret (v := .tuple #[.agg #[.int .i64 0, .int .i64 0], .bool false]) (by simp [results, Try.results26, go_sem, p4, p5]) rfl ⟨by simp [h, encG], (Below.refl _ w).alloc (Nat.le_refl _) _⟩
  · go_wp2_with fail
    have p2 := Box2.new w 26 a b
    have p4 := p2.cells.1
    have p5 := p2.cells.2.1
    exact bodyPost_ret (v := .tuple #[.agg #[.int .i64 a, .int .i64 b], .bool true]) (by simp [results, Try.results26, go_sem, p4, p5]) rfl ⟨by simp [h, encG], (Below.refl _ w).alloc (Nat.le_refl _) _⟩

theorem join_end {w : World} {a b c d p q x y : Int} (hp : p = x) (hq : q = y) :
    (∃ v, (((w.alloc (.cells #[.int .i64 a, .int .i64 b] 26)).alloc (.cells #[.int .i64 c, .int .i64 d] 26)).alloc (.cells #[.int .i64 p, .int .i64 q] 26)).cell? ⟨w.heap.size + 1 + 1, 0, none⟩ = some v ∧ v = .int .i64 x) := by
  refine ⟨_, ?_, rfl⟩
  have := (Box2.new ((w.alloc (.cells #[.int .i64 a, .int .i64 b] 26)).alloc (.cells #[.int .i64 c, .int .i64 d] 26)) 26 p q).cells.1
  simpa [hp] using this

set_option maxHeartbeats 2000000 in
theorem join28 (g o : Int × Int) (w : World) : Calls Try.prog 36 #[encG g, encG o] w fun e w' => e = .returned (encG (max g.1 o.1, min g.2 o.2)) ∧ Below w.heap.size w w' := by
  obtain ⟨a, b⟩ := g
  obtain ⟨c, d⟩ := o
  unfold encG
  go_enter Try.func36, Try.ntmps36
  go_wp2_with fail
  all_goals
    (refine bodyPost_ret (v := .agg #[.int .i64 (max a c), .int .i64 (min b d)]) ?_ rfl ⟨rfl, ((((Below.refl w.heap.size w).alloc (Nat.le_refl _) _).alloc (by simp) _).alloc (by simp; omega) _)⟩
     simp [results, Try.results36, go_sem]
     try omega)

set_option maxHeartbeats 2000000 in
theorem width26 (g : Int × Int) (w : World) (h1 : -9223372036854775808 ≤ g.1) (h2 : g.2 ≤ 9223372036854775807) (hok : g.1 ≤ g.2) :
    Calls Try.prog 47 #[encG g] w fun e w' => e = .returned (.int .u64 (g.2 - g.1)) ∧ Below w.heap.size w w' := by
  obtain ⟨a, b⟩ := g
  unfold encG
  go_enter Try.func47, Try.ntmps47
  have hB := Lib.hid ((Below.refl w.heap.size w).alloc (Nat.le_refl _) (.cells #[.int .i64 a, .int .i64 b] 26))
  have hN := Lib.hid (Box2.new w 26 a b)
  go_wp2_with fail
  refine (right17 (a, b) _).mono ?_
  rintro e w2 ⟨rfl, hB2⟩
  have q := hN.out.ext hB2
  obtain ⟨c0, c1, c2, c3⟩ := q.cells
  have H2 := Lib.hid hB2
  have hk : okG (a, b) = true := by simpa [okG] using hok
  rw [hk]
  clear q hB2
  go_wp2_with fail
  go_ret
  refine ⟨?_, hB.out.trans (H2.out.mono (by simp))⟩
  show Ending.returned (.int .u64 (IntKind.u64.wrap (IntKind.u64.wrap b - IntKind.u64.wrap a))) = _
  rw [show IntKind.u64.wrap (IntKind.u64.wrap b - IntKind.u64.wrap a) = b - a by simp [IntKind.wrap, IntKind.signed, IntKind.bits]; omega]

set_option maxHeartbeats 2000000 in
theorem within19 (g o : Int × Int) (w : World) : Calls Try.prog 17 #[encG g, encG o] w fun e w' => e = .returned (.bool (okG g && decide (o.1 ≤ g.1) && decide (g.2 ≤ o.2))) ∧ Below w.heap.size w w' := by
  obtain ⟨a, b⟩ := g
  obtain ⟨c, d⟩ := o
  unfold encG
  go_enter Try.func17, Try.ntmps17
  have hB := Lib.hid (((Below.refl w.heap.size w).alloc (Nat.le_refl _) (.cells #[.int .i64 a, .int .i64 b] 26)).alloc (by simp) (.cells #[.int .i64 c, .int .i64 d] 26))
  have hN := Lib.hid ((Box2.new w 26 a b).alloc (.cells #[.int .i64 c, .int .i64 d] 26))
  have hM := Lib.hid (Box2.new (w.alloc (.cells #[.int .i64 a, .int .i64 b] 26)) 26 c d)
  go_wp2_with fail
  refine (right17 (a, b) _).mono ?_
  rintro e w2 ⟨rfl, hB2⟩
  obtain ⟨c0, c1, c2, c3⟩ := (hN.out.ext hB2).cells
  obtain ⟨d0, d1, d2, d3⟩ := (hM.out.ext hB2).cells
  rw [World.size_alloc] at d0 d1 d2 d3
  have H2 := Lib.hid (hB.out.trans (hB2.mono (by simp; omega)))
  clear hB2
  generalize hk : okG (a, b) = k
  cases k
  · go_wp2_with fail
    go_ret
    exact ⟨by simp [hk], H2.out⟩
  · by_cases h1 : c ≤ a
    · go_wp2_with fail
      go_ret
      exact ⟨by simp [hk, h1], H2.out⟩
    · go_wp2_with fail
      go_ret
      exact ⟨by simp [hk]; omega, H2.out⟩

set_option maxHeartbeats 2000000 in
theorem mid20 (g : Int × Int) (w : World) (h1 : -9223372036854775808 ≤ g.1) (h2 : g.2 ≤ 9223372036854775807) (hok : g.1 ≤ g.2) :
    Calls Try.prog 37 #[encG g] w fun e w' => e = .returned (.int .i64 (g.1 + (g.2 - g.1) / 2)) ∧ Below w.heap.size w w' := by
  obtain ⟨a, b⟩ := g
  unfold encG
  go_enter Try.func37, Try.ntmps37
  have hB := Lib.hid ((Below.refl w.heap.size w).alloc (Nat.le_refl _) (.cells #[.int .i64 a, .int .i64 b] 26))
  have hN := Lib.hid (Box2.new w 26 a b)
  go_wp2_with fail
  refine (right17 (a, b) _).mono ?_
  rintro e w2 ⟨rfl, hB2⟩
  have q := hN.out.ext hB2
  obtain ⟨c0, c1, c2, c3⟩ := q.cells
  have H2 := Lib.hid (hB.out.trans (hB2.mono (by simp)))
  have hk : okG (a, b) = true := by simpa [okG] using hok
  rw [hk]
  clear q hB2 hB hN
  go_wp2_with fail
  have x0 := fun e : Ext w2 => e.cell (p := ⟨w.heap.size, 0, none⟩) c3 c0
  have x1 := fun e : Ext w2 => e.cell (p := ⟨w.heap.size, 1, none⟩) c3 c1
  refine wp_region_ext (by kernel_rfl) (by kernel_rfl) ?_
  repeat (go_big_quiet_step ((go_at_call 47; exact Calls.ext (width26 (a, b) _ h1 h2 hok))))
  refine wpQuiet_nil ?_
  rintro _ ⟨e7, rfl⟩
  go_wp2_with fail
  go_ret
  exact ⟨rfl, H2.out.trans (e7.below.mono H2.out.size)⟩

end Go.Proofs.Ytkgodolhcoeaeaa
