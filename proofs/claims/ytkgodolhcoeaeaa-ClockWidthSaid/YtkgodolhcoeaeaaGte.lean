/- Clock: the gaps' Meet, walked. No condition. -/
import Derived.Test.YtkgodolhcoeaeaaGtb
namespace Go.Proofs.Ytkgodolhcoeaeaa
open Go.RowKit

def meetAll (gs : List (Int × Int)) : (Int × Int) × Int := foldG (-9223372036854775808, 9223372036854775807) gs

set_option maxHeartbeats 2000000 in
theorem meet21 (A : Option Addr) (n c : Nat) (gs : List (Int × Int)) (w : World) (hn : n = gs.length) (hn2 : n ≤ 1000) (hG : GapsIn w A gs) :
    Calls Try.prog 19 #[.slice A n c] w fun e w' => e = .returned (.tuple #[encG (meetAll gs).1, .int .i64 (meetAll gs).2]) ∧ Below w.heap.size w w' := by
  have hB0 := (Below.refl w.heap.size w).alloc (Nat.le_refl _) (.cells #[.int .i64 0, .int .i64 0] 26)
  have hc := fold27 (-9223372036854775808, 9223372036854775807) A n c gs (w.alloc (.cells #[.int .i64 0, .int .i64 0] 26)) hn hn2 (hG.turn hB0)
  rw [show foldG (-9223372036854775808, 9223372036854775807) gs = meetAll gs from rfl] at hc
  generalize meetAll gs = q at *
  obtain ⟨⟨p, r⟩, t⟩ := q
  clear hn hG
  unfold encG at hc
  go_enter Try.func19, Try.ntmps19
  go_wp2_with fail
  refine hc.mono ?_
  rintro e w2 ⟨rfl, hB2⟩
  have q0 := (Box2.new w 26 0 0).ext hB2
  have HQ0 := Lib.hid q0
  have HB := Lib.hid (hB0.trans (hB2.mono (by simp)))
  obtain ⟨d0, d1, d2, d3⟩ := q0.cells
  clear hc hB2 q0 hB0
  go_wp2_with fail
  have p2 := HQ0.out.put p r
  have p4 := p2.cells.1
  have p5 := p2.cells.2.1
  exact bodyPost_ret (v := .tuple #[.agg #[.int .i64 p, .int .i64 r], .int .i64 t]) (by simp [results, Try.results19, go_sem, p4, p5]) rfl ⟨rfl, below_put HB.out (Nat.le_refl _) p r⟩

end Go.Proofs.Ytkgodolhcoeaeaa
