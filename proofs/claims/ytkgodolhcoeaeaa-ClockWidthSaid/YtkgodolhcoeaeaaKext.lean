/- The walk's word for regions that draw their order, whose operations only read old blocks and whose callees lay new blocks alone: one walk of the text's order, at the class of the worlds that keep all that lies. No condition. -/
import Derived.Test.YtkgodolhcoeaeaaKtwo
import Derived.BigQuiet
namespace Go.Proofs.Ytkgodolhcoeaeaa
open Go.RowKit

/-- A world that keeps all that lies in w. -/
structure Ext (w : World) where
  out : World
  below : Below w.heap.size w out

instance (w : World) : Nonempty (Ext w) := ⟨⟨w, Below.refl _ w⟩⟩

def Ext.cls (w : World) : World → Prop := fun w' => ∃ e : Ext w, w' = e.out

theorem wp_region_ext {P : Program} {id : Nat} {Q : Exit → Act → World → Prop} {a : Act} {w : World} {l : List Oper} (hm : P.follows .mixedOrders = true) (hB : Region.lexB .any l.toArray = true)
    (h : wpQuiet P l.toArray (fun w' => ∃ e : Ext w, w' = e.out) (fun a' => ∀ w', (∃ e : Ext w, w' = e.out) → Q .normal a' w') l a) : (Code.region id l.toArray true).wp P Q a w :=
  wp_region_quiet (C := fun w' => ∃ e : Ext w, w' = e.out) hm hB ⟨⟨{ w with drawn := w.drawn + 1 }, (Below.refl _ w).drew⟩, rfl⟩ (by simpa using h)

theorem Calls.ext {P : Program} {f : FuncId} {args : Array Value} {w : World} {e : Ext w} {v : Value}
    (h : Calls P f args e.out fun ex w' => ex = .returned v ∧ Below e.out.heap.size e.out w') : Calls P f args e.out fun ex w'' => ex = .returned v ∧ ∃ e' : Ext w, w'' = e'.out :=
  h.mono fun _ w' ⟨he, hb⟩ => ⟨he, ⟨w', e.below.trans (hb.mono e.below.size)⟩, rfl⟩

theorem Ext.cell {w : World} (e : Ext w) {p : Addr} {v : Value} (hb : p.block < w.heap.size) (h : w.cell? p = some v) : e.out.cell? p = some v := (e.below.cell hb).trans h
theorem Ext.lt {w : World} (e : Ext w) {b : Nat} (hb : b < w.heap.size) : b < e.out.heap.size := Nat.lt_of_lt_of_le hb e.below.size

end Go.Proofs.Ytkgodolhcoeaeaa
