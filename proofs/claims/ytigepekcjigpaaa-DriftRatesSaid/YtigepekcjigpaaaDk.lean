/- Drift: slices.Values' iterator and AppendSeq, walked. No condition. -/
import Derived.Test.YtigepekcjigpaaaDj
import Derived.RangeFuncNested
import Derived.RangeFuncBound
import Derived.RangeFuncCalls
import Derived.RangeFuncLeaves
import Derived.Shelf.Abstract
import Derived.Shelf.RegionOpen
import Derived.OwnWalkIn
import Derived.TacticsInMore
import Derived.LoopNIn
import Derived.LoopIn
namespace Go.Proofs.Ytigepekcjigpaaa
open Go.RowKit Go.Shelf

attribute [local go_sem] Oper.semAt_some

def encY (x : Int × Int) : Array Value := #[.agg #[.int .i64 x.1, .int .i64 x.2]]

theorem J_allocP {β : Type} {B : Nat} {J : β → World → Prop} (h : AbidesFrom B J) {s : β} {W : World} (o : Obj) (hs : J s W) : J s (W.alloc o) :=
  h s W _ none hs ⟨rfl, rfl, rfl, by simp, fun k hk _ => Go.RowKit.Below.heap_alloc _ _ _ hk⟩ (fun r e => by cases e)

set_option maxRecDepth 100000 in
set_option maxHeartbeats 4000000 in
theorem values1_in (F : Fence) (n : Nat) (hf : F.fn 33) (hro : F.round = none) (hn : 1 ≤ n) (l Bs n₀ : Nat) (A : Option Addr) (len cap : Nat) (ps : List (Int × Int)) (hlen : len = ps.length) (hl2 : len ≤ 100000) (J Jx : List (Int × Int) → World → Prop) (W : World) (hn0 : n₀ ≤ W.heap.size)
    (hJ : AbidesFrom W.heap.size J)
    (hY : ∀ pre x W1, J pre W1 → pre.length < len → YieldAt F (n - 1) Try.prog l (encY x) W1 fun e W' =>
      (e = .returned (.bool true) ∧ J (pre ++ [x]) W' ∧ Go.RowKit.Below n₀ W1 W') ∨ (e = .returned (.bool false) ∧ Jx (pre ++ [x]) W'))
    (hBs : W.cell? ⟨Bs, 0, none⟩ = some (.slice A len cap)) (hE : PtsIn W A ps) (hbb : ∀ b off, A = some ⟨b, off, none⟩ → ps ≠ [] → b < n₀) (h0 : J [] W) :
    CallsIn F n Try.prog 33 #[.func (.yield l) #[] #[], .pointer (some ⟨Bs, 0, none⟩)] W fun e W' => (∃ v, e = .returned v) ∧
      ((∃ ys, ys = ps ∧ J ys W') ∨ (∃ pre, (∃ k, k ≤ len ∧ pre = ps.take k) ∧ Jx pre W')) := by
  have HE := Lib.hid hE
  have HL := Lib.hid hlen
  clear hE hlen
  refine callsIn_of_wp Try.func33 rfl hf ?_ hro
  simp only [Try.ntmps33, List.size_toArray, List.length_cons, List.length_nil, Nat.reduceAdd, Nat.reduceSub, Array.replicate_succ, Array.replicate_zero, List.push_toArray, List.append_toArray, List.nil_append, List.cons_append]
  gi_wp2
  gi_loopw [7] (fun i wr => ∃ k : Nat, k ≤ len ∧ i = .int .i64 k ∧ J (ps.take k) wr ∧ Go.RowKit.Below n₀ W wr ∧ W.heap.size ≤ wr.heap.size)
    (fun i _ => len - (intOf i).toNat)
  case atStart => exact ⟨0, Nat.zero_le _, rfl, h0, Go.RowKit.Below.refl _ _, Nat.le_refl _⟩
  case round =>
    obtain ⟨k, hk, rfl, hJs, hnx, hsz⟩ := hrel
    by_cases hlt : k < len
    · have hkl : k < ps.length := by have := HL.out; omega
      obtain ⟨b, off, hA, hbl, hg⟩ := HE.out k hkl
      subst hA
      have hb0 := hbb b off rfl (by intro h; rw [h] at hkl; simp at hkl)
      clear hbb
      have e0 := (hnx.cell (p := ⟨b, off + k * 2, none⟩) hb0).trans hg.c0
      have e1 := (hnx.cell (p := ⟨b, off + k * 2 + 1, none⟩) hb0).trans hg.c1
      have hbw : b < wr.heap.size := by omega
      have hJa := J_allocP hJ (.cells #[.int .i64 ps[k].1, .int .i64 ps[k].2] 30) hJs
      have hst : ps.take (k + 1) = ps.take k ++ [ps[k]] := List.take_succ_eq_append_getElem hkl
      have hx0 : (0 : Int) ≤ (k : Int) := Int.natCast_nonneg _
      have hx1 : (k : Int) < (len : Int) := by omega
      have HST := Lib.hid hst
      obtain ⟨fn, tmps, assign, body, hy, hR⟩ := hY _ ps[k] _ hJa (by rw [List.length_take]; omega)
      have HR := Lib.hid hR
      have HNX := Lib.hid hnx
      unfold encY at hy
      clear hR hst hg hJa hJs hnx
      gi_wp2
      refine HR.out.mono ?_
      rintro e W3 (⟨rfl, hJ3, hk3⟩ | ⟨rfl, hJx3⟩)
      · have hs3 : W.heap.size ≤ W3.heap.size := by have := hk3.size; simp at this; omega
        have HJ3 := Lib.hid hJ3
        have HB3 := Lib.hid ((HNX.out.trans ((Go.RowKit.Below.refl n₀ wr).alloc (by omega) _)).trans hk3)
        clear hJ3 hk3 hy e0 e1
        gi_wp2
        go_roundw
        case rel => exact ⟨k + 1, by omega, by simp, by rw [HST.out]; exact HJ3.out, HB3.out, hs3⟩
        case measure => simp [intOf]; omega
      · clear hy
        gi_wp2
        refine bodyPost_ret (results_none rfl _ _ _) rfl ?_
        exact ⟨⟨_, rfl⟩, .inr ⟨_, ⟨k + 1, by omega, HST.out.symm⟩, hJx3⟩⟩
    · obtain rfl : k = len := by omega
      gi_wp2
      go_end0
      exact ⟨⟨_, rfl⟩, .inl ⟨_, rfl, by rw [List.take_of_length_le (by have := HL.out; omega)] at hJs; exact hJs⟩⟩

theorem values_walk (A : Option Addr) (len cap : Nat) (w : World) :
    Calls Try.prog 19 #[.slice A len cap] w fun e w' => e = .returned (.func (.func 33) #[] #[.pointer (some ⟨w.heap.size, 0, none⟩)]) ∧ w' = w.alloc (.cells #[.slice A len cap] 27) := by
  go_enter Try.func19, Try.ntmps19
  go_wp2_with fail
  go_ret
  exact ⟨rfl, rfl⟩

/-- 'slices.Values(ps)' stops: all points, in order; or the first k of them. -/
theorem values_stops (F : Fence) (n : Nat) (hf : F.fn 33) (hro : F.round = none) (hn : 1 ≤ n) (Bs n₀ : Nat) (A : Option Addr) (len cap : Nat) (ps : List (Int × Int)) (hlen : len = ps.length) (hl2 : len ≤ 100000) (w : World) (hBs : Bs < w.heap.size) (hn0 : n₀ ≤ w.heap.size)
    (hc : w.cell? ⟨Bs, 0, none⟩ = some (.slice A len cap)) (hE : PtsIn w A ps) (hbb : ∀ b off, A = some ⟨b, off, none⟩ → ps ≠ [] → b < n₀) :
    SeqStopsK F n Try.prog 33 #[.pointer (some ⟨Bs, 0, none⟩)] encY (Go.RowKit.Below n₀) (fun ys => ys = ps) (fun pre => ∃ k, k ≤ len ∧ pre = ps.take k) len w := fun l J Jx W hW hJ _ hY h0 =>
  values1_in F n hf hro hn l Bs n₀ A len cap ps hlen hl2 J Jx W (Nat.le_trans hn0 hW.size) hJ hY ((hW.cell (p := ⟨Bs, 0, none⟩) hBs).trans hc) (hE.turn hW) hbb h0

end Go.Proofs.Ytigepekcjigpaaa
