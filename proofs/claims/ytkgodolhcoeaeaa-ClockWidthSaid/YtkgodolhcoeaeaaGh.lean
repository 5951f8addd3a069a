/- Clock: the iterator 'walk' by its contract. No condition. -/
import Derived.Test.YtkgodolhcoeaeaaGg
import Derived.RangeFuncNested
import Derived.RangeFuncBound
import Derived.RangeFuncCalls
import Derived.RangeFuncLeaves
import Derived.Shelf.Abstract
import Derived.Shelf.RegionOpen
import Derived.OwnWalkIn
import Derived.TacticsInMore
import Derived.LoopNIn
import Derived.LoopIn
namespace Go.Proofs.Ytkgodolhcoeaeaa
open Go.RowKit Go.Shelf

attribute [local go_sem] Oper.semAt_some

/-- What a round that goes on keeps: all below n₀, and the cells from n₁ on. -/
structure KpC (n₀ n₁ : Nat) (W W' : World) : Prop where
  below : Go.RowKit.Below n₀ W W'
  cells : ∀ k cs t fr, n₁ ≤ k → W.heap[k]? = some (.cells cs t fr) → W'.heap[k]? = some (.cells cs t fr)

theorem KpC.t {n₀ n₁ : Nat} {A B C : World} (h : KpC n₀ n₁ A B) (k : KpC n₀ n₁ B C) : KpC n₀ n₁ A C :=
  ⟨h.below.trans k.below, fun q cs t fr hq hA => k.cells q cs t fr hq (h.cells q cs t fr hq hA)⟩
theorem KpC.refl (n₀ n₁ : Nat) (W : World) : KpC n₀ n₁ W W := ⟨Go.RowKit.Below.refl _ _, fun _ _ _ _ _ h => h⟩
theorem KpC.b {n₀ n₁ : Nat} {w : World} (hB : n₀ ≤ w.heap.size) (W : World) (l : Nat) (o o' : Obj) (hl : w.heap.size ≤ l) (h : W.heap[l]? = some o) (hc : o.isCells = false) (hw : o.isWalk = false) : KpC n₀ n₁ W (W.putObj l o') :=
  ⟨belowK_b hB W l o o' hl h hc hw, fun k cs t fr _ hk => by
    rw [World.putObj_heap_other (fun e => by subst e; rw [h] at hk; cases hk; simp [Obj.isCells] at hc)]; exact hk⟩

/-- The votes behind the first edges. -/
def vAft (es : List (Int × Bool)) : Int := es.foldl (fun v e => if e.2 = true then v - 1 else v + 1) 0
def votesAt (es : List (Int × Bool)) (k : Nat) : Int := vAft (es.take k) + (if (es[k]?.getD (0, false)).2 = true then 0 else 1)
def walkF (es : List (Int × Bool)) (k : Nat) : (Int × Bool) × Int := (es[k]?.getD (0, false), votesAt es k)
def upto {α : Type} (f : Nat → α) (k : Nat) : List α := (List.range k).map f
theorem upto_succ {α : Type} (f : Nat → α) (k : Nat) : upto f (k + 1) = upto f k ++ [f k] := by simp [upto, List.range_succ]
theorem upto_length {α : Type} (f : Nat → α) (k : Nat) : (upto f k).length = k := by simp [upto]
def encW (x : (Int × Bool) × Int) : Array Value := #[.agg #[.int .i64 x.1.1, .bool x.1.2], .int .i64 x.2]

theorem vAft_step (es : List (Int × Bool)) (k : Nat) (h : k < es.length) : vAft (es.take (k + 1)) = if es[k].2 = true then vAft (es.take k) - 1 else vAft (es.take k) + 1 := by
  unfold vAft
  rw [foldl_step _ _ _ _ h]

theorem vAft_le (es : List (Int × Bool)) : ∀ k : Nat, -(k : Int) ≤ vAft (es.take k) ∧ vAft (es.take k) ≤ k := by
  intro k
  induction k with
  | zero => simp [vAft]
  | succ k ih =>
    by_cases h : k < es.length
    · rw [vAft_step es k h]
      split <;> omega
    · rw [List.take_of_length_le (by omega)]
      rw [List.take_of_length_le (by omega)] at ih
      omega

theorem J_alloc {β : Type} {B : Nat} {J : β → World → Prop} (h : AbidesFrom B J) {s : β} {W : World} (o : Obj) (hs : J s W) : J s (W.alloc o) :=
  h s W _ none hs ⟨rfl, rfl, rfl, by simp, fun k hk _ => Go.RowKit.Below.heap_alloc _ _ _ hk⟩ (fun r e => by cases e)

set_option maxRecDepth 100000 in
set_option maxHeartbeats 4000000 in
theorem walk1_in (F : Fence) (n : Nat) (h31 : F.fn 58) (hro : F.round = none) (hn : 1 ≤ n) (l Bs n₀ n₁ : Nat) (A : Option Addr) (len cap : Nat) (es : List (Int × Bool)) (hlen : len = es.length) (hl2 : len ≤ 100000) (J Jx : List ((Int × Bool) × Int) → World → Prop) (W : World) (hn1 : n₁ ≤ W.heap.size) (hn0 : n₀ ≤ W.heap.size)
    (hJ : AbidesFrom W.heap.size J)
    (hY : ∀ pre x W1, J pre W1 → pre.length < len → YieldAt F (n - 1) Try.prog l (encW x) W1 fun e W' =>
      (e = .returned (.bool true) ∧ J (pre ++ [x]) W' ∧ KpC n₀ n₁ W1 W') ∨ (e = .returned (.bool false) ∧ Jx (pre ++ [x]) W'))
    (hBs : W.cell? ⟨Bs, 0, none⟩ = some (.slice A len cap)) (hE : EdgesIn W A es) (hbb : ∀ b off, A = some ⟨b, off, none⟩ → es ≠ [] → b < n₀) (h0 : J [] W) :
    CallsIn F n Try.prog 58 #[.func (.yield l) #[] #[], .pointer (some ⟨Bs, 0, none⟩)] W fun e W' => (∃ v, e = .returned v) ∧
      ((∃ ys, ys = upto (walkF es) len ∧ J ys W') ∨ (∃ pre, (∃ k, k ≤ len ∧ pre = upto (walkF es) k) ∧ Jx pre W')) := by
  have HE := Lib.hid hE
  have HL := Lib.hid hlen
  clear hE hlen
  refine callsIn_of_wp Try.func58 rfl h31 ?_ hro
  simp only [Try.ntmps58, List.size_toArray, List.length_cons, List.length_nil, Nat.reduceAdd, Nat.reduceSub, Array.replicate_succ, Array.replicate_zero, List.push_toArray, List.append_toArray, List.nil_append, List.cons_append]
  gi_wp2
  gi_loopw [3, 8] (fun v i wr => ∃ k : Nat, k ≤ len ∧ i = .int .i64 k ∧ v = .int .i64 (vAft (es.take k)) ∧ J (upto (walkF es) k) wr ∧ Go.RowKit.Below n₀ W wr ∧ W.heap.size ≤ wr.heap.size)
    (fun _ i _ => len - (intOf i).toNat)
  case atStart => exact ⟨0, Nat.zero_le _, rfl, by simp [vAft], h0, Go.RowKit.Below.refl _ _, Nat.le_refl _⟩
  case round =>
    obtain ⟨k, hk, rfl, rfl, hJs, hnx, hsz⟩ := hrel
    by_cases hlt : k < len
    · have hkl : k < es.length := by have := HL.out; omega
      obtain ⟨b, hA, hbl, hg⟩ := HE.out k hkl
      subst hA
      have hb0 := hbb b 0 rfl (by intro h; rw [h] at hkl; simp at hkl)
      clear hbb
      have e0 := (hnx.cell (p := ⟨b, k * 2, none⟩) hb0).trans hg.c0
      have e1 := (hnx.cell (p := ⟨b, k * 2 + 1, none⟩) hb0).trans hg.c1
      have hJa := J_alloc hJ (.cells #[.int .i64 es[k].1, .bool es[k].2] 94) hJs
      obtain ⟨v1, v2⟩ := vAft_le es k
      have hst := vAft_step es k hkl
      have hwf : walkF es k = (es[k], vAft (es.take k) + (if es[k].2 = true then 0 else 1)) := by unfold walkF votesAt; rw [List.getElem?_eq_getElem hkl]; rfl
      have HST := Lib.hid hst
      have HJA := Lib.hid hJa
      clear hst hg hJa
      generalize vAft (es.take k) = v at v1 v2 hwf HST
      cases hend : es[k].2
      · rw [hend] at e1 HJA HST hwf
        obtain ⟨fn, tmps, assign, body, hy, hR⟩ := hY _ (walkF es k) _ HJA.out (by rw [upto_length]; exact hlt)
        rw [← upto_succ] at hR
        rw [hwf] at hy
        simp only [encW, hend, if_true, Bool.false_eq_true, if_false, Int.add_zero] at hy HST
        have HR := Lib.hid hR
        clear hR
        gi_wp2
        refine HR.out.mono ?_
        rintro e W3 (⟨rfl, hJ3, hk3⟩ | ⟨rfl, hJx3⟩)
        · have hb3 : W3.heap[wr.heap.size]? = some (.cells #[.int .i64 es[k].1, .bool false] 94 (0, 0)) := hk3.cells _ _ _ _ (by omega) (heap_alloc_new wr _)
          have c0 : W3.cell? ⟨wr.heap.size, 0, none⟩ = some (.int .i64 es[k].1) := by simp [World.cell?, hb3]
          have c1 : W3.cell? ⟨wr.heap.size, 1, none⟩ = some (.bool false) := by simp [World.cell?, hb3]
          have hs3 : W.heap.size ≤ W3.heap.size := by have := hk3.below.size; simp at this; omega
          have HJ3 := Lib.hid hJ3
          have HB3 := Lib.hid ((hnx.trans ((Go.RowKit.Below.refl n₀ wr).alloc (by omega) _)).trans hk3.below)
          clear hJ3 hk3 hb3 hy e0 e1 hnx
          gi_wp2
          go_roundw
          case rel => exact ⟨k + 1, by omega, by simp, by rw [HST.out], HJ3.out, HB3.out, hs3⟩
          case measure => simp [intOf]; omega
        · clear hy
          gi_wp2
          refine bodyPost_ret (results_none rfl _ _ _) rfl ?_
          exact ⟨⟨_, rfl⟩, .inr ⟨_, ⟨k + 1, by omega, rfl⟩, hJx3⟩⟩
      · rw [hend] at e1 HJA HST hwf
        obtain ⟨fn, tmps, assign, body, hy, hR⟩ := hY _ (walkF es k) _ HJA.out (by rw [upto_length]; exact hlt)
        rw [← upto_succ] at hR
        rw [hwf] at hy
        simp only [encW, hend, if_true, Bool.false_eq_true, if_false, Int.add_zero] at hy HST
        have HR := Lib.hid hR
        clear hR
        gi_wp2
        refine HR.out.mono ?_
        rintro e W3 (⟨rfl, hJ3, hk3⟩ | ⟨rfl, hJx3⟩)
        · have hb3 : W3.heap[wr.heap.size]? = some (.cells #[.int .i64 es[k].1, .bool true] 94 (0, 0)) := hk3.cells _ _ _ _ (by omega) (heap_alloc_new wr _)
          have c0 : W3.cell? ⟨wr.heap.size, 0, none⟩ = some (.int .i64 es[k].1) := by simp [World.cell?, hb3]
          have c1 : W3.cell? ⟨wr.heap.size, 1, none⟩ = some (.bool true) := by simp [World.cell?, hb3]
          have hs3 : W.heap.size ≤ W3.heap.size := by have := hk3.below.size; simp at this; omega
          have HJ3 := Lib.hid hJ3
          have HB3 := Lib.hid ((hnx.trans ((Go.RowKit.Below.refl n₀ wr).alloc (by omega) _)).trans hk3.below)
          clear hJ3 hk3 hb3 hy e0 e1 hnx
          gi_wp2
          go_roundw
          case rel => exact ⟨k + 1, by omega, by simp, by rw [HST.out], HJ3.out, HB3.out, hs3⟩
          case measure => simp [intOf]; omega
        · clear hy
          gi_wp2
          refine bodyPost_ret (results_none rfl _ _ _) rfl ?_
          exact ⟨⟨_, rfl⟩, .inr ⟨_, ⟨k + 1, by omega, rfl⟩, hJx3⟩⟩
    · obtain rfl : k = len := by omega
      gi_wp2
      go_end0
      exact ⟨⟨_, rfl⟩, .inl ⟨_, rfl, hJs⟩⟩

set_option maxHeartbeats 1000000 in
theorem walk_in (F : Fence) (n : Nat) (h23 : F.fn 54) (hro : F.round = none) (A : Option Addr) (len cap : Nat) (w : World) :
    CallsIn F n Try.prog 54 #[.slice A len cap] w fun e w' => e = .returned (.func (.func 58) #[] #[.pointer (some ⟨w.heap.size, 0, none⟩)]) ∧ w' = w.alloc (.cells #[.slice A len cap] 88) := by
  refine callsIn_of_wp Try.func54 rfl h23 ?_ hro
  simp only [Try.ntmps54, List.size_toArray, List.length_cons, List.length_nil, Nat.reduceAdd, Nat.reduceSub, Array.replicate_succ, Array.replicate_zero, List.push_toArray, List.append_toArray, List.nil_append, List.cons_append]
  gi_wp2
  go_ret
  exact ⟨rfl, rfl⟩

/-- 'walk(all)' hands back a value that stops: all edges with their votes, in order; or the first k of them. -/
theorem walk_stops (F : Fence) (n : Nat) (h31 : F.fn 58) (hro : F.round = none) (hn : 1 ≤ n) (Bs n₀ n₁ : Nat) (A : Option Addr) (len cap : Nat) (es : List (Int × Bool)) (hlen : len = es.length) (hl2 : len ≤ 100000) (w : World) (hBs : Bs < w.heap.size) (hn0 : n₀ ≤ w.heap.size) (hn1 : n₁ ≤ w.heap.size)
    (hc : w.cell? ⟨Bs, 0, none⟩ = some (.slice A len cap)) (hE : EdgesIn w A es) (hbb : ∀ b off, A = some ⟨b, off, none⟩ → es ≠ [] → b < n₀) :
    SeqStopsK F n Try.prog 58 #[.pointer (some ⟨Bs, 0, none⟩)] encW (KpC n₀ n₁) (fun ys => ys = upto (walkF es) len) (fun pre => ∃ k, k ≤ len ∧ pre = upto (walkF es) k) len w := fun l J Jx W hW hJ _ hY h0 =>
  walk1_in F n h31 hro hn l Bs n₀ n₁ A len cap es hlen hl2 J Jx W (Nat.le_trans hn1 hW.size) (Nat.le_trans hn0 hW.size) hJ hY ((hW.cell (p := ⟨Bs, 0, none⟩) hBs).trans hc) (hE.turn hW) hbb h0

end Go.Proofs.Ytkgodolhcoeaeaa
