/- Clock: Best walked. No condition. -/
import Derived.Test.YtkgodolhcoeaeaaGh
namespace Go.Proofs.Ytkgodolhcoeaeaa
open Go.RowKit Go.Shelf

attribute [local go_sem] Oper.semAt_some

/-- Best's state: the best gap, most, open. -/
structure BS where
  lo : Int
  hi : Int
  most : Int
  op : Bool

def bStep (s : BS) (x : (Int × Bool) × Int) : BS :=
  if x.1.2 = false ∧ s.most < x.2 then ⟨x.1.1, 0, x.2, true⟩ else if x.1.2 = true ∧ s.op = true then ⟨s.lo, x.1.1, s.most, false⟩ else s
def bFold (l : List ((Int × Bool) × Int)) : BS := l.foldl bStep ⟨0, 0, 0, false⟩
def bestB (gs : List (Int × Int)) : BS := bFold (upto (walkF (sortE (edgesL gs))) (2 * rightL gs))
def bestL (gs : List (Int × Int)) : (Int × Int) × Int := (((bestB gs).lo, (bestB gs).hi), (bestB gs).most)

theorem bFold_snoc (l : List ((Int × Bool) × Int)) (x : (Int × Bool) × Int) : bFold (l ++ [x]) = bStep (bFold l) x := by simp [bFold]

/-- Best's three boxes. -/
structure BBox (W : World) (b : Nat) (s : BS) : Prop where
  g : Box2 W b 26 s.lo s.hi
  m : W.heap[b + 1]? = some (.cells #[.int .i64 s.most] 3 (0, 0))
  o : W.heap[b + 2]? = some (.cells #[.bool s.op] 4 (0, 0))

theorem BBox.ext {W W' : World} {b : Nat} {s : BS} (h : BBox W b s) (hB : ∀ k, k < b + 3 → W'.heap[k]? = W.heap[k]?) : BBox W' b s :=
  ⟨(hB _ (by omega)).trans h.g, (hB _ (by omega)).trans h.m, (hB _ (by omega)).trans h.o⟩

theorem BBox.cells {W : World} {b : Nat} {s : BS} (h : BBox W b s) : W.cell? ⟨b, 0, none⟩ = some (.int .i64 s.lo) ∧ W.cell? ⟨b, 1, none⟩ = some (.int .i64 s.hi) ∧ W.cell? ⟨b + 1, 0, none⟩ = some (.int .i64 s.most) ∧ W.cell? ⟨b + 2, 0, none⟩ = some (.bool s.op) ∧
    (∀ o, W.frozen? ⟨b, o, none⟩ = false) ∧ (∀ o, W.frozen? ⟨b + 1, o, none⟩ = false) ∧ (∀ o, W.frozen? ⟨b + 2, o, none⟩ = false) ∧ b + 2 < W.heap.size := by
  have hg := h.g; unfold Box2 at hg
  exact ⟨by simp [World.cell?, hg], by simp [World.cell?, hg], by simp [World.cell?, h.m], by simp [World.cell?, h.o], fun o => by simp [World.frozen?, hg], fun o => by simp [World.frozen?, h.m], fun o => by simp [World.frozen?, h.o], lt_of_heap h.o⟩

/-- An owner's turn of what is no cells leaves the boxes. -/
theorem BBox.own {b : Nat} {α : Type} (f : α → BS) : Own (fun (pre : α) W => BBox W b (f pre)) := fun s A B row hs hg hr => by
  have key : ∀ k (o : Obj), A.heap[k]? = some o → o.isCells = true → B.heap[k]? = A.heap[k]? := fun k o hk ho =>
    hg.block k (lt_of_heap hk) (fun e => by obtain ⟨o', h1, h2⟩ := hr k e.symm; rw [hk] at h1; cases h1; rw [ho] at h2; cases h2)
  exact ⟨(key _ _ hs.g rfl).trans hs.g, (key _ _ hs.m rfl).trans hs.m, (key _ _ hs.o rfl).trans hs.o⟩

theorem kpC_set {b : Nat} (W : World) (p : Addr) (v : Value) (h1 : b ≤ p.block) (h2 : p.block < b + 3) : KpC b (b + 3) W (W.setCell p v) :=
  ⟨(Go.RowKit.Below.refl b W).setCell h1 v, fun k cs t fr hk h => (Go.RowKit.Below.heap_setCell _ _ _ _ (by omega)).trans h⟩

theorem BBox.setLo {W : World} {b : Nat} {lo hi most : Int} {op : Bool} (h : BBox W b ⟨lo, hi, most, op⟩) (x : Int) : BBox (W.setCell ⟨b, 0, none⟩ (.int .i64 x)) b ⟨x, hi, most, op⟩ :=
  ⟨setCell_heap h.g _, (Go.RowKit.Below.heap_setCell _ _ _ _ (by simp)).trans h.m, (Go.RowKit.Below.heap_setCell _ _ _ _ (by simp)).trans h.o⟩
theorem BBox.setHi {W : World} {b : Nat} {lo hi most : Int} {op : Bool} (h : BBox W b ⟨lo, hi, most, op⟩) (x : Int) : BBox (W.setCell ⟨b, 1, none⟩ (.int .i64 x)) b ⟨lo, x, most, op⟩ :=
  ⟨setCell_heap h.g _, (Go.RowKit.Below.heap_setCell _ _ _ _ (by simp)).trans h.m, (Go.RowKit.Below.heap_setCell _ _ _ _ (by simp)).trans h.o⟩
theorem BBox.setMost {W : World} {b : Nat} {lo hi most : Int} {op : Bool} (h : BBox W b ⟨lo, hi, most, op⟩) (x : Int) : BBox (W.setCell ⟨b + 1, 0, none⟩ (.int .i64 x)) b ⟨lo, hi, x, op⟩ :=
  ⟨(Go.RowKit.Below.heap_setCell _ _ _ _ (by simp)).trans h.g, setCell_heap h.m _, (Go.RowKit.Below.heap_setCell _ _ _ _ (by simp)).trans h.o⟩
theorem BBox.setOp {W : World} {b : Nat} {lo hi most : Int} {op : Bool} (h : BBox W b ⟨lo, hi, most, op⟩) (x : Bool) : BBox (W.setCell ⟨b + 2, 0, none⟩ (.bool x)) b ⟨lo, hi, most, x⟩ :=
  ⟨(Go.RowKit.Below.heap_setCell _ _ _ _ (by simp)).trans h.g, (Go.RowKit.Below.heap_setCell _ _ _ _ (by simp)).trans h.m, setCell_heap h.o _⟩

set_option maxRecDepth 100000 in
set_option maxHeartbeats 4000000 in
theorem best8 (A : Option Addr) (n c : Nat) (gs : List (Int × Int)) (w : World) (hn : n = gs.length) (hn2 : n ≤ 1000) (hG : GapsIn w A gs) :
    Calls Try.prog 49 #[.slice A n c] w fun e w' => e = .returned (.tuple #[encG (bestL gs).1, .int .i64 (bestL gs).2]) ∧ Go.RowKit.Below w.heap.size w w' := by
  have HN := Lib.hid hn
  have HG := Lib.hid hG
  clear hn hG
  refine (callsIn_wide (n := 6)).1 ?_
  refine callsIn_of_wp_marks Try.func49 rfl trivial ?_ rfl
  simp only [Try.ntmps49, List.size_toArray, List.length_cons, List.length_nil, Nat.reduceAdd, Nat.reduceSub, Array.replicate_succ, Array.replicate_zero, List.push_toArray, List.append_toArray, List.nil_append, List.cons_append]
  have hA0 := (Go.RowKit.Below.refl w.heap.size w).alloc (Nat.le_refl _) (.cells #[.int .i64 0, .int .i64 0] 26)
  have HA0 := Lib.hid hA0
  clear hA0
  gi_wp2
  refine ⟨trivial, (callsIn_wide.2 (edges22 A n c gs _ HN.out hn2 (HG.out.turn HA0.out))).mono ?_⟩
  rintro e w1 ⟨A', c', rfl, hE, hB⟩
  have hb0 : Box2 w1 w.heap.size 26 0 0 := (hB.block _ (by simp)).trans (heap_alloc_new w _)
  have hB1 : Go.RowKit.Below w.heap.size w w1 := HA0.out.trans (hB.mono (by simp))
  have hws : w.heap.size < w1.heap.size := by have := hB.size; simp at this; omega
  have hel : (sortE (edgesL gs)).length = 2 * rightL gs := by rw [sortE_len, edgesL_len]
  have hrl : rightL gs ≤ 1000 := by have := HN.out; have := rightL_le gs; omega
  have hbs : bestL gs = (((bFold (upto (walkF (sortE (edgesL gs))) (2 * rightL gs))).lo, (bFold (upto (walkF (sortE (edgesL gs))) (2 * rightL gs))).hi), (bFold (upto (walkF (sortE (edgesL gs))) (2 * rightL gs))).most) := rfl
  have hml : 2 * rightL gs ≤ 100000 := by omega
  have HBS := Lib.hid hbs
  have HE := Lib.hid hE
  have HB0 := Lib.hid hb0
  have HB1 := Lib.hid hB1
  have HEL := Lib.hid hel
  clear hbs hE hb0 hB1 hel hB HA0
  generalize sortE (edgesL gs) = es at HBS HE HEL
  generalize 2 * rightL gs = m at HBS HEL hml ⊢
  gi_wp2
  refine ⟨trivial, (walk_in Fence.wide _ trivial rfl _ _ _ _).mono ?_⟩
  rintro e w2 ⟨rfl, rfl⟩
  have hbx : BBox ((((w1.alloc (.cells #[.int .i64 0, .int .i64 0] 26)).alloc (.cells #[.int .i64 0] 3)).alloc (.cells #[.bool false] 4)).alloc (.cells #[.slice A' m c'] 88)) w1.heap.size ⟨0, 0, 0, false⟩ := by
    have x1 := heap_alloc_new w1 (.cells #[.int .i64 0, .int .i64 0] 26)
    have x2 := heap_alloc_new (w1.alloc (.cells #[.int .i64 0, .int .i64 0] 26)) (.cells #[.int .i64 0] 3)
    have x3 := heap_alloc_new ((w1.alloc (.cells #[.int .i64 0, .int .i64 0] 26)).alloc (.cells #[.int .i64 0] 3)) (.cells #[.bool false] 4)
    simp only [World.size_alloc] at x2 x3
    refine ⟨?_, ?_, ?_⟩
    · exact ((Go.RowKit.Below.heap_alloc _ _ _ (by simp; omega)).trans ((Go.RowKit.Below.heap_alloc _ _ _ (by simp; omega)).trans (Go.RowKit.Below.heap_alloc _ _ _ (by simp)))).trans x1
    · exact ((Go.RowKit.Below.heap_alloc _ _ _ (by simp)).trans (Go.RowKit.Below.heap_alloc _ _ _ (by simp))).trans x2
    · exact (Go.RowKit.Below.heap_alloc _ _ _ (by simp)).trans x3
  have hcs : ((((w1.alloc (.cells #[.int .i64 0, .int .i64 0] 26)).alloc (.cells #[.int .i64 0] 3)).alloc (.cells #[.bool false] 4)).alloc (.cells #[.slice A' m c'] 88)).cell? ⟨w1.heap.size + 1 + 1 + 1, 0, none⟩ = some (.slice A' m c') := by
    have := heap_alloc_new (((w1.alloc (.cells #[.int .i64 0, .int .i64 0] 26)).alloc (.cells #[.int .i64 0] 3)).alloc (.cells #[.bool false] 4)) (.cells #[.slice A' m c'] 88)
    simp only [World.size_alloc] at this
    unfold World.cell?
    rw [this]
    rfl
  have hbw : Go.RowKit.Below w1.heap.size w1 ((((w1.alloc (.cells #[.int .i64 0, .int .i64 0] 26)).alloc (.cells #[.int .i64 0] 3)).alloc (.cells #[.bool false] 4)).alloc (.cells #[.slice A' m c'] 88)) :=
    ((((Go.RowKit.Below.refl _ w1).alloc (Nat.le_refl _) _).alloc (by simp) _).alloc (by simp; omega) _).alloc (by simp; omega) _
  have hsz : ((((w1.alloc (.cells #[.int .i64 0, .int .i64 0] 26)).alloc (.cells #[.int .i64 0] 3)).alloc (.cells #[.bool false] 4)).alloc (.cells #[.slice A' m c'] 88)).heap.size = w1.heap.size + 4 := by simp
  simp only [World.size_alloc]
  generalize (((w1.alloc (.cells #[.int .i64 0, .int .i64 0] 26)).alloc (.cells #[.int .i64 0] 3)).alloc (.cells #[.bool false] 4)).alloc (.cells #[.slice A' m c'] 88) = W0 at hbx hcs hbw hsz ⊢
  generalize hbb : w1.heap.size = b at *
  gi_wp2
  have hA' : ∀ b' off, A' = some ⟨b', off, none⟩ → es ≠ [] → b' < b := by
    intro b' off hA hne
    obtain ⟨b2, h1, h2, _⟩ := HE.out 0 (List.length_pos_iff.2 hne)
    rw [hA] at h1; cases h1; omega
  refine wpIn_rangeFunc_ownH rfl (by omega) (gf := 58) (lb := #[.pointer (some ⟨b + 1 + 1 + 1, 0, none⟩)]) rfl trivial (enters_of Try.func58 (by kernel_rfl) rfl)
    (walk_stops Fence.wide _ trivial rfl (by omega) (b + 1 + 1 + 1) b (b + 3) A' m c' es HEL.out.symm hml W0 (by omega) (by omega) (by omega) hcs (HE.out.turn (by rw [hbb]; exact hbw)) hA')
    KpC.t (KpC.b (by omega)) (Go.RowKit.Below.refl _ _) (fun _ => rfl)
    (fun pre W => BBox W b (bFold pre) ∧ Go.RowKit.Below b w1 W)
    (fun _ _ _ => False)
    (OwnFrom.and (Own.from (BBox.own bFold) _) (ownFrom_below (by omega) (by omega)))
    (fun _ _ _ _ _ hs _ _ => hs)
    ⟨hbx, hbw⟩
    (fun x a' W => ∃ Bx, b + 3 ≤ Bx ∧ W.heap[Bx]? = some (.cells #[.int .i64 x.1.1, .bool x.1.2] 94 (0, 0)) ∧ a' = { tmps := #[.slice A n c, undef, .pointer (some ⟨w.heap.size, 0, none⟩), .int .i64 0, .slice A' m c', .int .i64 (rightL gs), .pointer (some ⟨b, 0, none⟩), .pointer (some ⟨b + 1, 0, none⟩), .pointer (some ⟨b + 1 + 1, 0, none⟩), .pointer (some ⟨Bx, 0, none⟩), .int .i64 x.2, .tuple #[.slice A' m c', .int .i64 (rightL gs)], .slice A n c, .tuple #[.slice A' m c', .int .i64 (rightL gs)], .slice A' m c', .int .i64 (rightL gs), .slice A' m c', .func (.func 58) #[] #[.pointer (some ⟨b + 1 + 1 + 1, 0, none⟩)], .agg #[.int .i64 x.1.1, .bool x.1.2], .int .i64 x.2, undef, undef, undef, undef, undef, undef, undef, undef, undef, undef, undef, undef, undef, undef, undef, undef, undef, undef, undef, undef, undef, undef, undef, undef], defers := [] })
    (fun x a' _ X Y row hs hg hr => by
      obtain ⟨Bx, h1, h2, h3⟩ := hs
      exact ⟨Bx, h1, (hg.block Bx (lt_of_heap h2) (fun e => by obtain ⟨_, o', k1, k2⟩ := hr Bx e.symm; rw [h2] at k1; cases k1; cases k2)).trans h2, h3⟩)
    ?assign ?body ?done ?stop
  case assign =>
    rintro l pre x W K ⟨hb1, hB1⟩ hK
    have hl := lt_of_heap hb1.o
    unfold encW
    gi_wp2
    exact hK _ _ ((KeepsOthers.alloc _ _).from _) ⟨(Go.RowKit.Below.refl b W).alloc (by omega) _, fun k cs t fr hk h => (Go.RowKit.Below.heap_alloc _ _ _ (lt_of_heap h)).trans h⟩
      ⟨hb1.ext fun k hk => Go.RowKit.Below.heap_alloc _ _ _ (by omega), hB1.alloc (by omega) _⟩ ⟨W.heap.size, by omega, heap_alloc_new W _, rfl⟩
  case body =>
    rintro l pre ⟨⟨at_, en⟩, v⟩ a' W hl ⟨r, hr⟩ ⟨hb1, hB1⟩ ⟨Bx, hBx, hX, rfl⟩ hlt
    have hsn := bFold_snoc pre ((at_, en), v)
    generalize bFold pre = s at hb1 hsn
    obtain ⟨lo, hi, most, op⟩ := s
    have HSN := Lib.hid hsn
    obtain ⟨c1, c2, c3, c4, f1, f2, f3, hlt3⟩ := hb1.cells
    have x0 : W.cell? ⟨Bx, 0, none⟩ = some (.int .i64 at_) := by simp [World.cell?, hX]
    have x1 : W.cell? ⟨Bx, 1, none⟩ = some (.bool en) := by simp [World.cell?, hX]
    have hXl := lt_of_heap hX
    have H1 := Lib.hid hb1
    have HW := Lib.hid hB1
    clear hr hb1 hB1 hX hsn hlt hbx hcs hbw
    cases en
    · by_cases hv : most < v
      · gi_wp2
        refine ⟨((KeepsOthers.setCell _ _ _).trans ((KeepsOthers.setCell _ _ _).trans ((KeepsOthers.setCell _ _ _).trans (KeepsOthers.setCell _ _ _)))).from _, (kpC_set _ _ _ (by simp) (by simp)).t ((kpC_set _ _ _ (by simp) (by simp)).t ((kpC_set _ _ _ (by simp) (by simp)).t (kpC_set _ _ _ (by simp; omega) (by simp)))), ?_, ?_⟩
        · rw [HSN.out]; unfold bStep; rw [if_pos (show _ ∧ _ from ⟨rfl, hv⟩)]; exact (((H1.out.setLo _).setHi _).setMost _).setOp _
        · exact (((HW.out.setCell (by simp) _).setCell (by simp) _).setCell (by simp) _).setCell (by simp; omega) _
      · gi_wp2
        refine ⟨KeepsFrom.refl _ _, KpC.refl _ _ _, ?_, HW.out⟩
        rw [HSN.out]; unfold bStep; rw [if_neg (by simp; omega), if_neg (by simp)]; exact H1.out
    · cases op
      · gi_wp2
        refine ⟨KeepsFrom.refl _ _, KpC.refl _ _ _, ?_, HW.out⟩
        rw [HSN.out]; unfold bStep; rw [if_neg (by simp), if_neg (by simp)]; exact H1.out
      · gi_wp2
        refine ⟨((KeepsOthers.setCell _ _ _).trans (KeepsOthers.setCell _ _ _)).from _, (kpC_set _ _ _ (by simp) (by simp)).t (kpC_set _ _ _ (by simp; omega) (by simp)), ?_, ?_⟩
        · rw [HSN.out]; unfold bStep; rw [if_neg (by simp), if_pos (by simp)]; exact (H1.out.setHi _).setOp _
        · exact (HW.out.setCell (by simp) _).setCell (by simp; omega) _
  case done =>
    rintro D ys W hD rfl ⟨hb1, hB1⟩ hK
    have hz : Box2 W w.heap.size 26 0 0 := (hB1.block _ (by omega)).trans HB0.out
    have hBW : Go.RowKit.Below w.heap.size w W := HB1.out.trans (hB1.mono (by omega))
    generalize bFold (upto (walkF es) m) = s at hb1 HBS
    obtain ⟨lo, hi, most, op⟩ := s
    obtain ⟨c1, c2, c3, c4, f1, f2, f3, hlt3⟩ := hb1.cells
    obtain ⟨z0, z1, z2, z3⟩ := hz.cells
    have HZ := Lib.hid hz
    have HBW := Lib.hid hBW
    have HK := Lib.hid hK
    clear hz hBW hB1 hb1 hK hbx hcs hbw
    gi_wp2
    gi_region
    have hD2 : w.heap.size < D := by omega
    have hz2 : Box2 (((W.setCell ⟨w.heap.size, 0, none⟩ (.int .i64 lo)).setCell ⟨w.heap.size, 1, none⟩ (.int .i64 hi)).drew) w.heap.size 26 lo hi := setCell_heap (setCell_heap HZ.out _) _
    have hB2 : Go.RowKit.Below w.heap.size w (((W.setCell ⟨w.heap.size, 0, none⟩ (.int .i64 lo)).setCell ⟨w.heap.size, 1, none⟩ (.int .i64 hi)).drew) := ((HBW.out.setCell (by simp) _).setCell (by simp) _).drew
    have hK2 : (((W.setCell ⟨w.heap.size, 0, none⟩ (.int .i64 lo)).setCell ⟨w.heap.size, 1, none⟩ (.int .i64 hi)).drew).heap[D]? = some (.deferred (some [])) := ((Go.RowKit.Below.heap_setCell _ _ _ _ (by simp; omega)).trans (Go.RowKit.Below.heap_setCell _ _ _ _ (by simp; omega))).trans HK.out
    generalize ((W.setCell ⟨w.heap.size, 0, none⟩ (.int .i64 lo)).setCell ⟨w.heap.size, 1, none⟩ (.int .i64 hi)).drew = W5 at hz2 hB2 hK2 ⊢
    gi_wp2
    refine ⟨by simp, .inl ⟨_, _, rfl, run_takeDeferred hK2, ?_⟩⟩
    have hz6 : Box2 (W5.putObj D (.deferred none)) w.heap.size 26 lo hi := (World.putObj_heap_other (by omega)).trans hz2
    have c5 := hz6.cells.1
    have c6 := hz6.cells.2.1
    refine ⟨.tuple #[.agg #[.int .i64 lo, .int .i64 hi], .int .i64 most], ?_, by rw [HBS.out]; rfl, hB2.trans (belowK_b (w := w) (Nat.le_refl _) _ D _ _ (by omega) hK2 rfl rfl)⟩
    simp [results, Try.results49, go_sem, c5, c6]
  case stop =>
    rintro D c pre W _ _ h _
    exact h.elim

end Go.Proofs.Ytkgodolhcoeaeaa
