/- Sweep: Without walked. No condition. -/
import Derived.Test.YtljkijolehalcaaSi
import Derived.Test.YtljkijolehalcaaKfen
namespace Go.Proofs.Ytljkijolehalcaa
open Go.RowKit Go.Shelf

attribute [local go_sem] Oper.semAt_some

def wStep (q : Int) (s : Int × Int) (x : (Int × Bool) × Int) : Int × Int := if q ≤ x.2 then (min s.1 x.1.1, max s.2 x.1.1) else s
def wFold (q : Int) (l : List ((Int × Bool) × Int)) : Int × Int := l.foldl (wStep q) (9223372036854775807, -9223372036854775808)
def withoutL (f : Int) (gs : List (Int × Int)) : (Int × Int) × Bool :=
  if f < 0 ∨ (rightL gs : Int) ≤ f then ((0, 0), false) else if okG (wFold (rightL gs - f) (upto (walkF (sortE (edgesL gs))) (2 * rightL gs))) = true then (wFold (rightL gs - f) (upto (walkF (sortE (edgesL gs))) (2 * rightL gs)), true) else ((0, 0), false)

theorem wFold_snoc (q : Int) (l : List ((Int × Bool) × Int)) (x : (Int × Bool) × Int) : wFold q (l ++ [x]) = wStep q (wFold q l) x := by simp [wFold]

theorem Box2.own {b : Nat} {t : TypeId} {α : Type} (f : α → Int × Int) : Own (fun (pre : α) W => Box2 W b t (f pre).1 (f pre).2) := fun s A B row hs hg hr =>
  (hg.block b (lt_of_heap hs) (fun e => by obtain ⟨o', h1, h2⟩ := hr b e.symm; unfold Box2 at hs; rw [hs] at h1; cases h1; cases h2)).trans hs

theorem kpC_setN {n₀ n₁ : Nat} (W : World) (p : Addr) (v : Value) (h1 : n₀ ≤ p.block) (h2 : p.block < n₁) : KpC n₀ n₁ W (W.setCell p v) :=
  ⟨(Go.RowKit.Below.refl n₀ W).setCell h1 v, fun k cs t fr hk h => (Go.RowKit.Below.heap_setCell _ _ _ _ (by omega)).trans h⟩

theorem kpC_drew {n₀ n₁ : Nat} {W : World} : KpC n₀ n₁ W W.drew := ⟨(Go.RowKit.Below.refl _ _).drew, fun _ _ _ _ _ h => h⟩

set_option maxRecDepth 100000 in
set_option maxHeartbeats 4000000 in
theorem without11 (f : Int) (A : Option Addr) (n c : Nat) (gs : List (Int × Int)) (w : World) (hn : n = gs.length) (hn2 : n ≤ 1000) (hG : GapsIn w A gs) :
    Calls Try.prog 11 #[.int .i64 f, .slice A n c] w fun e w' => e = .returned (.tuple #[encG (withoutL f gs).1, .bool (withoutL f gs).2]) ∧ Go.RowKit.Below w.heap.size w w' := by
  have HN := Lib.hid hn
  have HG := Lib.hid hG
  clear hn hG
  refine (callsIn_wide (n := 6)).1 ?_
  refine callsIn_of_wp_marks Try.func11 rfl trivial ?_ rfl
  simp only [Try.ntmps11, List.size_toArray, List.length_cons, List.length_nil, Nat.reduceAdd, Nat.reduceSub, Array.replicate_succ, Array.replicate_zero, List.push_toArray, List.append_toArray, List.nil_append, List.cons_append]
  have hA0 := ((Go.RowKit.Below.refl w.heap.size w).alloc (Nat.le_refl _) (.cells #[.int .i64 f] 3)).alloc (by simp) (.cells #[.int .i64 0, .int .i64 0] 25)
  have HA0 := Lib.hid hA0
  clear hA0
  gi_wp2
  refine ⟨trivial, (callsIn_wide.2 (edges22 A n c gs _ HN.out hn2 (HG.out.turn HA0.out))).mono ?_⟩
  rintro e w1 ⟨A', c', rfl, hE, hB⟩
  have hb0 : Box2 w1 (w.heap.size + 1) 25 0 0 := (hB.block _ (by simp)).trans (by have := heap_alloc_new (w.alloc (.cells #[.int .i64 f] 3)) (.cells #[.int .i64 0, .int .i64 0] 25); rw [World.size_alloc] at this; exact this)
  have hbf : w1.heap[w.heap.size]? = some (.cells #[.int .i64 f] 3 (0, 0)) := (hB.block _ (by simp; omega)).trans ((Go.RowKit.Below.heap_alloc _ _ _ (by simp)).trans (heap_alloc_new w _))
  have hB1 : Go.RowKit.Below w.heap.size w w1 := HA0.out.trans (hB.mono (by simp; omega))
  have hws : w.heap.size + 1 < w1.heap.size := by have := hB.size; simp at this; omega
  have hel : (sortE (edgesL gs)).length = 2 * rightL gs := by rw [sortE_len, edgesL_len]
  have hrl : rightL gs ≤ 1000 := by have := HN.out; have := rightL_le gs; omega
  have hml : 2 * rightL gs ≤ 100000 := by omega
  have hbs : withoutL f gs = if f < 0 ∨ (rightL gs : Int) ≤ f then ((0, 0), false) else if okG (wFold (rightL gs - f) (upto (walkF (sortE (edgesL gs))) (2 * rightL gs))) = true then (wFold (rightL gs - f) (upto (walkF (sortE (edgesL gs))) (2 * rightL gs)), true) else ((0, 0), false) := rfl
  have HBS := Lib.hid hbs
  have HE := Lib.hid hE
  have HB0 := Lib.hid hb0
  have HBF := Lib.hid hbf
  have HB1 := Lib.hid hB1
  have HEL := Lib.hid hel
  have cf : w1.cell? ⟨w.heap.size, 0, none⟩ = some (.int .i64 f) := by simp [World.cell?, hbf]
  obtain ⟨z0, z1, z2, z3⟩ := hb0.cells
  have hwl : w.heap.size < w1.heap.size := by omega
  clear hbs hE hb0 hbf hB1 hel hB HA0
  generalize sortE (edgesL gs) = es at HBS HE HEL
  generalize hmm : 2 * rightL gs = m at HBS HEL hml ⊢
  generalize rightL gs = r at *
  by_cases h1 : f < 0
  · gi_wp2
    have hz2 : Box2 ((((w1.setCell ⟨w.heap.size + 1, 0, none⟩ (.int .i64 0)).setCell ⟨w.heap.size + 1, 1, none⟩ (.int .i64 0)).alloc (.cells #[.int .i64 r] 3))) (w.heap.size + 1) 25 0 0 := (Go.RowKit.Below.heap_alloc _ _ _ (by simp; omega)).trans (setCell_heap (setCell_heap HB0.out _) _)
    have hB2 : Go.RowKit.Below w.heap.size w (((w1.setCell ⟨w.heap.size + 1, 0, none⟩ (.int .i64 0)).setCell ⟨w.heap.size + 1, 1, none⟩ (.int .i64 0)).alloc (.cells #[.int .i64 r] 3)) := ((HB1.out.setCell (by simp) _).setCell (by simp) _).alloc (by simp; omega) _
    have c5 := hz2.cells.1
    have c6 := hz2.cells.2.1
    refine ⟨.tuple #[.agg #[.int .i64 0, .int .i64 0], .bool false], ?_, by rw [HBS.out, if_pos (.inl h1)]; rfl, hB2⟩
    simp [results, Try.results11, go_sem, c5, c6]
  · by_cases h2 : (r : Int) ≤ f
    · gi_wp2
      have hz2 : Box2 ((((w1.setCell ⟨w.heap.size + 1, 0, none⟩ (.int .i64 0)).setCell ⟨w.heap.size + 1, 1, none⟩ (.int .i64 0)).alloc (.cells #[.int .i64 r] 3))) (w.heap.size + 1) 25 0 0 := (Go.RowKit.Below.heap_alloc _ _ _ (by simp; omega)).trans (setCell_heap (setCell_heap HB0.out _) _)
      have hB2 : Go.RowKit.Below w.heap.size w (((w1.setCell ⟨w.heap.size + 1, 0, none⟩ (.int .i64 0)).setCell ⟨w.heap.size + 1, 1, none⟩ (.int .i64 0)).alloc (.cells #[.int .i64 r] 3)) := ((HB1.out.setCell (by simp) _).setCell (by simp) _).alloc (by simp; omega) _
      have c5 := hz2.cells.1
      have c6 := hz2.cells.2.1
      refine ⟨.tuple #[.agg #[.int .i64 0, .int .i64 0], .bool false], ?_, by rw [HBS.out, if_pos (.inr h2)]; rfl, hB2⟩
      simp [results, Try.results11, go_sem, c5, c6]
    · gi_wp2
      refine ⟨trivial, (walk_in Fence.wide _ trivial rfl _ _ _ _).mono ?_⟩
      rintro e w2 ⟨rfl, rfl⟩
      have hbs2 : withoutL f gs = if okG (wFold (↑r - f) (upto (walkF es) m)) = true then (wFold (↑r - f) (upto (walkF es) m), true) else ((0, 0), false) := by rw [HBS.out, if_neg (by omega)]
      have HBS2 := Lib.hid hbs2
      clear hbs2 HBS
      have x1 := heap_alloc_new w1 (.cells #[.int .i64 r] 3)
      have x2 := heap_alloc_new (w1.alloc (.cells #[.int .i64 r] 3)) (.cells #[.int .i64 9223372036854775807, .int .i64 (-9223372036854775808)] 25)
      have x3 := heap_alloc_new ((w1.alloc (.cells #[.int .i64 r] 3)).alloc (.cells #[.int .i64 9223372036854775807, .int .i64 (-9223372036854775808)] 25)) (.cells #[.slice A' m c'] 50)
      simp only [World.size_alloc] at x2 x3
      have hbx : Box2 (((w1.alloc (.cells #[.int .i64 r] 3)).alloc (.cells #[.int .i64 9223372036854775807, .int .i64 (-9223372036854775808)] 25)).alloc (.cells #[.slice A' m c'] 50)) (w1.heap.size + 1) 25 9223372036854775807 (-9223372036854775808) :=
        (Go.RowKit.Below.heap_alloc _ _ _ (by simp)).trans x2
      have hbn : (((w1.alloc (.cells #[.int .i64 r] 3)).alloc (.cells #[.int .i64 9223372036854775807, .int .i64 (-9223372036854775808)] 25)).alloc (.cells #[.slice A' m c'] 50)).heap[w1.heap.size]? = some (.cells #[.int .i64 r] 3 (0, 0)) :=
        ((Go.RowKit.Below.heap_alloc _ _ _ (by simp; omega)).trans (Go.RowKit.Below.heap_alloc _ _ _ (by simp))).trans x1
      have hcs : (((w1.alloc (.cells #[.int .i64 r] 3)).alloc (.cells #[.int .i64 9223372036854775807, .int .i64 (-9223372036854775808)] 25)).alloc (.cells #[.slice A' m c'] 50)).cell? ⟨w1.heap.size + 1 + 1, 0, none⟩ = some (.slice A' m c') := by
        unfold World.cell?
        rw [x3]
        rfl
      have hbw : Go.RowKit.Below w1.heap.size w1 (((w1.alloc (.cells #[.int .i64 r] 3)).alloc (.cells #[.int .i64 9223372036854775807, .int .i64 (-9223372036854775808)] 25)).alloc (.cells #[.slice A' m c'] 50)) :=
        (((Go.RowKit.Below.refl _ w1).alloc (Nat.le_refl _) _).alloc (by simp) _).alloc (by simp; omega) _
      have hsz : (((w1.alloc (.cells #[.int .i64 r] 3)).alloc (.cells #[.int .i64 9223372036854775807, .int .i64 (-9223372036854775808)] 25)).alloc (.cells #[.slice A' m c'] 50)).heap.size = w1.heap.size + 3 := by simp
      clear x1 x2 x3
      simp only [World.size_alloc]
      generalize ((w1.alloc (.cells #[.int .i64 r] 3)).alloc (.cells #[.int .i64 9223372036854775807, .int .i64 (-9223372036854775808)] 25)).alloc (.cells #[.slice A' m c'] 50) = W0 at hbx hbn hcs hbw hsz ⊢
      generalize hbb : w1.heap.size = b at *
      gi_wp2
      have hA' : ∀ b' off, A' = some ⟨b', off, none⟩ → es ≠ [] → b' < b + 1 := by
        intro b' off hA hne
        obtain ⟨b2, h1, h2, _⟩ := HE.out 0 (List.length_pos_iff.2 hne)
        rw [hA] at h1; cases h1; omega
      have hf0 : W0.heap[w.heap.size]? = some (.cells #[.int .i64 f] 3 (0, 0)) := (hbw.block _ (by omega)).trans HBF.out
      have hr0 : Box2 W0 (w.heap.size + 1) 25 0 0 := (hbw.block _ (by omega)).trans HB0.out
      have HF0 := Lib.hid hf0
      have HR0 := Lib.hid hr0
      have HN0 := Lib.hid hbn
      have HBW0 := Lib.hid (HB1.out.trans (hbw.mono (by omega)))
      clear hf0 hr0 hbn cf z0 z1 z2 z3
      refine wpIn_rangeFunc_ownH rfl (by omega) (gf := 31) (lb := #[.pointer (some ⟨b + 1 + 1, 0, none⟩)]) rfl trivial (enters_of Try.func31 (by kernel_rfl) rfl)
        (walk_stops Fence.wide _ trivial rfl (by omega) (b + 1 + 1) (b + 1) (b + 2) A' m c' es HEL.out.symm hml W0 (by omega) (by omega) (by omega) hcs (HE.out.turn (by rw [hbb]; exact hbw)) hA')
        KpC.t (KpC.b (by omega)) (Go.RowKit.Below.refl _ _) (fun _ => rfl)
        (fun pre W => Box2 W (b + 1) 25 (wFold (r - f) pre).1 (wFold (r - f) pre).2 ∧ Go.RowKit.Below (b + 1) W0 W)
        (fun _ _ _ => False)
        (OwnFrom.and (Own.from (Box2.own (wFold (r - f))) _) (ownFrom_below (by omega) (by omega)))
        (fun _ _ _ _ _ hs _ _ => hs)
        ⟨hbx, Go.RowKit.Below.refl _ _⟩
        (fun x a' W => ∃ Bx, b + 2 ≤ Bx ∧ W.heap[Bx]? = some (.cells #[.int .i64 x.1.1, .bool x.1.2] 56 (0, 0)) ∧ a' = { tmps := #[.int .i64 f, .slice A n c, .pointer (some ⟨w.heap.size, 0, none⟩), undef, .pointer (some ⟨w.heap.size + 1, 0, none⟩), .bool false, .slice A' m c', .pointer (some ⟨b, 0, none⟩), .pointer (some ⟨b + 1, 0, none⟩), .pointer (some ⟨Bx, 0, none⟩), .int .i64 x.2,
          .tuple #[.slice A' m c', .int .i64 r], .slice A n c, .tuple #[.slice A' m c', .int .i64 r], .slice A' m c', .int .i64 r, .int .i64 f, .bool (decide (f < 0)), .bool (decide (f < 0)), .int .i64 f, .int .i64 r, .bool (decide ((r : Int) ≤ f)), .bool (decide (f < 0) || decide ((r : Int) ≤ f)), undef, .agg #[.int .i64 9223372036854775807, .int .i64 (-9223372036854775808)], .slice A' m c', .func (.func 31) #[] #[.pointer (some ⟨b + 1 + 1, 0, none⟩)], .agg #[.int .i64 x.1.1, .bool x.1.2], .int .i64 x.2, undef, undef, undef, undef, undef, undef, undef, undef, undef, undef, undef, undef, undef, undef, undef, undef, undef, undef, undef, undef, undef, undef], defers := [] })
        (fun x a' _ X Y row hs hg hr => by
          obtain ⟨Bx, h1, h2, h3⟩ := hs
          exact ⟨Bx, h1, (hg.block Bx (lt_of_heap h2) (fun e => by obtain ⟨_, o', k1, k2⟩ := hr Bx e.symm; rw [h2] at k1; cases k1; cases k2)).trans h2, h3⟩)
        ?assign ?body ?done ?stop
      case assign =>
        rintro l pre x W K ⟨hb1, hB1⟩ hK
        have hl := lt_of_heap hb1
        unfold encW
        gi_wp2
        exact hK _ _ ((KeepsOthers.alloc _ _).from _) ⟨(Go.RowKit.Below.refl (b + 1) W).alloc (by omega) _, fun k cs t fr hk h => (Go.RowKit.Below.heap_alloc _ _ _ (lt_of_heap h)).trans h⟩
          ⟨(Go.RowKit.Below.heap_alloc _ _ _ (by omega)).trans hb1, hB1.alloc (by omega) _⟩ ⟨W.heap.size, by omega, heap_alloc_new W _, rfl⟩
      case body =>
        rintro l pre ⟨⟨at_, en⟩, v⟩ a' W hl ⟨r', hr'⟩ ⟨hb1, hB1⟩ ⟨Bx, hBx, hX, rfl⟩ hlt
        have hsn := wFold_snoc (r - f) pre ((at_, en), v)
        generalize wFold (r - f) pre = s at hb1 hsn
        obtain ⟨lo, hi⟩ := s
        have HSN := Lib.hid hsn
        obtain ⟨c1, c2, f1, hlt3⟩ := hb1.cells
        have x0 : W.cell? ⟨Bx, 0, none⟩ = some (.int .i64 at_) := by simp [World.cell?, hX]
        have xf : W.cell? ⟨w.heap.size, 0, none⟩ = some (.int .i64 f) := (hB1.cell (p := ⟨w.heap.size, 0, none⟩) (by simp; omega)).trans (by simp [World.cell?, HF0.out])
        have xn : W.cell? ⟨b, 0, none⟩ = some (.int .i64 r) := (hB1.cell (p := ⟨b, 0, none⟩) (by simp)).trans (by simp [World.cell?, HN0.out])
        have hXl := lt_of_heap hX
        have hfl : w.heap.size < W.heap.size := by omega
        have hbl : b < W.heap.size := by omega
        have H1 := Lib.hid hb1
        have HW := Lib.hid hB1
        clear hr' hb1 hB1 hX hsn hlt hbx hcs hbw
        by_cases hv : (r : Int) - f ≤ v
        · by_cases hx1 : lo ≤ at_
          · by_cases hx2 : at_ ≤ hi
            · gi_wp2
              refine wpIn_region_any (by kernel_rfl) (wpAnyIn_of_wpAny (by rintro ⟨a, w, h⟩; exact h) (noDefer_spec (by kernel_rfl)) _ _ _ _ ?_)
              refine wpAny_of_held (S := fun w' => w'.cell? ⟨Bx, 0, none⟩ = some (.int .i64 at_)) _ _ _ _ ?_
              have hS : (fun w' : World => w'.cell? ⟨Bx, 0, none⟩ = some (.int .i64 at_)) W.drew := x0
              change wpAnyH _ _ _ _ _ _ _ _ W.drew
              refine wpAnyH_take (i := 0) (oi := { dst := some 34, op := Op.fieldAddr 25 (Operand.tmp 8) 0, type := 0, pos := "sweep.go:103", after := #[], guard := none }) (v := ?v1) rfl (by kernel_rfl) (by kernel_rfl) (by kernel_rfl) (fun _ _ _ h => h) (Or.inl ⟨by rfl, ?hy1⟩) hS ?rest1
              case hy1 => intro w' hSw; (try dsimp only at hSw); go_simp; (try with_reducible rfl)
              try simp only [Act.put, List.setIfInBounds_toArray, List.set_cons_zero, List.set_cons_succ]
              refine wpAnyH_take (i := 2) (oi := { dst := some 36, op := Op.fieldAddr 56 (Operand.tmp 9) 0, type := 0, pos := "sweep.go:103", after := #[], guard := none }) (v := ?v2) rfl (by kernel_rfl) (by kernel_rfl) (by kernel_rfl) (fun _ _ _ h => h) (Or.inl ⟨by rfl, ?hy2⟩) hS ?rest2
              case hy2 => intro w' hSw; (try dsimp only at hSw); go_simp; (try with_reducible rfl)
              try simp only [Act.put, List.setIfInBounds_toArray, List.set_cons_zero, List.set_cons_succ]
              refine wpAnyH_take (i := 3) (oi := { dst := some 37, op := Op.load 2 (Operand.tmp 36), type := 2, pos := "sweep.go:103", after := #[{ on := 2, ground := Ground.data }], guard := none }) (v := ?v3) rfl (by kernel_rfl) (by kernel_rfl) (by kernel_rfl) (fun _ _ _ h => h) (Or.inl ⟨by rfl, ?hy3⟩) hS ?rest3
              case hy3 => intro w' hSw; (try dsimp only at hSw); go_simp; (try with_reducible rfl)
              try simp only [Act.put, List.setIfInBounds_toArray, List.set_cons_zero, List.set_cons_succ]
              refine wpAnyH_take (i := 5) (oi := { dst := some 39, op := Op.fieldAddr 25 (Operand.tmp 8) 1, type := 0, pos := "sweep.go:103", after := #[], guard := none }) (v := ?v4) rfl (by kernel_rfl) (by kernel_rfl) (by kernel_rfl) (fun _ _ _ h => h) (Or.inl ⟨by rfl, ?hy4⟩) hS ?rest4
              case hy4 => intro w' hSw; (try dsimp only at hSw); go_simp; (try with_reducible rfl)
              try simp only [Act.put, List.setIfInBounds_toArray, List.set_cons_zero, List.set_cons_succ]
              refine wpAnyH_take (i := 7) (oi := { dst := some 41, op := Op.fieldAddr 56 (Operand.tmp 9) 0, type := 0, pos := "sweep.go:103", after := #[], guard := none }) (v := ?v5) rfl (by kernel_rfl) (by kernel_rfl) (by kernel_rfl) (fun _ _ _ h => h) (Or.inl ⟨by rfl, ?hy5⟩) hS ?rest5
              case hy5 => intro w' hSw; (try dsimp only at hSw); go_simp; (try with_reducible rfl)
              try simp only [Act.put, List.setIfInBounds_toArray, List.set_cons_zero, List.set_cons_succ]
              refine wpAnyH_take (i := 8) (oi := { dst := some 42, op := Op.load 2 (Operand.tmp 41), type := 2, pos := "sweep.go:103", after := #[{ on := 7, ground := Ground.data }], guard := none }) (v := ?v6) rfl (by kernel_rfl) (by kernel_rfl) (by kernel_rfl) (fun _ _ _ h => h) (Or.inl ⟨by rfl, ?hy6⟩) hS ?rest6
              case hy6 => intro w' hSw; (try dsimp only at hSw); go_simp; (try with_reducible rfl)
              try simp only [Act.put, List.setIfInBounds_toArray, List.set_cons_zero, List.set_cons_succ]
              refine wpAnyH_ready (rs := [1, 6]) (by kernel_rfl) (by simp) ?_
              refine AllReadyH.cons (o := { dst := some 35, op := Op.load 2 (Operand.tmp 34), type := 2, pos := "sweep.go:103", after := #[{ on := 0, ground := Ground.data }], guard := none }) rfl (fun K hK => ?_) (AllReadyH.cons (o := { dst := some 40, op := Op.load 2 (Operand.tmp 39), type := 2, pos := "sweep.go:103", after := #[{ on := 5, ground := Ground.data }], guard := none }) rfl (fun K hK => ?_) AllReadyH.nil)
              · go_simp
                refine hK.out _ _ ?_ (fun hS => ?_)
                · exact hS
                clear hK K
                try simp only [Act.put, List.setIfInBounds_toArray, List.set_cons_zero, List.set_cons_succ]
                refine wpAnyH_take (i := 4) (oi := { dst := some 38, op := Op.call { callee := Callee.builtin Builtin.min, args := #[Operand.tmp 35, Operand.tmp 37], argTypes := #[2, 2] }, type := 2, pos := "sweep.go:103", after := #[{ on := 1, ground := Ground.data }, { on := 3, ground := Ground.data }], guard := none }) (v := ?v7) rfl (by kernel_rfl) (by kernel_rfl) (by kernel_rfl) (fun _ _ _ h => h) (Or.inl ⟨by rfl, ?hy7⟩) hS ?rest7
                case hy7 => intro w' hSw; (try dsimp only at hSw); go_simp; (try with_reducible rfl)
                try simp only [Act.put, List.setIfInBounds_toArray, List.set_cons_zero, List.set_cons_succ]
                refine wpAnyH_ready (rs := [6]) (by kernel_rfl) (by simp) ?_
                refine AllReadyH.cons (o := { dst := some 40, op := Op.load 2 (Operand.tmp 39), type := 2, pos := "sweep.go:103", after := #[{ on := 5, ground := Ground.data }], guard := none }) rfl (fun K hK => ?_) AllReadyH.nil
                go_simp
                refine hK.out _ _ ?_ (fun hS => ?_)
                · exact hS
                clear hK K
                try simp only [Act.put, List.setIfInBounds_toArray, List.set_cons_zero, List.set_cons_succ]
                refine wpAnyH_take (i := 9) (oi := { dst := some 43, op := Op.call { callee := Callee.builtin Builtin.max, args := #[Operand.tmp 40, Operand.tmp 42], argTypes := #[2, 2] }, type := 2, pos := "sweep.go:103", after := #[{ on := 6, ground := Ground.data }, { on := 8, ground := Ground.data }], guard := none }) (v := ?v8) rfl (by kernel_rfl) (by kernel_rfl) (by kernel_rfl) (fun _ _ _ h => h) (Or.inl ⟨by rfl, ?hy8⟩) hS ?rest8
                case hy8 => intro w' hSw; (try dsimp only at hSw); go_simp; (try with_reducible rfl)
                try simp only [Act.put, List.setIfInBounds_toArray, List.set_cons_zero, List.set_cons_succ]
                refine wpAnyH_take (i := 10) (oi := { dst := some 44, op := Op.fieldAddr 25 (Operand.tmp 8) 0, type := 0, pos := "sweep.go:103", after := #[{ on := 0, ground := Ground.phase }, { on := 1, ground := Ground.phase }, { on := 2, ground := Ground.phase }, { on := 3, ground := Ground.phase }, { on := 4, ground := Ground.phase }, { on := 5, ground := Ground.phase }, { on := 6, ground := Ground.phase }, { on := 7, ground := Ground.textOnly Departure.lateStores }, { on := 8, ground := Ground.textOnly Departure.lateStores }, { on := 9, ground := Ground.textOnly Departure.lateStoresUnsure }], guard := none }) (v := ?v9) rfl (by kernel_rfl) (by kernel_rfl) (by kernel_rfl) (fun _ _ _ h => h) (Or.inl ⟨by rfl, ?hy9⟩) hS ?rest9
                case hy9 => intro w' hSw; (try dsimp only at hSw); go_simp; (try with_reducible rfl)
                try simp only [Act.put, List.setIfInBounds_toArray, List.set_cons_zero, List.set_cons_succ]
                refine wpAnyH_ready (rs := [11]) (by kernel_rfl) (by simp) ?_
                refine AllReadyH.cons (o := { dst := none, op := Op.store 2 (Operand.tmp 44) (Operand.tmp 38), type := 0, pos := "sweep.go:103", after := #[{ on := 10, ground := Ground.data }, { on := 4, ground := Ground.data }, { on := 0, ground := Ground.phase }, { on := 1, ground := Ground.phase }, { on := 2, ground := Ground.phase }, { on := 3, ground := Ground.phase }, { on := 4, ground := Ground.phase }, { on := 5, ground := Ground.phase }, { on := 6, ground := Ground.phase }, { on := 7, ground := Ground.textOnly Departure.lateStores }, { on := 8, ground := Ground.textOnly Departure.lateStores }, { on := 9, ground := Ground.textOnly Departure.lateStoresUnsure }], guard := none }) rfl (fun K hK => ?_) AllReadyH.nil
                go_simp
                refine hK.out _ _ ?_ (fun hS => ?_)
                · exact (World.cell?_of_block (Go.RowKit.Below.heap_setCell _ _ _ _ (by simp; omega))).trans hS
                clear hK K
                try simp only [Act.put, List.setIfInBounds_toArray, List.set_cons_zero, List.set_cons_succ]
                refine wpAnyH_take (i := 12) (oi := { dst := some 45, op := Op.fieldAddr 25 (Operand.tmp 8) 1, type := 0, pos := "sweep.go:103", after := #[{ on := 0, ground := Ground.phase }, { on := 1, ground := Ground.phase }, { on := 2, ground := Ground.phase }, { on := 3, ground := Ground.phase }, { on := 4, ground := Ground.phase }, { on := 5, ground := Ground.phase }, { on := 6, ground := Ground.phase }, { on := 7, ground := Ground.phase }, { on := 8, ground := Ground.phase }, { on := 9, ground := Ground.phase }, { on := 10, ground := Ground.phase }, { on := 11, ground := Ground.phase }], guard := none }) (v := ?v10) rfl (by kernel_rfl) (by kernel_rfl) (by kernel_rfl) (fun _ _ _ h => h) (Or.inl ⟨by rfl, ?hy10⟩) hS ?rest10
                case hy10 => intro w' hSw; (try dsimp only at hSw); go_simp; (try with_reducible rfl)
                try simp only [Act.put, List.setIfInBounds_toArray, List.set_cons_zero, List.set_cons_succ]
                refine wpAnyH_ready (rs := [13]) (by kernel_rfl) (by simp) ?_
                refine AllReadyH.cons (o := { dst := none, op := Op.store 2 (Operand.tmp 45) (Operand.tmp 43), type := 0, pos := "sweep.go:103", after := #[{ on := 12, ground := Ground.data }, { on := 9, ground := Ground.data }, { on := 11, ground := Ground.chain }, { on := 0, ground := Ground.phase }, { on := 1, ground := Ground.phase }, { on := 2, ground := Ground.phase }, { on := 3, ground := Ground.phase }, { on := 4, ground := Ground.phase }, { on := 5, ground := Ground.phase }, { on := 6, ground := Ground.phase }, { on := 7, ground := Ground.phase }, { on := 8, ground := Ground.phase }, { on := 9, ground := Ground.phase }, { on := 10, ground := Ground.phase }, { on := 11, ground := Ground.phase }], guard := none }) rfl (fun K hK => ?_) AllReadyH.nil
                go_simp
                refine hK.out _ _ ?_ (fun hS => ?_)
                · exact (World.cell?_of_block (Go.RowKit.Below.heap_setCell _ _ _ _ (by simp; omega))).trans hS
                clear hK K
                try simp only [Act.put, List.setIfInBounds_toArray, List.set_cons_zero, List.set_cons_succ]
                refine wpAnyH_done (by kernel_rfl) ?_ _
                refine ⟨((KeepsOthers.drew _).trans ((KeepsOthers.setCell _ _ _).trans (KeepsOthers.setCell _ _ _))).from _, kpC_drew.t ((kpC_setN _ _ _ (by simp) (by simp)).t (kpC_setN _ _ _ (by simp) (by simp))), ?_, ?_⟩
                · rw [HSN.out]; unfold wStep; rw [if_pos (show (r : Int) - f ≤ v from hv)]
                  have e1 : min lo at_ = lo := by omega
                  have e2 : max hi at_ = hi := by omega
                  show Box2 _ (b + 1) 25 (min lo at_) (max hi at_)
                  rw [e1, e2]
                  exact setCell_heap (setCell_heap H1.out _) _
                · exact ((HW.out.drew).setCell (by simp) _).setCell (by simp) _
              · go_simp
                refine hK.out _ _ ?_ (fun hS => ?_)
                · exact hS
                clear hK K
                try simp only [Act.put, List.setIfInBounds_toArray, List.set_cons_zero, List.set_cons_succ]
                refine wpAnyH_take (i := 9) (oi := { dst := some 43, op := Op.call { callee := Callee.builtin Builtin.max, args := #[Operand.tmp 40, Operand.tmp 42], argTypes := #[2, 2] }, type := 2, pos := "sweep.go:103", after := #[{ on := 6, ground := Ground.data }, { on := 8, ground := Ground.data }], guard := none }) (v := ?v11) rfl (by kernel_rfl) (by kernel_rfl) (by kernel_rfl) (fun _ _ _ h => h) (Or.inl ⟨by rfl, ?hy11⟩) hS ?rest11
                case hy11 => intro w' hSw; (try dsimp only at hSw); go_simp; (try with_reducible rfl)
                try simp only [Act.put, List.setIfInBounds_toArray, List.set_cons_zero, List.set_cons_succ]
                refine wpAnyH_ready (rs := [1]) (by kernel_rfl) (by simp) ?_
                refine AllReadyH.cons (o := { dst := some 35, op := Op.load 2 (Operand.tmp 34), type := 2, pos := "sweep.go:103", after := #[{ on := 0, ground := Ground.data }], guard := none }) rfl (fun K hK => ?_) AllReadyH.nil
                go_simp
                refine hK.out _ _ ?_ (fun hS => ?_)
                · exact hS
                clear hK K
                try simp only [Act.put, List.setIfInBounds_toArray, List.set_cons_zero, List.set_cons_succ]
                refine wpAnyH_take (i := 4) (oi := { dst := some 38, op := Op.call { callee := Callee.builtin Builtin.min, args := #[Operand.tmp 35, Operand.tmp 37], argTypes := #[2, 2] }, type := 2, pos := "sweep.go:103", after := #[{ on := 1, ground := Ground.data }, { on := 3, ground := Ground.data }], guard := none }) (v := ?v12) rfl (by kernel_rfl) (by kernel_rfl) (by kernel_rfl) (fun _ _ _ h => h) (Or.inl ⟨by rfl, ?hy12⟩) hS ?rest12
                case hy12 => intro w' hSw; (try dsimp only at hSw); go_simp; (try with_reducible rfl)
                try simp only [Act.put, List.setIfInBounds_toArray, List.set_cons_zero, List.set_cons_succ]
                refine wpAnyH_take (i := 10) (oi := { dst := some 44, op := Op.fieldAddr 25 (Operand.tmp 8) 0, type := 0, pos := "sweep.go:103", after := #[{ on := 0, ground := Ground.phase }, { on := 1, ground := Ground.phase }, { on := 2, ground := Ground.phase }, { on := 3, ground := Ground.phase }, { on := 4, ground := Ground.phase }, { on := 5, ground := Ground.phase }, { on := 6, ground := Ground.phase }, { on := 7, ground := Ground.textOnly Departure.lateStores }, { on := 8, ground := Ground.textOnly Departure.lateStores }, { on := 9, ground := Ground.textOnly Departure.lateStoresUnsure }], guard := none }) (v := ?v13) rfl (by kernel_rfl) (by kernel_rfl) (by kernel_rfl) (fun _ _ _ h => h) (Or.inl ⟨by rfl, ?hy13⟩) hS ?rest13
                case hy13 => intro w' hSw; (try dsimp only at hSw); go_simp; (try with_reducible rfl)
                try simp only [Act.put, List.setIfInBounds_toArray, List.set_cons_zero, List.set_cons_succ]
                refine wpAnyH_ready (rs := [11]) (by kernel_rfl) (by simp) ?_
                refine AllReadyH.cons (o := { dst := none, op := Op.store 2 (Operand.tmp 44) (Operand.tmp 38), type := 0, pos := "sweep.go:103", after := #[{ on := 10, ground := Ground.data }, { on := 4, ground := Ground.data }, { on := 0, ground := Ground.phase }, { on := 1, ground := Ground.phase }, { on := 2, ground := Ground.phase }, { on := 3, ground := Ground.phase }, { on := 4, ground := Ground.phase }, { on := 5, ground := Ground.phase }, { on := 6, ground := Ground.phase }, { on := 7, ground := Ground.textOnly Departure.lateStores }, { on := 8, ground := Ground.textOnly Departure.lateStores }, { on := 9, ground := Ground.textOnly Departure.lateStoresUnsure }], guard := none }) rfl (fun K hK => ?_) AllReadyH.nil
                go_simp
                refine hK.out _ _ ?_ (fun hS => ?_)
                · exact (World.cell?_of_block (Go.RowKit.Below.heap_setCell _ _ _ _ (by simp; omega))).trans hS
                clear hK K
                try simp only [Act.put, List.setIfInBounds_toArray, List.set_cons_zero, List.set_cons_succ]
                refine wpAnyH_take (i := 12) (oi := { dst := some 45, op := Op.fieldAddr 25 (Operand.tmp 8) 1, type := 0, pos := "sweep.go:103", after := #[{ on := 0, ground := Ground.phase }, { on := 1, ground := Ground.phase }, { on := 2, ground := Ground.phase }, { on := 3, ground := Ground.phase }, { on := 4, ground := Ground.phase }, { on := 5, ground := Ground.phase }, { on := 6, ground := Ground.phase }, { on := 7, ground := Ground.phase }, { on := 8, ground := Ground.phase }, { on := 9, ground := Ground.phase }, { on := 10, ground := Ground.phase }, { on := 11, ground := Ground.phase }], guard := none }) (v := ?v14) rfl (by kernel_rfl) (by kernel_rfl) (by kernel_rfl) (fun _ _ _ h => h) (Or.inl ⟨by rfl, ?hy14⟩) hS ?rest14
                case hy14 => intro w' hSw; (try dsimp only at hSw); go_simp; (try with_reducible rfl)
                try simp only [Act.put, List.setIfInBounds_toArray, List.set_cons_zero, List.set_cons_succ]
                refine wpAnyH_ready (rs := [13]) (by kernel_rfl) (by simp) ?_
                refine AllReadyH.cons (o := { dst := none, op := Op.store 2 (Operand.tmp 45) (Operand.tmp 43), type := 0, pos := "sweep.go:103", after := #[{ on := 12, ground := Ground.data }, { on := 9, ground := Ground.data }, { on := 11, ground := Ground.chain }, { on := 0, ground := Ground.phase }, { on := 1, ground := Ground.phase }, { on := 2, ground := Ground.phase }, { on := 3, ground := Ground.phase }, { on := 4, ground := Ground.phase }, { on := 5, ground := Ground.phase }, { on := 6, ground := Ground.phase }, { on := 7, ground := Ground.phase }, { on := 8, ground := Ground.phase }, { on := 9, ground := Ground.phase }, { on := 10, ground := Ground.phase }, { on := 11, ground := Ground.phase }], guard := none }) rfl (fun K hK => ?_) AllReadyH.nil
                go_simp
                refine hK.out _ _ ?_ (fun hS => ?_)
                · exact (World.cell?_of_block (Go.RowKit.Below.heap_setCell _ _ _ _ (by simp; omega))).trans hS
                clear hK K
                try simp only [Act.put, List.setIfInBounds_toArray, List.set_cons_zero, List.set_cons_succ]
                refine wpAnyH_done (by kernel_rfl) ?_ _
                refine ⟨((KeepsOthers.drew _).trans ((KeepsOthers.setCell _ _ _).trans (KeepsOthers.setCell _ _ _))).from _, kpC_drew.t ((kpC_setN _ _ _ (by simp) (by simp)).t (kpC_setN _ _ _ (by simp) (by simp))), ?_, ?_⟩
                · rw [HSN.out]; unfold wStep; rw [if_pos (show (r : Int) - f ≤ v from hv)]
                  have e1 : min lo at_ = lo := by omega
                  have e2 : max hi at_ = hi := by omega
                  show Box2 _ (b + 1) 25 (min lo at_) (max hi at_)
                  rw [e1, e2]
                  exact setCell_heap (setCell_heap H1.out _) _
                · exact ((HW.out.drew).setCell (by simp) _).setCell (by simp) _
            · gi_wp2
              refine wpIn_region_any (by kernel_rfl) (wpAnyIn_of_wpAny (by rintro ⟨a, w, h⟩; exact h) (noDefer_spec (by kernel_rfl)) _ _ _ _ ?_)
              refine wpAny_of_held (S := fun w' => w'.cell? ⟨Bx, 0, none⟩ = some (.int .i64 at_)) _ _ _ _ ?_
              have hS : (fun w' : World => w'.cell? ⟨Bx, 0, none⟩ = some (.int .i64 at_)) W.drew := x0
              change wpAnyH _ _ _ _ _ _ _ _ W.drew
              refine wpAnyH_take (i := 0) (oi := { dst := some 34, op := Op.fieldAddr 25 (Operand.tmp 8) 0, type := 0, pos := "sweep.go:103", after := #[], guard := none }) (v := ?v15) rfl (by kernel_rfl) (by kernel_rfl) (by kernel_rfl) (fun _ _ _ h => h) (Or.inl ⟨by rfl, ?hy15⟩) hS ?rest15
              case hy15 => intro w' hSw; (try dsimp only at hSw); go_simp; (try with_reducible rfl)
              try simp only [Act.put, List.setIfInBounds_toArray, List.set_cons_zero, List.set_cons_succ]
              refine wpAnyH_take (i := 2) (oi := { dst := some 36, op := Op.fieldAddr 56 (Operand.tmp 9) 0, type := 0, pos := "sweep.go:103", after := #[], guard := none }) (v := ?v16) rfl (by kernel_rfl) (by kernel_rfl) (by kernel_rfl) (fun _ _ _ h => h) (Or.inl ⟨by rfl, ?hy16⟩) hS ?rest16
              case hy16 => intro w' hSw; (try dsimp only at hSw); go_simp; (try with_reducible rfl)
              try simp only [Act.put, List.setIfInBounds_toArray, List.set_cons_zero, List.set_cons_succ]
              refine wpAnyH_take (i := 3) (oi := { dst := some 37, op := Op.load 2 (Operand.tmp 36), type := 2, pos := "sweep.go:103", after := #[{ on := 2, ground := Ground.data }], guard := none }) (v := ?v17) rfl (by kernel_rfl) (by kernel_rfl) (by kernel_rfl) (fun _ _ _ h => h) (Or.inl ⟨by rfl, ?hy17⟩) hS ?rest17
              case hy17 => intro w' hSw; (try dsimp only at hSw); go_simp; (try with_reducible rfl)
              try simp only [Act.put, List.setIfInBounds_toArray, List.set_cons_zero, List.set_cons_succ]
              refine wpAnyH_take (i := 5) (oi := { dst := some 39, op := Op.fieldAddr 25 (Operand.tmp 8) 1, type := 0, pos := "sweep.go:103", after := #[], guard := none }) (v := ?v18) rfl (by kernel_rfl) (by kernel_rfl) (by kernel_rfl) (fun _ _ _ h => h) (Or.inl ⟨by rfl, ?hy18⟩) hS ?rest18
              case hy18 => intro w' hSw; (try dsimp only at hSw); go_simp; (try with_reducible rfl)
              try simp only [Act.put, List.setIfInBounds_toArray, List.set_cons_zero, List.set_cons_succ]
              refine wpAnyH_take (i := 7) (oi := { dst := some 41, op := Op.fieldAddr 56 (Operand.tmp 9) 0, type := 0, pos := "sweep.go:103", after := #[], guard := none }) (v := ?v19) rfl (by kernel_rfl) (by kernel_rfl) (by kernel_rfl) (fun _ _ _ h => h) (Or.inl ⟨by rfl, ?hy19⟩) hS ?rest19
              case hy19 => intro w' hSw; (try dsimp only at hSw); go_simp; (try with_reducible rfl)
              try simp only [Act.put, List.setIfInBounds_toArray, List.set_cons_zero, List.set_cons_succ]
              refine wpAnyH_take (i := 8) (oi := { dst := some 42, op := Op.load 2 (Operand.tmp 41), type := 2, pos := "sweep.go:103", after := #[{ on := 7, ground := Ground.data }], guard := none }) (v := ?v20) rfl (by kernel_rfl) (by kernel_rfl) (by kernel_rfl) (fun _ _ _ h => h) (Or.inl ⟨by rfl, ?hy20⟩) hS ?rest20
              case hy20 => intro w' hSw; (try dsimp only at hSw); go_simp; (try with_reducible rfl)
              try simp only [Act.put, List.setIfInBounds_toArray, List.set_cons_zero, List.set_cons_succ]
              refine wpAnyH_ready (rs := [1, 6]) (by kernel_rfl) (by simp) ?_
              refine AllReadyH.cons (o := { dst := some 35, op := Op.load 2 (Operand.tmp 34), type := 2, pos := "sweep.go:103", after := #[{ on := 0, ground := Ground.data }], guard := none }) rfl (fun K hK => ?_) (AllReadyH.cons (o := { dst := some 40, op := Op.load 2 (Operand.tmp 39), type := 2, pos := "sweep.go:103", after := #[{ on := 5, ground := Ground.data }], guard := none }) rfl (fun K hK => ?_) AllReadyH.nil)
              · go_simp
                refine hK.out _ _ ?_ (fun hS => ?_)
                · exact hS
                clear hK K
                try simp only [Act.put, List.setIfInBounds_toArray, List.set_cons_zero, List.set_cons_succ]
                refine wpAnyH_take (i := 4) (oi := { dst := some 38, op := Op.call { callee := Callee.builtin Builtin.min, args := #[Operand.tmp 35, Operand.tmp 37], argTypes := #[2, 2] }, type := 2, pos := "sweep.go:103", after := #[{ on := 1, ground := Ground.data }, { on := 3, ground := Ground.data }], guard := none }) (v := ?v21) rfl (by kernel_rfl) (by kernel_rfl) (by kernel_rfl) (fun _ _ _ h => h) (Or.inl ⟨by rfl, ?hy21⟩) hS ?rest21
                case hy21 => intro w' hSw; (try dsimp only at hSw); go_simp; (try with_reducible rfl)
                try simp only [Act.put, List.setIfInBounds_toArray, List.set_cons_zero, List.set_cons_succ]
                refine wpAnyH_ready (rs := [6]) (by kernel_rfl) (by simp) ?_
                refine AllReadyH.cons (o := { dst := some 40, op := Op.load 2 (Operand.tmp 39), type := 2, pos := "sweep.go:103", after := #[{ on := 5, ground := Ground.data }], guard := none }) rfl (fun K hK => ?_) AllReadyH.nil
                go_simp
                refine hK.out _ _ ?_ (fun hS => ?_)
                · exact hS
                clear hK K
                try simp only [Act.put, List.setIfInBounds_toArray, List.set_cons_zero, List.set_cons_succ]
                refine wpAnyH_take (i := 9) (oi := { dst := some 43, op := Op.call { callee := Callee.builtin Builtin.max, args := #[Operand.tmp 40, Operand.tmp 42], argTypes := #[2, 2] }, type := 2, pos := "sweep.go:103", after := #[{ on := 6, ground := Ground.data }, { on := 8, ground := Ground.data }], guard := none }) (v := ?v22) rfl (by kernel_rfl) (by kernel_rfl) (by kernel_rfl) (fun _ _ _ h => h) (Or.inl ⟨by rfl, ?hy22⟩) hS ?rest22
                case hy22 => intro w' hSw; (try dsimp only at hSw); go_simp; (try with_reducible rfl)
                try simp only [Act.put, List.setIfInBounds_toArray, List.set_cons_zero, List.set_cons_succ]
                refine wpAnyH_take (i := 10) (oi := { dst := some 44, op := Op.fieldAddr 25 (Operand.tmp 8) 0, type := 0, pos := "sweep.go:103", after := #[{ on := 0, ground := Ground.phase }, { on := 1, ground := Ground.phase }, { on := 2, ground := Ground.phase }, { on := 3, ground := Ground.phase }, { on := 4, ground := Ground.phase }, { on := 5, ground := Ground.phase }, { on := 6, ground := Ground.phase }, { on := 7, ground := Ground.textOnly Departure.lateStores }, { on := 8, ground := Ground.textOnly Departure.lateStores }, { on := 9, ground := Ground.textOnly Departure.lateStoresUnsure }], guard := none }) (v := ?v23) rfl (by kernel_rfl) (by kernel_rfl) (by kernel_rfl) (fun _ _ _ h => h) (Or.inl ⟨by rfl, ?hy23⟩) hS ?rest23
                case hy23 => intro w' hSw; (try dsimp only at hSw); go_simp; (try with_reducible rfl)
                try simp only [Act.put, List.setIfInBounds_toArray, List.set_cons_zero, List.set_cons_succ]
                refine wpAnyH_ready (rs := [11]) (by kernel_rfl) (by simp) ?_
                refine AllReadyH.cons (o := { dst := none, op := Op.store 2 (Operand.tmp 44) (Operand.tmp 38), type := 0, pos := "sweep.go:103", after := #[{ on := 10, ground := Ground.data }, { on := 4, ground := Ground.data }, { on := 0, ground := Ground.phase }, { on := 1, ground := Ground.phase }, { on := 2, ground := Ground.phase }, { on := 3, ground := Ground.phase }, { on := 4, ground := Ground.phase }, { on := 5, ground := Ground.phase }, { on := 6, ground := Ground.phase }, { on := 7, ground := Ground.textOnly Departure.lateStores }, { on := 8, ground := Ground.textOnly Departure.lateStores }, { on := 9, ground := Ground.textOnly Departure.lateStoresUnsure }], guard := none }) rfl (fun K hK => ?_) AllReadyH.nil
                go_simp
                refine hK.out _ _ ?_ (fun hS => ?_)
                · exact (World.cell?_of_block (Go.RowKit.Below.heap_setCell _ _ _ _ (by simp; omega))).trans hS
                clear hK K
                try simp only [Act.put, List.setIfInBounds_toArray, List.set_cons_zero, List.set_cons_succ]
                refine wpAnyH_take (i := 12) (oi := { dst := some 45, op := Op.fieldAddr 25 (Operand.tmp 8) 1, type := 0, pos := "sweep.go:103", after := #[{ on := 0, ground := Ground.phase }, { on := 1, ground := Ground.phase }, { on := 2, ground := Ground.phase }, { on := 3, ground := Ground.phase }, { on := 4, ground := Ground.phase }, { on := 5, ground := Ground.phase }, { on := 6, ground := Ground.phase }, { on := 7, ground := Ground.phase }, { on := 8, ground := Ground.phase }, { on := 9, ground := Ground.phase }, { on := 10, ground := Ground.phase }, { on := 11, ground := Ground.phase }], guard := none }) (v := ?v24) rfl (by kernel_rfl) (by kernel_rfl) (by kernel_rfl) (fun _ _ _ h => h) (Or.inl ⟨by rfl, ?hy24⟩) hS ?rest24
                case hy24 => intro w' hSw; (try dsimp only at hSw); go_simp; (try with_reducible rfl)
                try simp only [Act.put, List.setIfInBounds_toArray, List.set_cons_zero, List.set_cons_succ]
                refine wpAnyH_ready (rs := [13]) (by kernel_rfl) (by simp) ?_
                refine AllReadyH.cons (o := { dst := none, op := Op.store 2 (Operand.tmp 45) (Operand.tmp 43), type := 0, pos := "sweep.go:103", after := #[{ on := 12, ground := Ground.data }, { on := 9, ground := Ground.data }, { on := 11, ground := Ground.chain }, { on := 0, ground := Ground.phase }, { on := 1, ground := Ground.phase }, { on := 2, ground := Ground.phase }, { on := 3, ground := Ground.phase }, { on := 4, ground := Ground.phase }, { on := 5, ground := Ground.phase }, { on := 6, ground := Ground.phase }, { on := 7, ground := Ground.phase }, { on := 8, ground := Ground.phase }, { on := 9, ground := Ground.phase }, { on := 10, ground := Ground.phase }, { on := 11, ground := Ground.phase }], guard := none }) rfl (fun K hK => ?_) AllReadyH.nil
                go_simp
                refine hK.out _ _ ?_ (fun hS => ?_)
                · exact (World.cell?_of_block (Go.RowKit.Below.heap_setCell _ _ _ _ (by simp; omega))).trans hS
                clear hK K
                try simp only [Act.put, List.setIfInBounds_toArray, List.set_cons_zero, List.set_cons_succ]
                refine wpAnyH_done (by kernel_rfl) ?_ _
                refine ⟨((KeepsOthers.drew _).trans ((KeepsOthers.setCell _ _ _).trans (KeepsOthers.setCell _ _ _))).from _, kpC_drew.t ((kpC_setN _ _ _ (by simp) (by simp)).t (kpC_setN _ _ _ (by simp) (by simp))), ?_, ?_⟩
                · rw [HSN.out]; unfold wStep; rw [if_pos (show (r : Int) - f ≤ v from hv)]
                  have e1 : min lo at_ = lo := by omega
                  have e2 : max hi at_ = at_ := by omega
                  show Box2 _ (b + 1) 25 (min lo at_) (max hi at_)
                  rw [e1, e2]
                  exact setCell_heap (setCell_heap H1.out _) _
                · exact ((HW.out.drew).setCell (by simp) _).setCell (by simp) _
              · go_simp
                refine hK.out _ _ ?_ (fun hS => ?_)
                · exact hS
                clear hK K
                try simp only [Act.put, List.setIfInBounds_toArray, List.set_cons_zero, List.set_cons_succ]
                refine wpAnyH_take (i := 9) (oi := { dst := some 43, op := Op.call { callee := Callee.builtin Builtin.max, args := #[Operand.tmp 40, Operand.tmp 42], argTypes := #[2, 2] }, type := 2, pos := "sweep.go:103", after := #[{ on := 6, ground := Ground.data }, { on := 8, ground := Ground.data }], guard := none }) (v := ?v25) rfl (by kernel_rfl) (by kernel_rfl) (by kernel_rfl) (fun _ _ _ h => h) (Or.inl ⟨by rfl, ?hy25⟩) hS ?rest25
                case hy25 => intro w' hSw; (try dsimp only at hSw); go_simp; (try with_reducible rfl)
                try simp only [Act.put, List.setIfInBounds_toArray, List.set_cons_zero, List.set_cons_succ]
                refine wpAnyH_ready (rs := [1]) (by kernel_rfl) (by simp) ?_
                refine AllReadyH.cons (o := { dst := some 35, op := Op.load 2 (Operand.tmp 34), type := 2, pos := "sweep.go:103", after := #[{ on := 0, ground := Ground.data }], guard := none }) rfl (fun K hK => ?_) AllReadyH.nil
                go_simp
                refine hK.out _ _ ?_ (fun hS => ?_)
                · exact hS
                clear hK K
                try simp only [Act.put, List.setIfInBounds_toArray, List.set_cons_zero, List.set_cons_succ]
                refine wpAnyH_take (i := 4) (oi := { dst := some 38, op := Op.call { callee := Callee.builtin Builtin.min, args := #[Operand.tmp 35, Operand.tmp 37], argTypes := #[2, 2] }, type := 2, pos := "sweep.go:103", after := #[{ on := 1, ground := Ground.data }, { on := 3, ground := Ground.data }], guard := none }) (v := ?v26) rfl (by kernel_rfl) (by kernel_rfl) (by kernel_rfl) (fun _ _ _ h => h) (Or.inl ⟨by rfl, ?hy26⟩) hS ?rest26
                case hy26 => intro w' hSw; (try dsimp only at hSw); go_simp; (try with_reducible rfl)
                try simp only [Act.put, List.setIfInBounds_toArray, List.set_cons_zero, List.set_cons_succ]
                refine wpAnyH_take (i := 10) (oi := { dst := some 44, op := Op.fieldAddr 25 (Operand.tmp 8) 0, type := 0, pos := "sweep.go:103", after := #[{ on := 0, ground := Ground.phase }, { on := 1, ground := Ground.phase }, { on := 2, ground := Ground.phase }, { on := 3, ground := Ground.phase }, { on := 4, ground := Ground.phase }, { on := 5, ground := Ground.phase }, { on := 6, ground := Ground.phase }, { on := 7, ground := Ground.textOnly Departure.lateStores }, { on := 8, ground := Ground.textOnly Departure.lateStores }, { on := 9, ground := Ground.textOnly Departure.lateStoresUnsure }], guard := none }) (v := ?v27) rfl (by kernel_rfl) (by kernel_rfl) (by kernel_rfl) (fun _ _ _ h => h) (Or.inl ⟨by rfl, ?hy27⟩) hS ?rest27
                case hy27 => intro w' hSw; (try dsimp only at hSw); go_simp; (try with_reducible rfl)
                try simp only [Act.put, List.setIfInBounds_toArray, List.set_cons_zero, List.set_cons_succ]
                refine wpAnyH_ready (rs := [11]) (by kernel_rfl) (by simp) ?_
                refine AllReadyH.cons (o := { dst := none, op := Op.store 2 (Operand.tmp 44) (Operand.tmp 38), type := 0, pos := "sweep.go:103", after := #[{ on := 10, ground := Ground.data }, { on := 4, ground := Ground.data }, { on := 0, ground := Ground.phase }, { on := 1, ground := Ground.phase }, { on := 2, ground := Ground.phase }, { on := 3, ground := Ground.phase }, { on := 4, ground := Ground.phase }, { on := 5, ground := Ground.phase }, { on := 6, ground := Ground.phase }, { on := 7, ground := Ground.textOnly Departure.lateStores }, { on := 8, ground := Ground.textOnly Departure.lateStores }, { on := 9, ground := Ground.textOnly Departure.lateStoresUnsure }], guard := none }) rfl (fun K hK => ?_) AllReadyH.nil
                go_simp
                refine hK.out _ _ ?_ (fun hS => ?_)
                · exact (World.cell?_of_block (Go.RowKit.Below.heap_setCell _ _ _ _ (by simp; omega))).trans hS
                clear hK K
                try simp only [Act.put, List.setIfInBounds_toArray, List.set_cons_zero, List.set_cons_succ]
                refine wpAnyH_take (i := 12) (oi := { dst := some 45, op := Op.fieldAddr 25 (Operand.tmp 8) 1, type := 0, pos := "sweep.go:103", after := #[{ on := 0, ground := Ground.phase }, { on := 1, ground := Ground.phase }, { on := 2, ground := Ground.phase }, { on := 3, ground := Ground.phase }, { on := 4, ground := Ground.phase }, { on := 5, ground := Ground.phase }, { on := 6, ground := Ground.phase }, { on := 7, ground := Ground.phase }, { on := 8, ground := Ground.phase }, { on := 9, ground := Ground.phase }, { on := 10, ground := Ground.phase }, { on := 11, ground := Ground.phase }], guard := none }) (v := ?v28) rfl (by kernel_rfl) (by kernel_rfl) (by kernel_rfl) (fun _ _ _ h => h) (Or.inl ⟨by rfl, ?hy28⟩) hS ?rest28
                case hy28 => intro w' hSw; (try dsimp only at hSw); go_simp; (try with_reducible rfl)
                try simp only [Act.put, List.setIfInBounds_toArray, List.set_cons_zero, List.set_cons_succ]
                refine wpAnyH_ready (rs := [13]) (by kernel_rfl) (by simp) ?_
                refine AllReadyH.cons (o := { dst := none, op := Op.store 2 (Operand.tmp 45) (Operand.tmp 43), type := 0, pos := "sweep.go:103", after := #[{ on := 12, ground := Ground.data }, { on := 9, ground := Ground.data }, { on := 11, ground := Ground.chain }, { on := 0, ground := Ground.phase }, { on := 1, ground := Ground.phase }, { on := 2, ground := Ground.phase }, { on := 3, ground := Ground.phase }, { on := 4, ground := Ground.phase }, { on := 5, ground := Ground.phase }, { on := 6, ground := Ground.phase }, { on := 7, ground := Ground.phase }, { on := 8, ground := Ground.phase }, { on := 9, ground := Ground.phase }, { on := 10, ground := Ground.phase }, { on := 11, ground := Ground.phase }], guard := none }) rfl (fun K hK => ?_) AllReadyH.nil
                go_simp
                refine hK.out _ _ ?_ (fun hS => ?_)
                · exact (World.cell?_of_block (Go.RowKit.Below.heap_setCell _ _ _ _ (by simp; omega))).trans hS
                clear hK K
                try simp only [Act.put, List.setIfInBounds_toArray, List.set_cons_zero, List.set_cons_succ]
                refine wpAnyH_done (by kernel_rfl) ?_ _
                refine ⟨((KeepsOthers.drew _).trans ((KeepsOthers.setCell _ _ _).trans (KeepsOthers.setCell _ _ _))).from _, kpC_drew.t ((kpC_setN _ _ _ (by simp) (by simp)).t (kpC_setN _ _ _ (by simp) (by simp))), ?_, ?_⟩
                · rw [HSN.out]; unfold wStep; rw [if_pos (show (r : Int) - f ≤ v from hv)]
                  have e1 : min lo at_ = lo := by omega
                  have e2 : max hi at_ = at_ := by omega
                  show Box2 _ (b + 1) 25 (min lo at_) (max hi at_)
                  rw [e1, e2]
                  exact setCell_heap (setCell_heap H1.out _) _
                · exact ((HW.out.drew).setCell (by simp) _).setCell (by simp) _
          · by_cases hx2 : at_ ≤ hi
            · gi_wp2
              refine wpIn_region_any (by kernel_rfl) (wpAnyIn_of_wpAny (by rintro ⟨a, w, h⟩; exact h) (noDefer_spec (by kernel_rfl)) _ _ _ _ ?_)
              refine wpAny_of_held (S := fun w' => w'.cell? ⟨Bx, 0, none⟩ = some (.int .i64 at_)) _ _ _ _ ?_
              have hS : (fun w' : World => w'.cell? ⟨Bx, 0, none⟩ = some (.int .i64 at_)) W.drew := x0
              change wpAnyH _ _ _ _ _ _ _ _ W.drew
              refine wpAnyH_take (i := 0) (oi := { dst := some 34, op := Op.fieldAddr 25 (Operand.tmp 8) 0, type := 0, pos := "sweep.go:103", after := #[], guard := none }) (v := ?v29) rfl (by kernel_rfl) (by kernel_rfl) (by kernel_rfl) (fun _ _ _ h => h) (Or.inl ⟨by rfl, ?hy29⟩) hS ?rest29
              case hy29 => intro w' hSw; (try dsimp only at hSw); go_simp; (try with_reducible rfl)
              try simp only [Act.put, List.setIfInBounds_toArray, List.set_cons_zero, List.set_cons_succ]
              refine wpAnyH_take (i := 2) (oi := { dst := some 36, op := Op.fieldAddr 56 (Operand.tmp 9) 0, type := 0, pos := "sweep.go:103", after := #[], guard := none }) (v := ?v30) rfl (by kernel_rfl) (by kernel_rfl) (by kernel_rfl) (fun _ _ _ h => h) (Or.inl ⟨by rfl, ?hy30⟩) hS ?rest30
              case hy30 => intro w' hSw; (try dsimp only at hSw); go_simp; (try with_reducible rfl)
              try simp only [Act.put, List.setIfInBounds_toArray, List.set_cons_zero, List.set_cons_succ]
              refine wpAnyH_take (i := 3) (oi := { dst := some 37, op := Op.load 2 (Operand.tmp 36), type := 2, pos := "sweep.go:103", after := #[{ on := 2, ground := Ground.data }], guard := none }) (v := ?v31) rfl (by kernel_rfl) (by kernel_rfl) (by kernel_rfl) (fun _ _ _ h => h) (Or.inl ⟨by rfl, ?hy31⟩) hS ?rest31
              case hy31 => intro w' hSw; (try dsimp only at hSw); go_simp; (try with_reducible rfl)
              try simp only [Act.put, List.setIfInBounds_toArray, List.set_cons_zero, List.set_cons_succ]
              refine wpAnyH_take (i := 5) (oi := { dst := some 39, op := Op.fieldAddr 25 (Operand.tmp 8) 1, type := 0, pos := "sweep.go:103", after := #[], guard := none }) (v := ?v32) rfl (by kernel_rfl) (by kernel_rfl) (by kernel_rfl) (fun _ _ _ h => h) (Or.inl ⟨by rfl, ?hy32⟩) hS ?rest32
              case hy32 => intro w' hSw; (try dsimp only at hSw); go_simp; (try with_reducible rfl)
              try simp only [Act.put, List.setIfInBounds_toArray, List.set_cons_zero, List.set_cons_succ]
              refine wpAnyH_take (i := 7) (oi := { dst := some 41, op := Op.fieldAddr 56 (Operand.tmp 9) 0, type := 0, pos := "sweep.go:103", after := #[], guard := none }) (v := ?v33) rfl (by kernel_rfl) (by kernel_rfl) (by kernel_rfl) (fun _ _ _ h => h) (Or.inl ⟨by rfl, ?hy33⟩) hS ?rest33
              case hy33 => intro w' hSw; (try dsimp only at hSw); go_simp; (try with_reducible rfl)
              try simp only [Act.put, List.setIfInBounds_toArray, List.set_cons_zero, List.set_cons_succ]
              refine wpAnyH_take (i := 8) (oi := { dst := some 42, op := Op.load 2 (Operand.tmp 41), type := 2, pos := "sweep.go:103", after := #[{ on := 7, ground := Ground.data }], guard := none }) (v := ?v34) rfl (by kernel_rfl) (by kernel_rfl) (by kernel_rfl) (fun _ _ _ h => h) (Or.inl ⟨by rfl, ?hy34⟩) hS ?rest34
              case hy34 => intro w' hSw; (try dsimp only at hSw); go_simp; (try with_reducible rfl)
              try simp only [Act.put, List.setIfInBounds_toArray, List.set_cons_zero, List.set_cons_succ]
              refine wpAnyH_ready (rs := [1, 6]) (by kernel_rfl) (by simp) ?_
              refine AllReadyH.cons (o := { dst := some 35, op := Op.load 2 (Operand.tmp 34), type := 2, pos := "sweep.go:103", after := #[{ on := 0, ground := Ground.data }], guard := none }) rfl (fun K hK => ?_) (AllReadyH.cons (o := { dst := some 40, op := Op.load 2 (Operand.tmp 39), type := 2, pos := "sweep.go:103", after := #[{ on := 5, ground := Ground.data }], guard := none }) rfl (fun K hK => ?_) AllReadyH.nil)
              · go_simp
                refine hK.out _ _ ?_ (fun hS => ?_)
                · exact hS
                clear hK K
                try simp only [Act.put, List.setIfInBounds_toArray, List.set_cons_zero, List.set_cons_succ]
                refine wpAnyH_take (i := 4) (oi := { dst := some 38, op := Op.call { callee := Callee.builtin Builtin.min, args := #[Operand.tmp 35, Operand.tmp 37], argTypes := #[2, 2] }, type := 2, pos := "sweep.go:103", after := #[{ on := 1, ground := Ground.data }, { on := 3, ground := Ground.data }], guard := none }) (v := ?v35) rfl (by kernel_rfl) (by kernel_rfl) (by kernel_rfl) (fun _ _ _ h => h) (Or.inl ⟨by rfl, ?hy35⟩) hS ?rest35
                case hy35 => intro w' hSw; (try dsimp only at hSw); go_simp; (try with_reducible rfl)
                try simp only [Act.put, List.setIfInBounds_toArray, List.set_cons_zero, List.set_cons_succ]
                refine wpAnyH_ready (rs := [6]) (by kernel_rfl) (by simp) ?_
                refine AllReadyH.cons (o := { dst := some 40, op := Op.load 2 (Operand.tmp 39), type := 2, pos := "sweep.go:103", after := #[{ on := 5, ground := Ground.data }], guard := none }) rfl (fun K hK => ?_) AllReadyH.nil
                go_simp
                refine hK.out _ _ ?_ (fun hS => ?_)
                · exact hS
                clear hK K
                try simp only [Act.put, List.setIfInBounds_toArray, List.set_cons_zero, List.set_cons_succ]
                refine wpAnyH_take (i := 9) (oi := { dst := some 43, op := Op.call { callee := Callee.builtin Builtin.max, args := #[Operand.tmp 40, Operand.tmp 42], argTypes := #[2, 2] }, type := 2, pos := "sweep.go:103", after := #[{ on := 6, ground := Ground.data }, { on := 8, ground := Ground.data }], guard := none }) (v := ?v36) rfl (by kernel_rfl) (by kernel_rfl) (by kernel_rfl) (fun _ _ _ h => h) (Or.inl ⟨by rfl, ?hy36⟩) hS ?rest36
                case hy36 => intro w' hSw; (try dsimp only at hSw); go_simp; (try with_reducible rfl)
                try simp only [Act.put, List.setIfInBounds_toArray, List.set_cons_zero, List.set_cons_succ]
                refine wpAnyH_take (i := 10) (oi := { dst := some 44, op := Op.fieldAddr 25 (Operand.tmp 8) 0, type := 0, pos := "sweep.go:103", after := #[{ on := 0, ground := Ground.phase }, { on := 1, ground := Ground.phase }, { on := 2, ground := Ground.phase }, { on := 3, ground := Ground.phase }, { on := 4, ground := Ground.phase }, { on := 5, ground := Ground.phase }, { on := 6, ground := Ground.phase }, { on := 7, ground := Ground.textOnly Departure.lateStores }, { on := 8, ground := Ground.textOnly Departure.lateStores }, { on := 9, ground := Ground.textOnly Departure.lateStoresUnsure }], guard := none }) (v := ?v37) rfl (by kernel_rfl) (by kernel_rfl) (by kernel_rfl) (fun _ _ _ h => h) (Or.inl ⟨by rfl, ?hy37⟩) hS ?rest37
                case hy37 => intro w' hSw; (try dsimp only at hSw); go_simp; (try with_reducible rfl)
                try simp only [Act.put, List.setIfInBounds_toArray, List.set_cons_zero, List.set_cons_succ]
                refine wpAnyH_ready (rs := [11]) (by kernel_rfl) (by simp) ?_
                refine AllReadyH.cons (o := { dst := none, op := Op.store 2 (Operand.tmp 44) (Operand.tmp 38), type := 0, pos := "sweep.go:103", after := #[{ on := 10, ground := Ground.data }, { on := 4, ground := Ground.data }, { on := 0, ground := Ground.phase }, { on := 1, ground := Ground.phase }, { on := 2, ground := Ground.phase }, { on := 3, ground := Ground.phase }, { on := 4, ground := Ground.phase }, { on := 5, ground := Ground.phase }, { on := 6, ground := Ground.phase }, { on := 7, ground := Ground.textOnly Departure.lateStores }, { on := 8, ground := Ground.textOnly Departure.lateStores }, { on := 9, ground := Ground.textOnly Departure.lateStoresUnsure }], guard := none }) rfl (fun K hK => ?_) AllReadyH.nil
                go_simp
                refine hK.out _ _ ?_ (fun hS => ?_)
                · exact (World.cell?_of_block (Go.RowKit.Below.heap_setCell _ _ _ _ (by simp; omega))).trans hS
                clear hK K
                try simp only [Act.put, List.setIfInBounds_toArray, List.set_cons_zero, List.set_cons_succ]
                refine wpAnyH_take (i := 12) (oi := { dst := some 45, op := Op.fieldAddr 25 (Operand.tmp 8) 1, type := 0, pos := "sweep.go:103", after := #[{ on := 0, ground := Ground.phase }, { on := 1, ground := Ground.phase }, { on := 2, ground := Ground.phase }, { on := 3, ground := Ground.phase }, { on := 4, ground := Ground.phase }, { on := 5, ground := Ground.phase }, { on := 6, ground := Ground.phase }, { on := 7, ground := Ground.phase }, { on := 8, ground := Ground.phase }, { on := 9, ground := Ground.phase }, { on := 10, ground := Ground.phase }, { on := 11, ground := Ground.phase }], guard := none }) (v := ?v38) rfl (by kernel_rfl) (by kernel_rfl) (by kernel_rfl) (fun _ _ _ h => h) (Or.inl ⟨by rfl, ?hy38⟩) hS ?rest38
                case hy38 => intro w' hSw; (try dsimp only at hSw); go_simp; (try with_reducible rfl)
                try simp only [Act.put, List.setIfInBounds_toArray, List.set_cons_zero, List.set_cons_succ]
                refine wpAnyH_ready (rs := [13]) (by kernel_rfl) (by simp) ?_
                refine AllReadyH.cons (o := { dst := none, op := Op.store 2 (Operand.tmp 45) (Operand.tmp 43), type := 0, pos := "sweep.go:103", after := #[{ on := 12, ground := Ground.data }, { on := 9, ground := Ground.data }, { on := 11, ground := Ground.chain }, { on := 0, ground := Ground.phase }, { on := 1, ground := Ground.phase }, { on := 2, ground := Ground.phase }, { on := 3, ground := Ground.phase }, { on := 4, ground := Ground.phase }, { on := 5, ground := Ground.phase }, { on := 6, ground := Ground.phase }, { on := 7, ground := Ground.phase }, { on := 8, ground := Ground.phase }, { on := 9, ground := Ground.phase }, { on := 10, ground := Ground.phase }, { on := 11, ground := Ground.phase }], guard := none }) rfl (fun K hK => ?_) AllReadyH.nil
                go_simp
                refine hK.out _ _ ?_ (fun hS => ?_)
                · exact (World.cell?_of_block (Go.RowKit.Below.heap_setCell _ _ _ _ (by simp; omega))).trans hS
                clear hK K
                try simp only [Act.put, List.setIfInBounds_toArray, List.set_cons_zero, List.set_cons_succ]
                refine wpAnyH_done (by kernel_rfl) ?_ _
                refine ⟨((KeepsOthers.drew _).trans ((KeepsOthers.setCell _ _ _).trans (KeepsOthers.setCell _ _ _))).from _, kpC_drew.t ((kpC_setN _ _ _ (by simp) (by simp)).t (kpC_setN _ _ _ (by simp) (by simp))), ?_, ?_⟩
                · rw [HSN.out]; unfold wStep; rw [if_pos (show (r : Int) - f ≤ v from hv)]
                  have e1 : min lo at_ = at_ := by omega
                  have e2 : max hi at_ = hi := by omega
                  show Box2 _ (b + 1) 25 (min lo at_) (max hi at_)
                  rw [e1, e2]
                  exact setCell_heap (setCell_heap H1.out _) _
                · exact ((HW.out.drew).setCell (by simp) _).setCell (by simp) _
              · go_simp
                refine hK.out _ _ ?_ (fun hS => ?_)
                · exact hS
                clear hK K
                try simp only [Act.put, List.setIfInBounds_toArray, List.set_cons_zero, List.set_cons_succ]
                refine wpAnyH_take (i := 9) (oi := { dst := some 43, op := Op.call { callee := Callee.builtin Builtin.max, args := #[Operand.tmp 40, Operand.tmp 42], argTypes := #[2, 2] }, type := 2, pos := "sweep.go:103", after := #[{ on := 6, ground := Ground.data }, { on := 8, ground := Ground.data }], guard := none }) (v := ?v39) rfl (by kernel_rfl) (by kernel_rfl) (by kernel_rfl) (fun _ _ _ h => h) (Or.inl ⟨by rfl, ?hy39⟩) hS ?rest39
                case hy39 => intro w' hSw; (try dsimp only at hSw); go_simp; (try with_reducible rfl)
                try simp only [Act.put, List.setIfInBounds_toArray, List.set_cons_zero, List.set_cons_succ]
                refine wpAnyH_ready (rs := [1]) (by kernel_rfl) (by simp) ?_
                refine AllReadyH.cons (o := { dst := some 35, op := Op.load 2 (Operand.tmp 34), type := 2, pos := "sweep.go:103", after := #[{ on := 0, ground := Ground.data }], guard := none }) rfl (fun K hK => ?_) AllReadyH.nil
                go_simp
                refine hK.out _ _ ?_ (fun hS => ?_)
                · exact hS
                clear hK K
                try simp only [Act.put, List.setIfInBounds_toArray, List.set_cons_zero, List.set_cons_succ]
                refine wpAnyH_take (i := 4) (oi := { dst := some 38, op := Op.call { callee := Callee.builtin Builtin.min, args := #[Operand.tmp 35, Operand.tmp 37], argTypes := #[2, 2] }, type := 2, pos := "sweep.go:103", after := #[{ on := 1, ground := Ground.data }, { on := 3, ground := Ground.data }], guard := none }) (v := ?v40) rfl (by kernel_rfl) (by kernel_rfl) (by kernel_rfl) (fun _ _ _ h => h) (Or.inl ⟨by rfl, ?hy40⟩) hS ?rest40
                case hy40 => intro w' hSw; (try dsimp only at hSw); go_simp; (try with_reducible rfl)
                try simp only [Act.put, List.setIfInBounds_toArray, List.set_cons_zero, List.set_cons_succ]
                refine wpAnyH_take (i := 10) (oi := { dst := some 44, op := Op.fieldAddr 25 (Operand.tmp 8) 0, type := 0, pos := "sweep.go:103", after := #[{ on := 0, ground := Ground.phase }, { on := 1, ground := Ground.phase }, { on := 2, ground := Ground.phase }, { on := 3, ground := Ground.phase }, { on := 4, ground := Ground.phase }, { on := 5, ground := Ground.phase }, { on := 6, ground := Ground.phase }, { on := 7, ground := Ground.textOnly Departure.lateStores }, { on := 8, ground := Ground.textOnly Departure.lateStores }, { on := 9, ground := Ground.textOnly Departure.lateStoresUnsure }], guard := none }) (v := ?v41) rfl (by kernel_rfl) (by kernel_rfl) (by kernel_rfl) (fun _ _ _ h => h) (Or.inl ⟨by rfl, ?hy41⟩) hS ?rest41
                case hy41 => intro w' hSw; (try dsimp only at hSw); go_simp; (try with_reducible rfl)
                try simp only [Act.put, List.setIfInBounds_toArray, List.set_cons_zero, List.set_cons_succ]
                refine wpAnyH_ready (rs := [11]) (by kernel_rfl) (by simp) ?_
                refine AllReadyH.cons (o := { dst := none, op := Op.store 2 (Operand.tmp 44) (Operand.tmp 38), type := 0, pos := "sweep.go:103", after := #[{ on := 10, ground := Ground.data }, { on := 4, ground := Ground.data }, { on := 0, ground := Ground.phase }, { on := 1, ground := Ground.phase }, { on := 2, ground := Ground.phase }, { on := 3, ground := Ground.phase }, { on := 4, ground := Ground.phase }, { on := 5, ground := Ground.phase }, { on := 6, ground := Ground.phase }, { on := 7, ground := Ground.textOnly Departure.lateStores }, { on := 8, ground := Ground.textOnly Departure.lateStores }, { on := 9, ground := Ground.textOnly Departure.lateStoresUnsure }], guard := none }) rfl (fun K hK => ?_) AllReadyH.nil
                go_simp
                refine hK.out _ _ ?_ (fun hS => ?_)
                · exact (World.cell?_of_block (Go.RowKit.Below.heap_setCell _ _ _ _ (by simp; omega))).trans hS
                clear hK K
                try simp only [Act.put, List.setIfInBounds_toArray, List.set_cons_zero, List.set_cons_succ]
                refine wpAnyH_take (i := 12) (oi := { dst := some 45, op := Op.fieldAddr 25 (Operand.tmp 8) 1, type := 0, pos := "sweep.go:103", after := #[{ on := 0, ground := Ground.phase }, { on := 1, ground := Ground.phase }, { on := 2, ground := Ground.phase }, { on := 3, ground := Ground.phase }, { on := 4, ground := Ground.phase }, { on := 5, ground := Ground.phase }, { on := 6, ground := Ground.phase }, { on := 7, ground := Ground.phase }, { on := 8, ground := Ground.phase }, { on := 9, ground := Ground.phase }, { on := 10, ground := Ground.phase }, { on := 11, ground := Ground.phase }], guard := none }) (v := ?v42) rfl (by kernel_rfl) (by kernel_rfl) (by kernel_rfl) (fun _ _ _ h => h) (Or.inl ⟨by rfl, ?hy42⟩) hS ?rest42
                case hy42 => intro w' hSw; (try dsimp only at hSw); go_simp; (try with_reducible rfl)
                try simp only [Act.put, List.setIfInBounds_toArray, List.set_cons_zero, List.set_cons_succ]
                refine wpAnyH_ready (rs := [13]) (by kernel_rfl) (by simp) ?_
                refine AllReadyH.cons (o := { dst := none, op := Op.store 2 (Operand.tmp 45) (Operand.tmp 43), type := 0, pos := "sweep.go:103", after := #[{ on := 12, ground := Ground.data }, { on := 9, ground := Ground.data }, { on := 11, ground := Ground.chain }, { on := 0, ground := Ground.phase }, { on := 1, ground := Ground.phase }, { on := 2, ground := Ground.phase }, { on := 3, ground := Ground.phase }, { on := 4, ground := Ground.phase }, { on := 5, ground := Ground.phase }, { on := 6, ground := Ground.phase }, { on := 7, ground := Ground.phase }, { on := 8, ground := Ground.phase }, { on := 9, ground := Ground.phase }, { on := 10, ground := Ground.phase }, { on := 11, ground := Ground.phase }], guard := none }) rfl (fun K hK => ?_) AllReadyH.nil
                go_simp
                refine hK.out _ _ ?_ (fun hS => ?_)
                · exact (World.cell?_of_block (Go.RowKit.Below.heap_setCell _ _ _ _ (by simp; omega))).trans hS
                clear hK K
                try simp only [Act.put, List.setIfInBounds_toArray, List.set_cons_zero, List.set_cons_succ]
                refine wpAnyH_done (by kernel_rfl) ?_ _
                refine ⟨((KeepsOthers.drew _).trans ((KeepsOthers.setCell _ _ _).trans (KeepsOthers.setCell _ _ _))).from _, kpC_drew.t ((kpC_setN _ _ _ (by simp) (by simp)).t (kpC_setN _ _ _ (by simp) (by simp))), ?_, ?_⟩
                · rw [HSN.out]; unfold wStep; rw [if_pos (show (r : Int) - f ≤ v from hv)]
                  have e1 : min lo at_ = at_ := by omega
                  have e2 : max hi at_ = hi := by omega
                  show Box2 _ (b + 1) 25 (min lo at_) (max hi at_)
                  rw [e1, e2]
                  exact setCell_heap (setCell_heap H1.out _) _
                · exact ((HW.out.drew).setCell (by simp) _).setCell (by simp) _
            · gi_wp2
              refine wpIn_region_any (by kernel_rfl) (wpAnyIn_of_wpAny (by rintro ⟨a, w, h⟩; exact h) (noDefer_spec (by kernel_rfl)) _ _ _ _ ?_)
              refine wpAny_of_held (S := fun w' => w'.cell? ⟨Bx, 0, none⟩ = some (.int .i64 at_)) _ _ _ _ ?_
              have hS : (fun w' : World => w'.cell? ⟨Bx, 0, none⟩ = some (.int .i64 at_)) W.drew := x0
              change wpAnyH _ _ _ _ _ _ _ _ W.drew
              refine wpAnyH_take (i := 0) (oi := { dst := some 34, op := Op.fieldAddr 25 (Operand.tmp 8) 0, type := 0, pos := "sweep.go:103", after := #[], guard := none }) (v := ?v43) rfl (by kernel_rfl) (by kernel_rfl) (by kernel_rfl) (fun _ _ _ h => h) (Or.inl ⟨by rfl, ?hy43⟩) hS ?rest43
              case hy43 => intro w' hSw; (try dsimp only at hSw); go_simp; (try with_reducible rfl)
              try simp only [Act.put, List.setIfInBounds_toArray, List.set_cons_zero, List.set_cons_succ]
              refine wpAnyH_take (i := 2) (oi := { dst := some 36, op := Op.fieldAddr 56 (Operand.tmp 9) 0, type := 0, pos := "sweep.go:103", after := #[], guard := none }) (v := ?v44) rfl (by kernel_rfl) (by kernel_rfl) (by kernel_rfl) (fun _ _ _ h => h) (Or.inl ⟨by rfl, ?hy44⟩) hS ?rest44
              case hy44 => intro w' hSw; (try dsimp only at hSw); go_simp; (try with_reducible rfl)
              try simp only [Act.put, List.setIfInBounds_toArray, List.set_cons_zero, List.set_cons_succ]
              refine wpAnyH_take (i := 3) (oi := { dst := some 37, op := Op.load 2 (Operand.tmp 36), type := 2, pos := "sweep.go:103", after := #[{ on := 2, ground := Ground.data }], guard := none }) (v := ?v45) rfl (by kernel_rfl) (by kernel_rfl) (by kernel_rfl) (fun _ _ _ h => h) (Or.inl ⟨by rfl, ?hy45⟩) hS ?rest45
              case hy45 => intro w' hSw; (try dsimp only at hSw); go_simp; (try with_reducible rfl)
              try simp only [Act.put, List.setIfInBounds_toArray, List.set_cons_zero, List.set_cons_succ]
              refine wpAnyH_take (i := 5) (oi := { dst := some 39, op := Op.fieldAddr 25 (Operand.tmp 8) 1, type := 0, pos := "sweep.go:103", after := #[], guard := none }) (v := ?v46) rfl (by kernel_rfl) (by kernel_rfl) (by kernel_rfl) (fun _ _ _ h => h) (Or.inl ⟨by rfl, ?hy46⟩) hS ?rest46
              case hy46 => intro w' hSw; (try dsimp only at hSw); go_simp; (try with_reducible rfl)
              try simp only [Act.put, List.setIfInBounds_toArray, List.set_cons_zero, List.set_cons_succ]
              refine wpAnyH_take (i := 7) (oi := { dst := some 41, op := Op.fieldAddr 56 (Operand.tmp 9) 0, type := 0, pos := "sweep.go:103", after := #[], guard := none }) (v := ?v47) rfl (by kernel_rfl) (by kernel_rfl) (by kernel_rfl) (fun _ _ _ h => h) (Or.inl ⟨by rfl, ?hy47⟩) hS ?rest47
              case hy47 => intro w' hSw; (try dsimp only at hSw); go_simp; (try with_reducible rfl)
              try simp only [Act.put, List.setIfInBounds_toArray, List.set_cons_zero, List.set_cons_succ]
              refine wpAnyH_take (i := 8) (oi := { dst := some 42, op := Op.load 2 (Operand.tmp 41), type := 2, pos := "sweep.go:103", after := #[{ on := 7, ground := Ground.data }], guard := none }) (v := ?v48) rfl (by kernel_rfl) (by kernel_rfl) (by kernel_rfl) (fun _ _ _ h => h) (Or.inl ⟨by rfl, ?hy48⟩) hS ?rest48
              case hy48 => intro w' hSw; (try dsimp only at hSw); go_simp; (try with_reducible rfl)
              try simp only [Act.put, List.setIfInBounds_toArray, List.set_cons_zero, List.set_cons_succ]
              refine wpAnyH_ready (rs := [1, 6]) (by kernel_rfl) (by simp) ?_
              refine AllReadyH.cons (o := { dst := some 35, op := Op.load 2 (Operand.tmp 34), type := 2, pos := "sweep.go:103", after := #[{ on := 0, ground := Ground.data }], guard := none }) rfl (fun K hK => ?_) (AllReadyH.cons (o := { dst := some 40, op := Op.load 2 (Operand.tmp 39), type := 2, pos := "sweep.go:103", after := #[{ on := 5, ground := Ground.data }], guard := none }) rfl (fun K hK => ?_) AllReadyH.nil)
              · go_simp
                refine hK.out _ _ ?_ (fun hS => ?_)
                · exact hS
                clear hK K
                try simp only [Act.put, List.setIfInBounds_toArray, List.set_cons_zero, List.set_cons_succ]
                refine wpAnyH_take (i := 4) (oi := { dst := some 38, op := Op.call { callee := Callee.builtin Builtin.min, args := #[Operand.tmp 35, Operand.tmp 37], argTypes := #[2, 2] }, type := 2, pos := "sweep.go:103", after := #[{ on := 1, ground := Ground.data }, { on := 3, ground := Ground.data }], guard := none }) (v := ?v49) rfl (by kernel_rfl) (by kernel_rfl) (by kernel_rfl) (fun _ _ _ h => h) (Or.inl ⟨by rfl, ?hy49⟩) hS ?rest49
                case hy49 => intro w' hSw; (try dsimp only at hSw); go_simp; (try with_reducible rfl)
                try simp only [Act.put, List.setIfInBounds_toArray, List.set_cons_zero, List.set_cons_succ]
                refine wpAnyH_ready (rs := [6]) (by kernel_rfl) (by simp) ?_
                refine AllReadyH.cons (o := { dst := some 40, op := Op.load 2 (Operand.tmp 39), type := 2, pos := "sweep.go:103", after := #[{ on := 5, ground := Ground.data }], guard := none }) rfl (fun K hK => ?_) AllReadyH.nil
                go_simp
                refine hK.out _ _ ?_ (fun hS => ?_)
                · exact hS
                clear hK K
                try simp only [Act.put, List.setIfInBounds_toArray, List.set_cons_zero, List.set_cons_succ]
                refine wpAnyH_take (i := 9) (oi := { dst := some 43, op := Op.call { callee := Callee.builtin Builtin.max, args := #[Operand.tmp 40, Operand.tmp 42], argTypes := #[2, 2] }, type := 2, pos := "sweep.go:103", after := #[{ on := 6, ground := Ground.data }, { on := 8, ground := Ground.data }], guard := none }) (v := ?v50) rfl (by kernel_rfl) (by kernel_rfl) (by kernel_rfl) (fun _ _ _ h => h) (Or.inl ⟨by rfl, ?hy50⟩) hS ?rest50
                case hy50 => intro w' hSw; (try dsimp only at hSw); go_simp; (try with_reducible rfl)
                try simp only [Act.put, List.setIfInBounds_toArray, List.set_cons_zero, List.set_cons_succ]
                refine wpAnyH_take (i := 10) (oi := { dst := some 44, op := Op.fieldAddr 25 (Operand.tmp 8) 0, type := 0, pos := "sweep.go:103", after := #[{ on := 0, ground := Ground.phase }, { on := 1, ground := Ground.phase }, { on := 2, ground := Ground.phase }, { on := 3, ground := Ground.phase }, { on := 4, ground := Ground.phase }, { on := 5, ground := Ground.phase }, { on := 6, ground := Ground.phase }, { on := 7, ground := Ground.textOnly Departure.lateStores }, { on := 8, ground := Ground.textOnly Departure.lateStores }, { on := 9, ground := Ground.textOnly Departure.lateStoresUnsure }], guard := none }) (v := ?v51) rfl (by kernel_rfl) (by kernel_rfl) (by kernel_rfl) (fun _ _ _ h => h) (Or.inl ⟨by rfl, ?hy51⟩) hS ?rest51
                case hy51 => intro w' hSw; (try dsimp only at hSw); go_simp; (try with_reducible rfl)
                try simp only [Act.put, List.setIfInBounds_toArray, List.set_cons_zero, List.set_cons_succ]
                refine wpAnyH_ready (rs := [11]) (by kernel_rfl) (by simp) ?_
                refine AllReadyH.cons (o := { dst := none, op := Op.store 2 (Operand.tmp 44) (Operand.tmp 38), type := 0, pos := "sweep.go:103", after := #[{ on := 10, ground := Ground.data }, { on := 4, ground := Ground.data }, { on := 0, ground := Ground.phase }, { on := 1, ground := Ground.phase }, { on := 2, ground := Ground.phase }, { on := 3, ground := Ground.phase }, { on := 4, ground := Ground.phase }, { on := 5, ground := Ground.phase }, { on := 6, ground := Ground.phase }, { on := 7, ground := Ground.textOnly Departure.lateStores }, { on := 8, ground := Ground.textOnly Departure.lateStores }, { on := 9, ground := Ground.textOnly Departure.lateStoresUnsure }], guard := none }) rfl (fun K hK => ?_) AllReadyH.nil
                go_simp
                refine hK.out _ _ ?_ (fun hS => ?_)
                · exact (World.cell?_of_block (Go.RowKit.Below.heap_setCell _ _ _ _ (by simp; omega))).trans hS
                clear hK K
                try simp only [Act.put, List.setIfInBounds_toArray, List.set_cons_zero, List.set_cons_succ]
                refine wpAnyH_take (i := 12) (oi := { dst := some 45, op := Op.fieldAddr 25 (Operand.tmp 8) 1, type := 0, pos := "sweep.go:103", after := #[{ on := 0, ground := Ground.phase }, { on := 1, ground := Ground.phase }, { on := 2, ground := Ground.phase }, { on := 3, ground := Ground.phase }, { on := 4, ground := Ground.phase }, { on := 5, ground := Ground.phase }, { on := 6, ground := Ground.phase }, { on := 7, ground := Ground.phase }, { on := 8, ground := Ground.phase }, { on := 9, ground := Ground.phase }, { on := 10, ground := Ground.phase }, { on := 11, ground := Ground.phase }], guard := none }) (v := ?v52) rfl (by kernel_rfl) (by kernel_rfl) (by kernel_rfl) (fun _ _ _ h => h) (Or.inl ⟨by rfl, ?hy52⟩) hS ?rest52
                case hy52 => intro w' hSw; (try dsimp only at hSw); go_simp; (try with_reducible rfl)
                try simp only [Act.put, List.setIfInBounds_toArray, List.set_cons_zero, List.set_cons_succ]
                refine wpAnyH_ready (rs := [13]) (by kernel_rfl) (by simp) ?_
                refine AllReadyH.cons (o := { dst := none, op := Op.store 2 (Operand.tmp 45) (Operand.tmp 43), type := 0, pos := "sweep.go:103", after := #[{ on := 12, ground := Ground.data }, { on := 9, ground := Ground.data }, { on := 11, ground := Ground.chain }, { on := 0, ground := Ground.phase }, { on := 1, ground := Ground.phase }, { on := 2, ground := Ground.phase }, { on := 3, ground := Ground.phase }, { on := 4, ground := Ground.phase }, { on := 5, ground := Ground.phase }, { on := 6, ground := Ground.phase }, { on := 7, ground := Ground.phase }, { on := 8, ground := Ground.phase }, { on := 9, ground := Ground.phase }, { on := 10, ground := Ground.phase }, { on := 11, ground := Ground.phase }], guard := none }) rfl (fun K hK => ?_) AllReadyH.nil
                go_simp
                refine hK.out _ _ ?_ (fun hS => ?_)
                · exact (World.cell?_of_block (Go.RowKit.Below.heap_setCell _ _ _ _ (by simp; omega))).trans hS
                clear hK K
                try simp only [Act.put, List.setIfInBounds_toArray, List.set_cons_zero, List.set_cons_succ]
                refine wpAnyH_done (by kernel_rfl) ?_ _
                refine ⟨((KeepsOthers.drew _).trans ((KeepsOthers.setCell _ _ _).trans (KeepsOthers.setCell _ _ _))).from _, kpC_drew.t ((kpC_setN _ _ _ (by simp) (by simp)).t (kpC_setN _ _ _ (by simp) (by simp))), ?_, ?_⟩
                · rw [HSN.out]; unfold wStep; rw [if_pos (show (r : Int) - f ≤ v from hv)]
                  have e1 : min lo at_ = at_ := by omega
                  have e2 : max hi at_ = at_ := by omega
                  show Box2 _ (b + 1) 25 (min lo at_) (max hi at_)
                  rw [e1, e2]
                  exact setCell_heap (setCell_heap H1.out _) _
                · exact ((HW.out.drew).setCell (by simp) _).setCell (by simp) _
              · go_simp
                refine hK.out _ _ ?_ (fun hS => ?_)
                · exact hS
                clear hK K
                try simp only [Act.put, List.setIfInBounds_toArray, List.set_cons_zero, List.set_cons_succ]
                refine wpAnyH_take (i := 9) (oi := { dst := some 43, op := Op.call { callee := Callee.builtin Builtin.max, args := #[Operand.tmp 40, Operand.tmp 42], argTypes := #[2, 2] }, type := 2, pos := "sweep.go:103", after := #[{ on := 6, ground := Ground.data }, { on := 8, ground := Ground.data }], guard := none }) (v := ?v53) rfl (by kernel_rfl) (by kernel_rfl) (by kernel_rfl) (fun _ _ _ h => h) (Or.inl ⟨by rfl, ?hy53⟩) hS ?rest53
                case hy53 => intro w' hSw; (try dsimp only at hSw); go_simp; (try with_reducible rfl)
                try simp only [Act.put, List.setIfInBounds_toArray, List.set_cons_zero, List.set_cons_succ]
                refine wpAnyH_ready (rs := [1]) (by kernel_rfl) (by simp) ?_
                refine AllReadyH.cons (o := { dst := some 35, op := Op.load 2 (Operand.tmp 34), type := 2, pos := "sweep.go:103", after := #[{ on := 0, ground := Ground.data }], guard := none }) rfl (fun K hK => ?_) AllReadyH.nil
                go_simp
                refine hK.out _ _ ?_ (fun hS => ?_)
                · exact hS
                clear hK K
                try simp only [Act.put, List.setIfInBounds_toArray, List.set_cons_zero, List.set_cons_succ]
                refine wpAnyH_take (i := 4) (oi := { dst := some 38, op := Op.call { callee := Callee.builtin Builtin.min, args := #[Operand.tmp 35, Operand.tmp 37], argTypes := #[2, 2] }, type := 2, pos := "sweep.go:103", after := #[{ on := 1, ground := Ground.data }, { on := 3, ground := Ground.data }], guard := none }) (v := ?v54) rfl (by kernel_rfl) (by kernel_rfl) (by kernel_rfl) (fun _ _ _ h => h) (Or.inl ⟨by rfl, ?hy54⟩) hS ?rest54
                case hy54 => intro w' hSw; (try dsimp only at hSw); go_simp; (try with_reducible rfl)
                try simp only [Act.put, List.setIfInBounds_toArray, List.set_cons_zero, List.set_cons_succ]
                refine wpAnyH_take (i := 10) (oi := { dst := some 44, op := Op.fieldAddr 25 (Operand.tmp 8) 0, type := 0, pos := "sweep.go:103", after := #[{ on := 0, ground := Ground.phase }, { on := 1, ground := Ground.phase }, { on := 2, ground := Ground.phase }, { on := 3, ground := Ground.phase }, { on := 4, ground := Ground.phase }, { on := 5, ground := Ground.phase }, { on := 6, ground := Ground.phase }, { on := 7, ground := Ground.textOnly Departure.lateStores }, { on := 8, ground := Ground.textOnly Departure.lateStores }, { on := 9, ground := Ground.textOnly Departure.lateStoresUnsure }], guard := none }) (v := ?v55) rfl (by kernel_rfl) (by kernel_rfl) (by kernel_rfl) (fun _ _ _ h => h) (Or.inl ⟨by rfl, ?hy55⟩) hS ?rest55
                case hy55 => intro w' hSw; (try dsimp only at hSw); go_simp; (try with_reducible rfl)
                try simp only [Act.put, List.setIfInBounds_toArray, List.set_cons_zero, List.set_cons_succ]
                refine wpAnyH_ready (rs := [11]) (by kernel_rfl) (by simp) ?_
                refine AllReadyH.cons (o := { dst := none, op := Op.store 2 (Operand.tmp 44) (Operand.tmp 38), type := 0, pos := "sweep.go:103", after := #[{ on := 10, ground := Ground.data }, { on := 4, ground := Ground.data }, { on := 0, ground := Ground.phase }, { on := 1, ground := Ground.phase }, { on := 2, ground := Ground.phase }, { on := 3, ground := Ground.phase }, { on := 4, ground := Ground.phase }, { on := 5, ground := Ground.phase }, { on := 6, ground := Ground.phase }, { on := 7, ground := Ground.textOnly Departure.lateStores }, { on := 8, ground := Ground.textOnly Departure.lateStores }, { on := 9, ground := Ground.textOnly Departure.lateStoresUnsure }], guard := none }) rfl (fun K hK => ?_) AllReadyH.nil
                go_simp
                refine hK.out _ _ ?_ (fun hS => ?_)
                · exact (World.cell?_of_block (Go.RowKit.Below.heap_setCell _ _ _ _ (by simp; omega))).trans hS
                clear hK K
                try simp only [Act.put, List.setIfInBounds_toArray, List.set_cons_zero, List.set_cons_succ]
                refine wpAnyH_take (i := 12) (oi := { dst := some 45, op := Op.fieldAddr 25 (Operand.tmp 8) 1, type := 0, pos := "sweep.go:103", after := #[{ on := 0, ground := Ground.phase }, { on := 1, ground := Ground.phase }, { on := 2, ground := Ground.phase }, { on := 3, ground := Ground.phase }, { on := 4, ground := Ground.phase }, { on := 5, ground := Ground.phase }, { on := 6, ground := Ground.phase }, { on := 7, ground := Ground.phase }, { on := 8, ground := Ground.phase }, { on := 9, ground := Ground.phase }, { on := 10, ground := Ground.phase }, { on := 11, ground := Ground.phase }], guard := none }) (v := ?v56) rfl (by kernel_rfl) (by kernel_rfl) (by kernel_rfl) (fun _ _ _ h => h) (Or.inl ⟨by rfl, ?hy56⟩) hS ?rest56
                case hy56 => intro w' hSw; (try dsimp only at hSw); go_simp; (try with_reducible rfl)
                try simp only [Act.put, List.setIfInBounds_toArray, List.set_cons_zero, List.set_cons_succ]
                refine wpAnyH_ready (rs := [13]) (by kernel_rfl) (by simp) ?_
                refine AllReadyH.cons (o := { dst := none, op := Op.store 2 (Operand.tmp 45) (Operand.tmp 43), type := 0, pos := "sweep.go:103", after := #[{ on := 12, ground := Ground.data }, { on := 9, ground := Ground.data }, { on := 11, ground := Ground.chain }, { on := 0, ground := Ground.phase }, { on := 1, ground := Ground.phase }, { on := 2, ground := Ground.phase }, { on := 3, ground := Ground.phase }, { on := 4, ground := Ground.phase }, { on := 5, ground := Ground.phase }, { on := 6, ground := Ground.phase }, { on := 7, ground := Ground.phase }, { on := 8, ground := Ground.phase }, { on := 9, ground := Ground.phase }, { on := 10, ground := Ground.phase }, { on := 11, ground := Ground.phase }], guard := none }) rfl (fun K hK => ?_) AllReadyH.nil
                go_simp
                refine hK.out _ _ ?_ (fun hS => ?_)
                · exact (World.cell?_of_block (Go.RowKit.Below.heap_setCell _ _ _ _ (by simp; omega))).trans hS
                clear hK K
                try simp only [Act.put, List.setIfInBounds_toArray, List.set_cons_zero, List.set_cons_succ]
                refine wpAnyH_done (by kernel_rfl) ?_ _
                refine ⟨((KeepsOthers.drew _).trans ((KeepsOthers.setCell _ _ _).trans (KeepsOthers.setCell _ _ _))).from _, kpC_drew.t ((kpC_setN _ _ _ (by simp) (by simp)).t (kpC_setN _ _ _ (by simp) (by simp))), ?_, ?_⟩
                · rw [HSN.out]; unfold wStep; rw [if_pos (show (r : Int) - f ≤ v from hv)]
                  have e1 : min lo at_ = at_ := by omega
                  have e2 : max hi at_ = at_ := by omega
                  show Box2 _ (b + 1) 25 (min lo at_) (max hi at_)
                  rw [e1, e2]
                  exact setCell_heap (setCell_heap H1.out _) _
                · exact ((HW.out.drew).setCell (by simp) _).setCell (by simp) _
        · gi_wp2
          refine ⟨KeepsFrom.refl _ _, KpC.refl _ _ _, ?_, HW.out⟩
          rw [HSN.out]; unfold wStep; rw [if_neg (by simp; omega)]; exact H1.out
      case done =>
        rintro D ys W hD rfl ⟨hb1, hB1⟩ hK
        have hrr : Box2 W (w.heap.size + 1) 25 0 0 := (hB1.block _ (by omega)).trans HR0.out
        have hBW : Go.RowKit.Below w.heap.size w W := HBW0.out.trans (hB1.mono (by omega))
        generalize wFold (r - f) (upto (walkF es) m) = s at hb1 HBS2
        obtain ⟨lo, hi⟩ := s
        obtain ⟨c1, c2, f1, hlt3⟩ := hb1.cells
        have HRR := Lib.hid hrr
        have HBW := Lib.hid hBW
        have HK := Lib.hid hK
        have hDl := lt_of_heap hK
        have hrl1 := lt_of_heap hrr
        clear hrr hBW hK hB1 hbx hcs hbw
        gi_wp2
        refine ⟨trivial, (callsIn_wide.2 (right17 (lo, hi) _)).mono ?_⟩
        rintro e w5 ⟨rfl, hB5⟩
        obtain ⟨c1', c2', f1', hlt3'⟩ := (show Box2 w5 (b + 1) 25 lo hi from (hB5.block _ hlt3).trans hb1).cells
        have hr5 : Box2 w5 (w.heap.size + 1) 25 0 0 := (hB5.block _ hrl1).trans HRR.out
        have hB6 : Go.RowKit.Below w.heap.size w w5 := HBW.out.trans (hB5.mono HBW.out.size)
        have hK5 : w5.heap[D]? = some (.deferred (some [])) := (hB5.block _ hDl).trans HK.out
        obtain ⟨r1, r2, r3, r4⟩ := hr5.cells
        have HR5 := Lib.hid hr5
        have HB6 := Lib.hid hB6
        have HK5 := Lib.hid hK5
        clear hB5 hr5 hB6 hK5 c1 c2 f1 hlt3 hb1
        cases hok : okG (lo, hi)
        · have HOK := Lib.hid hok
          clear hok
          gi_wp2
          have hz2 : Box2 ((w5.setCell ⟨w.heap.size + 1, 0, none⟩ (.int .i64 0)).setCell ⟨w.heap.size + 1, 1, none⟩ (.int .i64 0)) (w.heap.size + 1) 25 0 0 := setCell_heap (setCell_heap HR5.out _) _
          have hB2 : Go.RowKit.Below w.heap.size w ((w5.setCell ⟨w.heap.size + 1, 0, none⟩ (.int .i64 0)).setCell ⟨w.heap.size + 1, 1, none⟩ (.int .i64 0)) := (HB6.out.setCell (by simp) _).setCell (by simp) _
          have hK2 : ((w5.setCell ⟨w.heap.size + 1, 0, none⟩ (.int .i64 0)).setCell ⟨w.heap.size + 1, 1, none⟩ (.int .i64 0)).heap[D]? = some (.deferred (some [])) := ((Go.RowKit.Below.heap_setCell _ _ _ _ (by simp; omega)).trans (Go.RowKit.Below.heap_setCell _ _ _ _ (by simp; omega))).trans HK5.out
          generalize (w5.setCell ⟨w.heap.size + 1, 0, none⟩ (.int .i64 0)).setCell ⟨w.heap.size + 1, 1, none⟩ (.int .i64 0) = W5 at hz2 hB2 hK2 ⊢
          refine ⟨by simp, .inl ⟨_, _, rfl, run_takeDeferred hK2, ?_⟩⟩
          have hz6 : Box2 (W5.putObj D (.deferred none)) (w.heap.size + 1) 25 0 0 := (World.putObj_heap_other (by omega)).trans hz2
          have c5 := hz6.cells.1
          have c6 := hz6.cells.2.1
          refine ⟨.tuple #[.agg #[.int .i64 0, .int .i64 0], .bool false], ?_, by rw [HBS2.out, if_neg (by rw [HOK.out]; simp)]; rfl, hB2.trans (belowK_b (w := w) (Nat.le_refl _) _ D _ _ (by omega) hK2 rfl rfl)⟩
          simp [results, Try.results11, go_sem, c5, c6]
        · have HOK := Lib.hid hok
          clear hok
          gi_wp2
          have hz2 : Box2 ((w5.setCell ⟨w.heap.size + 1, 0, none⟩ (.int .i64 lo)).setCell ⟨w.heap.size + 1, 1, none⟩ (.int .i64 hi)) (w.heap.size + 1) 25 lo hi := setCell_heap (setCell_heap HR5.out _) _
          have hB2 : Go.RowKit.Below w.heap.size w ((w5.setCell ⟨w.heap.size + 1, 0, none⟩ (.int .i64 lo)).setCell ⟨w.heap.size + 1, 1, none⟩ (.int .i64 hi)) := (HB6.out.setCell (by simp) _).setCell (by simp) _
          have hK2 : ((w5.setCell ⟨w.heap.size + 1, 0, none⟩ (.int .i64 lo)).setCell ⟨w.heap.size + 1, 1, none⟩ (.int .i64 hi)).heap[D]? = some (.deferred (some [])) := ((Go.RowKit.Below.heap_setCell _ _ _ _ (by simp; omega)).trans (Go.RowKit.Below.heap_setCell _ _ _ _ (by simp; omega))).trans HK5.out
          generalize (w5.setCell ⟨w.heap.size + 1, 0, none⟩ (.int .i64 lo)).setCell ⟨w.heap.size + 1, 1, none⟩ (.int .i64 hi) = W5 at hz2 hB2 hK2 ⊢
          refine ⟨by simp, .inl ⟨_, _, rfl, run_takeDeferred hK2, ?_⟩⟩
          have hz6 : Box2 (W5.putObj D (.deferred none)) (w.heap.size + 1) 25 lo hi := (World.putObj_heap_other (by omega)).trans hz2
          have c5 := hz6.cells.1
          have c6 := hz6.cells.2.1
          refine ⟨.tuple #[.agg #[.int .i64 lo, .int .i64 hi], .bool true], ?_, by rw [HBS2.out, if_pos HOK.out]; rfl, hB2.trans (belowK_b (w := w) (Nat.le_refl _) _ D _ _ (by omega) hK2 rfl rfl)⟩
          simp [results, Try.results11, go_sem, c5, c6]
      case stop =>
        rintro D c pre W _ _ h _
        exact h.elim

end Go.Proofs.Ytljkijolehalcaa
