/- Drift: AppendSeq, Collect and SortedFunc over slices.Values, walked. No condition. -/
import Derived.Test.YtigepekcjigpaaaDk
namespace Go.Proofs.Ytigepekcjigpaaa
open Go.RowKit Go.Shelf

attribute [local go_sem] Oper.semAt_some

theorem infoPt : (Try.prog.info? 30).map (fun i => (i.zero, i.size, i.bytes)) = some (some (.agg #[.int .i64 0, .int .i64 0]), 2, 16) := by kernel_rfl

/-- What AppendSeq has behind some points. -/
def ApI (b : Nat) (w : World) (pre : List (Int × Int)) (W : World) : Prop :=
  ∃ v, W.heap[b]? = some (.cells #[v] 27 (0, 0)) ∧ W.ownsRow b 30 2 v pre.length (pre.flatMap cellsP) ∧ Go.RowKit.Below b w W

theorem own_ne {W : World} {b : Nat} {v u : Value} {n : Nat} {xs : List Value} (h : W.ownsRow b 30 2 v n xs) (hv : W.heap[b]? = some (.cells #[u] 27 (0, 0))) : some b ≠ v.ownBlock := by
  intro e
  rcases h.2 with ⟨rfl, _⟩ | ⟨g, cap, cur, rfl, _, hg, _⟩
  · simp [Value.ownBlock] at e
  · simp [Value.ownBlock] at e
    subst e
    rw [hg] at hv
    cases hv

theorem apI_own (b : Nat) (w : World) (B : Nat) (hb : b ≤ w.heap.size) (hbB : b ≤ B) : OwnFrom B (ApI b w) := fun s X Y row hs hg hr => by
  obtain ⟨v, hv, hrow, hB⟩ := hs
  have hne : ∀ k (o : Obj), X.heap[k]? = some o → o.isCells = true → Y.heap[k]? = X.heap[k]? := fun k o hk ho =>
    hg.block k (lt_of_heap hk) (fun e => by obtain ⟨_, o', h1, h2⟩ := hr k e.symm; rw [hk] at h1; cases h1; rw [ho] at h2; cases h2)
  refine ⟨v, (hne _ _ hv rfl).trans hv, ⟨hrow.1, ?_⟩, (ownFrom_below hb hbB) s X Y row hB hg hr⟩
  rcases hrow.2 with h | ⟨g, cap, cur, h1, h2, h3, h4⟩
  · exact .inl h
  · exact .inr ⟨g, cap, cur, h1, h2, (hne _ _ h3 rfl).trans h3, h4⟩

set_option maxRecDepth 100000 in
set_option maxHeartbeats 4000000 in
theorem appendseq_walk (Bs : Nat) (A : Option Addr) (len cap : Nat) (ps : List (Int × Int)) (w : World) (hlen : len = ps.length) (hl2 : len ≤ 1000) (hBs : Bs < w.heap.size) (hc : w.cell? ⟨Bs, 0, none⟩ = some (.slice A len cap)) (hE : PtsIn w A ps) :
    Calls Try.prog 40 #[.slice none 0 0, .func (.func 33) #[] #[.pointer (some ⟨Bs, 0, none⟩)]] w fun e w' =>
      ∃ v, e = .returned v ∧ w'.ownsRow w.heap.size 30 2 v ps.length (ps.flatMap cellsP) ∧ Go.RowKit.Below w.heap.size w w' := by
  obtain ⟨i0, hi, hz0, hz1, hz2⟩ := info_parts infoPt
  have HL := Lib.hid hlen
  have HE := Lib.hid hE
  clear hlen hE
  refine (callsIn_wide (n := 6)).1 ?_
  refine callsIn_of_wp_marks Try.func40 rfl trivial ?_ rfl
  simp only [Try.ntmps40, List.size_toArray, List.length_cons, List.length_nil, Nat.reduceAdd, Nat.reduceSub, Array.replicate_succ, Array.replicate_zero, List.push_toArray, List.append_toArray, List.nil_append, List.cons_append]
  have hbw := (Go.RowKit.Below.refl w.heap.size w).alloc (Nat.le_refl _) (.cells #[.slice none 0 0] 27)
  have hbx := heap_alloc_new w (.cells #[.slice none 0 0] 27)
  have hsz : (w.alloc (.cells #[.slice none 0 0] 27)).heap.size = w.heap.size + 1 := by simp
  gi_wp2
  generalize w.alloc (.cells #[.slice none 0 0] 27) = W0 at hbw hbx hsz ⊢
  have hA' : ∀ b' off, A = some ⟨b', off, none⟩ → ps ≠ [] → b' < w.heap.size := by
    intro b' off hA hne
    obtain ⟨b2, o2, h1, h2, _⟩ := HE.out 0 (List.length_pos_iff.2 hne)
    rw [hA] at h1; cases h1; exact h2
  refine wpIn_rangeFunc_ownH rfl (by omega) (gf := 33) (lb := #[.pointer (some ⟨Bs, 0, none⟩)]) rfl trivial (enters_of Try.func33 (by kernel_rfl) rfl)
    (values_stops Fence.wide _ trivial rfl (by omega) Bs w.heap.size A len cap ps HL.out (by omega) W0 (by omega) (by omega) ((hbw.cell (p := ⟨Bs, 0, none⟩) hBs).trans hc) (HE.out.turn hbw) hA')
    Go.RowKit.Below.trans (belowK_b (by omega)) (Go.RowKit.Below.refl _ _) (fun _ => rfl)
    (ApI w.heap.size w)
    (fun _ _ _ => False)
    (apI_own w.heap.size w _ (Nat.le_refl _) (by omega))
    (fun _ _ _ _ _ hs _ _ => hs)
    ⟨.slice none 0 0, hbx, World.ownsRow_nil _ _ _ _, hbw⟩
    (fun x a' W => ∃ Bx, w.heap.size + 1 ≤ Bx ∧ W.heap[Bx]? = some (.cells #[.int .i64 x.1, .int .i64 x.2] 30 (0, 0)) ∧ a' = { tmps := #[.slice none 0 0, .func (.func 33) #[] #[.pointer (some ⟨Bs, 0, none⟩)], .pointer (some ⟨w.heap.size, 0, none⟩), undef, .slice none 0 0, .pointer (some ⟨Bx, 0, none⟩), .func (.func 33) #[] #[.pointer (some ⟨Bs, 0, none⟩)], .agg #[.int .i64 x.1, .int .i64 x.2], undef, undef, undef, undef, undef], defers := [] })
    (fun x a' _ X Y row hs hg hr => by
      obtain ⟨Bx, h1, h2, h3⟩ := hs
      exact ⟨Bx, h1, (hg.block Bx (lt_of_heap h2) (fun e => by obtain ⟨_, o', k1, k2⟩ := hr Bx e.symm; rw [h2] at k1; cases k1; cases k2)).trans h2, h3⟩)
    ?assign ?body ?done ?stop
  case assign =>
    rintro l pre x W K ⟨v, hv, hrow, hB⟩ hK
    have hvl := lt_of_heap hv
    unfold encY
    gi_wp2
    exact hK _ _ ((KeepsOthers.alloc _ _).from _) ((Go.RowKit.Below.refl _ W).alloc (by omega) _)
      ⟨v, (Go.RowKit.Below.heap_alloc _ _ _ hvl).trans hv, hrow.alloc _, hB.alloc (by omega) _⟩ ⟨W.heap.size, by omega, heap_alloc_new W _, rfl⟩
  case body =>
    rintro l pre ⟨x1, x2⟩ a' W hl ⟨r, hr⟩ ⟨v, hv, hrow, hB⟩ ⟨Bx, hBx, hX, rfl⟩ hlt
    obtain ⟨Av, cv, hvv, -, -, -⟩ := pts_of_row hrow
    subst hvv
    have hvl := lt_of_heap hv
    have hXl := lt_of_heap hX
    have c0 : W.cell? ⟨w.heap.size, 0, none⟩ = some (.slice Av pre.length cv) := by simp [World.cell?, hv]
    have c1 : W.frozen? ⟨w.heap.size, 0, none⟩ = false := by simp [World.frozen?, hv]
    have x0 : W.cell? ⟨Bx, 0, none⟩ = some (.int .i64 x1) := by simp [World.cell?, hX]
    have xx1 : W.cell? ⟨Bx, 1, none⟩ = some (.int .i64 x2) := by simp [World.cell?, hX]
    have HROW := Lib.hid hrow
    have HV := Lib.hid hv
    have HB := Lib.hid hB
    have hne := own_ne hrow hv
    have HNE := Lib.hid hne
    clear hr hrow hv hB hX hbx hbw hne
    have hnews := World.news_of_block (cs := #[.int .i64 x1, .int .i64 x2]) (t := 30) (fr := (0, 0)) (heap_alloc_new W _)
    have HNW := Lib.hid hnews
    clear hnews
    have q1 : pre.length + 1 ≤ maxLen := by unfold maxLen; omega
    have q2 : (pre.length + 1) * 16 ≤ 140737488355328 := by omega
    have q3 : w.heap.size ≤ (W.alloc (.cells #[.int .i64 x1, .int .i64 x2] 30)).heap.size := by rw [World.size_alloc]; omega
    have q4 : ∀ u ∈ [Value.int .i64 x1, Value.int .i64 x2], u.oneCell' = true := by simp [Value.oneCell']
    have q5 : w.heap.size < (W.alloc (.cells #[.int .i64 x1, .int .i64 x2] 30)).heap.size := by rw [World.size_alloc]; omega
    have Q := Lib.hid (And.intro q1 (And.intro q2 (And.intro q3 (And.intro q4 q5))))
    clear q1 q2 q3 q4 q5
    gi_wp2_with (gi_at_builtin; go_loud (refine wpListIn_append_own _ rfl _ _ 27 rfl w.heap.size 30 i0 _ 2 16 Try.underlying27 hi hz0 hz1 hz2 rfl (by decide) (.slice Av pre.length cv) pre.length _ rfl (HROW.out.alloc _) ⟨W.heap.size, 0, none⟩ 1 1 [.int .i64 x1, .int .i64 x2] rfl rfl HNW.out Q.out.2.2.2.1 Q.out.1 Q.out.2.1 Q.out.2.2.1 ?_))
    intro v' w3 hown' hg3 hnil3
    obtain ⟨g', cap', hv', _, _⟩ := hown'.form (by omega)
    subst hv'
    have hv3 : w3.heap[w.heap.size]? = some (.cells #[.slice Av pre.length cv] 27 (0, 0)) := (hg3.block w.heap.size Q.out.2.2.2.2 HNE.out).trans ((Go.RowKit.Below.heap_alloc _ _ _ hvl).trans HV.out)
    have y0 : w3.cell? ⟨w.heap.size, 0, none⟩ = some (.slice Av pre.length cv) := by simp [World.cell?, hv3]
    have y1 : w3.frozen? ⟨w.heap.size, 0, none⟩ = false := by simp [World.frozen?, hv3]
    have HV3 := Lib.hid hv3
    have HO3 := Lib.hid hown'
    have HG3 := Lib.hid hg3
    clear hv3 hown' hg3 hnil3
    gi_wp2
    have hK1 : KeepsOthers W w3 := (KeepsOthers.alloc _ _).trans (KeepsOthers.of_grownBy HG3.out (fun j o hj ho => by
      rcases (HROW.out.alloc (.cells #[.int .i64 x1, .int .i64 x2] 30)).2 with ⟨hz, _⟩ | ⟨g, cp, cur, hz, _, hgb, _⟩
      · rw [hz] at hj; cases hj
      · rw [hz] at hj; cases hj; rw [hgb] at ho; cases ho; rfl))
    have hB3 : Go.RowKit.Below w.heap.size w w3 := (HB.out.alloc (by omega) _).grown HG3.out (by simp <;> omega) (fun q hq => (HROW.out.lt q hq).1)
    have hB4 : Go.RowKit.Below w.heap.size W w3 := ((Go.RowKit.Below.refl _ W).alloc (by omega) _).grown HG3.out (by simp <;> omega) (fun q hq => (HROW.out.lt q hq).1)
    refine ⟨(hK1.trans (KeepsOthers.setCell _ _ _)).from _, hB4.setCell (by simp) _, ⟨_, setCell_heap HV3.out _, ?_, hB3.setCell (by simp) _⟩⟩
    have hne3 := own_ne HO3.out HV3.out
    refine ⟨cellsP_len _, .inr ?_⟩
    rcases HO3.out.2 with ⟨h, _⟩ | ⟨g, cp, cur, h1, h2, h3, h4, h5, h6, h7⟩
    · cases h
    · cases h1
      refine ⟨g', cap', cur, by rw [List.length_append]; rfl, h2, (Go.RowKit.Below.heap_setCell _ _ _ _ (fun e => hne3 (by simp [Value.ownBlock, e]))).trans h3, by rw [List.length_append]; exact h4, h5, h6, ?_⟩
      rw [List.flatMap_append, List.length_append]
      exact h7
  case done =>
    rintro D ys W hD rfl ⟨v, hv, hrow, hB⟩ hK
    have hvl := lt_of_heap hv
    obtain ⟨A', cp, hv', -, -, -⟩ := pts_of_row hrow
    subst hv'
    have c0 : W.cell? ⟨w.heap.size, 0, none⟩ = some (.slice A' ys.length cp) := by simp [World.cell?, hv]
    have HROW := Lib.hid hrow
    have HB := Lib.hid hB
    have HK := Lib.hid hK
    clear hv hrow hB hK hbx hbw
    gi_wp2
    refine ⟨by simp, .inl ⟨_, _, rfl, run_takeDeferred HK.out, ?_⟩⟩
    refine ⟨.slice A' ys.length cp, ?_, _, rfl, ⟨HROW.out.1, ?_⟩, HB.out.trans (belowK_b (w := w) (Nat.le_refl _) _ D _ _ (by omega) HK.out rfl rfl)⟩
    · simp [results, Try.results40, go_sem]
    · rcases HROW.out.2 with h | ⟨g, cp', cur, h1, h2, h3, h4⟩
      · exact .inl h
      · exact .inr ⟨g, cp', cur, h1, h2, (World.putObj_heap_other (fun e => by rw [← e, h3] at HK; exact absurd HK.out (by simp))).trans h3, h4⟩
  case stop =>
    rintro D c pre W _ _ h _
    exact h.elim

end Go.Proofs.Ytigepekcjigpaaa
