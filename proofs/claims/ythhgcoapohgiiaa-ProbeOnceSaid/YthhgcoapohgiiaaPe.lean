/- Walks of the methods of package probe: Forget, Out, Due. -/
import Derived.Test.YthhgcoapohgiiaaPd
namespace Go.Proofs.Ythhgcoapohgiiaa
open Go.RowKit

theorem ownsRow_slice {w : World} {e size n : Nat} {v : Value} {xs : List Value} (h : w.ownsRow 0 e size v n xs) : ∃ A c, v = .slice A n c ∧ (A = none → n = 0) := by
  rcases h.2 with ⟨rfl, rfl⟩ | ⟨g, cap, cur, rfl, _⟩
  · exact ⟨none, 0, rfl, fun _ => rfl⟩
  · exact ⟨_, _, rfl, by simp⟩

theorem deleteFunc_own (f B : Nat) (p : Row → Bool) (v : Value) (rs rs' : List Row) (hrs : rs' = rs.filter fun r => !p r) (w : World) (hown : w.ownsRow 0 51 5 v rs.length (rs.flatMap Row.cells)) (hl : rs.length ≤ 1000000)
    (eg : ∀ args w, (callFunc f args).run Try.prog w = .ok (.enter f args) w) (hf : Tells v.ownBlock.toList w f B p) :
    Calls Try.prog 16 #[v, .func (.func f) #[] #[.pointer (some ⟨B, 0, none⟩)]] w fun e w' => ∃ A c, e = .returned (.slice A rs'.length c) ∧ Turn v.ownBlock.toList w w' ∧
      w'.ownsRow 0 51 5 (.slice A rs'.length c) rs'.length (rs'.flatMap Row.cells) ∧ (Value.slice A rs'.length c).ownBlock = v.ownBlock := by
  subst hrs
  rcases hown.2 with ⟨rfl, h0⟩ | ⟨g, cap, cur, rfl, _, hg, hnc, hcm, hcs, ht⟩
  · have : rs = [] := List.eq_nil_of_length_eq_zero h0
    subst this
    exact (deleteFunc_nil _ w).mono fun e w' ⟨he, hw⟩ => ⟨none, 0, he, by rw [← hw]; exact Turn.refl _ _, World.ownsRow_nil _ _ _ _, rfl⟩
  · refine (deleteFunc_any f B g cap p rs cur w hg hcs ht hnc (by omega) (by simp only [maxLen] at hcm; omega) eg hf).mono ?_
    rintro e w' ⟨rfl, hT, cur', h1, h2, h3⟩
    have hfl := List.length_filter_le (fun r => !p r) rs
    exact ⟨_, _, rfl, hT, ⟨rows_length _, .inr ⟨g, cap, cur', rfl, Nat.zero_le _, h1, by omega, hcm, h2, h3⟩⟩, rfl⟩

/-- Those of other agents. -/
def others (agent : Int) (rows : List Row) : List Row := rows.filter fun r => !decide (r.agent = agent)

/-- The field of the row is written: a row of whatever kind. -/
theorem put_rowv {bp bm H n : Nat} {boot c' most : Int} {last : List (Int × Int)} {xs : List Value} {v v' old : Value} {w w5 : World} {cs : Array Value} {T : TypeId}
    (h1 : w5.heap[H]? = some (.cells cs T (0, 0))) (hT : T ≠ 48) (h3 : w5.heap[bp]? = some (.cells #[.int .i64 boot, .int .i64 c', .int .i64 most, old, .map (some bm)] 48 (0, 0)))
    (h4 : MapAt w5 bm (Value.int .i64) (Value.int .i64) last) (h5 : Turn (foot bp bm v) w w5) (h6 : w5.ownsRow 0 51 5 v' n xs) :
    let wf := w5.setCell ⟨bp, 3, none⟩ v'
    wf.heap[H]? = some (.cells cs T (0, 0)) ∧ wf.heap[bp]? = some (.cells #[.int .i64 boot, .int .i64 c', .int .i64 most, v', .map (some bm)] 48 (0, 0)) ∧ MapAt wf bm (Value.int .i64) (Value.int .i64) last ∧ Turn (foot bp bm v) w wf ∧ wf.ownsRow 0 51 5 v' n xs := by
  intro wf
  have hbH : H ≠ bp := by rintro rfl; rw [h1] at h3; cases h3; exact hT rfl
  have hmb : bm ≠ bp := by rintro rfl; obtain ⟨es, c, h, _⟩ := h4; rw [h3] at h; cases h
  have kx : ∀ k, k ≠ bp → wf.heap[k]? = w5.heap[k]? := fun k ha => Below.heap_setCell _ _ _ _ (by simpa using ha)
  refine ⟨(kx H hbH).trans h1, by rw [setCell_heap h3]; rfl, h4.same (kx bm hmb), h5.setCell (.inl (by simp [foot])) _, ownsRow_same h6 fun g hg' => ?_⟩
  refine kx g ?_
  rintro rfl
  rcases h6.2 with ⟨rfl, _⟩ | ⟨g', cap, cur, rfl, _, hg, _⟩
  · cases hg'
  · simp only [Value.ownBlock, Option.some.injEq] at hg'
    subst hg'
    rw [h3] at hg
    cases hg

set_option maxHeartbeats 1000000 in
theorem forget_any (bp bm : Nat) (boot count most agent : Int) (rows : List Row) (last : List (Int × Int)) (v : Value) (w : World) (hS : PSt w bp boot count most rows last v bm) (hl : rows.length ≤ 1000000) :
    Calls Try.prog 8 #[.pointer (some ⟨bp, 0, none⟩), .int .i64 agent] w fun e w' => e = .returned (.int .i64 ((rows.length : Int) - (others agent rows).length)) ∧ Turn (foot bp bm v) w w' ∧
      ∃ v', PSt w' bp boot count most (others agent rows) (adel agent last) v' bm ∧ v'.ownBlock = v.ownBlock := by
  have hbp := lt_of_heap hS.at_
  obtain ⟨A0, cc0, hvs, _⟩ := ownsRow_slice hS.row
  obtain ⟨-, -, -, c3, c4, cf⟩ := hS.cells
  have hB0 : (w.alloc (.cells #[.int .i64 agent] 2)).heap[w.heap.size]? = some (.cells #[.int .i64 agent] 2 (0, 0)) := heap_alloc_new w _
  have hS0 := hS.still ((Turn.refl [] w).alloc (.cells #[.int .i64 agent] 2))
  have hnb : w.heap.size ∉ v.ownBlock.toList := fun h => by have := ownsRow_lt hS.row _ (by simpa using h); omega
  have hdel := deleteFunc_own 17 w.heap.size (fun r => decide (r.agent = agent)) v rows (others agent rows) rfl (w.alloc (.cells #[.int .i64 agent] 2)) hS0.row hl enter17 (tells17 hB0 hnb)
  have hT0 := (Turn.refl [] w).alloc (.cells #[.int .i64 agent] 2)
  have hle : (others agent rows).length ≤ rows.length := List.length_filter_le _ _
  subst hvs
  have HD := Lib.hid hdel; clear hdel
  have HS := Lib.hid hS; clear hS
  have HS0 := Lib.hid hS0; clear hS0
  have HB0 := Lib.hid hB0; clear hB0
  have HNB := Lib.hid hnb; clear hnb
  go_enter Try.func8, Try.ntmps8
  go_wp2_with fail
  refine HD.out.mono ?_
  rintro e w1 ⟨A, c, rfl, hT1, ho1, hob⟩
  have hng := HS.out.ne_row
  have hF1 : bp ∉ (Value.slice A0 rows.length cc0).ownBlock.toList := fun h => hng.1 (by simpa using h)
  have hF2 : bm ∉ (Value.slice A0 rows.length cc0).ownBlock.toList := fun h => hng.2 (by simpa using h)
  have r3 := (hT1.block bp (lt_of_heap HS0.out.at_) hF1).trans HS0.out.at_
  have rB := (hT1.block w.heap.size (by simp) HNB.out).trans HB0.out
  have r4 := HS0.out.map.turn hT1 hF2
  have hT3 : Turn (foot bp bm (.slice A0 rows.length cc0)) w w1 := (hT0.mono (G := foot bp bm (.slice A0 rows.length cc0)) (by simp)).trans hT1 (by intro x hx; left; simp only [foot, List.mem_cons]; exact .inr (.inr hx))
  have f3 : w1.cell? ⟨bp, 3, none⟩ = some (.slice A0 rows.length cc0) := by simp [World.cell?, r3]
  have ff : w1.frozen? ⟨bp, 3, none⟩ = false := by simp [World.frozen?, r3]
  obtain ⟨p1, p3, p4, p5, p6⟩ := put_rowv (T := 2) rB (by decide) r3 r4 hT3 ho1
  have P1 := Lib.hid p1; have P3 := Lib.hid p3; have P4 := Lib.hid p4; have P5 := Lib.hid p5; have P6 := Lib.hid p6
  have HOB := Lib.hid hob
  clear p1 p3 p4 p5 p6 hT3 hT1 hT0 r3 r4 rB hng ho1 hF1 hF2 hob c3 c4 cf
  go_wp2_with fail
  clear f3 ff
  generalize w1.setCell ⟨bp, 3, none⟩ (.slice A (others agent rows).length c) = w2 at P1 P3 P4 P5 P6
  have q4 : w2.cell? ⟨bp, 4, none⟩ = some (.map (some bm)) := by simp [World.cell?, P3.out]
  have qb : w2.cell? ⟨w.heap.size, 0, none⟩ = some (.int .i64 agent) := by simp [World.cell?, P1.out]
  go_still_tail 5, (by kernel_rfl)
  change wpList _ _ _ _ _ w2.drew
  have P1' : Hid (w2.drew.heap[w.heap.size]? = _) := P1.out
  have P3' : Hid (w2.drew.heap[bp]? = _) := P3.out
  have P4' : Hid (MapAt w2.drew bm (Value.int .i64) (Value.int .i64) last) := P4.out
  have P5' : Hid (Turn (foot bp bm (.slice A0 rows.length cc0)) w w2.drew) := P5.out.drew
  have P6' : Hid (w2.drew.ownsRow 0 51 5 (.slice A (others agent rows).length c) (others agent rows).length ((others agent rows).flatMap Row.cells)) := P6.out
  clear P1 P3 P4 P5 P6 q4 qb
  generalize w2.drew = w3 at P1' P3' P4' P5' P6'
  go_wp2_with (at_delete; refine wpList_delete_al rfl _ _ 45 2 rfl 2 2 mkey2 Try.underlying45 bm last P4'.out agent rfl rfl ?_; intro w4 hm4 ht4 hs4; have k3 := (ht4.block bp (lt_of_heap P3'.out) (by simpa using HS.out.ne_map)).trans P3'.out; have kc : w4.cell? ⟨bp, 3, none⟩ = some (.slice A (others agent rows).length c) := (by simp [World.cell?, k3]); have K3 := Lib.hid k3; have M4 := Lib.hid hm4; have T4 := Lib.hid ht4; clear k3 hm4 ht4 hs4)
  go_ret
  refine ⟨rfl, P5'.out.trans T4.out (by simp [foot]), _, ⟨K3.out, ownsRow_same P6'.out fun g hg => T4.out.block g (ownsRow_lt P6'.out g hg) ?_, M4.out⟩, HOB.out⟩
  intro hx
  simp only [List.mem_singleton] at hx
  subst hx
  rw [HOB.out] at hg
  exact HS.out.ne_row.2 hg

end Go.Proofs.Ythhgcoapohgiiaa
