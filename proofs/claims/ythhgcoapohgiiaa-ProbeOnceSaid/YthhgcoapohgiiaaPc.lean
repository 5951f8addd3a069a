/- Walks of the methods of package probe. -/
import Derived.Test.YthhgcoapohgiiaaPb
import Derived.Test.YthhgcoapohgiiaaKtri
namespace Go.Proofs.Ythhgcoapohgiiaa
open Go.RowKit

/-- Probes in memory: a block of five cells, the row of the probes that are out (v), the map of the last ones (bm). -/
structure PSt (w : World) (bp : Nat) (boot count most : Int) (rows : List Row) (last : List (Int × Int)) (v : Value) (bm : Nat) : Prop where
  at_ : w.heap[bp]? = some (.cells #[.int .i64 boot, .int .i64 count, .int .i64 most, v, .map (some bm)] 48 (0, 0))
  row : w.ownsRow 0 51 5 v rows.length (rows.flatMap Row.cells)
  map : MapAt w bm (Value.int .i64) (Value.int .i64) last

def foot (bp bm : Nat) (v : Value) : List Nat := bp :: bm :: v.ownBlock.toList

theorem PSt.ne_map {w : World} {bp bm : Nat} {boot count most : Int} {rows : List Row} {last : List (Int × Int)} {v : Value} (h : PSt w bp boot count most rows last v bm) : bp ≠ bm := by
  rintro rfl
  obtain ⟨es, c, h2, _⟩ := h.map
  rw [h.at_] at h2
  cases h2

theorem PSt.ne_row {w : World} {bp bm : Nat} {boot count most : Int} {rows : List Row} {last : List (Int × Int)} {v : Value} (h : PSt w bp boot count most rows last v bm) : v.ownBlock ≠ some bp ∧ v.ownBlock ≠ some bm := by
  rcases h.row.2 with ⟨rfl, _⟩ | ⟨g, cap, cur, rfl, _, hg, _⟩
  · exact ⟨by simp [Value.ownBlock], by simp [Value.ownBlock]⟩
  · refine ⟨fun e => ?_, fun e => ?_⟩
    · have : g = bp := by simpa [Value.ownBlock] using e
      subst this
      rw [h.at_] at hg
      cases hg
    · have : g = bm := by simpa [Value.ownBlock] using e
      subst this
      obtain ⟨es, c, h2, _⟩ := h.map
      rw [h2] at hg
      cases hg

theorem PSt.foot_lt {w : World} {bp bm : Nat} {boot count most : Int} {rows : List Row} {last : List (Int × Int)} {v : Value} (h : PSt w bp boot count most rows last v bm) : ∀ b ∈ foot bp bm v, b < w.heap.size := by
  intro b hb
  simp only [foot, List.mem_cons, Option.mem_toList] at hb
  rcases hb with rfl | rfl | hb
  · exact lt_of_heap h.at_
  · exact h.map.lt
  · exact ownsRow_lt h.row b hb

theorem PSt.turn {w w' : World} {F : List Nat} {bp bm : Nat} {boot count most : Int} {rows : List Row} {last : List (Int × Int)} {v : Value} (h : PSt w bp boot count most rows last v bm) (ht : Turn F w w') (hF : ∀ b ∈ foot bp bm v, b ∉ F) :
    PSt w' bp boot count most rows last v bm := by
  refine ⟨(ht.block bp (lt_of_heap h.at_) (hF bp (by simp [foot]))).trans h.at_, ownsRow_same h.row fun g hg => ht.block g (ownsRow_lt h.row g hg) (hF g (by simp [foot, hg])), h.map.turn ht (hF bm (by simp [foot]))⟩

/-- slices.Delete of one row of a row that is owned. -/
theorem delete_at (g n cap i : Nat) (a b : Int) (ha : a = (i : Int)) (hb : b = (i : Int) + 1) (rs : List Row) (w : World) (hown : w.ownsRow 0 51 5 (.slice (some ⟨g, 0, none⟩) n cap) n (rs.flatMap Row.cells)) (hn : n = rs.length) (hi : i < n) :
    Calls Try.prog 13 #[.slice (some ⟨g, 0, none⟩) n cap, .int .i64 a, .int .i64 b] w fun e w' => e = .returned (.slice (some ⟨g, 0, none⟩) (n - 1) cap) ∧ Turn [g] w w' ∧
      w'.ownsRow 0 51 5 (.slice (some ⟨g, 0, none⟩) (n - 1) cap) (n - 1) ((rs.eraseIdx i).flatMap Row.cells) := by
  obtain ⟨g', cap', cur, hv, hg, hnc, hcm, hcs, ht⟩ := ownsRow_block hown (by simp)
  simp only [Value.slice.injEq, Option.some.injEq, Addr.mk.injEq, and_true, true_and] at hv
  obtain ⟨rfl, rfl⟩ := hv
  subst ha hb
  have h := delete_any g n cap i (i + 1) cur w hg hnc (by simp only [maxLen] at hcm; omega) hcs (by rw [ht]; exact rows_oneCell rs) (by omega) (by omega)
  rw [show n - (i + 1 - i) = n - 1 by omega] at h
  simp only [Int.natCast_add, Int.cast_ofNat_Int] at h
  refine h.mono ?_
  rintro e w' ⟨rfl, hT, cur', hg', hcs', ht'⟩
  have hl2 : (rs.eraseIdx i).length = n - 1 := by rw [List.length_eraseIdx, if_pos (by omega), hn]
  refine ⟨rfl, hT, by rw [rows_length, hl2], .inr ⟨g, cap, cur', rfl, Nat.zero_le _, hg', by omega, hcm, hcs', ?_⟩⟩
  rw [ht', ht, List.eraseIdx_eq_take_drop_succ, List.flatMap_append, rows_take, rows_drop]
  congr 1
  rw [← ht, List.take_take, Nat.min_eq_left (by omega)]

theorem mkey2 : MKey Try.prog 2 (Value.int .i64) := MKey.int Try.underlying2

def sendBad (agent epoch now : Int) : Prop := agent < 0 ∨ 64 ≤ agent ∨ epoch < 1 ∨ 1099511627776 < epoch ∨ isTimeB now = false

theorem send_bad (bp : Nat) (agent epoch now : Int) (w : World) (h : sendBad agent epoch now) :
    Calls Try.prog 6 #[.pointer (some ⟨bp, 0, none⟩), .int .i64 agent, .int .i64 epoch, .int .i64 now] w fun e w' => e = .returned (.tuple #[.agg #[.int .i64 0, .int .i64 0], .int .i64 11]) ∧ Below w.heap.size w w' := by
  have hh : agent < 0 ∨ (0 ≤ agent ∧ 64 ≤ agent) ∨ (0 ≤ agent ∧ agent < 64 ∧ epoch < 1) ∨ (0 ≤ agent ∧ agent < 64 ∧ 1 ≤ epoch ∧ 1099511627776 < epoch) ∨ (0 ≤ agent ∧ agent < 64 ∧ 1 ≤ epoch ∧ epoch ≤ 1099511627776 ∧ isTimeB now = false) := by
    rcases h with h | h | h | h | h
    · omega
    · omega
    · omega
    · omega
    · by_cases a1 : agent < 0
      · exact .inl a1
      · by_cases a2 : 64 ≤ agent
        · exact .inr (.inl ⟨by omega, a2⟩)
        · by_cases a3 : epoch < 1
          · exact .inr (.inr (.inl ⟨by omega, by omega, a3⟩))
          · by_cases a4 : 1099511627776 < epoch
            · exact .inr (.inr (.inr (.inl ⟨by omega, by omega, by omega, a4⟩)))
            · exact .inr (.inr (.inr (.inr ⟨by omega, by omega, by omega, by omega, h⟩)))
  clear h
  rcases hh with h1 | ⟨h1, h2⟩ | ⟨h1, h2, h3⟩ | ⟨h1, h2, h3, h4⟩ | ⟨h1, h2, h3, h4, h5⟩
  all_goals
    go_enter Try.func6, Try.ntmps6
    go_wp2_with (go_at_call 12; refine (isTime_any _ _).mono ?_; rintro e w' ⟨rfl, rfl⟩)
    exact bodyPost_ret (v := .tuple #[.agg #[.int .i64 0, .int .i64 0], .int .i64 11]) (by simp [results, Try.results6, go_sem]) rfl ⟨rfl, (Below.refl _ _).alloc (Nat.le_refl _) _⟩

/-- The probes that are out behind a Send. -/
def sent (rows : List Row) (r : Row) (most : Int) : List Row := if ((rows ++ [r]).length : Int) > most then (rows ++ [r]).drop 1 else rows ++ [r]

/-- Behind the append of Send: what lies where. -/
theorem send_mid {bp bm : Nat} {boot count most agent epoch now : Int} {rows : List Row} {last : List (Int × Int)} {v : Value} {w w2 w3 : World} {gg cap : Nat} {o : Obj}
    (hS : PSt w bp boot count most rows last v bm) (hs2 : w2.heap.size = w.heap.size + 1 + 1) (hrd : w2.ownsRow 0 51 5 v rows.length (rows.flatMap Row.cells)) (ha : w2.heap[w.heap.size]? = some (.cells #[.int .i64 0, .int .i64 0] 31 (0, 0)))
    (hb : w2.heap[w.heap.size + 1]? = some (.cells #[.int .i64 boot, .int .i64 count] 31 (0, 0))) (hp : w2.heap[bp]? = some (.cells #[.int .i64 boot, .int .i64 (wrap64 (count + 1)), .int .i64 most, v, .map (some bm)] 48 (0, 0)))
    (hm : MapAt w2 bm (Value.int .i64) (Value.int .i64) (aput agent now last))
    (ht : Turn [bm] (((w.setCell ⟨bp, 1, none⟩ (.int .i64 (wrap64 (count + 1)))).alloc (.cells #[.int .i64 0, .int .i64 0] 31)).alloc (.cells #[.int .i64 boot, .int .i64 count] 31)) w2)
    (hg : (w2.alloc o).drew.grownBy w3 v.ownBlock) (hat : v.ownBlock = some gg ∨ gg = w2.heap.size + 1) (hown : w3.ownsRow 0 51 5 (.slice (some ⟨gg, 0, none⟩) (rows.length + 1) cap) (rows.length + 1) (rows.flatMap Row.cells ++ Row.cells ⟨boot, count, agent, epoch, now⟩)) :
    w3.heap[w.heap.size]? = some (.cells #[.int .i64 0, .int .i64 0] 31 (0, 0)) ∧ w3.heap[w.heap.size + 1]? = some (.cells #[.int .i64 boot, .int .i64 count] 31 (0, 0)) ∧
      w3.heap[bp]? = some (.cells #[.int .i64 boot, .int .i64 (wrap64 (count + 1)), .int .i64 most, v, .map (some bm)] 48 (0, 0)) ∧ MapAt w3 bm (Value.int .i64) (Value.int .i64) (aput agent now last) ∧ Turn (foot bp bm v) w w3 ∧
      (gg ≠ bp ∧ gg ≠ bm ∧ gg ≠ w.heap.size ∧ gg ≠ w.heap.size + 1) := by
  obtain ⟨hnr1, hnr2⟩ := hS.ne_row
  have hlt := ownsRow_lt hS.row
  have hbp := lt_of_heap hS.at_
  have hbm := hS.map.lt
  have hT : Turn v.ownBlock.toList (w2.alloc o) w3 := ⟨hg.os, hg.tape, hg.output, hg.size, fun k hk hF => hg.block k hk fun e => hF (by rw [← e]; simp)⟩
  have hT2 : Turn v.ownBlock.toList w2 w3 := ⟨hT.os, hT.tape, hT.output, Nat.le_trans (by simp) hT.size, fun k hk hF => (hT.block k (by simp; omega) hF).trans (Below.heap_alloc _ _ _ hk)⟩
  have h1 : w.heap.size ∉ v.ownBlock.toList := fun h => by have := hlt _ (by simpa using h); omega
  have h2 : w.heap.size + 1 ∉ v.ownBlock.toList := fun h => by have := hlt _ (by simpa using h); omega
  have h3 : bp ∉ v.ownBlock.toList := fun h => hnr1 (by simpa using h)
  have h4 : bm ∉ v.ownBlock.toList := fun h => hnr2 (by simpa using h)
  refine ⟨(hT2.block _ (by omega) h1).trans ha, (hT2.block _ (by omega) h2).trans hb, (hT2.block _ (by omega) h3).trans hp, hm.turn hT2 h4, ?_, ?_⟩
  · have hA : Turn [bp] w (((w.setCell ⟨bp, 1, none⟩ (.int .i64 (wrap64 (count + 1)))).alloc (.cells #[.int .i64 0, .int .i64 0] 31)).alloc (.cells #[.int .i64 boot, .int .i64 count] 31)) := ((Turn.setCell (Turn.refl _ _) (.inl (by simp)) _).alloc _).alloc _
    have hB : Turn (foot bp bm v) w w2 := (hA.mono (by simp [foot])).trans ht (by simp [foot])
    exact hB.trans hT2 (by intro x hx; left; simp [foot] at hx ⊢; simp [hx])
  · rcases hat with hat | hat
    · have := hlt _ hat
      refine ⟨?_, ?_, by omega, by omega⟩
      · rintro rfl; exact hnr1 hat
      · rintro rfl; exact hnr2 hat
    · refine ⟨by omega, by omega, by omega, by omega⟩

theorem sent_drop {rows : List Row} {r : Row} {most : Int} (h : most < (rows.length : Int) + 1) : sent rows r most = (rows ++ [r]).eraseIdx 0 ∧ (sent rows r most).length = rows.length := by
  have : sent rows r most = (rows ++ [r]).drop 1 := by unfold sent; rw [if_pos (by simp; omega)]
  rw [this]
  exact ⟨by cases rows <;> rfl, by simp⟩
theorem sent_keep {rows : List Row} {r : Row} {most : Int} (h : ¬ most < (rows.length : Int) + 1) : sent rows r most = rows ++ [r] := by
  unfold sent; rw [if_neg (by simp; omega)]

/-- The field of the row is written. -/
theorem put_row {bp bm gg n cap H : Nat} {boot c' most : Int} {last : List (Int × Int)} {rows : List Row} {v old : Value} {w w5 : World} {xs : Array Value} {T : TypeId}
    (h1 : w5.heap[H]? = some (.cells xs T (0, 0))) (hT : T ≠ 48) (h3 : w5.heap[bp]? = some (.cells #[.int .i64 boot, .int .i64 c', .int .i64 most, old, .map (some bm)] 48 (0, 0)))
    (h4 : MapAt w5 bm (Value.int .i64) (Value.int .i64) last) (h5 : Turn (foot bp bm v) w w5) (h6 : w5.ownsRow 0 51 5 (.slice (some ⟨gg, 0, none⟩) n cap) n (rows.flatMap Row.cells)) :
    let wf := w5.setCell ⟨bp, 3, none⟩ (.slice (some ⟨gg, 0, none⟩) n cap)
    wf.heap[H]? = some (.cells xs T (0, 0)) ∧ wf.heap[bp]? = some (.cells #[.int .i64 boot, .int .i64 c', .int .i64 most, .slice (some ⟨gg, 0, none⟩) n cap, .map (some bm)] 48 (0, 0)) ∧ MapAt wf bm (Value.int .i64) (Value.int .i64) last ∧ Turn (foot bp bm v) w wf ∧
      wf.ownsRow 0 51 5 (.slice (some ⟨gg, 0, none⟩) n cap) n (rows.flatMap Row.cells) := by
  intro wf
  have hbH : H ≠ bp := by rintro rfl; rw [h1] at h3; cases h3; exact hT rfl
  obtain ⟨g', cap', cur, hv, hg, hnc, hcm, hcs, ht⟩ := ownsRow_block h6 (by simp)
  simp only [Value.slice.injEq, Option.some.injEq, Addr.mk.injEq, and_true, true_and] at hv
  obtain ⟨rfl, rfl⟩ := hv
  have hgb : gg ≠ bp := by rintro rfl; rw [h3] at hg; cases hg
  have hmb : bm ≠ bp := by rintro rfl; obtain ⟨es, c, h, _⟩ := h4; rw [h3] at h; cases h
  have kx : ∀ k, k ≠ bp → wf.heap[k]? = w5.heap[k]? := fun k ha => Below.heap_setCell _ _ _ _ (by simpa using ha)
  refine ⟨(kx H hbH).trans h1, by rw [setCell_heap h3]; rfl, h4.same (kx bm hmb), h5.setCell (.inl (by simp [foot])) _, ownsRow_same h6 fun g hg' => ?_⟩
  simp only [Value.ownBlock, Option.some.injEq] at hg'
  subst hg'
  exact kx gg hgb

/-- Send's end. -/
theorem send_end {bp bm gg n cap n1 cap1 : Nat} {boot count c' most : Int} {last : List (Int × Int)} {rows : List Row} {v : Value} {w w5 : World}
    (h1 : w5.heap[w.heap.size]? = some (.cells #[.int .i64 0, .int .i64 0] 31 (0, 0))) (h3 : w5.heap[bp]? = some (.cells #[.int .i64 boot, .int .i64 c', .int .i64 most, .slice (some ⟨gg, 0, none⟩) n cap, .map (some bm)] 48 (0, 0)))
    (h4 : MapAt w5 bm (Value.int .i64) (Value.int .i64) last) (h5 : Turn (foot bp bm v) w w5) (h6 : w5.ownsRow 0 51 5 (.slice (some ⟨gg, 0, none⟩) n cap) n (rows.flatMap Row.cells))
    (h7 : ∃ g, (Value.slice (some ⟨gg, 0, none⟩) n1 cap1).ownBlock = some g ∧ (v.ownBlock = some g ∨ w.heap.size ≤ g)) (hn : n = rows.length) :
    let wf := (w5.setCell ⟨w.heap.size, 0, none⟩ (.int .i64 boot)).setCell ⟨w.heap.size, 1, none⟩ (.int .i64 count)
    wf.cell? ⟨w.heap.size, 0, none⟩ = some (.int .i64 boot) ∧ wf.cell? ⟨w.heap.size, 1, none⟩ = some (.int .i64 count) ∧ Turn (foot bp bm v) w wf ∧ ∃ v', PSt wf bp boot c' most rows last v' bm ∧ (v'.ownBlock = v.ownBlock ∨ ∃ g, w.heap.size ≤ g ∧ v'.ownBlock = some g) := by
  subst hn
  intro wf
  have hbH : bp ≠ w.heap.size := by rintro rfl; rw [h1] at h3; cases h3
  obtain ⟨g', cap', cur, hv, hg, hnc, hcm, hcs, ht⟩ := ownsRow_block h6 (by simp)
  simp only [Value.slice.injEq, Option.some.injEq, Addr.mk.injEq, and_true, true_and] at hv
  obtain ⟨rfl, rfl⟩ := hv
  have hgH : gg ≠ w.heap.size := by rintro rfl; rw [h1] at hg; cases hg
  have hmH : bm ≠ w.heap.size := by rintro rfl; obtain ⟨es, c, h, _⟩ := h4; rw [h1] at h; cases h
  have k1 : wf.heap[w.heap.size]? = some (.cells #[.int .i64 boot, .int .i64 count] 31 (0, 0)) := by
    rw [setCell_heap (setCell_heap h1 _)]; rfl
  have kx : ∀ k, k ≠ w.heap.size → wf.heap[k]? = w5.heap[k]? := fun k hb => by
    rw [Below.heap_setCell _ _ _ _ (by simpa using hb), Below.heap_setCell _ _ _ _ (by simpa using hb)]
  refine ⟨by simp [World.cell?, k1], by simp [World.cell?, k1], (h5.setCell (.inr (Nat.le_refl _)) _).setCell (.inr (Nat.le_refl _)) _, .slice (some ⟨gg, 0, none⟩) rows.length cap, ⟨(kx bp hbH).trans h3, ?_, h4.same (kx bm hmH)⟩, ?_⟩
  · exact ownsRow_same h6 fun g hg' => by
      simp only [Value.ownBlock, Option.some.injEq] at hg'
      subst hg'
      exact kx gg hgH
  · obtain ⟨g, hg', h⟩ := h7
    simp only [Value.ownBlock, Option.some.injEq] at hg'
    subst hg'
    rcases h with h | h
    · left; rw [h]; rfl
    · right; exact ⟨gg, h, rfl⟩

set_option maxHeartbeats 1000000 in
theorem send_ok (bp bm : Nat) (boot count most agent epoch now : Int) (rows : List Row) (last : List (Int × Int)) (v : Value) (w : World) (h0 : 0 ≤ agent) (h1 : agent < 64) (h2 : 1 ≤ epoch) (h3 : epoch ≤ 1099511627776) (h4 : isTimeB now = true)
    (hS : PSt w bp boot count most rows last v bm) (hl : rows.length ≤ 1000000) :
    Calls Try.prog 6 #[.pointer (some ⟨bp, 0, none⟩), .int .i64 agent, .int .i64 epoch, .int .i64 now] w fun e w' => e = .returned (.tuple #[.agg #[.int .i64 boot, .int .i64 count], .int .i64 0]) ∧ Turn (foot bp bm v) w w' ∧
      ∃ v', PSt w' bp boot (wrap64 (count + 1)) most (sent rows ⟨boot, count, agent, epoch, now⟩ most) (aput agent now last) v' bm ∧ (v'.ownBlock = v.ownBlock ∨ ∃ g, w.heap.size ≤ g ∧ v'.ownBlock = some g) := by
  obtain ⟨i0, hi, hz0, hz1, hz2⟩ := info_parts info51
  have hbp := lt_of_heap hS.at_
  have hbm := hS.map.lt
  have hne := hS.ne_map
  obtain ⟨hnr1, hnr2⟩ := hS.ne_row
  have c0 : w.cell? ⟨bp, 0, none⟩ = some (.int .i64 boot) := by simp [World.cell?, hS.at_]
  have c1 : w.cell? ⟨bp, 1, none⟩ = some (.int .i64 count) := by simp [World.cell?, hS.at_]
  have c2 : w.cell? ⟨bp, 2, none⟩ = some (.int .i64 most) := by simp [World.cell?, hS.at_]
  have c3 : w.cell? ⟨bp, 3, none⟩ = some v := by simp [World.cell?, hS.at_]
  have c4 : w.cell? ⟨bp, 4, none⟩ = some (.map (some bm)) := by simp [World.cell?, hS.at_]
  have fz : ∀ o, w.frozen? ⟨bp, o, none⟩ = false := by intro o; simp [World.frozen?, hS.at_]
  have hm0 : MapAt (((w.setCell ⟨bp, 1, none⟩ (.int .i64 (wrap64 (count + 1)))).alloc (.cells #[.int .i64 0, .int .i64 0] 31)).alloc (.cells #[.int .i64 boot, .int .i64 count] 31)) bm (Value.int .i64) (Value.int .i64) last :=
    hS.map.turn (F := [bp]) (((Turn.setCell (Turn.refl _ _) (.inl (by simp)) _).alloc _).alloc _) (by simpa using Ne.symm hne)
  have HM := Lib.hid hm0; clear hm0
  have HS := Lib.hid hS; clear hS
  have HN1 := Lib.hid hnr1; clear hnr1
  have HN2 := Lib.hid hnr2; clear hnr2
  have HNE := Lib.hid hne; clear hne
  go_enter Try.func6, Try.ntmps6
  go_wp2_with (first | (go_at_call 12; refine (isTime_any _ _).mono ?_; rintro e w' ⟨rfl, rfl⟩) | (at_mapUpdate; refine wpList_mapUpdate_al rfl _ _ _ 45 rfl 2 2 mkey2 Try.underlying45 bm last HM.out agent now rfl rfl rfl ?_; intro w1 hm1 ht1 hs1))
  clear c0 c1 c2 c3 c4 fz
  simp only [World.size_alloc, World.size_setCell] at hs1
  have hb1 : w1.heap[bp]? = some (.cells #[.int .i64 boot, .int .i64 (wrap64 (count + 1)), .int .i64 most, v, .map (some bm)] 48 (0, 0)) := by
    rw [ht1.block bp (by simp; omega) (by simpa using HNE.out), Below.heap_alloc _ _ _ (by simp; omega), Below.heap_alloc _ _ _ (by simp; omega), setCell_heap HS.out.at_]
    rfl
  have hA1 : w1.heap[w.heap.size]? = some (.cells #[.int .i64 0, .int .i64 0] 31 (0, 0)) := by
    rw [ht1.block _ (by simp; omega) (by simp; omega), Below.heap_alloc _ _ _ (by simp)]
    have := heap_alloc_new (w.setCell ⟨bp, 1, none⟩ (.int .i64 (wrap64 (count + 1)))) (.cells #[.int .i64 0, .int .i64 0] 31)
    simpa using this
  have hB1 : w1.heap[w.heap.size + 1]? = some (.cells #[.int .i64 boot, .int .i64 count] 31 (0, 0)) := by
    rw [ht1.block _ (by simp) (by simp; omega)]
    have := heap_alloc_new ((w.setCell ⟨bp, 1, none⟩ (.int .i64 (wrap64 (count + 1)))).alloc (.cells #[.int .i64 0, .int .i64 0] 31)) (.cells #[.int .i64 boot, .int .i64 count] 31)
    simpa using this
  have hr1 : w1.ownsRow 0 51 5 v rows.length (rows.flatMap Row.cells) := by
    refine ownsRow_same HS.out.row fun g hg => ?_
    have hgl := ownsRow_lt HS.out.row g hg
    rw [ht1.block g (by simp; omega) (by intro h; simp at h; subst h; exact HN2.out hg), Below.heap_alloc _ _ _ (by simp; omega), Below.heap_alloc _ _ _ (by simp; omega), Below.heap_setCell _ _ _ _ (by rintro rfl; exact HN1.out hg)]
  have d0 : w1.cell? ⟨w.heap.size + 1, 0, none⟩ = some (.int .i64 boot) := by simp [World.cell?, hB1]
  have d1 : w1.cell? ⟨w.heap.size + 1, 1, none⟩ = some (.int .i64 count) := by simp [World.cell?, hB1]
  have c3 : w1.cell? ⟨bp, 3, none⟩ = some v := by simp [World.cell?, hb1]
  have f3 : w1.frozen? ⟨bp, 3, none⟩ = false := by simp [World.frozen?, hb1]
  have hbp1 : bp < w1.heap.size := by omega
  have hB1l : w.heap.size + 1 < w1.heap.size := by omega
  have hn3 : v.ownBlock ≠ some (w.heap.size + 1) := fun e => by have := ownsRow_lt HS.out.row _ e; omega
  have HN3 := Lib.hid hn3; clear hn3
  have HR1 := Lib.hid hr1; clear hr1
  have HA1 := Lib.hid hA1; clear hA1
  have HB1 := Lib.hid hB1; clear hB1
  have HBP1 := Lib.hid hb1; clear hb1
  have HS1 := Lib.hid hs1; clear hs1
  go_region_law (first | (refine step_append_lies _ (by rfl) _ _ _ (by rfl) 0 51 i0 _ 5 40 Try.underlying46 hi hz0 hz1 hz2 rfl (by omega) v rows.length (rows.flatMap Row.cells) (by rfl) ((HR1.out.alloc _).drew) ⟨w1.heap.size, 0, none⟩ 1 1 (Row.cells ⟨boot, count, agent, epoch, now⟩) (by rfl) (by rfl) (World.news_of_block (cs := #[.int .i64 boot, .int .i64 count, .int .i64 agent, .int .i64 epoch, .int .i64 now]) (t := 51) (fr := (0, 0)) (heap_alloc_new w1 _)) (by simp [Row.cells, Value.oneCell']) (by omega) (by unfold maxLen; omega) (by omega) (by omega) (w1.heap.size + 1) (by simp) ?_; intro gg cap w3 hown1 hgrow hat hlt; obtain ⟨K1, K2, K3, K4, K5, K6⟩ := send_mid HS.out HS1.out HR1.out HA1.out HB1.out HBP1.out hm1 ht1 hgrow hat hown1; have k3 : w3.cell? ⟨bp, 3, none⟩ = some v := (by simp [World.cell?, K3]); have kf : w3.frozen? ⟨bp, 3, none⟩ = false := (by simp [World.frozen?, K3]); have KK1 := Lib.hid K1; have KK2 := Lib.hid K2; have KK3 := Lib.hid K3; have KK4 := Lib.hid K4; have KK5 := Lib.hid K5; have KK6 := Lib.hid K6; have HO1 := Lib.hid hown1; have HAT := Lib.hid hat; clear K1 K2 K3 K4 K5 K6 hown1 hgrow hat hlt))
  all_goals
    have q1 : (w3.setCell ⟨bp, 3, none⟩ (.slice (some ⟨gg, 0, none⟩) (rows.length + 1) cap)).heap[w.heap.size]? = some (.cells #[.int .i64 0, .int .i64 0] 31 (0, 0)) := by
      rw [Below.heap_setCell _ _ _ _ (by simp; omega)]; exact KK1.out
    have q2 : (w3.setCell ⟨bp, 3, none⟩ (.slice (some ⟨gg, 0, none⟩) (rows.length + 1) cap)).heap[w.heap.size + 1]? = some (.cells #[.int .i64 boot, .int .i64 count] 31 (0, 0)) := by
      rw [Below.heap_setCell _ _ _ _ (by simp; omega)]; exact KK2.out
    have q3 : (w3.setCell ⟨bp, 3, none⟩ (.slice (some ⟨gg, 0, none⟩) (rows.length + 1) cap)).heap[bp]? = some (.cells #[.int .i64 boot, .int .i64 (wrap64 (count + 1)), .int .i64 most, .slice (some ⟨gg, 0, none⟩) (rows.length + 1) cap, .map (some bm)] 48 (0, 0)) := by
      rw [setCell_heap KK3.out]; rfl
    have q4 : MapAt (w3.setCell ⟨bp, 3, none⟩ (.slice (some ⟨gg, 0, none⟩) (rows.length + 1) cap)) bm (Value.int .i64) (Value.int .i64) (aput agent now last) :=
      KK4.out.turn (F := [bp]) ((Turn.refl _ _).setCell (.inl (by simp)) _) (by simpa using Ne.symm HNE.out)
    have q5 : Turn (foot bp bm v) w (w3.setCell ⟨bp, 3, none⟩ (.slice (some ⟨gg, 0, none⟩) (rows.length + 1) cap)) := KK5.out.setCell (.inl (by simp [foot])) _
    have q6 : (w3.setCell ⟨bp, 3, none⟩ (.slice (some ⟨gg, 0, none⟩) (rows.length + 1) cap)).ownsRow 0 51 5 (.slice (some ⟨gg, 0, none⟩) (rows.length + 1) cap) (rows.length + 1) (rows.flatMap Row.cells ++ Row.cells ⟨boot, count, agent, epoch, now⟩) :=
      ownsRow_same HO1.out fun g hg => Below.heap_setCell _ _ _ _ (by have h := KK6.out.1; simp [Value.ownBlock] at hg; subst hg; exact h)
    clear k3 kf
    generalize w3.setCell ⟨bp, 3, none⟩ (.slice (some ⟨gg, 0, none⟩) (rows.length + 1) cap) = w4 at q1 q2 q3 q4 q5 q6
    have hfr : ∃ g, (Value.slice (some ⟨gg, 0, none⟩) (rows.length + 1) cap).ownBlock = some g ∧ (v.ownBlock = some g ∨ w.heap.size ≤ g) := ⟨gg, rfl, by
      rcases HAT.out with h | h
      · exact .inl h
      · right; have := HS1.out; omega⟩
    have hne6 := KK6.out
    clear KK1 KK2 KK3 KK4 KK5 KK6 HO1 HAT HS1 HBP1 HA1 HB1 HR1 hbp1 hB1l d0 d1 c3 f3 hm1 ht1
    have c2 : w4.cell? ⟨bp, 2, none⟩ = some (.int .i64 most) := by simp [World.cell?, q3]
    have c3 : w4.cell? ⟨bp, 3, none⟩ = some (.slice (some ⟨gg, 0, none⟩) (rows.length + 1) cap) := by simp [World.cell?, q3]
    have a0 : w4.cell? ⟨w.heap.size, 0, none⟩ = some (.int .i64 0) := by simp [World.cell?, q1]
    have a1 : w4.cell? ⟨w.heap.size, 1, none⟩ = some (.int .i64 0) := by simp [World.cell?, q1]
    have b0 : w4.cell? ⟨w.heap.size + 1, 0, none⟩ = some (.int .i64 boot) := by simp [World.cell?, q2]
    have b1 : w4.cell? ⟨w.heap.size + 1, 1, none⟩ = some (.int .i64 count) := by simp [World.cell?, q2]
    have fa : ∀ o, w4.frozen? ⟨w.heap.size, o, none⟩ = false := by intro o; simp [World.frozen?, q1]
    have Q1 := Lib.hid q1
    have Q2 := Lib.hid q2
    have Q3 := Lib.hid q3
    have Q4 := Lib.hid q4
    have Q5 := Lib.hid q5
    have Q6 := Lib.hid q6
    have Q7 := Lib.hid hfr
    have Q8 := Lib.hid hne6
    clear q1 q2 q3 q4 q5 q6 hfr hne6
    by_cases hm : most < (rows.length : Int) + 1
    · have hdel := fun nq : Nat => delete_at gg (rows.length + 1) cap 0 0 1 rfl rfl (rows ++ [⟨boot, count, agent, epoch, now⟩]) (w4.drewN nq) (by rw [List.flatMap_append, List.flatMap_cons, List.flatMap_nil, List.append_nil]; exact Q6.out) (by simp) (by omega)
      have HD := Lib.hid hdel; clear hdel
      go_wp2_with fail
      go_quiet (fail)
      go_wp2_with fail
      refine (HD.out nq).mono ?_
      rintro e w5 ⟨rfl, hT5, ho5⟩
      have r1 : w5.heap[w.heap.size]? = some (.cells #[.int .i64 0, .int .i64 0] 31 (0, 0)) := (hT5.block _ (by have := lt_of_heap Q1.out; simpa using this) (by simpa using Ne.symm Q8.out.2.2.1)).trans Q1.out
      have r2 : w5.heap[w.heap.size + 1]? = some (.cells #[.int .i64 boot, .int .i64 count] 31 (0, 0)) := (hT5.block _ (by have := lt_of_heap Q2.out; simpa using this) (by simpa using Ne.symm Q8.out.2.2.2)).trans Q2.out
      have r3 : w5.heap[bp]? = some (.cells #[.int .i64 boot, .int .i64 (wrap64 (count + 1)), .int .i64 most, .slice (some ⟨gg, 0, none⟩) (rows.length + 1) cap, .map (some bm)] 48 (0, 0)) := (hT5.block _ (by have := lt_of_heap Q3.out; simpa using this) (by simpa using Ne.symm Q8.out.1)).trans Q3.out
      have r4 : MapAt w5 bm (Value.int .i64) (Value.int .i64) (aput agent now last) := Q4.out.same (hT5.block _ (by have := Q4.out.lt; simpa using this) (by simpa using Ne.symm Q8.out.2.1))
      have r5 : Turn (foot bp bm v) w w5 := (Q5.out.drewN nq).trans hT5 (by
        intro x hx
        simp at hx
        subst hx
        obtain ⟨g', hg', h⟩ := Q7.out
        simp only [Value.ownBlock, Option.some.injEq] at hg'
        subst hg'
        rcases h with h | h
        · left; simp [foot, h]
        · right; exact h)
      have k3 : w5.cell? ⟨bp, 3, none⟩ = some (.slice (some ⟨gg, 0, none⟩) (rows.length + 1) cap) := by simp [World.cell?, r3]
      have kf : w5.frozen? ⟨bp, 3, none⟩ = false := by simp [World.frozen?, r3]
      have a0' : w5.cell? ⟨w.heap.size, 0, none⟩ = some (.int .i64 0) := by simp [World.cell?, r1]
      have a1' : w5.cell? ⟨w.heap.size, 1, none⟩ = some (.int .i64 0) := by simp [World.cell?, r1]
      have b0' : w5.cell? ⟨w.heap.size + 1, 0, none⟩ = some (.int .i64 boot) := by simp [World.cell?, r2]
      have b1' : w5.cell? ⟨w.heap.size + 1, 1, none⟩ = some (.int .i64 count) := by simp [World.cell?, r2]
      have fa' : ∀ o, w5.frozen? ⟨w.heap.size, o, none⟩ = false := by intro o; simp [World.frozen?, r1]
      clear c2 c3 a0 a1 b0 b1 fa
      have R1 := Lib.hid r1
      have R3 := Lib.hid r3
      have R4 := Lib.hid r4
      have R5 := Lib.hid r5
      have R6 := Lib.hid ho5
      clear r1 r2 r3 r4 r5 ho5 hT5
      go_wp2_with fail
      obtain ⟨hsd, hsl⟩ := sent_drop (r := ⟨boot, count, agent, epoch, now⟩) hm
      obtain ⟨p1, p3, p4, p5, p6⟩ := put_row (T := 31) R1.out (by decide) R3.out R4.out R5.out R6.out
      simp only [Nat.add_sub_cancel] at p1 p3 p4 p5 p6 ⊢
      rw [← hsd] at p6
      obtain ⟨e0, e1, eT, v', eP, eO⟩ := send_end (count := count) p1 p3 p4 p5 p6 Q7.out hsl.symm
      clear p1 p3 p4 p5 p6
      generalize ((w5.setCell ⟨bp, 3, none⟩ (.slice (some ⟨gg, 0, none⟩) rows.length cap)).setCell ⟨w.heap.size, 0, none⟩ (.int .i64 boot)).setCell ⟨w.heap.size, 1, none⟩ (.int .i64 count) = wf at e0 e1 eT eP ⊢
      exact bodyPost_ret (v := .tuple #[.agg #[.int .i64 boot, .int .i64 count], .int .i64 0]) (by simp [results, Try.results6, go_sem, e0, e1]) rfl ⟨rfl, eT, v', eP, eO⟩
    · go_wp2_with fail
      go_quiet (fail)
      go_wp2_with fail
      have hsk := sent_keep (rows := rows) (most := most) (r := ⟨boot, count, agent, epoch, now⟩) (by omega)
      have q6' : (w4.drewN nq).ownsRow 0 51 5 (.slice (some ⟨gg, 0, none⟩) (rows.length + 1) cap) (rows.length + 1) ((sent rows ⟨boot, count, agent, epoch, now⟩ most).flatMap Row.cells) := by
        rw [hsk, List.flatMap_append, List.flatMap_cons, List.flatMap_nil, List.append_nil]; exact Q6.out
      obtain ⟨e0, e1, eT, v', eP, eO⟩ := send_end (w5 := w4.drewN nq) (count := count) Q1.out Q3.out Q4.out (Q5.out.drewN nq) q6' Q7.out (by rw [hsk]; simp)
      generalize ((w4.drewN nq).setCell ⟨w.heap.size, 0, none⟩ (.int .i64 boot)).setCell ⟨w.heap.size, 1, none⟩ (.int .i64 count) = wf at e0 e1 eT eP ⊢
      exact bodyPost_ret (v := .tuple #[.agg #[.int .i64 boot, .int .i64 count], .int .i64 0]) (by simp [results, Try.results6, go_sem, e0, e1]) rfl ⟨rfl, eT, v', eP, eO⟩

end Go.Proofs.Ythhgcoapohgiiaa
