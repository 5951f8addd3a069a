/- The walk of slices.DeleteFunc at package probe's rows. -/
import Derived.Test.YthhgcoapohgiiaaPa
namespace Go.Proofs.Ythhgcoapohgiiaa
open Go.RowKit

theorem deleteFunc_nil (fv : Value) (w : World) :
    Calls Try.prog 16 #[.slice none 0 0, fv] w fun e w' => e = .returned (.slice none 0 0) ∧ w = w' := by
  go_enter Try.func16, Try.ntmps16
  go_wp2_with (go_at_call 14; refine (indexFunc_nil _ _).mono ?_; rintro e w' ⟨rfl, rfl⟩)
  go_ret
  exact ⟨rfl, rfl⟩

/-- Row j, out of what is still to be looked at. -/
theorem row_behind {w : World} {g j : Nat} {rs : List Row} {cur : Array Value} (hg : w.heap[g]? = some (.cells cur 51 (0, 0))) (ht : (cur.toList.take (rs.length * 5)).drop (j * 5) = (rs.drop j).flatMap Row.cells) (h : j < rs.length) : RowIn w g (j * 5) rs[j] := by
  have h1 : ∀ k, k < 5 → w.cell? ⟨g, j * 5 + k, none⟩ = (rs[j].cells)[k]? := by
    intro k hk
    have h2 : ((rs.drop j).flatMap Row.cells)[k]? = (rs[j].cells)[k]? := by
      rw [List.drop_eq_getElem_cons h, List.flatMap_cons]
      exact List.getElem?_append_left hk
    rw [← h2, ← ht, List.getElem?_drop, List.getElem?_take, if_pos (by omega)]
    simp [World.cell?, hg]
  exact ⟨h1 0 (by omega), h1 1 (by omega), h1 2 (by omega), h1 3 (by omega), h1 4 (by omega)⟩

/-- The rows kept of the first j. -/
def keptOf (p : Row → Bool) (rs : List Row) (j : Nat) : List Row := (rs.take j).filter fun r => !p r

theorem keptOf_no {p : Row → Bool} {rs : List Row} {j : Nat} (h : j < rs.length) (hp : p rs[j] = true) : keptOf p rs (j + 1) = keptOf p rs j := by
  unfold keptOf
  rw [List.take_succ_eq_append_getElem h, List.filter_append]
  simp [hp]
theorem keptOf_yes {p : Row → Bool} {rs : List Row} {j : Nat} (h : j < rs.length) (hp : p rs[j] = false) : keptOf p rs (j + 1) = keptOf p rs j ++ [rs[j]] := by
  unfold keptOf
  rw [List.take_succ_eq_append_getElem h, List.filter_append]
  simp [hp]
theorem keptOf_all {p : Row → Bool} {rs : List Row} {j : Nat} (hj : j ≤ rs.length) (h : ∀ i (hi : i < j), p (rs[i]'(by omega)) = false) : keptOf p rs j = rs.take j := by
  unfold keptOf
  refine List.filter_eq_self.2 fun r hr => ?_
  obtain ⟨i, hi, rfl⟩ := List.getElem_of_mem hr
  rw [List.length_take] at hi
  rw [List.getElem_take, h i (by omega)]
  rfl
theorem keptOf_le (p : Row → Bool) (rs : List Row) (j : Nat) : (keptOf p rs j).length ≤ j := by
  unfold keptOf
  exact Nat.le_trans (List.length_filter_le _ _) (by rw [List.length_take]; omega)

/-- What one round's store does to the cells. -/
theorem del_step {cur : List Value} {p : Row → Bool} {rs : List Row} {cap j : Nat} (hcs : cur.length = cap * 5) (hl : rs.length ≤ cap) (hj : j < rs.length) (hlt : (keptOf p rs j).length < j)
    (ht : cur.take ((keptOf p rs j).length * 5) = (keptOf p rs j).flatMap Row.cells) (hd : (cur.take (rs.length * 5)).drop (j * 5) = (rs.drop j).flatMap Row.cells) (hp : p rs[j] = false) :
    let c2 := cur.take ((keptOf p rs j).length * 5) ++ rs[j].cells ++ cur.drop ((keptOf p rs j).length * 5 + 5)
    c2.length = cap * 5 ∧ c2.take ((keptOf p rs (j + 1)).length * 5) = (keptOf p rs (j + 1)).flatMap Row.cells ∧ (c2.take (rs.length * 5)).drop ((j + 1) * 5) = (rs.drop (j + 1)).flatMap Row.cells ∧ (keptOf p rs (j + 1)).length < j + 1 := by
  have h5 : rs[j].cells.length = 5 := rfl
  have hk := keptOf_yes hj hp
  have hkl : (keptOf p rs (j + 1)).length = (keptOf p rs j).length + 1 := by rw [hk]; simp
  generalize hm : (keptOf p rs j).length = m at *
  have htm : (cur.take (m * 5)).length = m * 5 := by rw [List.length_take, hcs]; omega
  have h6 : (cur.take (m * 5) ++ rs[j].cells).length = (m + 1) * 5 := by rw [List.length_append, htm, h5]; omega
  refine ⟨?_, ?_, ?_, by omega⟩
  · rw [List.length_append, h6, List.length_drop, hcs]; omega
  · rw [hkl, ← h6, List.take_left, hk, ht]
    simp
  · have e1 : (rs.drop (j + 1)).flatMap Row.cells = ((cur.take (rs.length * 5)).drop (j * 5)).drop 5 := by
      rw [hd, List.drop_eq_getElem_cons hj, List.flatMap_cons, ← h5, List.drop_left]
    rw [e1, List.drop_drop, show j * 5 + 5 = (j + 1) * 5 by omega, List.drop_take, List.drop_take]
    congr 1
    rw [show (j + 1) * 5 = (cur.take (m * 5) ++ rs[j].cells).length + (j - m) * 5 by rw [h6]; omega, ← List.drop_drop, List.drop_left, List.drop_drop]
    congr 1
    rw [h6]; omega

theorem box_cells {w w1 : World} {o : Obj} (h : Below (w.alloc o).heap.size (w.alloc o) w1) : w1.heap[w.heap.size]? = some o :=
  (h.block w.heap.size (by simp)).trans (heap_alloc_new w o)

/-- The row, when the first j rows have been looked at. -/
def DelSt (g cap : Nat) (p : Row → Bool) (rs : List Row) (j : Nat) (cur1 : Array Value) (wr : World) : Prop :=
  wr.heap[g]? = some (.cells cur1 51 (0, 0)) ∧ cur1.toList.length = cap * 5 ∧ cur1.toList.take ((keptOf p rs j).length * 5) = (keptOf p rs j).flatMap Row.cells ∧ (cur1.toList.take (rs.length * 5)).drop (j * 5) = (rs.drop j).flatMap Row.cells ∧ (keptOf p rs j).length < j

set_option maxHeartbeats 1000000 in
theorem deleteFunc_any (f B g cap : Nat) (p : Row → Bool) (rs : List Row) (cur : Array Value) (w : World) (hg : w.heap[g]? = some (.cells cur 51 (0, 0))) (hcs : cur.size = cap * 5) (ht : cur.toList.take (rs.length * 5) = rs.flatMap Row.cells) (hl : rs.length ≤ cap) (hlb : rs.length ≤ 9223372036854775000) (hcap : cap ≤ 9223372036854775807)
    (eg : ∀ args w, (callFunc f args).run Try.prog w = .ok (.enter f args) w) (hf : Tells [g] w f B p) :
    Calls Try.prog 16 #[.slice (some ⟨g, 0, none⟩) rs.length cap, .func (.func f) #[] #[.pointer (some ⟨B, 0, none⟩)]] w fun e w' => e = .returned (.slice (some ⟨g, 0, none⟩) (rs.filter fun r => !p r).length cap) ∧ Turn [g] w w' ∧
      ∃ cur', w'.heap[g]? = some (.cells cur' 51 (0, 0)) ∧ cur'.size = cap * 5 ∧ cur'.toList.take ((rs.filter fun r => !p r).length * 5) = (rs.filter fun r => !p r).flatMap Row.cells := by
  have hgl := lt_of_heap hg
  have hidx := indexFunc_any f B g cap p rs cur w hg ht (by omega) eg (fun r W h => hf r W (h.mono (by simp)))
  have HI := Lib.hid hidx; clear hidx
  have HF := Lib.hid hf; clear hf
  have HG := Lib.hid hg; clear hg
  have HT := Lib.hid ht; clear ht
  have HS := Lib.hid hcs; clear hcs
  have hall : keptOf p rs rs.length = rs.filter fun r => !p r := by unfold keptOf; rw [List.take_length]
  have HA := Lib.hid hall; clear hall
  cases hidx : rs.findIdx? p with
  | none =>
    have hk : idxB p rs = -1 := by simp [idxB, hidx]
    have hno : (rs.filter fun r => !p r) = rs := List.filter_eq_self.2 fun r hr => by simp [List.findIdx?_eq_none_iff.1 hidx r hr]
    have HN := Lib.hid hno; clear hno hidx
    have HK := Lib.hid hk; clear hk
    go_enter Try.func16, Try.ntmps16
    go_wp2_with fail
    refine HI.out.mono ?_
    rintro e w1 ⟨rfl, hb⟩
    rw [HK.out]
    go_wp2
    go_ret
    rw [HN.out]
    exact ⟨rfl, hb.mono (by simp), cur, (hb.block g hgl (by simp)).trans HG.out, HS.out, HT.out⟩
  | some i =>
    obtain ⟨hi, hpi, hbi⟩ := List.findIdx?_eq_some_iff_getElem.1 hidx
    have hk : idxB p rs = i := by simp [idxB, hidx]
    have hki : keptOf p rs (i + 1) = rs.take i := by
      rw [keptOf_no hi hpi, keptOf_all (by omega) fun k hk => by simpa using hbi k hk]
    have HKI := Lib.hid hki; clear hki hbi hidx
    have HK := Lib.hid hk; clear hk
    have HPI := Lib.hid hpi; clear hpi
    go_enter Try.func16, Try.ntmps16
    go_wp2_with fail
    refine HI.out.mono ?_
    rintro e w1 ⟨rfl, hb⟩
    rw [HK.out]
    have hne : ((i : Int) == -1) = false := by simp
    have hT1 : Turn [g] w w1 := hb.mono (by simp)
    have hG1 := (hb.block g hgl (by simp)).trans HG.out
    have HG1 := Lib.hid hG1; clear hG1
    clear hb
    go_wp2
    go_loopw [5, 6] (fun a b wr => ∃ (j : Nat) (cur1 : Array Value), j ≤ rs.length ∧ a = .int .i64 ((keptOf p rs j).length : Nat) ∧ b = .int .i64 j ∧ Turn [g] w wr ∧ DelSt g cap p rs j cur1 wr) (fun _ b _ => rs.length - (intOf b).toNat)
    case atStart =>
      refine ⟨i + 1, cur, by omega, ?_, by go_num, hT1, HG1.out, by rw [Array.length_toList, HS.out], ?_, ?_, ?_⟩
      · rw [HKI.out, List.length_take, Nat.min_eq_left (by omega)]
      · rw [HKI.out, rows_take, ← HT.out, List.length_take, Nat.min_eq_left (by omega), List.take_take, Nat.min_eq_left (by omega)]
      · rw [HT.out, rows_drop]
      · rw [HKI.out, List.length_take]; omega
    case round =>
      obtain ⟨j, cur1, hj, rfl, rfl, hT, hS⟩ := hrel
      have HSt := Lib.hid hS; clear hS
      have hkl := keptOf_le p rs j
      by_cases hlt : j < rs.length
      · obtain ⟨e0, e1, e2, e3, e4⟩ := row_behind HSt.out.1 HSt.out.2.2.2.1 hlt
        have hc := HF.out rs[j] (wr.alloc (.cells #[.int .i64 rs[j].boot, .int .i64 rs[j].count, .int .i64 rs[j].agent, .int .i64 rs[j].epoch, .int .i64 rs[j].at_] 51)) (hT.alloc _)
        have HC := Lib.hid hc; clear hc
        cases hp : p rs[j] with
        | true =>
          have HP := Lib.hid hp; clear hp
          go_wp2_with fail
          refine HC.out.mono ?_
          rintro e w2 ⟨rfl, hb1⟩
          rw [HP.out]
          go_wp2
          go_roundw
          case rel =>
            have hT2 : Turn [] wr w2 := (Turn.alloc (Turn.refl [] wr) _).trans (Turn.below hb1) (by simp)
            obtain ⟨s1, s2, s3, s4, s5⟩ := HSt.out
            refine ⟨j + 1, cur1, by omega, by rw [keptOf_no hlt HP.out], by go_num, hT.trans hT2 (by simp), (hT2.block g (lt_of_heap s1) (by simp)).trans s1, s2, by rw [keptOf_no hlt HP.out]; exact s3, ?_, by rw [keptOf_no hlt HP.out]; omega⟩
            rw [show (j + 1) * 5 = j * 5 + 5 by omega, ← List.drop_drop, s4, List.drop_eq_getElem_cons hlt, List.flatMap_cons]
            exact List.drop_left (l₁ := rs[j].cells)
          case measure => simp [intOf]; omega
        | false =>
          have HP := Lib.hid hp; clear hp
          go_wp2_with fail
          refine HC.out.mono ?_
          rintro e w2 ⟨rfl, hb1⟩
          rw [HP.out]
          have hT2 : Turn [] wr w2 := (Turn.alloc (Turn.refl [] wr) _).trans (Turn.below hb1) (by simp)
          have hbox := box_cells hb1
          have b0 : w2.cell? ⟨wr.heap.size, 0, none⟩ = some (.int .i64 rs[j].boot) := by simp [World.cell?, hbox]
          have b1 : w2.cell? ⟨wr.heap.size, 1, none⟩ = some (.int .i64 rs[j].count) := by simp [World.cell?, hbox]
          have b2 : w2.cell? ⟨wr.heap.size, 2, none⟩ = some (.int .i64 rs[j].agent) := by simp [World.cell?, hbox]
          have b3 : w2.cell? ⟨wr.heap.size, 3, none⟩ = some (.int .i64 rs[j].epoch) := by simp [World.cell?, hbox]
          have b4 : w2.cell? ⟨wr.heap.size, 4, none⟩ = some (.int .i64 rs[j].at_) := by simp [World.cell?, hbox]
          have hg2 : w2.heap[g]? = some (.cells cur1 51 (0, 0)) := (hT2.block g (lt_of_heap HSt.out.1) (by simp)).trans HSt.out.1
          have hml : (keptOf p rs j).length < j := HSt.out.2.2.2.2
          have hsz : cur1.size = cap * 5 := by have := HSt.out.2.1; rwa [Array.length_toList] at this
          clear e0 e1 e2 e3 e4 hbox hb1
          have hcx : ∀ k, k < 5 → ∃ v, w2.cell? ⟨g, (keptOf p rs j).length * 5 + k, none⟩ = some v := fun k hk => ⟨cur1[(keptOf p rs j).length * 5 + k]'(by omega), by simp [World.cell?, hg2]⟩
          obtain ⟨v0, c0⟩ := hcx 0 (by omega)
          obtain ⟨v1, c1⟩ := hcx 1 (by omega)
          obtain ⟨v2, c2⟩ := hcx 2 (by omega)
          obtain ⟨v3, c3⟩ := hcx 3 (by omega)
          obtain ⟨v4, c4⟩ := hcx 4 (by omega)
          rw [Nat.add_zero] at c0
          have hfz : ∀ o, w2.frozen? ⟨g, o, none⟩ = false := by
            intro o
            simp [World.frozen?, hg2]
          have HG2 := Lib.hid hg2; clear hg2 hcx
          have HSZ := Lib.hid hsz; clear hsz
          generalize hm : (keptOf p rs j).length = m at *
          have HM := Lib.hid hm; clear hm
          go_wp2
          go_roundw
          case rel =>
            obtain ⟨d1, d2, d3, d4⟩ := del_step HSt.out.2.1 hl hlt (by rw [HM.out]; exact hml) HSt.out.2.2.1 HSt.out.2.2.2.1 HP.out
            rw [HM.out] at d1 d2 d3
            have hh := setCells_heap (g := g) (E := 51) (fr := (0, 0)) rs[j].cells (m * 5) w2 cur1 HG2.out (by rw [HSZ.out]; show m * 5 + 5 ≤ _; omega)
            have hkl2 : (keptOf p rs (j + 1)).length = m + 1 := by rw [keptOf_yes hlt HP.out]; simp [HM.out]
            refine ⟨j + 1, (cur1.toList.take (m * 5) ++ rs[j].cells ++ cur1.toList.drop (m * 5 + 5)).toArray, by omega, by rw [hkl2]; go_num, by go_num, (hT.trans hT2 (by simp)).setCells (.inl (by simp)) rs[j].cells (m * 5), hh, d1, d2, d3, d4⟩
          case measure => simp [intOf]; omega
      · obtain rfl : j = rs.length := by omega
        obtain ⟨s1, s2, s3, s4, s5⟩ := HSt.out
        have S2 := Lib.hid s2; clear s2
        have S3 := Lib.hid s3; clear s3
        clear s4
        have hclr := run_clear_row (P := Try.prog) wr 46 0 51 (.agg #[.int .i64 0, .int .i64 0, .int .i64 0, .int .i64 0, .int .i64 0]) 5 Try.underlying46 (zero51 wr) rfl (by intro u hu; simp [Value.cells] at hu; subst hu; rfl) (by omega) g (keptOf p rs rs.length).length (rs.length - (keptOf p rs rs.length).length) (cap - (keptOf p rs rs.length).length) cur1 s1 (by omega) (by have := S2.out; rw [Array.length_toList] at this; omega)
        have hzl : (Builtin.zeroCells (Value.agg #[.int .i64 0, .int .i64 0, .int .i64 0, .int .i64 0, .int .i64 0]).cells (rs.length - (keptOf p rs rs.length).length)).toList.length = (rs.length - (keptOf p rs rs.length).length) * 5 := by rw [Array.length_toList, size_zeroCells]; rfl
        generalize (Builtin.zeroCells (Value.agg #[.int .i64 0, .int .i64 0, .int .i64 0, .int .i64 0, .int .i64 0]).cells (rs.length - (keptOf p rs rs.length).length)).toList = zs at hclr hzl
        have ZL := Lib.hid hzl; clear hzl
        have hc3 := setRow_heap wr g cur1 (cur1.toList.take ((keptOf p rs rs.length).length * 5) ++ zs ++ cur1.toList.drop ((keptOf p rs rs.length).length * 5 + zs.length)).toArray 51 (0, 0) s1
        have hT3 := hT.setRow (.inl (List.mem_singleton.2 rfl)) (cur1.toList.take ((keptOf p rs rs.length).length * 5) ++ zs ++ cur1.toList.drop ((keptOf p rs rs.length).length * 5 + zs.length)).toArray
        generalize wr.setRow g (cur1.toList.take ((keptOf p rs rs.length).length * 5) ++ zs ++ cur1.toList.drop ((keptOf p rs rs.length).length * 5 + zs.length)).toArray = w3 at hclr hc3 hT3
        have C3 := Lib.hid hc3; clear hc3 s1
        have hne2 : ¬ cap = (keptOf p rs rs.length).length := by omega
        go_wp2
        go_ret
        rw [← HA.out]
        refine ⟨rfl, hT3, _, C3.out, ?_, ?_⟩
        · have h2 := S2.out
          simp only [List.size_toArray, List.length_append, List.length_take, List.length_drop, ZL.out, h2]
          omega
        · have h2 := S2.out
          have hx : (cur1.toList.take ((keptOf p rs rs.length).length * 5)).length = (keptOf p rs rs.length).length * 5 := by rw [List.length_take, h2]; omega
          rw [List.append_assoc, List.take_append_of_le_length (by rw [hx]; exact Nat.le_refl _), List.take_of_length_le (by rw [hx]; exact Nat.le_refl _), S3.out]

end Go.Proofs.Ythhgcoapohgiiaa
