/- The walk of the law's own 'alive'. -/
import Derived.Test.YthhgcoapohgiiaaPf
namespace Go.Proofs.Ythhgcoapohgiiaa
open Go.RowKit

theorem foot_keep {bp bm : Nat} {v v' : Value} (h : v'.ownBlock = v.ownBlock) : foot bp bm v' = foot bp bm v := by simp [foot, h]

def rowA : Row := ⟨4, 0, 3, 1, 10⟩
def rowB : Row := ⟨4, 1, 3, 1, 20⟩
theorem al1 : due [] 3 0 9 = true := by decide
theorem al2 : due (aput 3 10 []) 3 18 9 = false := by simp [due, aput, aget, isTimeB, wrap64]
theorem al3 : due (aput 3 10 []) 3 19 9 = true := by simp [due, aput, aget, isTimeB, wrap64]
theorem al4 : sent [] ⟨4, 0, 3, 1, 10⟩ 2 = [rowA] := rfl
theorem al5 : answer [rowA] 4 3 2 4 0 = (-1, 10, [rowA]) := rfl
theorem al6 : answer [rowA] 4 3 1 4 0 = (10, 0, []) := rfl
theorem al7 : answer [] 4 3 1 4 0 = (-1, 19, []) := rfl
theorem al0 : wrap64 (0 + 1) = 1 := by simp [wrap64]
theorem al8 : sent [] ⟨4, 1, 3, 1, 20⟩ 2 = [rowB] := rfl
theorem al9 : others 3 [rowB] = [] := rfl
theorem al10 : due (adel 3 (aput 3 20 (aput 3 10 []))) 3 20 9 = true := by decide

set_option maxHeartbeats 2000000 in
set_option maxRecDepth 100000 in
theorem alive_any (w : World) :
    Calls Try.prog 4 #[] w fun e w' => e = .returned (.bool true) ∧ Below w.heap.size w w' := by
  go_enter Try.func4, Try.ntmps4
  go_wp2_with fail
  refine (new_ok 4 2 w (by omega) (by omega) (by omega) (by omega)).mono ?_
  rintro e w1 ⟨rfl, hb1, hS1⟩
  have hbp1 := lt_of_heap hS1.at_
  have HB1 := Lib.hid hb1; clear hb1
  have HS1 := Lib.hid hS1; clear hS1
  go_wp2_with fail
  refine (due_any (w.heap.size + 1) w.heap.size 4 0 2 3 0 9 [] [] (.slice none 0 0) w1 HS1.out).mono ?_
  rintro e w' ⟨rfl, rfl⟩
  rw [al1]
  go_wp2_with fail
  refine (send_ok (w.heap.size + 1) w.heap.size 4 0 2 3 1 10 [] [] (.slice none 0 0) w1 (by omega) (by omega) (by omega) (by omega) (by decide) HS1.out (by simp)).mono ?_
  rintro e w2 ⟨rfl, hT2, v2, hS2, hv2⟩
  rw [al4, al0] at hS2
  have hn2 : w2.heap.size ∉ foot (w.heap.size + 1) w.heap.size v2 := fun h => by have := hS2.foot_lt _ h; omega
  have hS2' := hS2.still ((Turn.refl [] w2).alloc (.cells #[.int .i64 4, .int .i64 0] 31))
  have hbx := heap_alloc_new w2 (.cells #[.int .i64 4, .int .i64 0] 31)
  have hT2' := hT2.alloc (.cells #[.int .i64 4, .int .i64 0] 31)
  have hle2 : w2.heap.size < (w2.alloc (.cells #[.int .i64 4, .int .i64 0] 31)).heap.size := by simp
  have hz12 := hT2.size
  clear hS2 hT2
  obtain ⟨b, hb⟩ : ∃ b, b = w2.heap.size := ⟨_, rfl⟩
  rw [← hb] at hn2 hbx hle2
  generalize hw3 : w2.alloc (.cells #[.int .i64 4, .int .i64 0] 31) = w3 at hS2' hbx hT2' hle2
  have HN2 := Lib.hid hn2; have HS3 := Lib.hid hS2'; have HBX := Lib.hid hbx; have HT3 := Lib.hid hT2'; have HV2 := Lib.hid hv2
  have HBeq := Lib.hid hb; have HW3 := Lib.hid hw3
  clear hn2 hS2' hbx hT2' hv2 hb hw3
  go_wp2_with fail
  rw [HW3.out, ← HBeq.out]
  refine (due_any (w.heap.size + 1) w.heap.size 4 1 2 3 18 9 [rowA] (aput 3 10 []) v2 w3 HS3.out).mono ?_
  rintro e w' ⟨rfl, rfl⟩
  rw [al2]
  go_wp2_with fail
  refine (due_any (w.heap.size + 1) w.heap.size 4 1 2 3 19 9 [rowA] (aput 3 10 []) v2 w3 HS3.out).mono ?_
  rintro e w' ⟨rfl, rfl⟩
  rw [al3]
  have x0 : w3.cell? ⟨b, 0, none⟩ = some (.int .i64 4) := by simp [World.cell?, HBX.out]
  have x1 : w3.cell? ⟨b, 1, none⟩ = some (.int .i64 0) := by simp [World.cell?, HBX.out]
  have hA1 := answer_any (w.heap.size + 1) w.heap.size 4 1 2 3 2 0 [rowA] (aput 3 10 []) v2 w3 HS3.out (by simp)
  rw [al5] at hA1
  have HA1 := Lib.hid hA1; clear hA1
  go_wp2_with fail
  refine HA1.out.mono ?_
  rintro e w4 ⟨rfl, hT4, v4, hS4, hv4⟩
  dsimp only at hS4 ⊢
  rw [foot_keep hv4.symm] at hT4
  have hn4 : b ∉ foot (w.heap.size + 1) w.heap.size v4 := by rw [foot_keep hv4]; exact HN2.out
  have hB4 := (hT4.block b hle2 hn4).trans HBX.out
  have HS4 := Lib.hid hS4; have HT4 := Lib.hid hT4; have HV4 := Lib.hid hv4; have HN4 := Lib.hid hn4; have HB4 := Lib.hid hB4
  have hle4 : b < w4.heap.size := lt_of_heap hB4
  clear hS4 hT4 hv4 hn4 hB4 x0 x1
  have x0 : w4.cell? ⟨b, 0, none⟩ = some (.int .i64 4) := by simp [World.cell?, HB4.out]
  have x1 : w4.cell? ⟨b, 1, none⟩ = some (.int .i64 0) := by simp [World.cell?, HB4.out]
  go_wp2_with fail
  refine (answer_old (w.heap.size + 1) w.heap.size 4 1 2 3 1 5 0 [rowA] (aput 3 10 []) v4 w4 HS4.out (by omega)).mono ?_
  rintro e w5 ⟨rfl, hT5⟩
  have hS5 := HS4.out.still hT5
  have hB5 := (hT5.block b hle4 (by simp)).trans HB4.out
  have HS5 := Lib.hid hS5; have HT5 := Lib.hid hT5; have HB5 := Lib.hid hB5
  have hle5 : b < w5.heap.size := lt_of_heap hB5
  clear hS5 hT5 hB5 x0 x1
  have x0 : w5.cell? ⟨b, 0, none⟩ = some (.int .i64 4) := by simp [World.cell?, HB5.out]
  have x1 : w5.cell? ⟨b, 1, none⟩ = some (.int .i64 0) := by simp [World.cell?, HB5.out]
  have hA2 := answer_any (w.heap.size + 1) w.heap.size 4 1 2 3 1 0 [rowA] (aput 3 10 []) v4 w5 HS5.out (by simp)
  rw [al6] at hA2
  have HA2 := Lib.hid hA2; clear hA2
  go_wp2_with fail
  refine HA2.out.mono ?_
  rintro e w6 ⟨rfl, hT6, v6, hS6, hv6⟩
  dsimp only at hS6 ⊢
  rw [foot_keep hv6.symm] at hT6
  have hn6 : b ∉ foot (w.heap.size + 1) w.heap.size v6 := by rw [foot_keep hv6]; exact HN4.out
  have hB6 := (hT6.block b hle5 hn6).trans HB5.out
  have HS6 := Lib.hid hS6; have HT6 := Lib.hid hT6; have HV6 := Lib.hid hv6; have HN6 := Lib.hid hn6; have HB6 := Lib.hid hB6
  have hle6 : b < w6.heap.size := lt_of_heap hB6
  clear hS6 hT6 hv6 hn6 hB6 x0 x1
  have x0 : w6.cell? ⟨b, 0, none⟩ = some (.int .i64 4) := by simp [World.cell?, HB6.out]
  have x1 : w6.cell? ⟨b, 1, none⟩ = some (.int .i64 0) := by simp [World.cell?, HB6.out]
  have hA3 := answer_any (w.heap.size + 1) w.heap.size 4 1 2 3 1 0 [] (aput 3 10 []) v6 w6 HS6.out (by simp)
  rw [al7] at hA3
  have HA3 := Lib.hid hA3; clear hA3
  go_wp2_with fail
  refine HA3.out.mono ?_
  rintro e w7 ⟨rfl, hT7, v7, hS7, hv7⟩
  dsimp only at hS7 ⊢
  rw [foot_keep hv7.symm] at hT7
  have hn7 : b ∉ foot (w.heap.size + 1) w.heap.size v7 := by rw [foot_keep hv7]; exact HN6.out
  have hB7 := (hT7.block b hle6 hn7).trans HB6.out
  have HS7 := Lib.hid hS7; have HT7 := Lib.hid hT7; have HV7 := Lib.hid hv7; have HN7 := Lib.hid hn7; have HB7 := Lib.hid hB7
  have hle7 : b < w7.heap.size := lt_of_heap hB7
  clear hS7 hT7 hv7 hn7 hB7 x0 x1
  go_wp2_with fail
  refine (send_ok (w.heap.size + 1) w.heap.size 4 1 2 3 1 20 [] (aput 3 10 []) v7 w7 (by omega) (by omega) (by omega) (by omega) (by decide) HS7.out (by simp)).mono ?_
  rintro e w8 ⟨rfl, hT8, v8, hS8, hv8⟩
  rw [al8] at hS8
  have hn8 : b ∉ foot (w.heap.size + 1) w.heap.size v8 := by
    intro h
    rcases hv8 with hv8 | ⟨g, hg, hv8⟩
    · rw [foot_keep hv8] at h; exact HN7.out h
    · simp only [foot, List.mem_cons, hv8, Option.toList_some, List.not_mem_nil, or_false] at h
      have h7 := HN7.out
      simp only [foot, List.mem_cons, not_or] at h7
      rcases h with h | h | h
      · exact h7.1 h
      · exact h7.2.1 h
      · omega
  have hB8 := (hT8.block b hle7 HN7.out).trans HB7.out
  have HS8 := Lib.hid hS8; have HT8 := Lib.hid hT8; have HV8 := Lib.hid hv8; have HN8 := Lib.hid hn8; have HB8 := Lib.hid hB8
  have hle8 : b < w8.heap.size := lt_of_heap hB8
  clear hS8 hT8 hv8 hn8 hB8
  go_wp2_with fail
  refine (out_any (w.heap.size + 1) w.heap.size 4 (wrap64 (1 + 1)) 2 [rowB] (aput 3 20 (aput 3 10 [])) v8 w8 HS8.out (by simp)).mono ?_
  rintro e w9 ⟨A, c, rfl, hT9, ho9⟩
  have hS9 := HS8.out.still (Turn.below hT9)
  have hB9 := (hT9.block b hle8).trans HB8.out
  have hF9 := HS8.out.foot_lt
  rcases ho9.2 with ⟨_, h0⟩ | ⟨g, cap, cur, hv, hg8, hg9, hnc, hcm, hcs, ht⟩
  · simp at h0
  simp only [Value.slice.injEq, true_and] at hv
  obtain ⟨rfl, rfl⟩ := hv
  have hgf : g ∉ foot (w.heap.size + 1) w.heap.size v8 := fun h => by have := hF9 _ h; omega
  have hfg := forget_any (w.heap.size + 1) w.heap.size 4 (wrap64 (1 + 1)) 2 3 [rowB] (aput 3 20 (aput 3 10 [])) v8 w9 hS9 (by simp)
  rw [al9] at hfg
  have HFG := Lib.hid hfg
  have HT9 := Lib.hid hT9; have HB9 := Lib.hid hB9; have HGF := Lib.hid hgf; have HG9 := Lib.hid hg9
  have ht' : cur.toList.take 2 = [.int .i64 4, .int .i64 1] := ht
  have HTK := Lib.hid ht'
  have hgl9 := lt_of_heap hg9
  have hle9 : b < w9.heap.size := lt_of_heap hB9
  clear hfg hT9 hS9 hB9 hF9 ho9 hgf hg9 ht ht' hcs hg8
  go_wp2_with fail
  refine HFG.out.mono ?_
  rintro e w10 ⟨rfl, hT10, v10, hS10, hv10⟩
  have hB10 := (hT10.block b hle9 HN8.out).trans HB9.out
  have hG10 := (hT10.block g hgl9 HGF.out).trans HG9.out
  have x0 : w10.cell? ⟨b, 0, none⟩ = some (.int .i64 4) := by simp [World.cell?, hB10]
  have x1 : w10.cell? ⟨b, 1, none⟩ = some (.int .i64 0) := by simp [World.cell?, hB10]
  have y0 : w10.cell? ⟨g, 0, none⟩ = some (.int .i64 4) := by
    have : cur.toList[0]? = some (.int .i64 4) := by have := congrArg (fun l : List Value => l[0]?) HTK.out; simpa using this
    simpa [World.cell?, hG10] using this
  have y1 : w10.cell? ⟨g, 1, none⟩ = some (.int .i64 1) := by
    have : cur.toList[1]? = some (.int .i64 1) := by have := congrArg (fun l : List Value => l[1]?) HTK.out; simpa using this
    simpa [World.cell?, hG10] using this
  have HS10 := Lib.hid hS10; have HT10 := Lib.hid hT10
  have hout := out_any (w.heap.size + 1) w.heap.size 4 (wrap64 (1 + 1)) 2 [] (adel 3 (aput 3 20 (aput 3 10 []))) v10 w10 HS10.out (by simp)
  have HOUT := Lib.hid hout
  clear hS10 hT10 hB10 hG10 hout
  rw [show ((([rowB].length : Int) - (([] : List Row).length : Int))) = 1 from rfl]
  go_wp2_with fail
  refine (due_any (w.heap.size + 1) w.heap.size 4 (wrap64 (1 + 1)) 2 3 20 9 [] (adel 3 (aput 3 20 (aput 3 10 []))) v10 w10 HS10.out).mono ?_
  rintro e w' ⟨rfl, rfl⟩
  rw [al10]
  go_wp2_with fail
  refine HOUT.out.mono ?_
  rintro e w11 ⟨A, c', rfl, hT11, ho11⟩
  have hS11 := HS10.out.still (Turn.below hT11)
  have HT11 := Lib.hid hT11; have HS11 := Lib.hid hS11
  clear hT11 hS11 ho11 x0 x1 y0 y1
  go_wp2_with fail
  refine (boot_any (w.heap.size + 1) w.heap.size 4 (wrap64 (1 + 1)) 2 [] (adel 3 (aput 3 20 (aput 3 10 []))) v10 w11 HS11.out).mono ?_
  rintro e w' ⟨rfl, rfl⟩
  go_wp2_with fail
  go_ret
  refine ⟨rfl, ?_⟩
  have s1 := HB1.out.size
  have s3 := HT3.out.size
  have s4 := HT4.out.size
  have s5 := HT5.out.size
  have s6 := HT6.out.size
  have s7 := HT7.out.size
  have s8 := HT8.out.size
  have s9 := HT9.out.size
  have s10 := HT10.out.size
  have o2 : ∀ g, v2.ownBlock = some g → w.heap.size ≤ g := by
    intro g hg
    rcases HV2.out with h | ⟨g', h1, h2⟩
    · rw [h] at hg; cases hg
    · rw [h2] at hg; cases hg; omega
  have o4 : ∀ g, v4.ownBlock = some g → w.heap.size ≤ g := by rw [HV4.out]; exact o2
  have o6 : ∀ g, v6.ownBlock = some g → w.heap.size ≤ g := by rw [HV6.out]; exact o4
  have o7 : ∀ g, v7.ownBlock = some g → w.heap.size ≤ g := by rw [HV7.out]; exact o6
  have o8 : ∀ g, v8.ownBlock = some g → w.heap.size ≤ g := by
    intro g hg
    rcases HV8.out with h | ⟨g', h1, h2⟩
    · rw [h] at hg; exact o7 g hg
    · rw [h2] at hg; cases hg; omega
  have fo : ∀ v : Value, (∀ g, v.ownBlock = some g → w.heap.size ≤ g) → ∀ x ∈ foot (w.heap.size + 1) w.heap.size v, w.heap.size ≤ x := by
    intro v hv x hx
    simp only [foot, List.mem_cons, Option.mem_toList] at hx
    rcases hx with rfl | rfl | hx
    · omega
    · omega
    · exact hv x hx
  have b3 := HT3.out.toBelow (B := w.heap.size) s1 (fo _ (by intro g hg; cases hg))
  have b4 := HT4.out.toBelow (B := w.heap.size) (by omega) (fo _ o4)
  have b5 := HT5.out.toBelow (B := w.heap.size) (by omega) (by simp)
  have b6 := HT6.out.toBelow (B := w.heap.size) (by omega) (fo _ o6)
  have b7 := HT7.out.toBelow (B := w.heap.size) (by omega) (fo _ o7)
  have b8 := HT8.out.toBelow (B := w.heap.size) (by omega) (fo _ o7)
  have b9 := HT9.out.mono (B' := w.heap.size) (by omega)
  have b10 := HT10.out.toBelow (B := w.heap.size) (by omega) (fo _ o8)
  have b11 := HT11.out.mono (B' := w.heap.size) (by omega)
  exact (((((((((HB1.out.trans b3).trans b4).trans b5).trans b6).trans b7).trans b8).trans b9).trans b10).trans b11)

end Go.Proofs.Ythhgcoapohgiiaa
