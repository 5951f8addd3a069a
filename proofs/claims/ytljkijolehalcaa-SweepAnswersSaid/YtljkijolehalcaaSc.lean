/- Sweep: 'of' walked: gaps as the references have them. No condition. -/
import Derived.Test.YtljkijolehalcaaSb
namespace Go.Proofs.Ytljkijolehalcaa
open Go.RowKit

def cellsG (g : Int × Int) : List Value := [.int .i64 g.1, .int .i64 g.2]

theorem cellsG_len (gs : List (Int × Int)) : (gs.flatMap cellsG).length = gs.length * 2 := by
  induction gs with
  | nil => rfl
  | cons g r ih => rw [List.flatMap_cons, List.length_append, ih]; simp [cellsG]; omega

theorem info28 : (Try.prog.info? 28).map (fun i => (i.zero, i.size, i.bytes)) = some (some (.agg #[.int .i64 0, .int .i64 0]), 2, 16) := by kernel_rfl
theorem info25 : (Try.prog.info? 25).map (fun i => (i.zero, i.size, i.bytes)) = some (some (.agg #[.int .i64 0, .int .i64 0]), 2, 16) := by kernel_rfl

/-- A row that is owned, read as gaps. -/
theorem gaps_of_row {w : World} {base e n : Nat} {v : Value} {gs : List (Int × Int)} (h : w.ownsRow base e 2 v n (gs.flatMap cellsG)) : ∃ A cap, v = .slice A n cap ∧ n = gs.length ∧ n ≤ maxLen ∧ GapsIn w A gs := by
  have hl := h.1
  rw [cellsG_len] at hl
  have hn : n = gs.length := by omega
  subst hn
  rcases h.2 with ⟨rfl, h0⟩ | ⟨g, cap, cur, rfl, hb, hg, hc, hm, hs, ht⟩
  · exact ⟨none, 0, by rw [h0], rfl, by rw [h0]; simp [maxLen], fun i hi => by omega⟩
  · refine ⟨_, cap, rfl, rfl, by omega, fun i hi => ⟨g, 0, rfl, lt_of_heap hg, ?_⟩⟩
    have h3 : ∀ j, j < 2 → w.cell? ⟨g, i * 2 + j, none⟩ = (cellsG gs[i])[j]? := by
      intro j hj
      have h1 : gs = gs.take i ++ gs[i] :: gs.drop (i + 1) := by rw [← List.drop_eq_getElem_cons hi, List.take_append_drop]
      have h2 : ((gs.take i).flatMap cellsG).length = i * 2 := by rw [cellsG_len, List.length_take, Nat.min_eq_left (by omega)]
      have h4 : (gs.flatMap cellsG)[i * 2 + j]? = (cellsG gs[i])[j]? := by
        conv => lhs; rw [h1]
        rw [List.flatMap_append, List.flatMap_cons, List.getElem?_append_right (by rw [h2]; omega), h2, show i * 2 + j - i * 2 = j by omega, List.getElem?_append_left (by show j < 2; omega)]
      rw [← h4, ← ht, List.getElem?_take, if_pos (by omega)]
      simp [World.cell?, hg]
    rw [Nat.zero_add]
    exact ⟨h3 0 (by omega), h3 1 (by omega)⟩

set_option maxHeartbeats 4000000 in
set_option maxRecDepth 100000 in
theorem of10 (A : Option Addr) (n c : Nat) (gs : List (Int × Int)) (w : World) (hn : n = gs.length) (hn2 : n ≤ 1000) (hG : GapsIn w A gs) :
    Calls Try.prog 10 #[.slice A n c] w fun e w' => ∃ A' c', e = .returned (.slice A' n c') ∧ GapsIn w' A' gs ∧ Below w.heap.size w w' := by
  obtain ⟨i0, hi, hz0, hz1, hz2⟩ := info_parts info28
  have HG := Lib.hid hG; clear hG
  have HN := Lib.hid hn; clear hn
  go_enter Try.func10, Try.ntmps10
  go_wp2_with fail
  go_loopw [3, 4] (fun v i wr => ∃ k : Nat, k ≤ n ∧ i = .int .i64 k ∧ wr.ownsRow w.heap.size 28 2 v k ((gs.take k).flatMap cellsG) ∧ Below w.heap.size w wr) (fun _ i _ => n - (intOf i).toNat)
  case atStart =>
    refine ⟨0, Nat.zero_le _, rfl, ⟨by simp, .inr ⟨_, 0, #[], rfl, Nat.le_refl _, heap_alloc_new w _, by omega, by simp [maxLen], by simp, by simp⟩⟩, (Below.refl _ w).alloc (Nat.le_refl _) _⟩
  case round =>
    obtain ⟨k, hk, rfl, hown, hB⟩ := hrel
    by_cases hlt : k < n
    · have hkl : k < gs.length := by have := HN.out; omega
      obtain ⟨b, off, hA, hbl, hg⟩ := HG.out k hkl
      subst hA
      obtain ⟨e0, e1⟩ := hg.turn hbl hB
      have hbw : b < wr.heap.size := by have := hB.size; omega
      have hkw : wrap64 (0 + (k : Int)) = k := by simp [wrap64]; omega
      have hx0 : (0 : Int) ≤ (k : Int) := Int.natCast_nonneg _
      have hx1 : (k : Int) < (n : Int) := by omega
      have ag : u3.ownBlock ≠ some b := fun h => by have := hown.lt _ h; omega
      have HBB := Lib.hid hB
      have HO := Lib.hid hown
      have hsz := hB.size
      clear hg hkw hown
      go_wp2_with fail
      go_region_held3 (fun w' => w'.cell? ⟨b, off + k * 2, none⟩ = some (.int .i64 gs[k].1) ∧ w'.cell? ⟨b, off + k * 2 + 1, none⟩ = some (.int .i64 gs[k].2))
        (first
          | (go_keep; done)
          | (go_split_ands
             refine ⟨?_, ?_⟩
             · (rw [hgrow.cell_far _ (by simp; omega) (Ne.symm ag)]; assumption)
             · (rw [hgrow.cell_far _ (by simp; omega) (Ne.symm ag)]; assumption)))
        ((refine step_append_lies _ (by rfl) _ _ _ (by rfl) w.heap.size 28 i0 _ 2 16 Try.underlying31 hi hz0 hz1 hz2 rfl (by omega) u3 k ((gs.take k).flatMap cellsG) (by rfl) ((HO.out.alloc _).drew) ⟨wr.heap.size, 0, none⟩ 1 1 (cellsG gs[k]) (by rfl) (by rfl) (World.news_of_block (cs := #[.int .i64 gs[k].1, .int .i64 gs[k].2]) (t := 28) (fr := (0, 0)) (heap_alloc_new wr _)) (by simp [Value.oneCell', cellsG]) (by omega) (by unfold maxLen; omega) (by omega) (by simp; omega) (wr.heap.size + 1) (by simp) ?_; intro gg cap w3 hown1 hgrow hat hlt'))
      have hB3 : Below w.heap.size w w3 := ((HBB.out.alloc HBB.out.size _).drew).grown hgrow (by simp; omega) (fun q hq => (HO.out.lt q hq).1)
      have HB3 := Lib.hid hB3
      have HO1 := Lib.hid hown1
      have hst : (gs.take (k + 1)).flatMap cellsG = (gs.take k).flatMap cellsG ++ cellsG gs[k] := by rw [List.take_succ_eq_append_getElem hkl, List.flatMap_append, List.flatMap_cons, List.flatMap_nil, List.append_nil]
      have HST := Lib.hid hst
      clear hst hB3 hown1 hgrow hat hlt' e0 e1 hbw hB ag
      go_wp2_with fail
      go_roundw
      case rel => exact ⟨k + 1, hlt, by simp, by rw [HST.out]; exact HO1.out, HB3.out⟩
      case measure => simp [intOf]; omega
    · obtain rfl : k = n := by omega
      go_wp2_with fail
      go_ret
      rw [List.take_of_length_le (by have := HN.out; omega)] at hown
      obtain ⟨A', cap, rfl, _, _, hG⟩ := gaps_of_row hown
      exact ⟨A', cap, rfl, hG, hB⟩

end Go.Proofs.Ytljkijolehalcaa
