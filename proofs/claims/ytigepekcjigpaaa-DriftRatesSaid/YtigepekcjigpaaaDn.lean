/- Drift: Collect and SortedFunc walked. No condition. -/
import Derived.Test.YtigepekcjigpaaaDm
namespace Go.Proofs.Ytigepekcjigpaaa
open Go.RowKit Go.Sort

theorem below_sortP {w : World} {B blk m : Nat} {dk : Array (Int × Int)} {os : Array Obj} (hB : B ≤ blk) (hblk : blk < w.heap.size) : Go.RowKit.Below B w (sortWorldK encP 2 w blk 0 m dk os) := by
  refine ⟨rfl, rfl, rfl, size_sortWorldK_c encP 2 w blk 0 m dk os, fun k hk => ?_⟩
  show ((Array.modify w.heap blk _) ++ os)[k]? = _
  rw [Array.getElem?_append_left (by simp; omega), Array.getElem?_modify, if_neg (by omega)]

theorem cellsP_enc (ps : List (Int × Int)) (i : Nat) (hi : i < ps.length) (j : Nat) (hj : j < 2) : (ps.flatMap cellsP)[i * 2 + j]? = (encP ps[i])[j]? := cellsP_get ps i hi j hj

theorem holds_pts {w : World} {g : Nat} {cur : Array Value} {e : TypeId} (hg : w.heap[g]? = some (.cells cur e (0, 0))) (es : List (Int × Int)) (ht : cur.toList.take (es.length * 2) = es.flatMap cellsP) : HoldsK encP 2 w g 0 es.toArray := by
  intro j hj
  rw [size_flatK, List.size_toArray] at hj
  have h2 : j / 2 < es.length := by omega
  refine ⟨?_, by simp [World.frozen?, hg]⟩
  have h1 := cellsP_enc es (j / 2) h2 (j % 2) (by omega)
  rw [show j / 2 * 2 + j % 2 = j by omega, ← ht, List.getElem?_take, if_pos (by omega)] at h1
  rw [get_flatK _ _ _ j (by simpa using hj), Nat.zero_add]
  have h3 : w.cell? ⟨g, j, none⟩ = cur.toList[j]? := by simp [World.cell?, hg]
  rw [h3, h1]
  have h4 : j % 2 < (encP es[j / 2]).length := by show j % 2 < 2; omega
  rw [List.getElem?_eq_getElem h4]
  simp only [id]
  rw [getElem!_pos (es.toArray) (j / 2) (by simpa using h2)]
  simp only [List.getElem_toArray]
  rw [getElem!_pos (encP es[j / 2]) (j % 2) h4]

theorem pts_of_holds {w : World} {g : Nat} (es : List (Int × Int)) (hb : g < w.heap.size) (h : HoldsK encP 2 w g 0 es.toArray) : PtsIn w (some ⟨g, 0, none⟩) es := by
  intro i hi
  have key : ∀ j, j < 2 → w.cell? ⟨g, i * 2 + j, none⟩ = (encP es[i])[j]? := by
    intro j hj
    have h1 := (h (i * 2 + j) (by rw [size_flatK, List.size_toArray]; omega)).1
    rw [get_flatK _ _ _ _ (by rw [List.size_toArray]; omega), Nat.zero_add, show (i * 2 + j) / 2 = i by omega, show (i * 2 + j) % 2 = j by omega] at h1
    rw [h1]
    have h4 : j < (encP es[i]).length := by show j < 2; omega
    rw [List.getElem?_eq_getElem h4]
    simp only [id]
    rw [getElem!_pos (es.toArray) i (by simpa using hi)]
    simp only [List.getElem_toArray]
    rw [getElem!_pos (encP es[i]) j h4]
  refine ⟨g, 0, rfl, hb, ?_⟩
  rw [Nat.zero_add]
  exact ⟨key 0 (by omega), key 1 (by omega)⟩

theorem collect_walk (Bs : Nat) (A : Option Addr) (len cap : Nat) (ps : List (Int × Int)) (w : World) (hlen : len = ps.length) (hl2 : len ≤ 1000) (hBs : Bs < w.heap.size) (hc : w.cell? ⟨Bs, 0, none⟩ = some (.slice A len cap)) (hE : PtsIn w A ps) :
    Calls Try.prog 31 #[.func (.func 33) #[] #[.pointer (some ⟨Bs, 0, none⟩)]] w fun e w' =>
      ∃ A' c', e = .returned (.slice A' len c') ∧ w'.ownsRow w.heap.size 30 2 (.slice A' len c') len (ps.flatMap cellsP) ∧ Go.RowKit.Below w.heap.size w w' := by
  have hk := appendseq_walk Bs A len cap ps w hlen hl2 hBs hc hE
  have HL := Lib.hid hlen
  clear hc hE hlen
  go_enter Try.func31, Try.ntmps31
  go_wp2_with fail
  refine hk.mono ?_
  rintro e w1 ⟨v, rfl, hrow, hB⟩
  obtain ⟨A', c', hv, -, -, -⟩ := pts_of_row hrow
  subst hv
  rw [← HL.out] at hrow ⊢
  have HR := Lib.hid hrow
  have HB := Lib.hid hB
  clear hk hrow hB
  go_wp2_with fail
  go_ret
  exact ⟨A', c', rfl, HR.out, HB.out⟩

set_option maxHeartbeats 2000000 in
theorem sorted_walk (Bs : Nat) (A : Option Addr) (len cap : Nat) (ps : List (Int × Int)) (w : World) (hlen : len = ps.length) (hl2 : len ≤ 1000) (hBs : Bs < w.heap.size) (hc : w.cell? ⟨Bs, 0, none⟩ = some (.slice A len cap)) (hE : PtsIn w A ps) :
    Calls Try.prog 18 #[.func (.func 33) #[] #[.pointer (some ⟨Bs, 0, none⟩)], .func (.func 20) #[] #[]] w fun e w' =>
      ∃ A' c', e = .returned (.slice A' len c') ∧ len ≤ c' ∧ PtsIn w' A' (sortP ps) ∧ Go.RowKit.Below w.heap.size w w' := by
  have hk := collect_walk Bs A len cap ps w hlen hl2 hBs hc hE
  have HL := Lib.hid hlen
  clear hc hE hlen
  go_enter Try.func18, Try.ntmps18
  go_wp2_with fail
  refine hk.mono ?_
  rintro e w1 ⟨A', c', rfl, hrow, hB⟩
  have HB := Lib.hid hB
  clear hk hB
  by_cases h0 : len = 0
  · have hps : ps = [] := List.length_eq_zero_iff.1 (by have := HL.out; omega)
    have hso : sortP ps = [] := by rw [hps]; exact List.length_eq_zero_iff.1 (by rw [sortP_len]; rfl)
    have HSO := Lib.hid hso
    subst h0
    clear hrow hps hso
    go_wp2_with fail
    refine (sort_none A' c' _ _).mono ?_
    rintro e w2 ⟨rfl, rfl⟩
    go_wp2_with fail
    go_ret
    exact ⟨A', c', rfl, Nat.zero_le _, by rw [HSO.out]; intro i hi; simp at hi, HB.out⟩
  · rcases hrow.2 with ⟨h, _⟩ | ⟨g, cp, cur, h1, h2, h3, h4, h5, h6, h7⟩
    · cases h; exact absurd rfl h0
    · cases h1
      have hg := lt_of_heap h3
      rw [HL.out] at h7
      have hs := sort_walk g c' ps w1 (holds_pts h3 ps h7) hg (by have := HL.out; omega)
      rw [← HL.out] at hs
      have HG := Lib.hid (And.intro h2 hg)
      have hHH := holds_pts h3 ps h7
      have hdl : (sortP ps).toArray.size = ps.toArray.size := by simp [sortP_len]
      have HHH := Lib.hid (And.intro hHH hdl)
      have HCC := Lib.hid h4
      clear h2 h3 h4 h5 h6 h7 hg hrow h0 hHH hdl
      go_wp2_with fail
      refine hs.mono ?_
      rintro e w2 ⟨rfl, m, os, rfl⟩
      have hpt : PtsIn (sortWorldK encP 2 w1 g 0 m (sortP ps).toArray os) (some ⟨g, 0, none⟩) (sortP ps) := by
        refine pts_of_holds _ ?_ ?_
        · have := size_sortWorldK_c encP 2 w1 g 0 m (sortP ps).toArray os
          have := HG.out.2; omega
        · exact holdsK_sortWorldK_c encP 2 w1 g 0 ps.toArray _ m os HHH.out.1 HG.out.2 HHH.out.2
      have HP := Lib.hid hpt
      have HB2 := Lib.hid (HB.out.trans (below_sortP (m := m) (dk := (sortP ps).toArray) (os := os) HG.out.1 HG.out.2))
      generalize sortWorldK encP 2 w1 g 0 m (sortP ps).toArray os = w3 at *
      clear hs hpt
      go_wp2_with fail
      go_ret
      exact ⟨_, c', rfl, HCC.out, HP.out, HB2.out⟩

end Go.Proofs.Ytigepekcjigpaaa
