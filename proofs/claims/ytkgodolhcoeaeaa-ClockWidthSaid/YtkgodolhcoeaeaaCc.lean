/- Clock: rows of samples in memory; slices.Clone at samples, walked. No condition. -/
import Derived.Test.YtkgodolhcoeaeaaCa
import Derived.Deep.AppendLies
import Derived.WalkSpells
namespace Go.Proofs.Ytkgodolhcoeaeaa
open Go.RowKit

def cellsS (s : Smp) : List Value := [.int .i64 s.asked, .int .i64 s.got, .int .i64 s.sent, .int .i64 s.came]

structure SmpIn (w : World) (b o : Nat) (s : Smp) : Prop where
  c0 : w.cell? ⟨b, o, none⟩ = some (.int .i64 s.asked)
  c1 : w.cell? ⟨b, o + 1, none⟩ = some (.int .i64 s.got)
  c2 : w.cell? ⟨b, o + 2, none⟩ = some (.int .i64 s.sent)
  c3 : w.cell? ⟨b, o + 3, none⟩ = some (.int .i64 s.came)

/-- A row of samples in memory. -/
def SmpsIn (w : World) (A : Option Addr) (l : List Smp) : Prop := ∀ i (h : i < l.length), ∃ b off, A = some ⟨b, off, none⟩ ∧ b < w.heap.size ∧ SmpIn w b (off + i * 4) l[i]

theorem SmpIn.block {w w' : World} {b o : Nat} {s : Smp} (h : SmpIn w b o s) (hb : w'.heap[b]? = w.heap[b]?) : SmpIn w' b o s :=
  ⟨(World.cell?_of_block (w := w) (a := ⟨b, o, none⟩) hb).trans h.c0, (World.cell?_of_block (w := w) (a := ⟨b, o + 1, none⟩) hb).trans h.c1, (World.cell?_of_block (w := w) (a := ⟨b, o + 2, none⟩) hb).trans h.c2, (World.cell?_of_block (w := w) (a := ⟨b, o + 3, none⟩) hb).trans h.c3⟩

theorem SmpIn.turn {w w' : World} {b o : Nat} {s : Smp} (h : SmpIn w b o s) (hb : b < w.heap.size) (hT : Below w.heap.size w w') : SmpIn w' b o s := h.block (hT.block b hb)

theorem SmpsIn.turn {w w' : World} {A : Option Addr} {l : List Smp} (h : SmpsIn w A l) (hT : Below w.heap.size w w') : SmpsIn w' A l := fun i hi => by
  obtain ⟨b, off, hA, hb, hg⟩ := h i hi
  exact ⟨b, off, hA, Nat.lt_of_lt_of_le hb hT.size, hg.turn hb hT⟩

theorem cellsS_len (l : List Smp) : (l.flatMap cellsS).length = l.length * 4 := by
  induction l with
  | nil => rfl
  | cons g r ih => rw [List.flatMap_cons, List.length_append, ih]; simp [cellsS]; omega

theorem infoS : (Try.prog.info? 23).map (fun i => (i.zero, i.size, i.bytes)) = some (some (.agg #[.int .i64 0, .int .i64 0, .int .i64 0, .int .i64 0]), 4, 32) := by kernel_rfl

theorem cellsS_get (l : List Smp) (i : Nat) (hi : i < l.length) (j : Nat) (hj : j < 4) : (l.flatMap cellsS)[i * 4 + j]? = (cellsS l[i])[j]? := by
  have h1 : l = l.take i ++ l[i] :: l.drop (i + 1) := by rw [← List.drop_eq_getElem_cons hi, List.take_append_drop]
  have h2 : ((l.take i).flatMap cellsS).length = i * 4 := by rw [cellsS_len, List.length_take, Nat.min_eq_left (by omega)]
  conv => lhs; rw [h1]
  rw [List.flatMap_append, List.flatMap_cons, List.getElem?_append_right (by rw [h2]; omega), h2, show i * 4 + j - i * 4 = j by omega, List.getElem?_append_left (by show j < 4; omega)]

theorem cellsS_one (l : List Smp) : ∀ u ∈ l.flatMap cellsS, u.oneCell' = true := by
  intro u hu
  obtain ⟨g, _, h⟩ := List.mem_flatMap.1 hu
  simp [cellsS] at h
  rcases h with rfl | rfl | rfl | rfl <;> rfl

/-- A row that is owned, read as samples. -/
theorem smps_of_row {w : World} {base e n : Nat} {v : Value} {l : List Smp} (h : w.ownsRow base e 4 v n (l.flatMap cellsS)) : ∃ A cap, v = .slice A n cap ∧ n = l.length ∧ n ≤ cap ∧ cap ≤ maxLen ∧ SmpsIn w A l ∧ (A = none → n = 0 ∧ cap = 0) := by
  have hl := h.1
  rw [cellsS_len] at hl
  have hn : n = l.length := by omega
  subst hn
  rcases h.2 with ⟨rfl, h0⟩ | ⟨g, cap, cur, rfl, hb, hg, hc, hm, hs, ht⟩
  · exact ⟨none, 0, by rw [h0], rfl, by rw [h0]; exact Nat.le_refl _, by simp [maxLen], fun i hi => by omega, fun _ => ⟨h0, rfl⟩⟩
  · refine ⟨_, cap, rfl, rfl, hc, hm, fun i hi => ⟨g, 0, rfl, lt_of_heap hg, ?_⟩, fun h => by cases h⟩
    have h3 : ∀ j, j < 4 → w.cell? ⟨g, i * 4 + j, none⟩ = (cellsS l[i])[j]? := by
      intro j hj
      rw [← cellsS_get l i hi j hj, ← ht, List.getElem?_take, if_pos (by omega)]
      simp [World.cell?, hg]
    rw [Nat.zero_add]
    exact ⟨h3 0 (by omega), h3 1 (by omega), h3 2 (by omega), h3 3 (by omega)⟩

theorem news_of_smps {w : World} {ad : Addr} {l : List Smp} (hG : SmpsIn w (some ad) l) : ∀ j u, (l.flatMap cellsS)[j]? = some u → w.cell? (ad.add j) = some u := by
  intro j u hu
  have hj : j < l.length * 4 := by rw [← cellsS_len]; exact (List.getElem?_eq_some_iff.1 hu).1
  have hi : j / 4 < l.length := by omega
  obtain ⟨b, off, hA, hb, hg⟩ := hG (j / 4) hi
  cases hA
  have hadd : (⟨b, off, none⟩ : Addr).add j = ⟨b, off + j, none⟩ := by
    unfold Addr.add
    split
    · rename_i h0; have h1 : j = 0 := by simpa using h0
      simp [h1]
    · simp
  rw [hadd]
  have h1 := cellsS_get l (j / 4) hi (j % 4) (by omega)
  rw [show j / 4 * 4 + j % 4 = j by omega, hu] at h1
  have h4 : j % 4 = 0 ∨ j % 4 = 1 ∨ j % 4 = 2 ∨ j % 4 = 3 := by omega
  rcases h4 with h | h | h | h
  · rw [h] at h1
    have h2 := hg.c0
    rw [show off + j / 4 * 4 = off + j by omega] at h2
    rw [h2]; simpa [cellsS] using h1.symm
  · rw [h] at h1
    have h2 := hg.c1
    rw [show off + j / 4 * 4 + 1 = off + j by omega] at h2
    rw [h2]; simpa [cellsS] using h1.symm
  · rw [h] at h1
    have h2 := hg.c2
    rw [show off + j / 4 * 4 + 2 = off + j by omega] at h2
    rw [h2]; simpa [cellsS] using h1.symm
  · rw [h] at h1
    have h2 := hg.c3
    rw [show off + j / 4 * 4 + 3 = off + j by omega] at h2
    rw [h2]; simpa [cellsS] using h1.symm

set_option maxRecDepth 100000 in
set_option maxHeartbeats 2000000 in
theorem cloneS_walk (A : Option Addr) (n c : Nat) (l : List Smp) (w : World) (hn : n = l.length) (hn2 : n ≤ 1000) (hnil : A = none → n = 0 ∧ c = 0) (hG : SmpsIn w A l) :
    Calls Try.prog 28 #[.slice A n c] w fun e w' => ∃ v', e = .returned v' ∧ w'.ownsRow w.heap.size 23 4 v' n (l.flatMap cellsS) ∧ Below w.heap.size w w' := by
  obtain ⟨i0, hi, hz0, hz1, hz2⟩ := info_parts infoS
  have hq := fun w a n c => Lib.run_eql_slice_nil (P := Try.prog) w 31 23 a n c 0 0 Try.underlying31
  cases A with
  | none =>
    obtain ⟨rfl, rfl⟩ := hnil rfl
    have : l = [] := List.length_eq_zero_iff.1 hn.symm
    subst this
    clear hn hG hnil
    go_enter Try.func28, Try.ntmps28
    go_wp2_with fail
    go_ret
    exact ⟨_, rfl, ⟨by simp, .inl ⟨rfl, rfl⟩⟩, Below.refl _ _⟩
  | some ad =>
    have hN := news_of_smps hG
    have HN := Lib.hid hN
    have HL := Lib.hid hn
    have HO : Hid ((w.alloc (.cells #[] 23)).ownsRow w.heap.size 23 4 (.slice (some ⟨w.heap.size, 0, none⟩) 0 0) 0 []) := ⟨by simp, .inr ⟨_, 0, #[], rfl, Nat.le_refl _, heap_alloc_new w _, by omega, by simp [maxLen], by simp, by simp⟩⟩
    have HN2 : Hid (∀ j u, (l.flatMap cellsS)[j]? = some u → (w.alloc (.cells #[] 23)).cell? (ad.add j) = some u) := news_of_smps (hG.turn ((Below.refl _ w).alloc (Nat.le_refl _) _))
    clear hN hn hG hnil
    go_enter Try.func28, Try.ntmps28
    go_wp2_with (at_builtin; go_loud (refine wpList_append_own _ rfl _ _ _ rfl w.heap.size 23 i0 _ 4 32 Try.underlying31 hi hz0 hz1 hz2 rfl (by omega) _ 0 [] rfl HO.out ad n c (l.flatMap cellsS) rfl (by rw [cellsS_len, HL.out]) HN2.out (cellsS_one l) (by simp only [maxLen]; omega) (by omega) (by simp) ?_); intro v' w' hown hgrow _)
    go_ret
    have hg2 : (w.alloc (.cells #[] 23)).grownBy w' (some w.heap.size) := hgrow
    exact ⟨_, rfl, by simpa using hown, ((Below.refl _ w).alloc (Nat.le_refl _) _).grown hg2 (by simp) (fun q hq => by cases hq; exact Nat.le_refl _)⟩

end Go.Proofs.Ytkgodolhcoeaeaa
