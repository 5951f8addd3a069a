/- Sweep: the plain law: Without is the document's Without. No condition. -/
import Derived.Test.YtljkijolehalcaaSw
namespace Go.Proofs.Ytljkijolehalcaa

structure WI (q : Int) (l : List ((Int × Bool) × Int)) (s : Int × Int) : Prop where
  lo : ∀ x ∈ l, q ≤ x.2 → s.1 ≤ x.1.1
  hi : ∀ x ∈ l, q ≤ x.2 → x.1.1 ≤ s.2
  top : s.1 ≤ 9223372036854775807
  bot : -9223372036854775808 ≤ s.2
  loIn : s.1 = 9223372036854775807 ∨ ∃ x ∈ l, q ≤ x.2 ∧ s.1 = x.1.1
  hiIn : s.2 = -9223372036854775808 ∨ ∃ x ∈ l, q ≤ x.2 ∧ s.2 = x.1.1

theorem WI.step {q : Int} {l : List ((Int × Bool) × Int)} {s : Int × Int} (h : WI q l s) (x : (Int × Bool) × Int) : WI q (l ++ [x]) (wStep q s x) := by
  obtain ⟨h1, h2, h3, h4, h5, h6⟩ := h
  unfold wStep
  split
  · rename_i hq
    refine ⟨fun y hy hv => ?_, fun y hy hv => ?_, ?_, ?_, ?_, ?_⟩
    · show min s.1 x.1.1 ≤ y.1.1
      rcases List.mem_append.1 hy with h | h
      · have := h1 y h hv; omega
      · simp at h; subst h; omega
    · show y.1.1 ≤ max s.2 x.1.1
      rcases List.mem_append.1 hy with h | h
      · have := h2 y h hv; omega
      · simp at h; subst h; omega
    · show min s.1 x.1.1 ≤ _
      omega
    · show _ ≤ max s.2 x.1.1
      omega
    · show min s.1 x.1.1 = _ ∨ ∃ y ∈ l ++ [x], q ≤ y.2 ∧ min s.1 x.1.1 = y.1.1
      rcases Int.le_total x.1.1 s.1 with h | h
      · exact .inr ⟨x, by simp, hq, by omega⟩
      · rcases h5 with h5 | ⟨y, hy, hv, he⟩
        · exact .inl (by omega)
        · exact .inr ⟨y, by simp [hy], hv, by omega⟩
    · show max s.2 x.1.1 = _ ∨ ∃ y ∈ l ++ [x], q ≤ y.2 ∧ max s.2 x.1.1 = y.1.1
      rcases Int.le_total s.2 x.1.1 with h | h
      · exact .inr ⟨x, by simp, hq, by omega⟩
      · rcases h6 with h6 | ⟨y, hy, hv, he⟩
        · exact .inl (by omega)
        · exact .inr ⟨y, by simp [hy], hv, by omega⟩
  · rename_i hq
    refine ⟨fun y hy hv => ?_, fun y hy hv => ?_, h3, h4, ?_, ?_⟩
    · rcases List.mem_append.1 hy with h | h
      · exact h1 y h hv
      · simp at h; subst h; omega
    · rcases List.mem_append.1 hy with h | h
      · exact h2 y h hv
      · simp at h; subst h; omega
    · exact h5.imp id fun ⟨y, hy, hv⟩ => ⟨y, by simp [hy], hv⟩
    · exact h6.imp id fun ⟨y, hy, hv⟩ => ⟨y, by simp [hy], hv⟩

theorem WI.all (q : Int) : ∀ (l p : List ((Int × Bool) × Int)) (s : Int × Int), WI q p s → WI q (p ++ l) (l.foldl (wStep q) s)
  | [], p, s, h => by simpa using h
  | g :: l, p, s, h => by
    have := WI.all q l (p ++ [g]) _ (h.step g)
    simpa using this

theorem wFold_inv (q : Int) (l : List ((Int × Bool) × Int)) : WI q l (wFold q l) := by
  have := WI.all q l [] (9223372036854775807, -9223372036854775808) ⟨by simp, by simp, Int.le_refl _, Int.le_refl _, .inl rfl, .inl rfl⟩
  simpa [wFold] using this

structure WR (gs : List (Int × Int)) (q : Int) (l : List (Int × Int)) (s : Int × Int) : Prop where
  lo : ∀ g ∈ l, g.1 ≤ g.2 → q ≤ votesL g.1 gs → s.1 ≤ g.1
  hi : ∀ g ∈ l, g.1 ≤ g.2 → q ≤ votesL g.2 gs → g.2 ≤ s.2
  top : s.1 ≤ 9223372036854775807
  bot : -9223372036854775808 ≤ s.2
  loIn : s.1 = 9223372036854775807 ∨ ∃ g ∈ l, g.1 ≤ g.2 ∧ q ≤ votesL g.1 gs ∧ s.1 = g.1
  hiIn : s.2 = -9223372036854775808 ∨ ∃ g ∈ l, g.1 ≤ g.2 ∧ q ≤ votesL g.2 gs ∧ s.2 = g.2

theorem rwStep_fst (gs : List (Int × Int)) (q : Int) (s g : Int × Int) : (rwStep gs q s g).1 = if g.1 ≤ g.2 ∧ q ≤ votesL g.1 gs then min s.1 g.1 else s.1 := by
  unfold rwStep rw1 rw2 okG
  by_cases h1 : g.1 ≤ g.2 <;> by_cases h2 : q ≤ votesL g.1 gs <;> by_cases h3 : q ≤ votesL g.2 gs <;> simp [h1, h2, h3]

theorem rwStep_snd (gs : List (Int × Int)) (q : Int) (s g : Int × Int) : (rwStep gs q s g).2 = if g.1 ≤ g.2 ∧ q ≤ votesL g.2 gs then max s.2 g.2 else s.2 := by
  unfold rwStep rw1 rw2 okG
  by_cases h1 : g.1 ≤ g.2 <;> by_cases h2 : q ≤ votesL g.1 gs <;> by_cases h3 : q ≤ votesL g.2 gs <;> simp [h1, h2, h3]

theorem WR.step {gs : List (Int × Int)} {q : Int} {l : List (Int × Int)} {s : Int × Int} (h : WR gs q l s) (x : Int × Int) : WR gs q (l ++ [x]) (rwStep gs q s x) := by
  obtain ⟨h1, h2, h3, h4, h5, h6⟩ := h
  have e1 := rwStep_fst gs q s x
  have e2 := rwStep_snd gs q s x
  generalize rwStep gs q s x = t at *
  refine ⟨fun y hy ho hv => ?_, fun y hy ho hv => ?_, ?_, ?_, ?_, ?_⟩
  · rcases List.mem_append.1 hy with h | h
    · have := h1 y h ho hv; rw [e1]; split <;> omega
    · simp at h; subst h; rw [e1, if_pos ⟨ho, hv⟩]; omega
  · rcases List.mem_append.1 hy with h | h
    · have := h2 y h ho hv; rw [e2]; split <;> omega
    · simp at h; subst h; rw [e2, if_pos ⟨ho, hv⟩]; omega
  · rw [e1]; split <;> omega
  · rw [e2]; split <;> omega
  · split at e1
    · rename_i hc
      rcases Int.le_total x.1 s.1 with h | h
      · exact .inr ⟨x, by simp, hc.1, hc.2, by omega⟩
      · rcases h5 with h5 | ⟨y, hy, ho, hv, he⟩
        · exact .inl (by omega)
        · exact .inr ⟨y, by simp [hy], ho, hv, by omega⟩
    · rw [e1]
      exact h5.imp id fun ⟨y, hy, hv⟩ => ⟨y, by simp [hy], hv⟩
  · split at e2
    · rename_i hc
      rcases Int.le_total s.2 x.2 with h | h
      · exact .inr ⟨x, by simp, hc.1, hc.2, by omega⟩
      · rcases h6 with h6 | ⟨y, hy, ho, hv, he⟩
        · exact .inl (by omega)
        · exact .inr ⟨y, by simp [hy], ho, hv, by omega⟩
    · rw [e2]
      exact h6.imp id fun ⟨y, hy, hv⟩ => ⟨y, by simp [hy], hv⟩

theorem WR.all (gs : List (Int × Int)) (q : Int) : ∀ (l p : List (Int × Int)) (s : Int × Int), WR gs q p s → WR gs q (p ++ l) (l.foldl (rwStep gs q) s)
  | [], p, s, h => by simpa using h
  | g :: l, p, s, h => by
    have := WR.all gs q l (p ++ [g]) _ (h.step g)
    simpa using this

theorem rwAll_inv (f : Int) (gs : List (Int × Int)) : WR gs (rightL gs - f) gs (rwAll f gs) := by
  have := WR.all gs (rightL gs - f) gs [] (9223372036854775807, -9223372036854775808) ⟨by simp, by simp, Int.le_refl _, Int.le_refl _, .inl rfl, .inl rfl⟩
  simpa [rwAll] using this

/-- Of some gaps that have x one ends first. -/
theorem least_hi : ∀ (l : List (Int × Int)) (x : Int), (∃ g ∈ l, hasG x g = true) → ∃ g ∈ l, hasG x g = true ∧ ∀ g' ∈ l, hasG x g' = true → g.2 ≤ g'.2
  | [], x, h => by obtain ⟨g, hg, _⟩ := h; simp at hg
  | g :: l, x, h => by
    by_cases hl : ∃ g ∈ l, hasG x g = true
    · obtain ⟨g1, h1, h2, h3⟩ := least_hi l x hl
      by_cases hg : hasG x g = true ∧ g.2 < g1.2
      · refine ⟨g, by simp, hg.1, fun g' hg' hh => ?_⟩
        rcases List.mem_cons.1 hg' with rfl | h'
        · exact Int.le_refl _
        · have := h3 g' h' hh; omega
      · refine ⟨g1, by simp [h1], h2, fun g' hg' hh => ?_⟩
        rcases List.mem_cons.1 hg' with rfl | h'
        · have : ¬ g'.2 < g1.2 := fun h => hg ⟨hh, h⟩
          omega
        · exact h3 g' h' hh
    · obtain ⟨g1, h1, h2⟩ := h
      rcases List.mem_cons.1 h1 with rfl | h'
      · refine ⟨g1, by simp, h2, fun g' hg' hh => ?_⟩
        rcases List.mem_cons.1 hg' with rfl | h'
        · exact Int.le_refl _
        · exact absurd ⟨g', h', hh⟩ hl
      · exact absurd ⟨g1, h', h2⟩ hl

theorem up_to_hi {gs : List (Int × Int)} {x : Int} (h : 0 < votesL x gs) : ∃ g ∈ gs, g.1 ≤ g.2 ∧ x ≤ g.2 ∧ votesL x gs ≤ votesL g.2 gs := by
  obtain ⟨g0, h0, h0a, h0b⟩ := has_lo h
  obtain ⟨g, hg, hh, hm⟩ := least_hi gs x ⟨g0, h0, by unfold hasG; simp [h0a, h0b]⟩
  have hh' := hh
  unfold hasG at hh'
  simp at hh'
  refine ⟨g, hg, by omega, hh'.2, ?_⟩
  unfold votesL
  refine List.countP_mono_left fun g' hg' h' => ?_
  have := hm g' hg' h'
  unfold hasG at h' ⊢
  simp at h' ⊢
  omega

/-- What stands behind an end and begins, begins above it. -/
theorem begins_behind {es : List (Int × Bool)} (hs : es.Pairwise leE) {k : Nat} (hk : k < es.length) (hb : es[k].2 = true) : ∀ f ∈ es.drop (k + 1), f.2 = false → es[k].1 < f.1 := by
  intro f hf h
  obtain ⟨i, hi, rfl⟩ := List.getElem_of_mem hf
  rw [List.length_drop] at hi
  rw [List.getElem_drop] at h ⊢
  have := List.pairwise_iff_getElem.1 hs k (k + 1 + i) hk (by omega) (by omega)
  unfold leE at this
  rcases this with h1 | ⟨_, h1 | h1⟩
  · exact h1
  · rw [hb] at h1; cases h1
  · rw [h] at h1; cases h1

/-- The first end at a number. -/
theorem first_end {es : List (Int × Bool)} (hs : es.Pairwise leE) {x : Int} (hx : (x, true) ∈ es) : ∃ k, ∃ hk : k < es.length, es[k] = (x, true) ∧ ∀ f ∈ es.take k, f.2 = true → f.1 < x := by
  have key : ∀ j, ∀ hj : j < es.length, es[j] = (x, true) → ∃ k, ∃ hk : k < es.length, es[k] = (x, true) ∧ ∀ f ∈ es.take k, f.2 = true → f.1 < x := by
    intro j
    induction j using Nat.strongRecOn with
    | _ j ih =>
      intro hj he
      by_cases h : ∀ f ∈ es.take j, f.2 = true → f.1 < x
      · exact ⟨j, hj, he, h⟩
      · simp only [Classical.not_forall] at h
        obtain ⟨f, hf, hf2, hf3⟩ := h
        obtain ⟨i, hi, rfl⟩ := List.getElem_of_mem hf
        rw [List.length_take] at hi
        rw [List.getElem_take] at hf2 hf3
        have h1 := sorted_le hs (show i < es.length by omega) hj (by omega)
        rw [he] at h1
        simp only at h1
        refine ih i (by omega) (by omega) ?_
        exact Prod.ext (by show es[i].1 = x; omega) hf2
  obtain ⟨j, hj, he⟩ := List.getElem_of_mem hx
  exact key j hj he

/-- An end's number with its votes is reached by the walk. -/
theorem reach_end {gs : List (Int × Int)} {es : List (Int × Bool)} (hs : es.Pairwise leE) (hp : es.Perm (edgesL gs)) {g : Int × Int} (hg : g ∈ gs) (hok : g.1 ≤ g.2) :
    ∃ k, ∃ hk : k < es.length, es[k] = (g.2, true) ∧ votesAt es k = votesL g.2 gs := by
  obtain ⟨k, hk, he, h1⟩ := first_end hs (x := g.2) (hp.mem_iff.2 ((mem_edgesL gs _).2 ⟨g, hg, hok, .inr rfl⟩))
  refine ⟨k, hk, he, ?_⟩
  have := votesAt_full hs hp hk (begins_behind hs hk (by rw [he])) (by rw [he]; exact h1)
  rw [he] at this
  exact this

theorem mem_walk {es : List (Int × Bool)} {x : (Int × Bool) × Int} : x ∈ upto (walkF es) es.length ↔ ∃ k, ∃ hk : k < es.length, x = (es[k], votesAt es k) := by
  unfold upto
  rw [List.mem_map]
  constructor
  · rintro ⟨k, hk, rfl⟩
    have hk := List.mem_range.1 hk
    exact ⟨k, hk, by unfold walkF; rw [List.getElem?_eq_getElem hk]; rfl⟩
  · rintro ⟨k, hk, rfl⟩
    exact ⟨k, List.mem_range.2 hk, by unfold walkF; rw [List.getElem?_eq_getElem hk]; rfl⟩

theorem wFold_eq (gs : List (Int × Int)) (f : Int) (hf : f < rightL gs) : wFold (rightL gs - f) (upto (walkF (sortE (edgesL gs))) (2 * rightL gs)) = rwAll f gs := by
  have hs := sortE_sorted (edgesL gs)
  have hp := sortE_perm (edgesL gs)
  have hl : (sortE (edgesL gs)).length = 2 * rightL gs := by rw [sortE_len, edgesL_len]
  rw [← hl]
  generalize sortE (edgesL gs) = es at hs hp
  obtain ⟨a1, a2, a3, a4, a5, a6⟩ := wFold_inv (rightL gs - f) (upto (walkF es) es.length)
  obtain ⟨b1, b2, b3, b4, b5, b6⟩ := rwAll_inv f gs
  generalize wFold (rightL gs - f) (upto (walkF es) es.length) = s at *
  generalize rwAll f gs = t at *
  refine Prod.ext (Int.le_antisymm ?_ ?_) (Int.le_antisymm ?_ ?_)
  · rcases b5 with h | ⟨g, hg, ho, hv, h⟩
    · omega
    · obtain ⟨k, hk, he, hx, _⟩ := reach hs hp hg ho
      have := a1 (es[k], votesAt es k) (mem_walk.2 ⟨k, hk, rfl⟩) (by rw [hx]; exact hv)
      rw [he] at this
      rw [h]; exact this
  · rcases a5 with h | ⟨x, hx, hv, h⟩
    · omega
    · obtain ⟨k, hk, rfl⟩ := mem_walk.1 hx
      have h1 := votesAt_le hs hp hk
      simp only at hv h
      obtain ⟨g, hg, ho, hle, hvv⟩ := down_to_lo (gs := gs) (x := es[k].1) (by omega)
      have := b1 g hg ho (by omega)
      omega
  · rcases a6 with h | ⟨x, hx, hv, h⟩
    · omega
    · obtain ⟨k, hk, rfl⟩ := mem_walk.1 hx
      have h1 := votesAt_le hs hp hk
      simp only at hv h
      obtain ⟨g, hg, ho, hle, hvv⟩ := up_to_hi (gs := gs) (x := es[k].1) (by omega)
      have := b2 g hg ho (by omega)
      omega
  · rcases b6 with h | ⟨g, hg, ho, hv, h⟩
    · omega
    · obtain ⟨k, hk, he, hx⟩ := reach_end hs hp hg ho
      have := a2 (es[k], votesAt es k) (mem_walk.2 ⟨k, hk, rfl⟩) (by rw [hx]; exact hv)
      rw [he] at this
      rw [h]; exact this

theorem without_eq (f : Int) (gs : List (Int × Int)) : withoutL f gs = refWithout f gs := by
  unfold withoutL refWithout
  by_cases h : f < 0 ∨ (rightL gs : Int) ≤ f
  · rw [if_pos h, if_pos h]
  · rw [if_neg h, if_neg h, wFold_eq gs f (by omega)]

end Go.Proofs.Ytljkijolehalcaa
