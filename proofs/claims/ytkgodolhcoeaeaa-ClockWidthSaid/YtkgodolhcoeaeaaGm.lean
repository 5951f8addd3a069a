/- Clock: the plain law of where most gaps agree: best_eq, agree_eq. No condition. -/
import Derived.Test.YtkgodolhcoeaeaaGk
namespace Go.Proofs.Ytkgodolhcoeaeaa

section
theorem vAft_from (l : List (Int × Bool)) : ∀ v : Int, l.foldl (fun v e => if e.2 = true then v - 1 else v + 1) v = v + (l.countP fun e => !e.2) - (l.countP fun e => e.2) := by
  induction l with
  | nil => intro v; simp
  | cons e l ih =>
    intro v
    rw [List.foldl_cons, ih, List.countP_cons, List.countP_cons]
    cases e.2 <;> simp <;> omega

theorem vAft_eq (l : List (Int × Bool)) : vAft l = (l.countP fun e => !e.2) - (l.countP fun e => e.2) := by
  unfold vAft
  rw [vAft_from]
  omega

/-- Begins at most at x, less ends below x: the votes of x. -/
theorem votes_edges (x : Int) (gs : List (Int × Int)) :
    (votesL x gs : Int) = ((edgesL gs).countP fun e => !e.2 && decide (e.1 ≤ x)) - ((edgesL gs).countP fun e => e.2 && decide (e.1 < x)) := by
  unfold votesL edgesL
  induction gs with
  | nil => rfl
  | cons g r ih =>
    rw [List.countP_cons, List.flatMap_cons, List.countP_append, List.countP_append]
    have : (((edgesG g).countP fun e => !e.2 && decide (e.1 ≤ x) : Nat) : Int) - ((edgesG g).countP fun e => e.2 && decide (e.1 < x) : Nat) = if hasG x g = true then 1 else 0 := by
      unfold edgesG okG hasG
      have h0 : decide (x ≤ g.2) = !decide (g.2 < x) := by by_cases h : g.2 < x <;> simp [h] <;> omega
      rw [h0]
      by_cases h1 : g.1 ≤ g.2 <;> by_cases h2 : g.1 ≤ x <;> by_cases h3 : g.2 < x <;> simp [h1, h2, h3, List.countP_cons] <;> omega
    split at this <;> simp_all <;> omega

/-- x comes no later than y. -/
def leE (x y : Int × Bool) : Prop := x.1 < y.1 ∨ (x.1 = y.1 ∧ (x.2 = false ∨ y.2 = true))

theorem leE_iff (x y : Int × Bool) : (!(Go.Proofs.ltOf cmpE) y x) = true ↔ leE x y := by
  rw [ltE]
  obtain ⟨a, p⟩ := x
  obtain ⟨b, q⟩ := y
  unfold leE
  cases p <;> cases q <;> simp <;> omega

theorem sortE_perm (es : List (Int × Bool)) : (sortE es).Perm es := List.mergeSort_perm _ _

theorem sortE_sorted (es : List (Int × Bool)) : (sortE es).Pairwise leE := by
  have := List.pairwise_mergeSort (le := fun x y => !(Go.Proofs.ltOf cmpE) y x) (fun a b c h1 h2 => by
    rw [leE_iff] at *; unfold leE at *; rcases h1 with h1 | ⟨h1, h1'⟩ <;> rcases h2 with h2 | ⟨h2, h2'⟩
    · left; omega
    · left; omega
    · left; omega
    · right; exact ⟨by omega, by rcases h1' with h | h <;> rcases h2' with h' | h' <;> simp_all⟩) (fun a b => by
    simp only [Bool.or_eq_true]
    rw [leE_iff, leE_iff]
    obtain ⟨a, p⟩ := a
    obtain ⟨b, q⟩ := b
    unfold leE
    cases p <;> cases q <;> simp <;> omega) es
  exact this.imp fun {a b} h => (leE_iff a b).1 h

/-- Behind edge k: the begins up to it, less the ends ahead of it. -/
theorem votesAt_eq (es : List (Int × Bool)) (k : Nat) (hk : k < es.length) : votesAt es k = ((es.take (k + 1)).countP fun e => !e.2) - ((es.take k).countP fun e => e.2) := by
  unfold votesAt
  rw [vAft_eq, countP_step _ es k hk, List.getElem?_eq_getElem hk]
  simp only [Option.getD_some]
  by_cases h : es[k].2 = true <;> simp [h] <;> omega

theorem sorted_le {es : List (Int × Bool)} (hs : es.Pairwise leE) {i j : Nat} (hi : i < es.length) (hj : j < es.length) (h : i ≤ j) : es[i].1 ≤ es[j].1 := by
  rcases Nat.lt_or_eq_of_le h with h | rfl
  · have := List.pairwise_iff_getElem.1 hs i j hi hj h
    unfold leE at this
    rcases this with h | ⟨h, _⟩ <;> omega
  · exact Int.le_refl _

theorem take_le {es : List (Int × Bool)} (hs : es.Pairwise leE) {k : Nat} (hk : k < es.length) : ∀ f ∈ es.take (k + 1), f.1 ≤ es[k].1 := by
  intro f hf
  obtain ⟨i, hi, rfl⟩ := List.getElem_of_mem hf
  rw [List.length_take] at hi
  rw [List.getElem_take]
  exact sorted_le hs (by omega) hk (by omega)

theorem drop_ge {es : List (Int × Bool)} (hs : es.Pairwise leE) {k : Nat} (hk : k < es.length) : ∀ f ∈ es.drop k, es[k].1 ≤ f.1 := by
  intro f hf
  obtain ⟨i, hi, rfl⟩ := List.getElem_of_mem hf
  rw [List.length_drop] at hi
  rw [List.getElem_drop]
  exact sorted_le hs hk (by omega) (by omega)

/-- The ends below the number of edge k lie ahead of it. -/
theorem ends_take {es : List (Int × Bool)} (hs : es.Pairwise leE) {k : Nat} (hk : k < es.length) :
    (es.countP fun e => e.2 && decide (e.1 < es[k].1)) = ((es.take k).countP fun e => e.2 && decide (e.1 < es[k].1)) := by
  have hd := drop_ge hs hk
  generalize es[k].1 = v at hd ⊢
  conv => lhs; rw [← List.take_append_drop k es]
  rw [List.countP_append, show (es.drop k).countP (fun e => e.2 && decide (e.1 < v)) = 0 from List.countP_eq_zero.2 fun f hf => by have := hd f hf; simp; intro _; omega]
  rfl

theorem votesAt_le {es : List (Int × Bool)} (hs : es.Pairwise leE) {gs : List (Int × Int)} (hp : es.Perm (edgesL gs)) {k : Nat} (hk : k < es.length) : votesAt es k ≤ votesL es[k].1 gs := by
  rw [votesAt_eq es k hk, votes_edges, ← hp.countP_eq, ← hp.countP_eq, ends_take hs hk]
  have h1 : ((es.take (k + 1)).countP fun e => !e.2) ≤ es.countP fun e => !e.2 && decide (e.1 ≤ es[k].1) := by
    refine Nat.le_trans (Nat.le_of_eq ?_) (List.Sublist.countP_le (List.take_sublist (k + 1) es))
    refine List.countP_congr fun f hf => ?_
    have := take_le hs hk f hf
    simp [this]
  have h2 : ((es.take k).countP fun e => e.2 && decide (e.1 < es[k].1)) ≤ (es.take k).countP fun e => e.2 := List.countP_mono_left fun f _ h => by simp at h; exact h.1
  omega

theorem votesAt_full {es : List (Int × Bool)} (hs : es.Pairwise leE) {gs : List (Int × Int)} (hp : es.Perm (edgesL gs)) {k : Nat} (hk : k < es.length)
    (h1 : ∀ f ∈ es.drop (k + 1), f.2 = false → es[k].1 < f.1) (h2 : ∀ f ∈ es.take k, f.2 = true → f.1 < es[k].1) : votesAt es k = votesL es[k].1 gs := by
  rw [votesAt_eq es k hk, votes_edges, ← hp.countP_eq, ← hp.countP_eq, ends_take hs hk]
  have e1 : (es.countP fun e => !e.2 && decide (e.1 ≤ es[k].1)) = (es.take (k + 1)).countP fun e => !e.2 := by
    have ht := take_le hs hk
    generalize es[k].1 = v at *
    conv => lhs; rw [← List.take_append_drop (k + 1) es]
    rw [List.countP_append, show (es.drop (k + 1)).countP (fun e => !e.2 && decide (e.1 ≤ v)) = 0 from List.countP_eq_zero.2 fun f hf => by have := h1 f hf; simp; intro h; have := this h; omega]
    refine List.countP_congr fun f hf => ?_
    have := ht f hf
    simp [this]
  have e2 : ((es.take k).countP fun e => e.2 && decide (e.1 < es[k].1)) = (es.take k).countP fun e => e.2 := by
    refine List.countP_congr fun f hf => ?_
    have := h2 f hf
    simp
    exact this
  rw [e1, e2]
end

section
/-- What Best holds behind k edges. -/
structure BInv (es : List (Int × Bool)) (k : Nat) (s : BS) : Prop where
  ge : ∀ j x, j < k → es[j]? = some (x, false) → votesAt es j ≤ s.most
  nonneg : 0 ≤ s.most
  zero : s.most = 0 → s = ⟨0, 0, 0, false⟩
  pos : 0 < s.most → ∃ i, i < k ∧ es[i]? = some (s.lo, false) ∧ votesAt es i = s.most ∧ (∀ j x, j < i → es[j]? = some (x, false) → votesAt es j < s.most) ∧
    ((s.op = true ∧ ∀ j x, i < j → j < k → es[j]? ≠ some (x, true)) ∨ (s.op = false ∧ ∃ j, i < j ∧ j < k ∧ es[j]? = some (s.hi, true) ∧ ∀ j' x, i < j' → j' < j → es[j']? ≠ some (x, true)))

theorem BInv.start (es : List (Int × Bool)) : BInv es 0 ⟨0, 0, 0, false⟩ := ⟨fun j x h => by omega, Int.le_refl _, fun _ => rfl, fun h => absurd h (by decide)⟩

theorem BInv.step {es : List (Int × Bool)} {k : Nat} {s : BS} (h : BInv es k s) (hk : k < es.length) : BInv es (k + 1) (bStep s (walkF es k)) := by
  have hw : walkF es k = (es[k], votesAt es k) := by unfold walkF; rw [List.getElem?_eq_getElem hk]; rfl
  have hek : es[k]? = some es[k] := List.getElem?_eq_getElem hk
  have hlast : ∀ j, j < k + 1 → j < k ∨ j = k := fun j hj => by omega
  rw [hw]
  obtain ⟨lo, hi, most, op⟩ := s
  obtain ⟨hge, hnn, hz, hpos⟩ := h
  simp only at hge hnn hz hpos
  have hvk : votesAt es k = votesAt es k := rfl
  generalize hv : votesAt es k = v
  generalize hee : es[k] = e at hek
  obtain ⟨x, en⟩ := e
  clear hw hvk
  cases en
  · by_cases hlt : most < v
    · have hb : bStep ⟨lo, hi, most, op⟩ ((x, false), v) = ⟨x, 0, v, true⟩ := by unfold bStep; rw [if_pos (show _ ∧ _ from ⟨rfl, hlt⟩)]
      rw [hb]
      refine ⟨fun j y hj hy => ?_, by show (0 : Int) ≤ v; omega, fun h0 => absurd (show v = 0 from h0) (by omega), fun _ => ⟨k, by omega, hek, hv, fun j y hj hy => ?_, .inl ⟨rfl, fun j y h1 h2 => by omega⟩⟩⟩
      · rcases hlast j hj with h | rfl
        · exact Int.le_trans (hge j y h hy) (Int.le_of_lt hlt)
        · exact Int.le_of_eq hv
      · exact Int.lt_of_le_of_lt (hge j y hj hy) hlt
    · have hb : bStep ⟨lo, hi, most, op⟩ ((x, false), v) = ⟨lo, hi, most, op⟩ := by unfold bStep; rw [if_neg (by simp; omega), if_neg (by simp)]
      rw [hb]
      refine ⟨fun j y hj hy => ?_, hnn, hz, fun h0 => ?_⟩
      · rcases hlast j hj with h | rfl
        · exact hge j y h hy
        · rw [hv]; show v ≤ most; omega
      · obtain ⟨i, h1, h2, h3, h4, h5⟩ := hpos h0
        refine ⟨i, by omega, h2, h3, h4, ?_⟩
        rcases h5 with ⟨h5, h6⟩ | ⟨h5, j, h6, h7, h8, h9⟩
        · refine .inl ⟨h5, fun j y hj1 hj2 => ?_⟩
          rcases hlast j hj2 with h | rfl
          · exact h6 j y hj1 h
          · rw [hek]; simp
        · exact .inr ⟨h5, j, h6, by omega, h8, h9⟩
  · cases op
    · have hb : bStep ⟨lo, hi, most, false⟩ ((x, true), v) = ⟨lo, hi, most, false⟩ := by unfold bStep; rw [if_neg (by simp), if_neg (by simp)]
      rw [hb]
      refine ⟨fun j y hj hy => ?_, hnn, hz, fun h0 => ?_⟩
      · rcases hlast j hj with h | rfl
        · exact hge j y h hy
        · rw [hek] at hy; simp at hy
      · obtain ⟨i, h1, h2, h3, h4, h5⟩ := hpos h0
        refine ⟨i, by omega, h2, h3, h4, ?_⟩
        rcases h5 with ⟨h5, h6⟩ | ⟨h5, j, h6, h7, h8, h9⟩
        · cases h5
        · exact .inr ⟨h5, j, h6, by omega, h8, h9⟩
    · have hb : bStep ⟨lo, hi, most, true⟩ ((x, true), v) = ⟨lo, x, most, false⟩ := by unfold bStep; rw [if_neg (by simp), if_pos (by simp)]
      rw [hb]
      refine ⟨fun j y hj hy => ?_, hnn, fun h0 => ?_, fun h0 => ?_⟩
      · rcases hlast j hj with h | rfl
        · exact hge j y h hy
        · rw [hek] at hy; simp at hy
      · have := hz h0; simp at this
      · obtain ⟨i, h1, h2, h3, h4, h5⟩ := hpos h0
        refine ⟨i, by omega, h2, h3, h4, ?_⟩
        rcases h5 with ⟨h5, h6⟩ | ⟨h5, j, h6, h7, h8, h9⟩
        · exact .inr ⟨rfl, k, h1, by omega, hek, fun j' y h7 h8 => h6 j' y h7 h8⟩
        · cases h5

theorem BInv.all (es : List (Int × Bool)) : ∀ k, k ≤ es.length → BInv es k (bFold (upto (walkF es) k))
  | 0, _ => BInv.start es
  | k + 1, h => by
    rw [upto_succ, bFold_snoc]
    exact (BInv.all es k (by omega)).step (by omega)
end

section
structure RInv (gs l : List (Int × Int)) (s : Nat × (Int × Int)) : Prop where
  ge : ∀ g ∈ l, votesL g.1 gs ≤ s.1
  pos : 0 < s.1 → (∃ g ∈ l, g.1 = s.2.1) ∧ votesL s.2.1 gs = s.1 ∧ ∀ g ∈ l, votesL g.1 gs = s.1 → s.2.1 ≤ g.1

theorem RInv.step {gs l : List (Int × Int)} {s : Nat × (Int × Int)} (h : RInv gs l s) (g : Int × Int) : RInv gs (l ++ [g]) (rb1 gs s g) := by
  obtain ⟨m, x, y⟩ := s
  obtain ⟨hge, hpos⟩ := h
  simp only at hge hpos
  unfold rb1
  split
  · rename_i hc
    simp only at hc
    refine ⟨fun g' hg' => ?_, fun h0 => ⟨⟨g, by simp, rfl⟩, rfl, fun g' hg' hv => ?_⟩⟩
    · rcases List.mem_append.1 hg' with h | h
      · have := hge g' h; show votesL g'.1 gs ≤ votesL g.1 gs; omega
      · simp at h; subst h; exact Nat.le_refl _
    · show g.1 ≤ g'.1
      rcases List.mem_append.1 hg' with h | h
      · have h1 := hge g' h
        simp only at hv
        rcases hc with hc | ⟨hc1, hc2, hc3⟩
        · omega
        · have := (hpos (by omega)).2.2 g' h (by omega); omega
      · simp at h; subst h; omega
  · rename_i hc
    simp only at hc
    refine ⟨fun g' hg' => ?_, fun h0 => ?_⟩
    · rcases List.mem_append.1 hg' with h | h
      · exact hge g' h
      · simp at h; subst h; show votesL g'.1 gs ≤ m; omega
    · simp only at h0
      obtain ⟨⟨g1, h1, h2⟩, h3, h4⟩ := hpos h0
      refine ⟨⟨g1, by simp [h1], h2⟩, h3, fun g' hg' hv => ?_⟩
      rcases List.mem_append.1 hg' with h | h
      · exact h4 g' h hv
      · simp at h; subst h; simp only at hv ⊢; omega

theorem RInv.all (gs : List (Int × Int)) : ∀ (l p : List (Int × Int)) (s : Nat × (Int × Int)), RInv gs p s → RInv gs (p ++ l) (l.foldl (rb1 gs) s)
  | [], p, s, h => by simpa using h
  | g :: l, p, s, h => by
    have := RInv.all gs l (p ++ [g]) _ (h.step g)
    simpa using this

theorem rbest1_inv (gs : List (Int × Int)) : RInv gs gs (rbest1 gs) := by
  have := RInv.all gs gs [] (0, (0, 0)) ⟨fun g h => by simp at h, fun h => absurd h (by decide)⟩
  rw [List.nil_append] at this
  exact this
end

section
theorem mem_edgesL (gs : List (Int × Int)) (e : Int × Bool) : e ∈ edgesL gs ↔ ∃ g ∈ gs, g.1 ≤ g.2 ∧ ((e = (g.1, false)) ∨ (e = (g.2, true))) := by
  unfold edgesL
  rw [List.mem_flatMap]
  constructor
  · rintro ⟨g, hg, he⟩
    unfold edgesG okG at he
    by_cases h : g.1 ≤ g.2
    · simp [h] at he; exact ⟨g, hg, h, he⟩
    · simp [h] at he
  · rintro ⟨g, hg, h, he⟩
    refine ⟨g, hg, ?_⟩
    unfold edgesG okG
    simp [h]
    exact he

/-- What stands ahead of a begin and ends, ends below it. -/
theorem ends_ahead {es : List (Int × Bool)} (hs : es.Pairwise leE) {k : Nat} (hk : k < es.length) (hb : es[k].2 = false) : ∀ f ∈ es.take k, f.2 = true → f.1 < es[k].1 := by
  intro f hf h
  obtain ⟨i, hi, rfl⟩ := List.getElem_of_mem hf
  rw [List.length_take] at hi
  rw [List.getElem_take] at h ⊢
  have := List.pairwise_iff_getElem.1 hs i k (by omega) hk (by omega)
  unfold leE at this
  rcases this with h1 | ⟨_, h1 | h1⟩
  · exact h1
  · rw [h] at h1; cases h1
  · rw [hb] at h1; cases h1

/-- The last begin at a number: its votes are the number's. -/
theorem last_begin {es : List (Int × Bool)} (hs : es.Pairwise leE) {x : Int} (hx : (x, false) ∈ es) : ∃ k, ∃ hk : k < es.length, es[k] = (x, false) ∧ ∀ f ∈ es.drop (k + 1), f.2 = false → x < f.1 := by
  have key : ∀ n j, n = es.length - j → ∀ hj : j < es.length, es[j] = (x, false) → ∃ k, ∃ hk : k < es.length, es[k] = (x, false) ∧ ∀ f ∈ es.drop (k + 1), f.2 = false → x < f.1 := by
    intro n
    induction n using Nat.strongRecOn with
    | _ n ih =>
      intro j hn hj he
      by_cases h : ∀ f ∈ es.drop (j + 1), f.2 = false → x < f.1
      · exact ⟨j, hj, he, h⟩
      · simp only [Classical.not_forall] at h
        obtain ⟨f, hf, hf2, hf3⟩ := h
        obtain ⟨i, hi, rfl⟩ := List.getElem_of_mem hf
        rw [List.length_drop] at hi
        rw [List.getElem_drop] at hf2 hf3
        have h1 := sorted_le hs hj (show j + 1 + i < es.length by omega) (by omega)
        rw [he] at h1
        simp only at h1
        refine ih (es.length - (j + 1 + i)) (by omega) (j + 1 + i) rfl (by omega) ?_
        exact Prod.ext (by show es[j + 1 + i].1 = x; omega) hf2
  obtain ⟨j, hj, he⟩ := List.getElem_of_mem hx
  exact key _ j rfl hj he
end

section
theorem has_lo {gs : List (Int × Int)} {x : Int} (h : 0 < votesL x gs) : ∃ g ∈ gs, g.1 ≤ x ∧ x ≤ g.2 := by
  unfold votesL at h
  obtain ⟨g, hg, hh⟩ := List.countP_pos_iff.1 h
  unfold hasG at hh
  simp at hh
  exact ⟨g, hg, hh⟩

theorem lo_votes {gs : List (Int × Int)} {g : Int × Int} (hg : g ∈ gs) (hok : g.1 ≤ g.2) : 0 < votesL g.1 gs := by
  unfold votesL
  exact List.countP_pos_iff.2 ⟨g, hg, by unfold hasG; simp [hok]⟩

/-- A begin's number with its votes is reached by the walk. -/
theorem reach {gs : List (Int × Int)} {es : List (Int × Bool)} (hs : es.Pairwise leE) (hp : es.Perm (edgesL gs)) {g : Int × Int} (hg : g ∈ gs) (hok : g.1 ≤ g.2) :
    ∃ k, ∃ hk : k < es.length, es[k] = (g.1, false) ∧ votesAt es k = votesL g.1 gs ∧ ∀ f ∈ es.drop (k + 1), f.2 = false → g.1 < f.1 := by
  obtain ⟨k, hk, he, h1⟩ := last_begin hs (x := g.1) (hp.mem_iff.2 ((mem_edgesL gs _).2 ⟨g, hg, hok, .inl rfl⟩))
  refine ⟨k, hk, he, ?_, h1⟩
  have := votesAt_full hs hp hk (by rw [he]; exact h1) (ends_ahead hs hk (by rw [he]))
  rw [he] at this
  exact this
end

section
/-- Of some gaps with begins at most at x one begins last. -/
theorem greatest_lo : ∀ (l : List (Int × Int)) (x : Int), (∃ g ∈ l, hasG x g = true) → ∃ g ∈ l, hasG x g = true ∧ ∀ g' ∈ l, hasG x g' = true → g'.1 ≤ g.1
  | [], x, h => by obtain ⟨g, hg, _⟩ := h; simp at hg
  | g :: l, x, h => by
    by_cases hl : ∃ g ∈ l, hasG x g = true
    · obtain ⟨g1, h1, h2, h3⟩ := greatest_lo l x hl
      by_cases hg : hasG x g = true ∧ g1.1 < g.1
      · refine ⟨g, by simp, hg.1, fun g' hg' hh => ?_⟩
        rcases List.mem_cons.1 hg' with rfl | h'
        · exact Int.le_refl _
        · have := h3 g' h' hh; omega
      · refine ⟨g1, by simp [h1], h2, fun g' hg' hh => ?_⟩
        rcases List.mem_cons.1 hg' with rfl | h'
        · have : ¬ g1.1 < g'.1 := fun h => hg ⟨hh, h⟩
          omega
        · exact h3 g' h' hh
    · obtain ⟨g1, h1, h2⟩ := h
      rcases List.mem_cons.1 h1 with rfl | h'
      · refine ⟨g1, by simp, h2, fun g' hg' hh => ?_⟩
        rcases List.mem_cons.1 hg' with rfl | h'
        · exact Int.le_refl _
        · exact absurd ⟨g', h', hh⟩ hl
      · exact absurd ⟨g1, h', h2⟩ hl

/-- A number's votes are those of an ok gap's begin, at most at it, or fewer. -/
theorem down_to_lo {gs : List (Int × Int)} {x : Int} (h : 0 < votesL x gs) : ∃ g ∈ gs, g.1 ≤ g.2 ∧ g.1 ≤ x ∧ votesL x gs ≤ votesL g.1 gs := by
  obtain ⟨g0, h0, h0a, h0b⟩ := has_lo h
  obtain ⟨g, hg, hh, hm⟩ := greatest_lo gs x ⟨g0, h0, by unfold hasG; simp [h0a, h0b]⟩
  have hh' := hh
  unfold hasG at hh'
  simp at hh'
  refine ⟨g, hg, by omega, hh'.1, ?_⟩
  unfold votesL
  refine List.countP_mono_left fun g' hg' h' => ?_
  have := hm g' hg' h'
  unfold hasG at h' ⊢
  simp at h' ⊢
  omega
end

section
/-- The document's least number with the most votes is an ok gap's begin. -/
theorem rinv_lo {gs : List (Int × Int)} {s : Nat × (Int × Int)} (h : RInv gs gs s) (h0 : 0 < s.1) : ∃ g ∈ gs, g.1 ≤ g.2 ∧ g.1 = s.2.1 := by
  obtain ⟨_, h2, h3⟩ := h.pos h0
  obtain ⟨g, hg, hok, hle, hv⟩ := down_to_lo (gs := gs) (x := s.2.1) (by omega)
  have h4 := h.ge g hg
  have h5 := h3 g hg (by omega)
  exact ⟨g, hg, hok, by omega⟩

/-- The most votes are the same. -/
theorem most_eq {gs : List (Int × Int)} {es : List (Int × Bool)} (hs : es.Pairwise leE) (hp : es.Perm (edgesL gs)) {s : BS} (hb : BInv es es.length s) {R : Nat × (Int × Int)} (hr : RInv gs gs R) : s.most = R.1 := by
  have h1 : (R.1 : Int) ≤ s.most := by
    by_cases h0 : 0 < R.1
    · obtain ⟨g, hg, hok, hx⟩ := rinv_lo hr h0
      obtain ⟨k, hk, he, hv, _⟩ := reach hs hp hg hok
      have := hb.ge k g.1 hk (by rw [List.getElem?_eq_getElem hk, he])
      rw [hv, hx, (hr.pos h0).2.1] at this
      exact this
    · have := hb.nonneg; omega
  have h2 : s.most ≤ R.1 := by
    by_cases h0 : 0 < s.most
    · obtain ⟨i, hi, he, hv, _, _⟩ := hb.pos h0
      have he' : es[i] = (s.lo, false) := by rw [List.getElem?_eq_getElem hi] at he; simpa using he
      have h3 := votesAt_le hs hp hi
      rw [he', hv] at h3
      obtain ⟨g, hg, hok, h4⟩ := (mem_edgesL gs (s.lo, false)).1 (hp.mem_iff.1 (by rw [← he']; exact List.getElem_mem hi))
      have h5 := hr.ge g hg
      rcases h4 with h4 | h4
      · simp at h4; rw [← h4] at h5; simp only at h3; omega
      · simp at h4
    · omega
  omega
end

section
theorem get_of {es : List (Int × Bool)} {i : Nat} {e : Int × Bool} (h : es[i]? = some e) : ∃ hi : i < es.length, es[i] = e := List.getElem?_eq_some_iff.1 h

theorem lo_eq {gs : List (Int × Int)} {es : List (Int × Bool)} (hs : es.Pairwise leE) (hp : es.Perm (edgesL gs)) {s : BS} (hb : BInv es es.length s) {R : Nat × (Int × Int)} (hr : RInv gs gs R) (h0 : 0 < R.1) : s.lo = R.2.1 := by
  have hm := most_eq hs hp hb hr
  obtain ⟨i, hi, he, hv, hlt, _⟩ := hb.pos (by omega)
  obtain ⟨_, he'⟩ := get_of he
  obtain ⟨g, hg, hok, hx⟩ := rinv_lo hr h0
  obtain ⟨k, hk, hek, hvk, _⟩ := reach hs hp hg hok
  have hik : i ≤ k := by
    rcases Nat.lt_or_ge k i with h | h
    · have := hlt k g.1 h (by rw [List.getElem?_eq_getElem hk, hek])
      rw [hvk, hx, (hr.pos h0).2.1] at this
      omega
    · exact h
  have h1 := sorted_le hs hi hk hik
  rw [he', hek] at h1
  simp only at h1
  have h3 := votesAt_le hs hp hi
  rw [he', hv] at h3
  simp only at h3
  obtain ⟨g2, hg2, hok2, h4⟩ := (mem_edgesL gs (s.lo, false)).1 (hp.mem_iff.1 (by rw [← he']; exact List.getElem_mem hi))
  have h4' : s.lo = g2.1 := by
    rcases h4 with h4 | h4
    · simpa using h4
    · simp at h4
  have h5 := hr.ge g2 hg2
  rw [← h4'] at h5
  have h6 := (hr.pos h0).2.2 g2 hg2 (by rw [← h4']; omega)
  omega
end

section
theorem rb2_fold (lo : Int) : ∀ (l : List (Int × Int)) (h : Int), (l.foldl (rb2 lo) h ≤ h) ∧ (∀ g ∈ l, okG g = true → g.1 ≤ lo → lo ≤ g.2 → l.foldl (rb2 lo) h ≤ g.2) ∧
    (l.foldl (rb2 lo) h = h ∨ ∃ g ∈ l, okG g = true ∧ g.1 ≤ lo ∧ lo ≤ g.2 ∧ l.foldl (rb2 lo) h = g.2)
  | [], h => ⟨Int.le_refl _, fun g hg => by simp at hg, .inl rfl⟩
  | g :: l, h => by
    rw [List.foldl_cons]
    obtain ⟨h1, h2, h3⟩ := rb2_fold lo l (rb2 lo h g)
    have hle : rb2 lo h g ≤ h := by unfold rb2; split <;> omega
    refine ⟨Int.le_trans h1 hle, fun g' hg' a b c => ?_, ?_⟩
    · rcases List.mem_cons.1 hg' with rfl | h'
      · refine Int.le_trans h1 ?_
        unfold rb2
        rw [if_pos ⟨a, b, c⟩]
        omega
      · exact h2 g' h' a b c
    · rcases h3 with h3 | ⟨g', h', h3⟩
      · rw [h3]
        unfold rb2
        split
        · rename_i hc
          rcases Int.le_total h g.2 with hh | hh
          · left; omega
          · right; exact ⟨g, by simp, hc.1, hc.2.1, hc.2.2, by omega⟩
        · exact .inl rfl
      · exact .inr ⟨g', by simp [h'], h3⟩
end

section
/-- An end's edge of an ok gap that has a number lies behind each begin at it. -/
theorem end_behind {es : List (Int × Bool)} (hs : es.Pairwise leE) {i : Nat} (hi : i < es.length) {x y : Int} (he : es[i] = (x, false)) (hxy : x ≤ y) (hy : (y, true) ∈ es) : ∃ j, i < j ∧ ∃ hj : j < es.length, es[j] = (y, true) := by
  obtain ⟨j, hj, hej⟩ := List.getElem_of_mem hy
  refine ⟨j, ?_, hj, hej⟩
  rcases Nat.lt_trichotomy i j with h | h | h
  · exact h
  · subst h; rw [he] at hej; simp at hej
  · have := List.pairwise_iff_getElem.1 hs j i hj hi h
    rw [he, hej] at this
    unfold leE at this
    simp at this
    omega

theorem hi_eq {gs : List (Int × Int)} {es : List (Int × Bool)} (hs : es.Pairwise leE) (hp : es.Perm (edgesL gs)) {s : BS} (hb : BInv es es.length s) {R : Nat × (Int × Int)} (hr : RInv gs gs R) (h0 : 0 < R.1)
    (hmax : ∀ g ∈ gs, g.2 ≤ 9223372036854775807) : s.hi = gs.foldl (rb2 R.2.1) 9223372036854775807 := by
  have hm := most_eq hs hp hb hr
  have hlo := lo_eq hs hp hb hr h0
  obtain ⟨i, hi, he, hv, hlt, hop⟩ := hb.pos (by omega)
  obtain ⟨_, he'⟩ := get_of he
  rw [hlo] at he'
  generalize R.2.1 = x at *
  obtain ⟨f1, f2, f3⟩ := rb2_fold x gs 9223372036854775807
  have memE : ∀ g ∈ gs, okG g = true → (g.2, true) ∈ es := fun g hg hok => hp.mem_iff.2 ((mem_edgesL gs _).2 ⟨g, hg, by unfold okG at hok; simpa using hok, .inr rfl⟩)
  obtain ⟨g1, hg1, hok1, h4⟩ := (mem_edgesL gs (x, false)).1 (hp.mem_iff.1 (by rw [← he']; exact List.getElem_mem hi))
  have h4' : x = g1.1 := by
    rcases h4 with h4 | h4
    · simpa using h4
    · simp at h4
  rcases hop with ⟨_, hno⟩ | ⟨_, j, hij, hj, hej, hbet⟩
  · obtain ⟨j, hij, hj, hej⟩ := end_behind hs hi he' (y := g1.2) (by omega) (memE g1 hg1 (by unfold okG; simpa using hok1))
    exact absurd (by rw [List.getElem?_eq_getElem hj, hej]) (hno j g1.2 hij hj)
  · obtain ⟨_, hej'⟩ := get_of hej
    -- no begin stands between: j = i + 1
    have hj1 : j = i + 1 := by
      rcases Nat.lt_or_ge (i + 1) j with h | h
      · have hk : i + 1 < es.length := by omega
        have h5 : es[i + 1].2 = false := by
          cases h6 : es[i + 1].2
          · rfl
          · exact absurd (by rw [List.getElem?_eq_getElem hk, ← h6]) (hbet (i + 1) es[i + 1].1 (by omega) h)
        have h6 := hb.ge (i + 1) es[i + 1].1 hk (by rw [List.getElem?_eq_getElem hk, ← h5])
        rw [votesAt_eq es (i + 1) hk, countP_step _ es (i + 1) hk, countP_step _ es i hi] at h6
        rw [votesAt_eq es i hi] at hv
        rw [countP_step _ es i hi] at hv
        have h8 := countP_step (fun e => e.2) es i hi
        simp [h5, he'] at h6 hv h8
        omega
      · omega
    subst hj1
    obtain ⟨g0, hg0, hok0, h7⟩ := (mem_edgesL gs (s.hi, true)).1 (hp.mem_iff.1 (by rw [← hej']; exact List.getElem_mem hj))
    have h7' : s.hi = g0.2 := by
      rcases h7 with h7 | h7
      · simp at h7
      · simpa using h7
    have hxh : x ≤ s.hi := by
      have := sorted_le hs hi hj (by omega)
      rw [he', hej'] at this
      exact this
    have hg0x : g0.1 ≤ x := by
      obtain ⟨b, hb1, hb2⟩ := List.getElem_of_mem (hp.mem_iff.2 ((mem_edgesL gs (g0.1, false)).2 ⟨g0, hg0, hok0, .inl rfl⟩))
      rcases Nat.lt_or_ge i b with h | h
      · rcases Nat.lt_or_eq_of_le (show i + 1 ≤ b from h) with h | h
        · have := List.pairwise_iff_getElem.1 hs (i + 1) b hj hb1 h
          rw [hej', hb2] at this
          unfold leE at this
          simp at this
          omega
        · subst h; rw [hej'] at hb2; simp at hb2
      · have := sorted_le hs hb1 hi h
        rw [he', hb2] at this
        exact this
    have hle : gs.foldl (rb2 x) 9223372036854775807 ≤ s.hi := by
      rw [h7']
      exact f2 g0 hg0 (by unfold okG; simpa using hok0) hg0x (by omega)
    have hge : s.hi ≤ gs.foldl (rb2 x) 9223372036854775807 := by
      rcases f3 with f3 | ⟨g, hg, hok, ha, hb', f3⟩
      · rw [f3, h7']; exact hmax g0 hg0
      · obtain ⟨j, hij, hj2, hej2⟩ := end_behind hs hi he' hb' (memE g hg hok)
        have := sorted_le hs hj hj2 (by omega)
        rw [hej', hej2] at this
        rw [f3]
        exact this
    omega
end

section
theorem best_eq (gs : List (Int × Int)) (hmax : ∀ g ∈ gs, g.2 ≤ 9223372036854775807) : bestL gs = ((refBest gs).1, ((refBest gs).2 : Int)) := by
  have hs := sortE_sorted (edgesL gs)
  have hp := sortE_perm (edgesL gs)
  have hb := BInv.all (sortE (edgesL gs)) _ (Nat.le_refl _)
  have hl : (sortE (edgesL gs)).length = 2 * rightL gs := by rw [sortE_len, edgesL_len]
  have hr := rbest1_inv gs
  have e1 : bFold (upto (walkF (sortE (edgesL gs))) (sortE (edgesL gs)).length) = bestB gs := by rw [hl]; rfl
  rw [e1] at hb
  have hm := most_eq hs hp hb hr
  unfold bestL refBest
  by_cases h0 : (rbest1 gs).1 = 0
  · rw [if_pos h0, hb.zero (by omega)]
    rfl
  · rw [if_neg h0, hm, lo_eq hs hp hb hr (by omega), hi_eq hs hp hb hr (by omega) hmax]

theorem agree_eq (gs : List (Int × Int)) (hmax : ∀ g ∈ gs, g.2 ≤ 9223372036854775807) : agreeL gs = refAgree gs := by
  unfold agreeL refAgree
  rw [best_eq gs hmax]
  simp only
  by_cases h : (refBest gs).2 = gs.length
  · rw [h]; simp
  · have h1 : ((refBest gs).2 == gs.length) = false := by simpa using h
    have h2 : decide (((refBest gs).2 : Int) = gs.length) = false := by simp; omega
    rw [h1, h2]; simp
end

end Go.Proofs.Ytkgodolhcoeaeaa
