/- Sweep: the plain law, first part: votes behind edges, and votes of numbers. No condition. -/
import Derived.Test.YtljkijolehalcaaSk
namespace Go.Proofs.Ytljkijolehalcaa

theorem vAft_from (l : List (Int × Bool)) : ∀ v : Int, l.foldl (fun v e => if e.2 = true then v - 1 else v + 1) v = v + (l.countP fun e => !e.2) - (l.countP fun e => e.2) := by
  induction l with
  | nil => intro v; simp
  | cons e l ih =>
    intro v
    rw [List.foldl_cons, ih, List.countP_cons, List.countP_cons]
    cases e.2 <;> simp <;> omega

theorem vAft_eq (l : List (Int × Bool)) : vAft l = (l.countP fun e => !e.2) - (l.countP fun e => e.2) := by
  unfold vAft
  rw [vAft_from]
  omega

/-- Begins at most at x, less ends below x: the votes of x. -/
theorem votes_edges (x : Int) (gs : List (Int × Int)) :
    (votesL x gs : Int) = ((edgesL gs).countP fun e => !e.2 && decide (e.1 ≤ x)) - ((edgesL gs).countP fun e => e.2 && decide (e.1 < x)) := by
  unfold votesL edgesL
  induction gs with
  | nil => rfl
  | cons g r ih =>
    rw [List.countP_cons, List.flatMap_cons, List.countP_append, List.countP_append]
    have : (((edgesG g).countP fun e => !e.2 && decide (e.1 ≤ x) : Nat) : Int) - ((edgesG g).countP fun e => e.2 && decide (e.1 < x) : Nat) = if hasG x g = true then 1 else 0 := by
      unfold edgesG okG hasG
      have h0 : decide (x ≤ g.2) = !decide (g.2 < x) := by by_cases h : g.2 < x <;> simp [h] <;> omega
      rw [h0]
      by_cases h1 : g.1 ≤ g.2 <;> by_cases h2 : g.1 ≤ x <;> by_cases h3 : g.2 < x <;> simp [h1, h2, h3, List.countP_cons] <;> omega
    split at this <;> simp_all <;> omega

/-- x comes no later than y. -/
def leE (x y : Int × Bool) : Prop := x.1 < y.1 ∨ (x.1 = y.1 ∧ (x.2 = false ∨ y.2 = true))

theorem leE_iff (x y : Int × Bool) : (!(Go.Proofs.ltOf cmpE) y x) = true ↔ leE x y := by
  rw [ltE]
  obtain ⟨a, p⟩ := x
  obtain ⟨b, q⟩ := y
  unfold leE
  cases p <;> cases q <;> simp <;> omega

theorem sortE_perm (es : List (Int × Bool)) : (sortE es).Perm es := List.mergeSort_perm _ _

theorem sortE_sorted (es : List (Int × Bool)) : (sortE es).Pairwise leE := by
  have := List.pairwise_mergeSort (le := fun x y => !(Go.Proofs.ltOf cmpE) y x) (fun a b c h1 h2 => by
    rw [leE_iff] at *; unfold leE at *; rcases h1 with h1 | ⟨h1, h1'⟩ <;> rcases h2 with h2 | ⟨h2, h2'⟩
    · left; omega
    · left; omega
    · left; omega
    · right; exact ⟨by omega, by rcases h1' with h | h <;> rcases h2' with h' | h' <;> simp_all⟩) (fun a b => by
    simp only [Bool.or_eq_true]
    rw [leE_iff, leE_iff]
    obtain ⟨a, p⟩ := a
    obtain ⟨b, q⟩ := b
    unfold leE
    cases p <;> cases q <;> simp <;> omega) es
  exact this.imp fun {a b} h => (leE_iff a b).1 h

/-- Behind edge k: the begins up to it, less the ends ahead of it. -/
theorem votesAt_eq (es : List (Int × Bool)) (k : Nat) (hk : k < es.length) : votesAt es k = ((es.take (k + 1)).countP fun e => !e.2) - ((es.take k).countP fun e => e.2) := by
  unfold votesAt
  rw [vAft_eq, countP_step _ es k hk, List.getElem?_eq_getElem hk]
  simp only [Option.getD_some]
  by_cases h : es[k].2 = true <;> simp [h] <;> omega

theorem sorted_le {es : List (Int × Bool)} (hs : es.Pairwise leE) {i j : Nat} (hi : i < es.length) (hj : j < es.length) (h : i ≤ j) : es[i].1 ≤ es[j].1 := by
  rcases Nat.lt_or_eq_of_le h with h | rfl
  · have := List.pairwise_iff_getElem.1 hs i j hi hj h
    unfold leE at this
    rcases this with h | ⟨h, _⟩ <;> omega
  · exact Int.le_refl _

theorem take_le {es : List (Int × Bool)} (hs : es.Pairwise leE) {k : Nat} (hk : k < es.length) : ∀ f ∈ es.take (k + 1), f.1 ≤ es[k].1 := by
  intro f hf
  obtain ⟨i, hi, rfl⟩ := List.getElem_of_mem hf
  rw [List.length_take] at hi
  rw [List.getElem_take]
  exact sorted_le hs (by omega) hk (by omega)

theorem drop_ge {es : List (Int × Bool)} (hs : es.Pairwise leE) {k : Nat} (hk : k < es.length) : ∀ f ∈ es.drop k, es[k].1 ≤ f.1 := by
  intro f hf
  obtain ⟨i, hi, rfl⟩ := List.getElem_of_mem hf
  rw [List.length_drop] at hi
  rw [List.getElem_drop]
  exact sorted_le hs hk (by omega) (by omega)

/-- The ends below the number of edge k lie ahead of it. -/
theorem ends_take {es : List (Int × Bool)} (hs : es.Pairwise leE) {k : Nat} (hk : k < es.length) :
    (es.countP fun e => e.2 && decide (e.1 < es[k].1)) = ((es.take k).countP fun e => e.2 && decide (e.1 < es[k].1)) := by
  have hd := drop_ge hs hk
  generalize es[k].1 = v at hd ⊢
  conv => lhs; rw [← List.take_append_drop k es]
  rw [List.countP_append, show (es.drop k).countP (fun e => e.2 && decide (e.1 < v)) = 0 from List.countP_eq_zero.2 fun f hf => by have := hd f hf; simp; intro _; omega]
  rfl

theorem votesAt_le {es : List (Int × Bool)} (hs : es.Pairwise leE) {gs : List (Int × Int)} (hp : es.Perm (edgesL gs)) {k : Nat} (hk : k < es.length) : votesAt es k ≤ votesL es[k].1 gs := by
  rw [votesAt_eq es k hk, votes_edges, ← hp.countP_eq, ← hp.countP_eq, ends_take hs hk]
  have h1 : ((es.take (k + 1)).countP fun e => !e.2) ≤ es.countP fun e => !e.2 && decide (e.1 ≤ es[k].1) := by
    refine Nat.le_trans (Nat.le_of_eq ?_) (List.Sublist.countP_le (List.take_sublist (k + 1) es))
    refine List.countP_congr fun f hf => ?_
    have := take_le hs hk f hf
    simp [this]
  have h2 : ((es.take k).countP fun e => e.2 && decide (e.1 < es[k].1)) ≤ (es.take k).countP fun e => e.2 := List.countP_mono_left fun f _ h => by simp at h; exact h.1
  omega

theorem votesAt_full {es : List (Int × Bool)} (hs : es.Pairwise leE) {gs : List (Int × Int)} (hp : es.Perm (edgesL gs)) {k : Nat} (hk : k < es.length)
    (h1 : ∀ f ∈ es.drop (k + 1), f.2 = false → es[k].1 < f.1) (h2 : ∀ f ∈ es.take k, f.2 = true → f.1 < es[k].1) : votesAt es k = votesL es[k].1 gs := by
  rw [votesAt_eq es k hk, votes_edges, ← hp.countP_eq, ← hp.countP_eq, ends_take hs hk]
  have e1 : (es.countP fun e => !e.2 && decide (e.1 ≤ es[k].1)) = (es.take (k + 1)).countP fun e => !e.2 := by
    have ht := take_le hs hk
    generalize es[k].1 = v at *
    conv => lhs; rw [← List.take_append_drop (k + 1) es]
    rw [List.countP_append, show (es.drop (k + 1)).countP (fun e => !e.2 && decide (e.1 ≤ v)) = 0 from List.countP_eq_zero.2 fun f hf => by have := h1 f hf; simp; intro h; have := this h; omega]
    refine List.countP_congr fun f hf => ?_
    have := ht f hf
    simp [this]
  have e2 : ((es.take k).countP fun e => e.2 && decide (e.1 < es[k].1)) = (es.take k).countP fun e => e.2 := by
    refine List.countP_congr fun f hf => ?_
    have := h2 f hf
    simp
    exact this
  rw [e1, e2]

end Go.Proofs.Ytljkijolehalcaa
