/- Drift: the plain law of Honest and Least. No condition. -/
import Derived.Test.YtkgodolhcoeaeaaDa
namespace Go.Proofs.Ytkgodolhcoeaeaa

def lexP (a b : Int × Int) : Prop := a.1 < b.1 ∨ (a.1 = b.1 ∧ a.2 ≤ b.2)
def offP (p o : Int × Int) : Int := max ((p.2 - o.2) - (p.1 - o.1)) ((p.1 - o.1) - (p.2 - o.2)) - 1
/-- p, not ahead of o, follows it by a rate. -/
def flwB (r : Int) (p o : Int × Int) : Bool := decide (0 ≤ p.2 - o.2) && (decide (offP p o ≤ 0) || decide (offP p o * 1000000 ≤ r * (p.1 - o.1)))
def stepB (r : Int) (o p : Int × Int) : Bool := flwB r p o && !(decide (p.1 = o.1) && !decide (p.2 = o.2))
def rateB (r : Int) : Bool := decide (0 ≤ r) && decide (r ≤ 100000)
def rightB (p : Int × Int) : Bool := decide (0 ≤ min p.1 p.2) && decide (max p.1 p.2 ≤ 4611686018427387903)
def symP (r : Int) (a b : Int × Int) : Prop := (lexP a b → stepB r a b = true) ∧ (lexP b a → stepB r b a = true)

theorem symP.symm {r : Int} {a b : Int × Int} (h : symP r a b) : symP r b a := ⟨h.2, h.1⟩

theorem lexP_anti {a b : Int × Int} (h : lexP a b) (h' : lexP b a) : a = b := by
  unfold lexP at h h'
  exact Prod.ext (by omega) (by omega)

theorem lexP_total (a b : Int × Int) : lexP a b ∨ lexP b a := by unfold lexP; omega

theorem stepB_refl (r : Int) (a : Int × Int) : stepB r a a = true := by
  unfold stepB flwB offP
  simp

theorem sym_of_step {r : Int} {a b : Int × Int} (hl : lexP a b) (h : stepB r a b = true) : symP r a b :=
  ⟨fun _ => h, fun h' => by rw [lexP_anti hl h']; exact stepB_refl r b⟩

/-- Honest, by pairs in whatever order. -/
def pairsP (r : Int) (l : List (Int × Int)) : Prop := l.Pairwise (symP r)

theorem pairs_sorted {r : Int} {l ss : List (Int × Int)} (hp : ss.Perm l) (hs : ss.Pairwise lexP) : ss.Pairwise (fun o p => stepB r o p = true) ↔ pairsP r l := by
  unfold pairsP
  rw [← List.Perm.pairwise_iff (R := symP r) (fun h => symP.symm h) hp]
  constructor
  · intro h
    exact (List.pairwise_and_iff.2 ⟨hs, h⟩).imp fun {a b} ⟨h1, h2⟩ => sym_of_step h1 h2
  · intro h
    exact (List.pairwise_and_iff.2 ⟨hs, h⟩).imp fun {a b} ⟨h1, h2⟩ => h2.1 h1

def honestP (r : Int) (l : List (Int × Int)) : Prop := rateB r = true ∧ (∀ p ∈ l, rightB p = true) ∧ pairsP r l

theorem stepB_mono {r r' : Int} (h : r ≤ r') {o p : Int × Int} (hl : lexP o p) (hs : stepB r o p = true) : stepB r' o p = true := by
  unfold stepB flwB at *
  simp at hs ⊢
  refine ⟨⟨hs.1.1, ?_⟩, hs.2⟩
  rcases hs.1.2 with h1 | h1
  · exact .inl h1
  · right
    have : r * (p.1 - o.1) ≤ r' * (p.1 - o.1) := Int.mul_le_mul_of_nonneg_right h (by unfold lexP at hl; omega)
    omega

theorem honest_mono {r r' : Int} (h : r ≤ r') (h' : r' ≤ 100000) {l : List (Int × Int)} (hh : honestP r l) : honestP r' l := by
  obtain ⟨h1, h2, h3⟩ := hh
  unfold rateB at h1
  simp at h1
  refine ⟨by unfold rateB; simp; omega, h2, List.Pairwise.imp (fun {a b} hs => ⟨fun hl => stepB_mono h hl (hs.1 hl), fun hl => stepB_mono h hl (hs.2 hl)⟩) h3⟩

theorem honest_sub {r : Int} {l l' : List (Int × Int)} (hs : l'.Sublist l) (hh : honestP r l) : honestP r l' :=
  ⟨hh.1, fun p hp => hh.2.1 p (hs.mem hp), List.Pairwise.sublist hs hh.2.2⟩

/-- Two readings of an honest clock: the true time between is within the bounds of the clock's. -/
theorem honest_sound {r : Int} {l : List (Int × Int)} (hh : honestP r l) {i k : Nat} (hi : i < l.length) (hk : k < l.length) :
    lowL (l[k].2 - l[i].2) r ≤ l[k].1 - l[i].1 ∧ l[k].1 - l[i].1 ≤ highL (l[k].2 - l[i].2) r := by
  obtain ⟨h1, h2, h3⟩ := hh
  unfold rateB at h1
  simp at h1
  have hsym : symP r l[i] l[k] := by
    rcases Nat.lt_trichotomy i k with h | h | h
    · exact List.pairwise_iff_getElem.1 h3 i k hi hk h
    · subst h; exact ⟨fun _ => stepB_refl r _, fun _ => stepB_refl r _⟩
    · exact (List.pairwise_iff_getElem.1 h3 k i hk hi h).symm
  generalize l[i] = a at *
  generalize l[k] = b at *
  have key : ∀ o p : Int × Int, lexP o p → stepB r o p = true → lowL (p.2 - o.2) r ≤ p.1 - o.1 ∧ p.1 - o.1 ≤ highL (p.2 - o.2) r := by
    intro o p hl hs
    unfold stepB flwB at hs
    simp at hs
    obtain ⟨⟨hc, ho⟩, he⟩ := hs
    unfold lexP at hl
    exact sound h1.1 h1.2 (by omega) (by omega) (fun hz => by omega) ho
  rcases lexP_total a b with h | h
  · exact key a b h (hsym.1 h)
  · have := key b a h (hsym.2 h)
    have e : a.2 - b.2 = -(b.2 - a.2) := by omega
    rw [e] at this
    unfold highL at *
    rw [Int.neg_neg] at this
    omega

end Go.Proofs.Ytkgodolhcoeaeaa
