/- The plain law: what one call of a row does to what is out, to what was sent and to what was answered. -/
import Derived.Test.YthhgcoapohgiiaaPh
namespace Go.Proofs.Ythhgcoapohgiiaa
open Go.RowKit

/-- Something that probes are told. -/
structure Cal where
  what : Int
  agent : Int
  epoch : Int
  now : Int
  period : Int
  nb : Int
  nc : Int

def encC (c : Cal) : Value := .agg #[.int .i64 c.what, .int .i64 c.agent, .int .i64 c.epoch, .int .i64 c.now, .int .i64 c.period, .int .i64 c.nb, .int .i64 c.nc]

def zeroC : Cal := ⟨0, 0, 0, 0, 0, 0, 0⟩

/-- What holds between two calls. -/
structure PInv (boot most count : Int) (rows : List Row) (sl : List ((Int × Int) × Cal)) (dl : List ((Int × Int) × Int)) (i : Nat) : Prop where
  c0 : 0 ≤ count
  c1 : count ≤ i
  len : (rows.length : Int) ≤ most
  row : ∀ r ∈ rows, r.boot = boot ∧ r.count < count ∧ aget (boot, r.count) dl = none ∧ ∃ c, aget (boot, r.count) sl = some c ∧ c.agent = r.agent ∧ c.epoch = r.epoch ∧ c.now = r.at_
  nod : (rows.map Row.count).Nodup
  new : ∀ x ∈ sl, x.1.2 < count
  dne : ∀ x ∈ dl, x.1.2 < count

theorem PInv.start (boot most : Int) (hm : 1 ≤ most) : PInv boot most 0 [] [] [] 0 :=
  ⟨by omega, by omega, by simp; omega, by simp, by simp, by simp, by simp⟩

theorem PInv.skip {boot most count : Int} {rows : List Row} {sl : List ((Int × Int) × Cal)} {dl : List ((Int × Int) × Int)} {i : Nat} (h : PInv boot most count rows sl dl i) : PInv boot most count rows sl dl (i + 1) :=
  ⟨h.c0, by have := h.c1; omega, h.len, h.row, h.nod, h.new, h.dne⟩

/-- The nonce that is told next was never told. -/
theorem PInv.fresh {boot most count : Int} {rows : List Row} {sl : List ((Int × Int) × Cal)} {dl : List ((Int × Int) × Int)} {i : Nat} (h : PInv boot most count rows sl dl i) : aget (boot, count) sl = none :=
  aget_none fun x hx e => by
    have := h.new x hx
    rw [e] at this
    simp at this

theorem sent_mem {rows : List Row} {r x : Row} {most : Int} (h : x ∈ sent rows r most) : x ∈ rows ∨ x = r := by
  unfold sent at h
  have h2 : x ∈ rows ++ [r] := by
    split at h
    · exact List.mem_of_mem_drop h
    · exact h
  simpa using h2

theorem sent_length {rows : List Row} {r : Row} {most : Int} (h : (rows.length : Int) ≤ most) : ((sent rows r most).length : Int) ≤ most := by
  unfold sent
  split
  · simp; exact h
  · rename_i h2; simp only [Int.not_lt] at h2; simpa using h2

theorem PInv.send {boot most count : Int} {rows : List Row} {sl : List ((Int × Int) × Cal)} {dl : List ((Int × Int) × Int)} {i : Nat} (h : PInv boot most count rows sl dl i) (c : Cal) :
    PInv boot most (count + 1) (sent rows ⟨boot, count, c.agent, c.epoch, c.now⟩ most) (aput (boot, count) c sl) dl (i + 1) := by
  have hfr := h.fresh
  have hdf : aget (boot, count) dl = none := aget_none fun x hx e => by
    have := h.dne x hx
    rw [e] at this
    simp at this
  refine ⟨by have := h.c0; omega, by have := h.c1; omega, sent_length h.len, ?_, ?_, ?_, fun x hx => by have := h.dne x hx; omega⟩
  · intro r hr
    rcases sent_mem hr with hr | rfl
    · obtain ⟨h1, h2, h3, c', h4, h5⟩ := h.row r hr
      refine ⟨h1, by omega, h3, c', ?_, h5⟩
      rw [aget_aput_other _ (by intro e; simp at e; omega)]
      exact h4
    · exact ⟨rfl, by simp; omega, hdf, c, aget_aput_same _, rfl, rfl, rfl⟩
  · have hsub : ((sent rows ⟨boot, count, c.agent, c.epoch, c.now⟩ most).map Row.count).Sublist ((rows ++ [(⟨boot, count, c.agent, c.epoch, c.now⟩ : Row)]).map Row.count) := by
      refine List.Sublist.map _ ?_
      unfold sent
      split
      · exact List.drop_sublist _ _
      · exact List.Sublist.refl _
    refine List.Nodup.sublist hsub ?_
    rw [List.map_append, List.nodup_append]
    refine ⟨h.nod, by simp, ?_⟩
    intro a ha b hb e
    obtain ⟨r, hr, rfl⟩ := List.mem_map.1 ha
    simp at hb
    have := (h.row r hr).2.1
    omega
  · intro x hx
    have hk : x.1 ∈ (aput (boot, count) c sl).map Prod.fst := List.mem_map.2 ⟨x, hx, rfl⟩
    rcases mem_keys_aput.1 hk with e | e
    · rw [e]; simp; omega
    · obtain ⟨y, hy, e2⟩ := List.mem_map.1 e
      have := h.new y hy
      rw [← e2]; omega

theorem PInv.forget {boot most count : Int} {rows : List Row} {sl : List ((Int × Int) × Cal)} {dl : List ((Int × Int) × Int)} {i : Nat} (h : PInv boot most count rows sl dl i) (agent : Int) : PInv boot most count (others agent rows) sl dl (i + 1) := by
  have hl : (others agent rows).length ≤ rows.length := List.length_filter_le _ _
  refine ⟨h.c0, by have := h.c1; omega, by have := h.len; omega, fun r hr => h.row r (List.mem_filter.1 hr).1, h.nod.sublist (List.Sublist.map _ List.filter_sublist), h.new, h.dne⟩

/-- What Answer finds. -/
theorem answer_cases (rows : List Row) (boot agent epoch nc : Int) :
    answer rows boot agent epoch boot nc = (-1, 19, rows) ∨ answer rows boot agent epoch boot nc = (-1, 10, rows) ∨
      ∃ k r, rows[k]? = some r ∧ r.boot = boot ∧ r.count = nc ∧ r.agent = agent ∧ r.epoch = epoch ∧ answer rows boot agent epoch boot nc = (r.at_, 0, rows.eraseIdx k) := by
  unfold answer
  rw [if_neg (by simp)]
  cases hf : rows.findIdx? (isN boot nc) with
  | none => exact .inl rfl
  | some k =>
    obtain ⟨hkl, hpk, _⟩ := List.findIdx?_eq_some_iff_getElem.1 hf
    have hgk : rows[k]? = some rows[k] := List.getElem?_eq_getElem hkl
    simp only [hgk]
    have hp : rows[k].boot = boot ∧ rows[k].count = nc := by simpa [isN] using hpk
    by_cases h : rows[k].agent ≠ agent ∨ rows[k].epoch ≠ epoch
    · rw [if_pos h]; exact .inr (.inl rfl)
    · rw [if_neg h]
      simp only [not_or, Decidable.not_not] at h
      exact .inr (.inr ⟨k, rows[k], hgk, hp.1, hp.2, h.1, h.2, rfl⟩)

theorem PInv.answer {boot most count : Int} {rows : List Row} {sl : List ((Int × Int) × Cal)} {dl : List ((Int × Int) × Int)} {i : Nat} (h : PInv boot most count rows sl dl i) {k : Nat} {r : Row} (hk : rows[k]? = some r) :
    PInv boot most count (rows.eraseIdx k) sl (aput (boot, r.count) 1 dl) (i + 1) ∧ aget (boot, r.count) dl = none ∧ ∃ c, aget (boot, r.count) sl = some c ∧ c.agent = r.agent ∧ c.epoch = r.epoch ∧ c.now = r.at_ := by
  have hmem := List.mem_of_getElem? hk
  obtain ⟨h1, h2, h3, h4⟩ := h.row r hmem
  refine ⟨⟨h.c0, by have := h.c1; omega, ?_, ?_, h.nod.sublist (List.Sublist.map _ (List.eraseIdx_sublist ..)), h.new, ?_⟩, h3, h4⟩
  · have : (rows.eraseIdx k).length ≤ rows.length := (List.eraseIdx_sublist ..).length_le
    have := h.len
    omega
  · intro x hx
    have hx' := List.mem_of_mem_eraseIdx hx
    obtain ⟨x1, x2, x3, x4⟩ := h.row x hx'
    refine ⟨x1, x2, ?_, x4⟩
    rw [aget_aput_other _ ?_]
    · exact x3
    · intro e
      simp only [Prod.mk.injEq, true_and] at e
      -- the row that was taken out is the only one of its number
      have hnd := List.pairwise_iff_getElem.1 h.nod
      have hkl : k < rows.length := (List.getElem?_eq_some_iff.1 hk).1
      have hrk : rows[k] = r := (List.getElem?_eq_some_iff.1 hk).2
      obtain ⟨j, hj⟩ := List.mem_iff_getElem?.1 hx
      rw [List.getElem?_eraseIdx] at hj
      split at hj
      · rename_i hjk
        obtain ⟨hjl, hje⟩ := List.getElem?_eq_some_iff.1 hj
        refine hnd j k (by simpa using hjl) (by simpa using hkl) hjk ?_
        simp [hje, hrk, e]
      · rename_i hjk
        obtain ⟨hjl, hje⟩ := List.getElem?_eq_some_iff.1 hj
        refine hnd k (j + 1) (by simpa using hkl) (by simpa using hjl) (by omega) ?_
        simp [hje, hrk, e]
  · intro x hx
    have hk' : x.1 ∈ (aput (boot, r.count) 1 dl).map Prod.fst := List.mem_map.2 ⟨x, hx, rfl⟩
    rcases mem_keys_aput.1 hk' with e | e
    · rw [e]; exact h2
    · obtain ⟨y, hy, e2⟩ := List.mem_map.1 e
      have := h.dne y hy
      rw [← e2]; omega

end Go.Proofs.Ythhgcoapohgiiaa
