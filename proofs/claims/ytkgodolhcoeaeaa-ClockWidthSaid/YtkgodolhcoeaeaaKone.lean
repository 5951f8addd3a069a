/- Words of this seat's walks: association lists behind maps in memory, rows of memory that an object owns, and which blocks a call may turn. No condition. -/
import Derived.WalkKit
import Derived.Maps.Keyed
import Derived.Lib.Hide
import Derived.Laws.AppendOwn
namespace Go.Proofs.Ytkgodolhcoeaeaa
open Go.RowKit

/-! ### Association lists -/
section
variable {κ ν : Type} [DecidableEq κ]

def aget (k : κ) : List (κ × ν) → Option ν
  | [] => none
  | x :: r => if x.1 = k then some x.2 else aget k r

def aput (k : κ) (v : ν) : List (κ × ν) → List (κ × ν)
  | [] => [(k, v)]
  | x :: r => if x.1 = k then (k, v) :: r else x :: aput k v r

def adel (k : κ) (l : List (κ × ν)) : List (κ × ν) := l.filter fun x => decide (x.1 ≠ k)

theorem aget_none {k : κ} {l : List (κ × ν)} (h : ∀ x ∈ l, x.1 ≠ k) : aget k l = none := by
  induction l with
  | nil => rfl
  | cons x r ih => rw [aget, if_neg (h x (by simp))]; exact ih fun y hy => h y (by simp [hy])

theorem aget_none_iff {k : κ} {l : List (κ × ν)} : aget k l = none ↔ ∀ x ∈ l, x.1 ≠ k := by
  refine ⟨fun h => ?_, aget_none⟩
  induction l with
  | nil => simp
  | cons x r ih =>
    rw [aget] at h
    split at h
    · cases h
    · rename_i hx
      intro y hy
      rcases List.mem_cons.1 hy with rfl | hy
      · exact hx
      · exact ih h y hy

theorem aget_mem {k : κ} {v : ν} {l : List (κ × ν)} (h : aget k l = some v) : (k, v) ∈ l := by
  induction l with
  | nil => cases h
  | cons x r ih =>
    rw [aget] at h
    split at h
    · rename_i hx; cases h; subst hx; simp
    · exact List.mem_cons_of_mem _ (ih h)

theorem aget_of_mem {k : κ} {v : ν} {l : List (κ × ν)} (hd : (l.map Prod.fst).Nodup) (h : (k, v) ∈ l) : aget k l = some v := by
  induction l with
  | nil => cases h
  | cons x r ih =>
    rw [List.map_cons, List.nodup_cons] at hd
    rcases List.mem_cons.1 h with rfl | h
    · rw [aget, if_pos rfl]
    · have : x.1 ≠ k := fun e => hd.1 (e ▸ List.mem_map.2 ⟨_, h, rfl⟩)
      rw [aget, if_neg this]
      exact ih hd.2 h

theorem aget_aput_same {k : κ} {v : ν} (l : List (κ × ν)) : aget k (aput k v l) = some v := by
  induction l with
  | nil => simp [aput, aget]
  | cons x r ih =>
    rw [aput]
    split
    · rw [aget, if_pos rfl]
    · rename_i hx; rw [aget, if_neg hx]; exact ih

theorem aget_aput_other {k k' : κ} {v : ν} (l : List (κ × ν)) (h : k' ≠ k) : aget k' (aput k v l) = aget k' l := by
  induction l with
  | nil => simp [aput, aget, Ne.symm h]
  | cons x r ih =>
    rw [aput]
    split
    · rename_i hx
      rw [aget, if_neg (Ne.symm h), aget, if_neg (by rw [hx]; exact Ne.symm h)]
    · rw [aget, aget, ih]

theorem aget_aput (k k' : κ) (v : ν) (l : List (κ × ν)) : aget k' (aput k v l) = if k' = k then some v else aget k' l := by
  split
  · rename_i h; subst h; exact aget_aput_same l
  · rename_i h; exact aget_aput_other l h

theorem aget_adel (k k' : κ) (l : List (κ × ν)) : aget k' (adel k l) = if k' = k then none else aget k' l := by
  unfold adel
  induction l with
  | nil => simp [aget]
  | cons x r ih =>
    rw [List.filter_cons]
    by_cases hx : x.1 = k
    · rw [if_neg (by simp [hx]), ih]
      split
      · rfl
      · rename_i h; rw [aget, if_neg (by rw [hx]; exact Ne.symm h)]
    · rw [if_pos (by simp [hx]), aget, aget, ih]
      by_cases h : k' = k
      · subst h; rw [if_neg hx, if_pos rfl, if_pos rfl]
      · rw [if_neg h, if_neg h]

theorem mem_keys_aput {k k' : κ} {v : ν} {l : List (κ × ν)} : k' ∈ (aput k v l).map Prod.fst ↔ k' = k ∨ k' ∈ l.map Prod.fst := by
  induction l with
  | nil => simp [aput]
  | cons x r ih =>
    rw [aput]
    split
    · rename_i hx
      subst hx
      simp
    · rw [List.map_cons, List.mem_cons, ih, List.map_cons, List.mem_cons]
      constructor
      · rintro (h | h | h) <;> simp [h]
      · rintro (h | h | h) <;> simp [h]

theorem nodup_aput {k : κ} {v : ν} {l : List (κ × ν)} (h : (l.map Prod.fst).Nodup) : ((aput k v l).map Prod.fst).Nodup := by
  induction l with
  | nil => simp [aput]
  | cons x r ih =>
    rw [List.map_cons, List.nodup_cons] at h
    rw [aput]
    split
    · rename_i hx
      rw [List.map_cons, List.nodup_cons]
      exact ⟨by show k ∉ _; rw [← hx]; exact h.1, h.2⟩
    · rename_i hx
      rw [List.map_cons, List.nodup_cons]
      refine ⟨fun hm => ?_, ih h.2⟩
      rcases mem_keys_aput.1 hm with e | e
      · exact hx e
      · exact h.1 e

theorem nodup_adel {k : κ} {l : List (κ × ν)} (h : (l.map Prod.fst).Nodup) : ((adel k l).map Prod.fst).Nodup :=
  h.sublist ((List.filter_sublist).map _)

theorem length_aput (k : κ) (v : ν) (l : List (κ × ν)) : (aput k v l).length = if (aget k l).isSome then l.length else l.length + 1 := by
  induction l with
  | nil => simp [aput, aget]
  | cons x r ih =>
    rw [aput, aget]
    split
    · simp
    · rw [List.length_cons, ih]
      split <;> simp

/-- Where the key stands: what 'aput' and 'adel' do there. -/
theorem aput_at {k : κ} {v : ν} : ∀ {l : List (κ × ν)} {j : Nat} {u : ν}, (l.map Prod.fst).Nodup → l[j]? = some (k, u) → aput k v l = l.set j (k, v)
  | [], j, u, _, h => by simp at h
  | x :: r, 0, u, _, h => by
    simp at h; subst h; simp [aput]
  | x :: r, j + 1, u, hd, h => by
    rw [List.map_cons, List.nodup_cons] at hd
    have hr : r[j]? = some (k, u) := by simpa using h
    have hx : x.1 ≠ k := fun e => hd.1 (e ▸ List.mem_map.2 ⟨_, List.mem_of_getElem? hr, rfl⟩)
    rw [aput, if_neg hx, aput_at hd.2 hr]
    rfl

theorem aput_new {k : κ} {v : ν} {l : List (κ × ν)} (h : ∀ x ∈ l, x.1 ≠ k) : aput k v l = l ++ [(k, v)] := by
  induction l with
  | nil => rfl
  | cons x r ih => rw [aput, if_neg (h x (by simp)), ih fun y hy => h y (by simp [hy])]; rfl

theorem adel_at {k : κ} : ∀ {l : List (κ × ν)} {j : Nat} {u : ν}, (l.map Prod.fst).Nodup → l[j]? = some (k, u) → adel k l = l.eraseIdx j
  | [], j, u, _, h => by simp at h
  | x :: r, 0, u, hd, h => by
    simp at h; subst h
    rw [List.map_cons, List.nodup_cons] at hd
    unfold adel
    rw [List.filter_cons, if_neg (by simp), List.eraseIdx_cons_zero]
    refine List.filter_eq_self.2 fun y hy => ?_
    have : y.1 ≠ k := fun e => hd.1 (e ▸ List.mem_map.2 ⟨_, hy, rfl⟩)
    simpa using this
  | x :: r, j + 1, u, hd, h => by
    rw [List.map_cons, List.nodup_cons] at hd
    have hr : r[j]? = some (k, u) := by simpa using h
    have hx : x.1 ≠ k := fun e => hd.1 (e ▸ List.mem_map.2 ⟨_, List.mem_of_getElem? hr, rfl⟩)
    have ih := adel_at hd.2 hr
    unfold adel at ih ⊢
    rw [List.filter_cons, if_pos (by simp [hx]), ih, List.eraseIdx_cons_succ]

theorem adel_none {k : κ} {l : List (κ × ν)} (h : ∀ x ∈ l, x.1 ≠ k) : adel k l = l :=
  List.filter_eq_self.2 fun y hy => by simpa using h y hy
end

theorem map_eraseIdx' {α β : Type} (f : α → β) : ∀ (l : List α) (j : Nat), (l.eraseIdx j).map f = (l.map f).eraseIdx j
  | [], j => by simp
  | x :: r, 0 => by simp
  | x :: r, j + 1 => by simp [map_eraseIdx' f r j]

/-! ### A map in memory -/
section
variable {κ ν : Type} [DecidableEq κ]

/-- Block b is a map whose entries, in the order in which they came, are those of the list. -/
def MapAt (w : World) (b : Nat) (ek : κ → Value) (ev : ν → Value) (l : List (κ × ν)) : Prop :=
  ∃ es clock, w.heap[b]? = some (.map es clock) ∧ es.toList.map (fun e => (e.key, e.val)) = l.map (fun x => (ek x.1, ev x.2)) ∧ (l.map Prod.fst).Nodup ∧
    (es.toList.map MapEntry.born).Nodup ∧ ∀ e ∈ es.toList, e.born < clock

/-- What the laws need of a key's type. -/
structure MKey (P : Program) (k : TypeId) (ek : κ → Value) : Prop where
  check : ∀ (w : World) (em : Bool) (x : κ), (Instr.checkKey em 10000 k (ek x)).run P w = .ok () w
  find : ∀ (w : World) (x : κ) (es : List MapEntry), (∀ e ∈ es, ∃ y, e.key = ek y) →
    ((Instr.findKey k (ek x) es).run P w = .ok none w ∧ ∀ e ∈ es, e.key ≠ ek x) ∨ ∃ j e, (Instr.findKey k (ek x) es).run P w = .ok (some (j, e.val)) w ∧ es[j]? = some e ∧ e.key = ek x
  stays : ∀ (w : World) (x : κ), (Instr.keyThatStays (ek x) (ek x)).run P w = .ok (ek x) w
  inj : ∀ {x y : κ}, ek x = ek y → x = y

omit [DecidableEq κ] in
theorem MapAt.lt {w : World} {b : Nat} {ek : κ → Value} {ev : ν → Value} {l : List (κ × ν)} (h : MapAt w b ek ev l) : b < w.heap.size := by
  obtain ⟨es, clock, hb, _⟩ := h
  exact (Array.getElem?_eq_some_iff.1 hb).1

omit [DecidableEq κ] in
theorem MapAt.same {w w' : World} {b : Nat} {ek : κ → Value} {ev : ν → Value} {l : List (κ × ν)} (h : MapAt w b ek ev l) (he : w'.heap[b]? = w.heap[b]?) : MapAt w' b ek ev l := by
  obtain ⟨es, clock, hb, r⟩ := h
  exact ⟨es, clock, he.trans hb, r⟩

omit [DecidableEq κ] in
theorem MapAt.made (w : World) (ek : κ → Value) (ev : ν → Value) : MapAt (w.alloc (.map #[] 0)) w.heap.size ek ev ([] : List (κ × ν)) :=
  ⟨#[], 0, heap_alloc_new w _, by simp, by simp, by simp, by simp⟩

theorem MapAt.find {P : Program} {w w0 : World} {b k : Nat} {ek : κ → Value} {ev : ν → Value} {l : List (κ × ν)} (h : MapAt w b ek ev l) (K : MKey P k ek) (x : κ) :
    ∃ es clock, w.heap[b]? = some (.map es clock) ∧ es.toList.map (fun e => (e.key, e.val)) = l.map (fun y => (ek y.1, ev y.2)) ∧ (l.map Prod.fst).Nodup ∧ (es.toList.map MapEntry.born).Nodup ∧ (∀ e ∈ es.toList, e.born < clock) ∧
      ((aget x l = none ∧ (∀ y ∈ l, y.1 ≠ x) ∧ (Instr.findKey k (ek x) es.toList).run P w0 = .ok none w0) ∨
       ∃ j v e, aget x l = some v ∧ l[j]? = some (x, v) ∧ es[j]? = some e ∧ e.key = ek x ∧ e.val = ev v ∧ (Instr.findKey k (ek x) es.toList).run P w0 = .ok (some (j, ev v)) w0) := by
  obtain ⟨es, clock, hb, hm, hd, hn, hc⟩ := h
  refine ⟨es, clock, hb, hm, hd, hn, hc, ?_⟩
  have hlen : es.toList.length = l.length := by have := congrArg List.length hm; simpa using this
  have hkeys : ∀ e ∈ es.toList, ∃ y, e.key = ek y := by
    intro e he
    have h1 : (e.key, e.val) ∈ l.map (fun y => (ek y.1, ev y.2)) := by rw [← hm]; exact List.mem_map.2 ⟨e, he, rfl⟩
    obtain ⟨y, _, hy⟩ := List.mem_map.1 h1
    exact ⟨y.1, (Prod.mk.inj hy).1.symm⟩
  rcases K.find w0 x es.toList hkeys with ⟨hr, hno⟩ | ⟨j, e, hr, hj, hk⟩
  · refine .inl ?_
    have hne : ∀ y ∈ l, y.1 ≠ x := by
      intro y hy e
      have h1 : (ek y.1, ev y.2) ∈ es.toList.map (fun e => (e.key, e.val)) := by rw [hm]; exact List.mem_map.2 ⟨y, hy, rfl⟩
      obtain ⟨e', he', hh⟩ := List.mem_map.1 h1
      exact hno e' he' (by rw [(Prod.mk.inj hh).1, e])
    exact ⟨aget_none hne, hne, hr⟩
  · refine .inr ?_
    have hjl : j < l.length := by rw [← hlen]; exact (List.getElem?_eq_some_iff.1 hj).1
    have h2 : (es.toList.map (fun e => (e.key, e.val)))[j]? = (l.map (fun y => (ek y.1, ev y.2)))[j]? := by rw [hm]
    rw [List.getElem?_map, List.getElem?_map, hj, List.getElem?_eq_getElem hjl] at h2
    simp only [Option.map_some, Option.some.injEq, Prod.mk.injEq] at h2
    have hx : l[j].1 = x := K.inj (by rw [← h2.1, hk])
    have hlj : l[j]? = some (x, l[j].2) := by rw [List.getElem?_eq_getElem hjl, ← hx]
    refine ⟨j, l[j].2, e, aget_of_mem hd (List.mem_of_getElem? hlj), hlj, by simpa using hj, hk, h2.2, by rw [← h2.2]; exact hr⟩

theorem MapAt.lookup {P : Program} {w : World} {b k t e : Nat} {ek : κ → Value} {ev : ν → Value} {l : List (κ × ν)} (h : MapAt w b ek ev l) (K : MKey P k ek) (ht : P.underlying t = some (.map k e)) {z : Value}
    (hz : (zeroValue e).run P w = .ok z w) (x : κ) (ok : Bool) :
    (Instr.lookup t (.map (some b)) (ek x) ok).run P w = .ok (if ok then .tuple #[((aget x l).map ev).getD z, .bool (aget x l).isSome] else ((aget x l).map ev).getD z) w := by
  obtain ⟨es, clock, hb, hm, hd, hn, hc, hf⟩ := h.find (w0 := w) K x
  have hget : (getObj b).run P w = .ok (.map es clock) w := by simp [getObj, Sem.run, hb]
  rcases hf with ⟨ha, _, hr⟩ | ⟨j, v, e', ha, _, _, _, _, hr⟩
  · simp [Instr.lookup, run_underlying ht, hget, K.check, hr, ha, hz]
  · simp [Instr.lookup, run_underlying ht, hget, K.check, hr, ha]

/-- The world with another map in a block. -/
def setMap (w : World) (b : Nat) (es : Array MapEntry) (clock : Nat) : World := { w with heap := w.heap.setIfInBounds b (.map es clock) }

theorem setMap_same {w : World} {b : Nat} (hb : b < w.heap.size) (es : Array MapEntry) (clock : Nat) : (setMap w b es clock).heap[b]? = some (.map es clock) := by
  simp [setMap, hb]
theorem setMap_other {w : World} {b i : Nat} (h : i ≠ b) (es : Array MapEntry) (clock : Nat) : (setMap w b es clock).heap[i]? = w.heap[i]? := by
  simp [setMap, Array.getElem?_setIfInBounds, Ne.symm h]
theorem setMap_size (w : World) (b : Nat) (es : Array MapEntry) (clock : Nat) : (setMap w b es clock).heap.size = w.heap.size := by simp [setMap]

theorem run_setObj_map {P : Program} {w : World} {b : Nat} {es es' : Array MapEntry} {clock clock' : Nat} (hb : w.heap[b]? = some (.map es clock)) :
    (setObj b (.map es' clock')).run P w = .ok () (setMap w b es' clock') := by
  simp [setObj, Sem.run, hb, setMap]

theorem MapAt.update {P : Program} {w : World} {b k t e : Nat} {ek : κ → Value} {ev : ν → Value} {l : List (κ × ν)} (h : MapAt w b ek ev l) (K : MKey P k ek) (ht : P.underlying t = some (.map k e)) (x : κ) (y : ν) :
    ∃ es' clock', (Instr.mapUpdate t (.map (some b)) (ek x) (ev y)).run P w = .ok () (setMap w b es' clock') ∧ MapAt (setMap w b es' clock') b ek ev (aput x y l) := by
  have hlt := h.lt
  obtain ⟨es, clock, hb, hm, hd, hn, hc, hf⟩ := h.find (w0 := w) K x
  have hget : (getObj b).run P w = .ok (.map es clock) w := by simp [getObj, Sem.run, hb]
  rcases hf with ⟨ha, hno, hr⟩ | ⟨j, v, e', ha, hlj, hej, hek, hev, hr⟩
  · refine ⟨es.push { key := ek x, val := ev y, born := clock }, clock + 1, ?_, _, _, setMap_same hlt _ _, ?_, nodup_aput hd, ?_, ?_⟩
    · simp [Instr.mapUpdate, run_underlying ht, hget, K.check, hr, run_setObj_map hb]
    · rw [aput_new hno]; simp [hm]
    · simp only [Array.toList_push, List.map_append, List.map_cons, List.map_nil]
      rw [List.nodup_append]
      refine ⟨hn, by simp, ?_⟩
      intro a ha b hb e
      obtain ⟨e1, he1, rfl⟩ := List.mem_map.1 ha
      simp at hb
      have := hc e1 he1
      omega
    · intro e1 he1
      simp only [Array.toList_push, List.mem_append, List.mem_singleton] at he1
      rcases he1 with he1 | rfl
      · have := hc e1 he1; omega
      · simp
  · have hjs : j < es.size := (Array.getElem?_eq_some_iff.1 hej).1
    refine ⟨es.modify j fun e => { e with key := ek x, val := ev y }, clock, ?_, _, _, setMap_same hlt _ _, ?_, nodup_aput hd, ?_, ?_⟩
    · simp [Instr.mapUpdate, run_underlying ht, hget, K.check, hr, hej, hek, K.stays, run_setObj_map hb]
    · rw [aput_at hd hlj, List.map_set, ← hm]
      apply List.ext_getElem?
      intro i
      simp only [Array.toList_modify, List.getElem?_map, List.getElem?_set, List.getElem?_modify]
      by_cases hij : j = i
      · subst hij
        have : es.toList[j]? = some e' := by simpa using hej
        simp [this]
        exact hjs
      · simp [hij]
    · have : (es.modify j fun e => { e with key := ek x, val := ev y }).toList.map MapEntry.born = es.toList.map MapEntry.born := by
        apply List.ext_getElem?
        intro i
        simp only [Array.toList_modify, List.getElem?_map, List.getElem?_modify]
        by_cases hij : j = i
        · subst hij
          cases es.toList[j]? <;> simp
        · simp [hij]
      rw [this]; exact hn
    · intro e1 he1
      have he1' : e1 ∈ es.toList.modify j (fun e => { e with key := ek x, val := ev y }) := by simpa using he1
      obtain ⟨i, hi⟩ := List.mem_iff_getElem?.1 he1'
      rw [List.getElem?_modify] at hi
      cases h1 : es.toList[i]? with
      | none => simp [h1] at hi
      | some e2 =>
        have hc2 := hc e2 (List.mem_of_getElem? h1)
        by_cases hij : j = i
        · simp [h1, hij] at hi; subst hi; simpa using hc2
        · simp [h1, hij] at hi; subst hi; exact hc2

theorem MapAt.delete {P : Program} {w : World} {b k t e : Nat} {ek : κ → Value} {ev : ν → Value} {l : List (κ × ν)} (h : MapAt w b ek ev l) (K : MKey P k ek) (ht : P.underlying t = some (.map k e)) (x : κ) (t2 ty : TypeId) :
    ∃ es' clock', (Builtin.delete_ #[t, t2] ty #[.map (some b), ek x]).run P w = .ok (.tuple #[]) (setMap w b es' clock') ∧ MapAt (setMap w b es' clock') b ek ev (adel x l) := by
  have hlt := h.lt
  obtain ⟨es, clock, hb, hm, hd, hn, hc, hf⟩ := h.find (w0 := w) K x
  have hget : (getObj b).run P w = .ok (.map es clock) w := by simp [getObj, Sem.run, hb]
  rcases hf with ⟨ha, hno, hr⟩ | ⟨j, v, e', ha, hlj, hej, hek, hev, hr⟩
  · refine ⟨es, clock, ?_, es, clock, setMap_same hlt _ _, ?_, nodup_adel hd, hn, hc⟩
    · simp [Builtin.delete_, run_underlying ht, hget, K.check, hr, run_setObj_map hb]
    · rw [adel_none hno]; exact hm
  · have hjs : j < es.size := (Array.getElem?_eq_some_iff.1 hej).1
    refine ⟨es.eraseIdxIfInBounds j, clock, ?_, _, _, setMap_same hlt _ _, ?_, nodup_adel hd, ?_, ?_⟩
    · simp [Builtin.delete_, run_underlying ht, hget, K.check, hr, run_setObj_map hb]
    · rw [adel_at hd hlj, map_eraseIdx', ← hm, ← map_eraseIdx']
      simp [Array.eraseIdxIfInBounds, hjs]
    · have : (es.eraseIdxIfInBounds j).toList.map MapEntry.born = (es.toList.map MapEntry.born).eraseIdx j := by
        simp [Array.eraseIdxIfInBounds, hjs, map_eraseIdx']
      rw [this]; exact hn.sublist (List.eraseIdx_sublist ..)
    · intro e1 he1
      have : e1 ∈ es.toList.eraseIdx j := by simpa [Array.eraseIdxIfInBounds, hjs] using he1
      exact hc e1 (List.mem_of_mem_eraseIdx this)

theorem findIdx_stamp : ∀ {l : List MapEntry} {j : Nat} {e0 : MapEntry}, (l.map MapEntry.born).Nodup → l[j]? = some e0 → l.findIdx? (fun e => ((e.born : Nat) : Int) == ((e0.born : Nat) : Int)) = some j
  | [], j, e0, _, h => by simp at h
  | a :: r, 0, e0, _, h => by simp at h; subst h; simp [List.findIdx?_cons]
  | a :: r, j + 1, e0, hn, h => by
    rw [List.map_cons, List.nodup_cons] at hn
    have hr : r[j]? = some e0 := by simpa using h
    have hne : a.born ≠ e0.born := fun e1 => hn.1 (List.mem_map.2 ⟨e0, List.mem_of_getElem? hr, e1.symm⟩)
    have hb : (((a.born : Nat) : Int) == ((e0.born : Nat) : Int)) = false := by
      simp only [beq_eq_false_iff_ne, ne_eq, Int.natCast_inj]
      exact hne
    rw [List.findIdx?_cons, hb]
    simp [findIdx_stamp hn.2 hr]

/-- The pieces of 'm[k] op= x': the entry is asked for (and made, if there is none), and then stored. -/
theorem MapAt.entry {P : Program} {w : World} {b k t e : Nat} {ek : κ → Value} {ev : ν → Value} {l : List (κ × ν)} (h : MapAt w b ek ev l) (K : MKey P k ek) (ht : P.underlying t = some (.map k e)) {y0 : ν}
    (hz : ∀ u : World, (zeroValue e).run P u = .ok (ev y0) u) (x : κ) :
    ∃ es1 c1 st, (Instr.mapEntry t (.map (some b)) (ek x)).run P w = .ok (.tuple #[ev ((aget x l).getD y0), goInt st]) (setMap w b es1 c1) ∧ MapAt (setMap w b es1 c1) b ek ev (aput x ((aget x l).getD y0) l) ∧
      ∀ (y : ν), ∃ es2, (Instr.entryStore t (.map (some b)) (goInt st) (ev y)).run P (setMap w b es1 c1) = .ok () (setMap (setMap w b es1 c1) b es2 c1) ∧ MapAt (setMap (setMap w b es1 c1) b es2 c1) b ek ev (aput x y l) := by
  have hlt := h.lt
  obtain ⟨es, clock, hb, hm, hd, hn, hc, hf⟩ := h.find (w0 := w) K x
  have hget : (getObj b).run P w = .ok (.map es clock) w := by simp [getObj, Sem.run, hb]
  have hlen : es.toList.length = l.length := by have := congrArg List.length hm; simpa using this
  -- what a store at a known place does
  have store : ∀ (es1 : Array MapEntry) (c1 j : Nat) (e1 : MapEntry) (l1 : List (κ × ν)) (v : ν), es1[j]? = some e1 → (es1.toList.map MapEntry.born).Nodup → (∀ e ∈ es1.toList, e.born < c1) → es1.toList.map (fun e => (e.key, e.val)) = l1.map (fun y => (ek y.1, ev y.2)) → l1[j]? = some (x, v) → (l1.map Prod.fst).Nodup →
      ∀ y, (Instr.entryStore t (.map (some b)) (goInt e1.born) (ev y)).run P (setMap w b es1 c1) = .ok () (setMap (setMap w b es1 c1) b (es1.modify j fun e => { e with val := ev y }) c1) ∧ MapAt (setMap (setMap w b es1 c1) b (es1.modify j fun e => { e with val := ev y }) c1) b ek ev (aput x y l1) := by
    intro es1 c1 j e1 l1 v hj hn1 hc1 hm1 hl1 hd1 y
    have hj' : es1.toList[j]? = some e1 := by simpa using hj
    have hidx : es1.findIdx? (fun e => ((e.born : Nat) : Int) == ((e1.born : Nat) : Int)) = some j := by
      have := findIdx_stamp hn1 hj'
      cases es1; simpa using this
    have hg1 : (getObj b).run P (setMap w b es1 c1) = .ok (.map es1 c1) (setMap w b es1 c1) := by simp [getObj, Sem.run, setMap_same hlt]
    refine ⟨?_, _, _, setMap_same (by rw [setMap_size]; exact hlt) _ _, ?_, nodup_aput hd1, ?_, ?_⟩
    · simp [Instr.entryStore, hg1, asInt, asIntOf, goInt, hidx, run_setObj_map (setMap_same hlt es1 c1)]
    · rw [aput_at hd1 hl1, List.map_set, ← hm1]
      apply List.ext_getElem?
      intro i
      have hjs : j < es1.toList.length := (List.getElem?_eq_some_iff.1 hj').1
      simp only [Array.toList_modify, List.getElem?_map, List.getElem?_set, List.getElem?_modify, List.length_map]
      by_cases hij : j = i
      · subst hij
        have hk : e1.key = ek x := by
          have h2 : (es1.toList.map (fun e => (e.key, e.val)))[j]? = (l1.map (fun y => (ek y.1, ev y.2)))[j]? := by rw [hm1]
          rw [List.getElem?_map, List.getElem?_map, hj', hl1] at h2
          simp only [Option.map_some, Option.some.injEq, Prod.mk.injEq] at h2
          exact h2.1
        simp [hj', hk, hjs]
        simpa using hjs
      · simp [hij]
    · have : (es1.modify j fun e => { e with val := ev y }).toList.map MapEntry.born = es1.toList.map MapEntry.born := by
        apply List.ext_getElem?
        intro i
        simp only [Array.toList_modify, List.getElem?_map, List.getElem?_modify]
        by_cases hij : j = i
        · subst hij
          cases es1.toList[j]? <;> simp
        · simp [hij]
      rw [this]; exact hn1
    · intro e2 he2
      have he2' : e2 ∈ es1.toList.modify j (fun e => { e with val := ev y }) := by simpa using he2
      obtain ⟨i, hi⟩ := List.mem_iff_getElem?.1 he2'
      rw [List.getElem?_modify] at hi
      cases h1 : es1.toList[i]? with
      | none => simp [h1] at hi
      | some e3 =>
        have hc2 := hc1 e3 (List.mem_of_getElem? h1)
        by_cases hij : j = i
        · simp [h1, hij] at hi; subst hi; simpa using hc2
        · simp [h1, hij] at hi; subst hi; exact hc2
  rcases hf with ⟨ha, hno, hr⟩ | ⟨j, v, e', ha, hlj, hej, hek, hev, hr⟩
  · have hm' : (es.push { key := ek x, val := ev y0, born := clock }).toList.map (fun e => (e.key, e.val)) = (aput x y0 l).map (fun y => (ek y.1, ev y.2)) := by rw [aput_new hno]; simp [hm]
    have hn' : ((es.push { key := ek x, val := ev y0, born := clock }).toList.map MapEntry.born).Nodup := by
      simp only [Array.toList_push, List.map_append, List.map_cons, List.map_nil]
      rw [List.nodup_append]
      refine ⟨hn, by simp, ?_⟩
      intro a ha b hb e
      obtain ⟨e1, he1, rfl⟩ := List.mem_map.1 ha
      simp at hb
      have := hc e1 he1
      omega
    have hc' : ∀ e ∈ (es.push { key := ek x, val := ev y0, born := clock }).toList, e.born < clock + 1 := by
      intro e1 he1
      simp only [Array.toList_push, List.mem_append, List.mem_singleton] at he1
      rcases he1 with he1 | rfl
      · have := hc e1 he1; omega
      · simp
    have hlast : (aput x y0 l)[es.size]? = some (x, y0) := by
      rw [aput_new hno, show es.size = l.length by rw [← hlen, Array.length_toList]]
      simp
    have hpp : ∀ y, aput x y (aput x y0 l) = aput x y l := by
      intro y
      rw [aput_at (nodup_aput hd) hlast, aput_new hno, aput_new hno, show es.size = l.length by rw [← hlen, Array.length_toList]]
      simp
    refine ⟨es.push { key := ek x, val := ev y0, born := clock }, clock + 1, clock, ?_, ?_, ?_⟩
    · simp [Instr.mapEntry, run_underlying ht, hget, K.check, hr, hz, run_setObj_map hb, ha]
    · rw [ha]
      exact ⟨_, _, setMap_same hlt _ _, hm', nodup_aput hd, hn', hc'⟩
    · intro y
      have hs := store _ (clock + 1) es.size { key := ek x, val := ev y0, born := clock } (aput x y0 l) y0 (by simp) hn' hc' hm' hlast (nodup_aput hd) y
      rw [hpp] at hs
      exact ⟨_, hs⟩
  · have hjs : j < es.size := (Array.getElem?_eq_some_iff.1 hej).1
    have hej' : es.toList[j]? = some e' := by simpa using hej
    have hsame : es.modify j (fun e => { e with key := ek x }) = es := by
      apply Array.ext'
      apply List.ext_getElem?
      intro i
      simp only [Array.toList_modify, List.getElem?_modify]
      by_cases hij : j = i
      · subst hij
        rw [hej']
        simp [← hek]
      · simp [hij]
    have hpp : aput x v l = l := by
      rw [aput_at hd hlj]
      apply List.ext_getElem?
      intro i
      rw [List.getElem?_set]
      split
      · rename_i hij; subst hij; rw [if_pos (List.getElem?_eq_some_iff.1 hlj).1, hlj]
      · rfl
    refine ⟨es, clock, e'.born, ?_, ?_, ?_⟩
    · simp [Instr.mapEntry, run_underlying ht, hget, K.check, hr, hej, hek, K.stays, hsame, run_setObj_map hb, ha]
    · rw [ha]
      simp only [Option.getD_some]
      rw [hpp]
      exact ⟨_, _, setMap_same hlt _ _, hm, hd, hn, hc⟩
    · intro y
      exact ⟨_, store es clock j e' l v hej hn hc hm hlj hd y⟩

omit [DecidableEq κ] in
theorem MapAt.len {P : Program} {w : World} {b k t e : Nat} {ek : κ → Value} {ev : ν → Value} {l : List (κ × ν)} (h : MapAt w b ek ev l) (ht : P.underlying t = some (.map k e)) (ty : TypeId) :
    (Builtin.len_ #[t] ty #[.map (some b)]).run P w = .ok (.int .i64 l.length) w := by
  obtain ⟨es, clock, hb, hm, _⟩ := h
  have hlen : es.size = l.length := by have := congrArg List.length hm; simpa using this
  have hget : (getObj b).run P w = .ok (.map es clock) w := by simp [getObj, Sem.run, hb]
  simp [Builtin.len_, run_underlying ht, hget, hlen, goInt]
end

/-! ### Key types -/
section
variable {κ : Type} [DecidableEq κ]

theorem findAsking_run {P : Program} {k : TypeId} {ek : κ → Value} (heq : ∀ (w : World) (x y : κ), (Op.equal k (ek x) (ek y)).run P w = .ok (decide (x = y)) w) (inj : ∀ {x y : κ}, ek x = ek y → x = y) (w : World) (x : κ) :
    ∀ (es : List MapEntry) (i : Nat), (∀ e ∈ es, ∃ y, e.key = ek y) →
      ((Instr.findAsking k (ek x) es i).run P w = .ok none w ∧ ∀ e ∈ es, e.key ≠ ek x) ∨ ∃ j e, (Instr.findAsking k (ek x) es i).run P w = .ok (some (i + j, e.val)) w ∧ es[j]? = some e ∧ e.key = ek x
  | [], i, _ => .inl ⟨by simp [Instr.findAsking], by simp⟩
  | e :: es, i, h => by
    obtain ⟨y, hy⟩ := h e (by simp)
    by_cases hxy : x = y
    · refine .inr ⟨0, e, ?_, by simp, by rw [hy, hxy]⟩
      simp [Instr.findAsking, hy, heq, hxy]
    · have hne : e.key ≠ ek x := fun he => hxy (inj (by rw [← he, hy]))
      rcases findAsking_run heq inj w x es (i + 1) (fun e' he' => h e' (by simp [he'])) with ⟨hr, hn⟩ | ⟨j, e', hr, hj, hk⟩
      · refine .inl ⟨by simp [Instr.findAsking, hy, heq, hxy, hr], ?_⟩
        intro e' he'
        rcases List.mem_cons.1 he' with rfl | he'
        · exact hne
        · exact hn e' he'
      · refine .inr ⟨j + 1, e', ?_, by simpa using hj, hk⟩
        simp [Instr.findAsking, hy, heq, hxy, hr]
        omega

theorem MKey.struct {P : Program} {k : TypeId} {fs : Array Field} {ek : κ → Value} (hk : P.underlying k = some (.struct fs)) (hag : ∀ x, ∃ cs, ek x = .agg cs)
    (hcheck : ∀ (w : World) (em : Bool) (x : κ), (Instr.checkKey em 10000 k (ek x)).run P w = .ok () w)
    (heq : ∀ (w : World) (x y : κ), (Op.equal k (ek x) (ek y)).run P w = .ok (decide (x = y)) w) (inj : ∀ {x y : κ}, ek x = ek y → x = y) (hst : ∀ x, Instr.sameBits 10000 (ek x) (ek x) = true) : MKey P k ek where
  check := hcheck
  inj := inj
  stays w x := by simp [Instr.keyThatStays, hst]
  find w x es h := by
    cases es with
    | nil => exact .inl ⟨by simp [Instr.findKey, run_underlying hk, Instr.findNow], by simp⟩
    | cons e es =>
      obtain ⟨y, hy⟩ := h e (by simp)
      obtain ⟨cs, hc⟩ := hag x
      have h1 : Instr.findNow (.struct fs) (ek x) (e :: es) 0 = none := by simp [Instr.findNow, Instr.sameNow, hc]
      have h2 : (Instr.findKey k (ek x) (e :: es)).run P w = (Instr.findAsking k (ek x) (e :: es) 0).run P w := by
        simp [Instr.findKey, run_underlying hk, h1]
      rw [h2]
      rcases findAsking_run heq inj w x (e :: es) 0 h with h3 | ⟨j, e', hr, hj, hk'⟩
      · exact .inl h3
      · exact .inr ⟨j, e', by simpa using hr, hj, hk'⟩
end

theorem findNow_int (q : IntKind) (x : Int) : ∀ (es : List MapEntry) (i : Nat), (∀ e ∈ es, ∃ y, e.key = .int q y) →
    (Instr.findNow (.int q) (.int q x) es i = some none ∧ ∀ e ∈ es, e.key ≠ .int q x) ∨ ∃ j e, Instr.findNow (.int q) (.int q x) es i = some (some (i + j, e.val)) ∧ es[j]? = some e ∧ e.key = .int q x
  | [], i, _ => .inl ⟨rfl, by simp⟩
  | e :: es, i, h => by
    obtain ⟨y, hy⟩ := h e (by simp)
    by_cases hxy : x = y
    · exact .inr ⟨0, e, by simp [Instr.findNow, Instr.sameNow, hy, hxy], by simp, by rw [hy, hxy]⟩
    · have hbe : (x == y) = false := by simpa using hxy
      rcases findNow_int q x es (i + 1) (fun e' he' => h e' (by simp [he'])) with ⟨hr, hn⟩ | ⟨j, e', hr, hj, hk⟩
      · refine .inl ⟨by simp [Instr.findNow, Instr.sameNow, hy, hbe, hr], ?_⟩
        intro e' he'
        rcases List.mem_cons.1 he' with rfl | he'
        · rw [hy]; intro hh; cases hh; exact hxy rfl
        · exact hn e' he'
      · refine .inr ⟨j + 1, e', ?_, by simpa using hj, hk⟩
        simp [Instr.findNow, Instr.sameNow, hy, hbe, hr]
        omega

theorem check_int {P : Program} {k : TypeId} {q : IntKind} (hk : P.underlying k = some (.int q)) (w : World) (em : Bool) (d : Nat) (n : Int) : (Instr.checkKey em (d + 1) k (.int q n)).run P w = .ok () w := by
  rw [Instr.checkKey]
  simp [run_underlying hk]

theorem MKey.int {P : Program} {k : TypeId} {q : IntKind} (hk : P.underlying k = some (.int q)) : MKey P k (fun n : Int => .int q n) where
  check w em x := by
    show (Instr.checkKey em (9999 + 1) k _).run P w = _
    rw [Instr.checkKey]
    simp [run_underlying hk]
  inj h := by cases h; rfl
  stays w x := by simp [Instr.keyThatStays, Instr.sameBits]
  find w x es h := by
    rcases findNow_int q x es 0 h with ⟨hr, hn⟩ | ⟨j, e, hr, hj, hk'⟩
    · exact .inl ⟨by simp [Instr.findKey, run_underlying hk, hr], hn⟩
    · exact .inr ⟨j, e, by simp [Instr.findKey, run_underlying hk, hr], hj, hk'⟩

end Go.Proofs.Ytkgodolhcoeaeaa
