/- Words of this seat's walks: which blocks a call may have turned ('Turn'), and appending to a row that an object owns, with the block that it lies in. No condition. -/
import Derived.Test.YtkgodolhcoeaeaaKone
import Derived.Deep.QuietTactic
import Derived.BigQuiet
import Derived.StillTailTactics
namespace Go.Proofs.Ytkgodolhcoeaeaa
open Go.RowKit

/-- Of the blocks that lay in w none but those of F has turned. -/
structure Turn (F : List Nat) (w w' : World) : Prop where
  os : w'.os = w.os
  tape : w'.tape = w.tape
  output : w'.output = w.output
  size : w.heap.size ≤ w'.heap.size
  block : ∀ k, k < w.heap.size → k ∉ F → w'.heap[k]? = w.heap[k]?

theorem Turn.refl (F : List Nat) (w : World) : Turn F w w := ⟨rfl, rfl, rfl, Nat.le_refl _, fun _ _ _ => rfl⟩

theorem Turn.trans {F G : List Nat} {a b c : World} (h : Turn F a b) (k : Turn G b c) (hG : ∀ x ∈ G, x ∈ F ∨ a.heap.size ≤ x) : Turn F a c :=
  ⟨k.os.trans h.os, k.tape.trans h.tape, k.output.trans h.output, Nat.le_trans h.size k.size, fun i hi hF =>
    (k.block i (Nat.lt_of_lt_of_le hi h.size) (fun hg => by rcases hG i hg with h1 | h1; exact hF h1; omega)).trans (h.block i hi hF)⟩

theorem Turn.mono {F G : List Nat} {a b : World} (h : Turn F a b) (hG : ∀ x ∈ F, x ∈ G) : Turn G a b :=
  ⟨h.os, h.tape, h.output, h.size, fun i hi hF => h.block i hi fun hx => hF (hG i hx)⟩

theorem Turn.drew {F : List Nat} {a w : World} (h : Turn F a w) : Turn F a w.drew := ⟨h.os, h.tape, h.output, h.size, h.block⟩

theorem Turn.drewN {F : List Nat} {a w : World} (h : Turn F a w) (n : Nat) : Turn F a (w.drewN n) := ⟨h.os, h.tape, h.output, h.size, h.block⟩

theorem Turn.alloc {F : List Nat} {a w : World} (h : Turn F a w) (o : Obj) : Turn F a (w.alloc o) :=
  h.trans (G := []) ⟨rfl, rfl, rfl, by simp, fun k hk _ => Below.heap_alloc _ _ _ hk⟩ (by simp)

theorem Turn.setCell {F : List Nat} {a w : World} (h : Turn F a w) {p : Addr} (hp : p.block ∈ F ∨ a.heap.size ≤ p.block) (u : Value) : Turn F a (w.setCell p u) :=
  h.trans (G := [p.block]) ⟨rfl, rfl, rfl, by simp, fun k _ hk => Below.heap_setCell _ _ _ _ (by simpa using hk)⟩ (by simpa using hp)

theorem Turn.setMap {F : List Nat} {a w : World} (h : Turn F a w) {b : Nat} (hp : b ∈ F ∨ a.heap.size ≤ b) (es : Array MapEntry) (clock : Nat) : Turn F a (setMap w b es clock) :=
  h.trans (G := [b]) ⟨rfl, rfl, rfl, by simp [setMap_size], fun k _ hk => setMap_other (by simpa using hk) es clock⟩ (by simpa using hp)

theorem Turn.setRow {F : List Nat} {a w : World} (h : Turn F a w) {b : Nat} (hp : b ∈ F ∨ a.heap.size ≤ b) (cs : Array Value) : Turn F a (w.setRow b cs) :=
  h.trans (G := [b]) ⟨rfl, rfl, rfl, by simp, fun k _ hk => setRow_other w b k cs (by simpa using hk)⟩ (by simpa using hp)

theorem Turn.below {w w' : World} (h : Below w.heap.size w w') : Turn [] w w' := ⟨h.os, h.tape, h.output, h.size, fun k hk _ => h.block k hk⟩

theorem Turn.toBelow {F : List Nat} {B : Nat} {w w' : World} (h : Turn F w w') (hB : B ≤ w.heap.size) (hF : ∀ x ∈ F, B ≤ x) : Below B w w' :=
  ⟨h.os, h.tape, h.output, h.size, fun k hk => h.block k (by omega) (fun hx => by have := hF k hx; omega)⟩

theorem Turn.cell {F : List Nat} {w w' : World} (h : Turn F w w') {p : Addr} (hp : p.block < w.heap.size) (hF : p.block ∉ F) : w'.cell? p = w.cell? p := World.cell?_of_block (w := w) (h.block p.block hp hF)
theorem Turn.frozen {F : List Nat} {w w' : World} (h : Turn F w w') {p : Addr} (hp : p.block < w.heap.size) (hF : p.block ∉ F) : w'.frozen? p = w.frozen? p := World.frozen?_of_block (w := w) (h.block p.block hp hF)

theorem lt_of_heap {w : World} {b : Nat} {o : Obj} (h : w.heap[b]? = some o) : b < w.heap.size := (Array.getElem?_eq_some_iff.1 h).1

/-- append onto a row that is owned: the row lies where it lay, or in a new block. -/
theorem run_append_foot {P : Program} (w : World) (t ty e : TypeId) (i : TypeInfo) (z : Value) (size bytes : Nat) (ht : P.underlying t = some (.slice e)) (hi : P.info? e = some i) (hz : i.zero = some z)
    (hsize : i.size = size) (hby : i.bytes = bytes) (hzs : z.cells.size = size) (hsz : 0 < size)
    (v : Value) (n : Nat) (xs : List Value) (hown : w.ownsRow 0 e size v n xs)
    (a : Addr) (m c : Nat) (news : List Value) (hl : news.length = m * size) (hnews : ∀ j u, news[j]? = some u → w.cell? (a.add j) = some u) (h1 : ∀ u ∈ news, u.oneCell' = true)
    (h63 : n + m ≤ maxLen) (hbytes : (n + m) * bytes ≤ 140737488355328) :
    ∃ v' w', (Builtin.append_ #[t, t] ty #[v, .slice (some a) m c]).run P w = .ok v' w' ∧ w'.ownsRow 0 e size v' (n + m) (xs ++ news) ∧ Turn v.ownBlock.toList w w' ∧
      (v'.ownBlock = v.ownBlock ∨ v'.ownBlock = some w.heap.size) ∧ (v' = .slice none 0 0 ↔ v = .slice none 0 0 ∧ m = 0) := by
  obtain ⟨v', w', hr, ho, hg, hnil⟩ := run_append_own (P := P) w 0 t ty e i z size bytes ht hi hz hsize hby hzs hsz v n xs hown a m c news hl hnews h1 h63 hbytes (Nat.zero_le _)
  refine ⟨v', w', hr, ho, ⟨hg.os, hg.tape, hg.output, hg.size, fun k hk hF => hg.block k hk (fun e => hF (by rw [← e]; simp))⟩, ?_, hnil⟩
  subst hsize
  subst hby
  rcases hown.2 with ⟨rfl, rfl⟩ | ⟨g, cap, cur, rfl, hbg, hgh, hnc, hcm, hcs, htake⟩
  · -- a nil row: take it as one that begins behind all that lies in w
    obtain ⟨v2, w2, hr2, ho2, _, _⟩ := run_append_own (P := P) w w.heap.size t ty e i z i.size i.bytes ht hi hz rfl rfl hzs hsz (.slice none 0 0) 0 xs ⟨hown.1, .inl ⟨rfl, rfl⟩⟩ a m c news hl hnews h1 h63 hbytes (Nat.le_refl _)
    rw [hr2] at hr
    cases hr
    rcases ho2.2 with ⟨rfl, _⟩ | ⟨g', cap', cur', rfl, hge, hh, _⟩
    · exact .inl rfl
    · right
      have hx : xs = [] := List.eq_nil_of_length_eq_zero (by simpa using hown.1)
      by_cases hm : m = 0
      · have h3 := hnil.2 ⟨rfl, hm⟩
        cases h3
      · have hg2 := run_append_nil (P := P) w t ty e i z ht hi hz a m c news hl hnews (by omega) (by simp only [maxLen] at h63; omega) (by have hb := hbytes; simp only [Nat.zero_add] at hb; omega)
        have e2 := (Result.ok.inj (hr2.symm.trans hg2)).1
        rw [e2]
        rfl
  · by_cases hroom : n + m ≤ cap
    · have hfit : n * i.size + news.length ≤ cur.size := by rw [hl, hcs, ← Nat.add_mul]; exact Nat.mul_le_mul_right _ hroom
      have hr3 := run_append_room (P := P) w t ty e i ht hi g n cap cur hgh a m c news hl hnews h1 hroom hfit
      rw [hr3] at hr
      cases hr
      exact .inl rfl
    · have holds : ∀ j u, xs[j]? = some u → w.cell? ((⟨g, 0, none⟩ : Addr).add j) = some u := hown.cells (g := g) rfl
      have hr3 := run_append_grow (P := P) w t ty e i z ht hi hz ⟨g, 0, none⟩ n cap xs hown.1 holds a m c news hl hnews (by omega) (by simp only [maxLen] at h63; omega) (growslice_fits (by omega) hbytes)
      rw [hr3] at hr
      cases hr
      exact .inr rfl

theorem wpList_append_foot {P : Program} {Q : Exit → Act → World → Prop} {a : Act} {w : World} {ops : Array Oper} {rest : List Oper} {o : Oper} (hgd : o.guard = none) (s x : Operand) (t : TypeId)
    (ho : o.op = .call { callee := .builtin .append, args := #[s, x], argTypes := #[t, t] })
    (e : TypeId) (i : TypeInfo) (z : Value) (size bytes : Nat) (ht : P.underlying t = some (.slice e)) (hi : P.info? e = some i) (hz : i.zero = some z)
    (hsize : i.size = size) (hby : i.bytes = bytes) (hzs : z.cells.size = size) (hsz : 0 < size)
    (v : Value) (n : Nat) (xs : List Value) (hs : a.eval s = v) (hown : w.ownsRow 0 e size v n xs)
    (ad : Addr) (m c : Nat) (news : List Value) (hx : a.eval x = .slice (some ad) m c) (hl : news.length = m * size) (hnews : ∀ j u, news[j]? = some u → w.cell? (ad.add j) = some u) (h1 : ∀ u ∈ news, u.oneCell' = true)
    (h63 : n + m ≤ maxLen) (hbytes : (n + m) * bytes ≤ 140737488355328)
    (h : ∀ v' w', w'.ownsRow 0 e size v' (n + m) (xs ++ news) → Turn v.ownBlock.toList w w' → (v'.ownBlock = v.ownBlock ∨ v'.ownBlock = some w.heap.size) → (v' = .slice none 0 0 ↔ v = .slice none 0 0 ∧ m = 0) → wpList P ops Q rest (a.put o.dst v') w') : wpList P ops Q (o :: rest) a w := by
  refine wpList_plain hgd fun K hK => ?_
  obtain ⟨v', w', hr, h2, h3, h4, h5⟩ := run_append_foot (P := P) w t o.type e i z size bytes ht hi hz hsize hby hzs hsz v n xs hown ad m c news hl hnews h1 h63 hbytes
  unfold Oper.wp execOp
  simp only [ho, resolve, invoke, builtin, Sem.run_bind, Sem.run_pure, Result.andThen_ok, List.map_toArray, List.map_cons, List.map_nil, hs, hx, hr]
  exact hK _ _ (h v' w' h2 h3 h4 h5)

/-- append where there is room, from whatever slice: the row's new cells. -/
theorem wpList_append_room {P : Program} {Q : Exit → Act → World → Prop} {a : Act} {w : World} {ops : Array Oper} {rest : List Oper} {o : Oper} (hgd : o.guard = none) (s x : Operand) (t : TypeId)
    (ho : o.op = .call { callee := .builtin .append, args := #[s, x], argTypes := #[t, t] })
    (e : TypeId) (i : TypeInfo) (size : Nat) (ht : P.underlying t = some (.slice e)) (hi : P.info? e = some i) (hsize : i.size = size)
    (g n cap : Nat) (cur : Array Value) (hs : a.eval s = .slice (some ⟨g, 0, none⟩) n cap) (hg : w.heap[g]? = some (.cells cur e (0, 0)))
    (ad : Addr) (m c : Nat) (news : List Value) (hx : a.eval x = .slice (some ad) m c) (hl : news.length = m * size) (hnews : ∀ j u, news[j]? = some u → w.cell? (ad.add j) = some u) (h1 : ∀ u ∈ news, u.oneCell' = true)
    (hroom : n + m ≤ cap) (hfit : n * size + news.length ≤ cur.size)
    (h : wpList P ops Q rest (a.put o.dst (.slice (some ⟨g, 0, none⟩) (n + m) cap)) (w.setRow g (cur.toList.take (n * size) ++ news ++ cur.toList.drop (n * size + news.length)).toArray)) : wpList P ops Q (o :: rest) a w := by
  refine wpList_plain hgd fun K hK => ?_
  subst hsize
  have hr := run_append_room (P := P) w t o.type e i ht hi g n cap cur hg ad m c news hl hnews h1 hroom hfit
  unfold Oper.wp execOp
  simp only [ho, resolve, invoke, builtin, Sem.run_bind, Sem.run_pure, Result.andThen_ok, List.map_toArray, List.map_cons, List.map_nil, hs, hx, hr]
  exact hK _ _ h

/-- clear of a piece of a row. -/
theorem run_clear_row {P : Program} (w : World) (t ty e : TypeId) (z : Value) (size : Nat) (ht : P.underlying t = some (.slice e)) (hz : (zeroValue e).run P w = .ok z w) (hzs : z.cells.size = size) (hz1 : ∀ u ∈ z.cells.toList, u.oneCell' = true) (hsz : 0 < size)
    (g k m c : Nat) (cur : Array Value) (hg : w.heap[g]? = some (.cells cur e (0, 0))) (hm : 0 < m) (hfit : k * size + m * size ≤ cur.size) :
    (Builtin.clear_ #[t] ty #[.slice (some ⟨g, k * size, none⟩) m c]).run P w = .ok (.tuple #[]) (w.setRow g (cur.toList.take (k * size) ++ (Builtin.zeroCells z.cells m).toList ++ cur.toList.drop (k * size + (Builtin.zeroCells z.cells m).toList.length)).toArray) := by
  subst hzs
  have hl : (Builtin.zeroCells z.cells m).toList.length = m * z.cells.size := by rw [Array.length_toList, size_zeroCells]
  have h1 : ∀ u ∈ (Builtin.zeroCells z.cells m).toList, u.oneCell' = true := by
    intro u hu
    simp only [Builtin.zeroCells, Array.toList_map, List.mem_map] at hu
    obtain ⟨i, _, rfl⟩ := hu
    have hlt : i % z.cells.size < z.cells.size := Nat.mod_lt _ hsz
    refine hz1 _ ?_
    rw [getElem!_pos z.cells _ hlt]
    exact Array.getElem_mem_toList hlt
  have hst := run_storeCells_at P g (k * z.cells.size) e _ 0 cur w hg (by rw [hl]; simpa using hfit) h1
  simp only [Nat.add_zero] at hst
  obtain ⟨m, rfl⟩ : ∃ m', m = m' + 1 := ⟨m - 1, by omega⟩
  simp [Builtin.clear_, run_underlying ht, hz, hst]

theorem setCell_heap {w : World} {g o : Nat} {E : TypeId} {fr : Nat × Nat} {cur : Array Value} (hg : w.heap[g]? = some (.cells cur E fr)) (v : Value) : (w.setCell ⟨g, o, none⟩ v).heap[g]? = some (.cells (cur.setIfInBounds o v) E fr) := by
  simp [World.setCell, Array.getElem?_modify, hg]

/-- Cells that are set one behind the other: the block's new cells. -/
theorem setCells_heap {g : Nat} {E : TypeId} {fr : Nat × Nat} : ∀ (vs : List Value) (o : Nat) (w : World) (cur : Array Value), w.heap[g]? = some (.cells cur E fr) → o + vs.length ≤ cur.size →
    (w.setCells g o vs).heap[g]? = some (.cells (cur.toList.take o ++ vs ++ cur.toList.drop (o + vs.length)).toArray E fr)
  | [], o, w, cur, hg, h => by simpa [World.setCells] using hg
  | v :: vs, o, w, cur, hg, h => by
    have h' : o < cur.toList.length := by simp at h ⊢; omega
    rw [World.setCells, setCells_heap vs (o + 1) _ _ (setCell_heap hg v) (by simp at h ⊢; omega)]
    congr 3
    simp only [Array.toList_setIfInBounds, List.append_assoc]
    have e1 : (cur.toList.set o v).take (o + 1) = cur.toList.take o ++ [v] := by
      rw [List.take_set, List.take_succ_eq_append_getElem h', List.set_append_right _ _ (by simp; omega)]
      have h2 : min o cur.size = o := Nat.min_eq_left (by simpa using Nat.le_of_lt h')
      simp [h2]
    have e2 : (cur.toList.set o v).drop (o + 1 + vs.length) = cur.toList.drop (o + (v :: vs).length) := by
      rw [List.drop_set_of_lt (by omega), List.length_cons]
      congr 1; omega
    rw [e1, e2]
    simp

theorem Turn.setCells {F : List Nat} {a : World} {b : Nat} (hp : b ∈ F ∨ a.heap.size ≤ b) : ∀ (vs : List Value) (o : Nat) {w : World}, Turn F a w → Turn F a (w.setCells b o vs)
  | [], _, _, h => h
  | _ :: vs, o, _, h => Turn.setCells hp vs (o + 1) (h.setCell (p := ⟨b, o, none⟩) hp _)

/-- A row that is owned, not nil: its block. -/
theorem ownsRow_block {w : World} {e size n : Nat} {v : Value} {xs : List Value} (h : w.ownsRow 0 e size v n xs) (hv : v ≠ .slice none 0 0) :
    ∃ g cap cur, v = .slice (some ⟨g, 0, none⟩) n cap ∧ w.heap[g]? = some (.cells cur e (0, 0)) ∧ n ≤ cap ∧ cap ≤ maxLen ∧ cur.size = cap * size ∧ cur.toList.take (n * size) = xs := by
  rcases h.2 with ⟨h1, _⟩ | ⟨g, cap, cur, h1, _, h2⟩
  · exact absurd h1 hv
  · exact ⟨g, cap, cur, h1, h2⟩

theorem ownsRow_same {w w' : World} {e size n : Nat} {v : Value} {xs : List Value} (h : w.ownsRow 0 e size v n xs) (hb : ∀ g, v.ownBlock = some g → w'.heap[g]? = w.heap[g]?) : w'.ownsRow 0 e size v n xs := by
  refine ⟨h.1, ?_⟩
  rcases h.2 with h1 | ⟨g, cap, cur, rfl, h0, hg, r⟩
  · exact .inl h1
  · exact .inr ⟨g, cap, cur, rfl, h0, (hb g rfl).trans hg, r⟩

theorem ownsRow_lt {w : World} {e size n : Nat} {v : Value} {xs : List Value} (h : w.ownsRow 0 e size v n xs) : ∀ g, v.ownBlock = some g → g < w.heap.size := fun g hg => (h.lt g hg).2

end Go.Proofs.Ytkgodolhcoeaeaa
