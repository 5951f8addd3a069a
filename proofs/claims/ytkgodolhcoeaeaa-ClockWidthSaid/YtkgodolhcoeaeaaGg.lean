/- Clock: 'edges' walked: all edges in order, and how many gaps there are. No condition. -/
import Derived.Test.YtkgodolhcoeaeaaGf
namespace Go.Proofs.Ytkgodolhcoeaeaa
open Go.RowKit Go.Sort

structure EdgeIn (w : World) (b o : Nat) (x : Int × Bool) : Prop where
  c0 : w.cell? ⟨b, o, none⟩ = some (.int .i64 x.1)
  c1 : w.cell? ⟨b, o + 1, none⟩ = some (.bool x.2)

def EdgesIn (w : World) (A : Option Addr) (es : List (Int × Bool)) : Prop := ∀ i (h : i < es.length), ∃ b, A = some ⟨b, 0, none⟩ ∧ b < w.heap.size ∧ EdgeIn w b (i * 2) es[i]

theorem EdgeIn.turn {w w' : World} {b o : Nat} {x : Int × Bool} (h : EdgeIn w b o x) (hb : b < w.heap.size) (hT : Below w.heap.size w w') : EdgeIn w' b o x :=
  ⟨(hT.cell (p := ⟨b, o, none⟩) hb).trans h.c0, (hT.cell (p := ⟨b, o + 1, none⟩) hb).trans h.c1⟩

theorem EdgesIn.turn {w w' : World} {A : Option Addr} {es : List (Int × Bool)} (h : EdgesIn w A es) (hT : Below w.heap.size w w') : EdgesIn w' A es := fun i hi => by
  obtain ⟨b, hA, hb, hg⟩ := h i hi
  exact ⟨b, hA, Nat.lt_of_lt_of_le hb hT.size, hg.turn hb hT⟩

def edgesG (g : Int × Int) : List (Int × Bool) := if okG g = true then [(g.1, false), (g.2, true)] else []
def edgesL (gs : List (Int × Int)) : List (Int × Bool) := gs.flatMap edgesG

theorem edgesL_len (gs : List (Int × Int)) : (edgesL gs).length = 2 * rightL gs := by
  unfold edgesL rightL
  induction gs with
  | nil => rfl
  | cons g r ih =>
    rw [List.flatMap_cons, List.length_append, ih, List.countP_cons]
    unfold edgesG
    split <;> simp <;> omega

theorem sortE_len (es : List (Int × Bool)) : (sortE es).length = es.length := by unfold sortE; exact List.length_mergeSort _

theorem below_sortWorldK {w : World} {B blk m : Nat} {dk : Array (Int × Bool)} {os : Array Obj} (hB : B ≤ blk) (hblk : blk < w.heap.size) : Go.RowKit.Below B w (sortWorldK encE 2 w blk 0 m dk os) := by
  refine ⟨rfl, rfl, rfl, size_sortWorldK_c encE 2 w blk 0 m dk os, fun k hk => ?_⟩
  show ((Array.modify w.heap blk _) ++ os)[k]? = _
  rw [Array.getElem?_append_left (by simp; omega), Array.getElem?_modify, if_neg (by omega)]

theorem cellsE_len (es : List (Int × Bool)) : (es.flatMap encE).length = es.length * 2 := by
  induction es with
  | nil => rfl
  | cons g r ih => rw [List.flatMap_cons, List.length_append, ih]; simp [encE]; omega

theorem cellsE_get (es : List (Int × Bool)) (i : Nat) (hi : i < es.length) (j : Nat) (hj : j < 2) : (es.flatMap encE)[i * 2 + j]? = (encE es[i])[j]? := by
  have h1 : es = es.take i ++ es[i] :: es.drop (i + 1) := by rw [← List.drop_eq_getElem_cons hi, List.take_append_drop]
  have h2 : ((es.take i).flatMap encE).length = i * 2 := by rw [cellsE_len, List.length_take, Nat.min_eq_left (by omega)]
  conv => lhs; rw [h1]
  rw [List.flatMap_append, List.flatMap_cons, List.getElem?_append_right (by rw [h2]; omega), h2, show i * 2 + j - i * 2 = j by omega, List.getElem?_append_left (by show j < 2; omega)]

/-- A row that is owned, as the sort asks it. -/
theorem holds_of_row {w : World} {g : Nat} {cur : Array Value} {e : TypeId} (hg : w.heap[g]? = some (.cells cur e (0, 0))) (es : List (Int × Bool)) (ht : cur.toList.take (es.length * 2) = es.flatMap encE) : HoldsK encE 2 w g 0 es.toArray := by
  intro j hj
  rw [size_flatK, List.size_toArray] at hj
  have h2 : j / 2 < es.length := by omega
  refine ⟨?_, by simp [World.frozen?, hg]⟩
  have h1 := cellsE_get es (j / 2) h2 (j % 2) (by omega)
  rw [show j / 2 * 2 + j % 2 = j by omega, ← ht, List.getElem?_take, if_pos (by omega)] at h1
  rw [get_flatK _ _ _ j (by simpa using hj), Nat.zero_add]
  have h3 : w.cell? ⟨g, j, none⟩ = cur.toList[j]? := by simp [World.cell?, hg]
  rw [h3, h1]
  have h4 : j % 2 < (encE es[j / 2]).length := by show j % 2 < 2; omega
  rw [List.getElem?_eq_getElem h4]
  simp only [id]
  rw [getElem!_pos (es.toArray) (j / 2) (by simpa using h2)]
  simp only [List.getElem_toArray]
  rw [getElem!_pos (encE es[j / 2]) (j % 2) h4]

theorem edges_of_holds {w : World} {g : Nat} (es : List (Int × Bool)) (hb : g < w.heap.size) (h : HoldsK encE 2 w g 0 es.toArray) : EdgesIn w (some ⟨g, 0, none⟩) es := by
  intro i hi
  have key : ∀ j, j < 2 → w.cell? ⟨g, i * 2 + j, none⟩ = (encE es[i])[j]? := by
    intro j hj
    have h1 := (h (i * 2 + j) (by rw [size_flatK, List.size_toArray]; omega)).1
    rw [get_flatK _ _ _ _ (by rw [List.size_toArray]; omega), Nat.zero_add, show (i * 2 + j) / 2 = i by omega, show (i * 2 + j) % 2 = j by omega] at h1
    rw [h1]
    have h4 : j < (encE es[i]).length := by show j < 2; omega
    rw [List.getElem?_eq_getElem h4]
    simp only [id]
    rw [getElem!_pos (es.toArray) i (by simpa using hi)]
    simp only [List.getElem_toArray]
    rw [getElem!_pos (encE es[i]) j h4]
  exact ⟨g, rfl, hb, key 0 (by omega), key 1 (by omega)⟩

theorem owns_below {w w' : World} {base e size n : Nat} {v : Value} {xs : List Value} (h : w.ownsRow base e size v n xs) (hB : Go.RowKit.Below w.heap.size w w') : w'.ownsRow base e size v n xs :=
  h.kept (row := none) ⟨hB.os, hB.tape, hB.output, hB.size, fun k hk _ => hB.block k hk⟩ (by cases v.ownBlock <;> simp)

theorem info56 : (Try.prog.info? 94).map (fun i => (i.zero, i.size, i.bytes)) = some (some (.agg #[.int .i64 0, .bool false]), 2, 16) := by kernel_rfl

set_option maxHeartbeats 4000000 in
set_option maxRecDepth 100000 in
theorem edges22 (A : Option Addr) (n c : Nat) (gs : List (Int × Int)) (w : World) (hn : n = gs.length) (hn2 : n ≤ 1000) (hG : GapsIn w A gs) :
    Calls Try.prog 53 #[.slice A n c] w fun e w' => ∃ A' c', e = .returned (.tuple #[.slice A' (2 * rightL gs) c', .int .i64 (rightL gs)]) ∧ EdgesIn w' A' (sortE (edgesL gs)) ∧ Go.RowKit.Below w.heap.size w w' := by
  obtain ⟨i0, hi, hz0, hz1, hz2⟩ := info_parts info56
  have HG := Lib.hid hG; clear hG
  have HN := Lib.hid hn; clear hn
  go_enter Try.func53, Try.ntmps53
  go_wp2_with fail
  go_loopw [4, 9] (fun v i wr => ∃ k : Nat, k ≤ n ∧ i = .int .i64 k ∧ wr.ownsRow w.heap.size 94 2 v (edgesL (gs.take k)).length ((edgesL (gs.take k)).flatMap encE) ∧ Go.RowKit.Below w.heap.size w wr) (fun _ i _ => n - (intOf i).toNat)
  case atStart => exact ⟨0, Nat.zero_le _, rfl, by simpa [edgesL] using World.ownsRow_nil w _ _ _, Go.RowKit.Below.refl _ w⟩
  case round =>
    obtain ⟨k, hk, rfl, hown, hB⟩ := hrel
    by_cases hlt : k < n
    · have hkl : k < gs.length := by have := HN.out; omega
      obtain ⟨b, off, hA, hbl, hg⟩ := HG.out k hkl
      subst hA
      obtain ⟨e0, e1⟩ := hg.turn hbl hB
      have hbw : b < wr.heap.size := by have := hB.size; omega
      have hel : (edgesL (gs.take k)).length ≤ 2000 := by rw [edgesL_len]; have := rightL_le (gs.take k); rw [List.length_take] at this; omega
      have hst : edgesL (gs.take (k + 1)) = edgesL (gs.take k) ++ edgesG gs[k] := by
        unfold edgesL
        rw [List.take_succ_eq_append_getElem hkl, List.flatMap_append, List.flatMap_cons, List.flatMap_nil, List.append_nil]
      have HST := Lib.hid hst
      have HBB := Lib.hid hB
      have HO := Lib.hid hown
      have HEL := Lib.hid hel
      clear hg hst hown hel
      go_wp2_with fail
      refine (right17 gs[k] _).mono ?_
      rintro e w2 ⟨rfl, hB2⟩
      have hbx : Box2 w2 wr.heap.size 26 gs[k].1 gs[k].2 := (hB2.block _ (by simp)).trans (heap_alloc_new wr _)
      obtain ⟨x0, x1, -, -⟩ := hbx.cells
      clear hbx
      have hbA := (Go.RowKit.Below.refl wr.heap.size wr).alloc (Nat.le_refl _) (.cells #[.int .i64 gs[k].1, .int .i64 gs[k].2] 26)
      have hBw : Go.RowKit.Below wr.heap.size wr w2 := hbA.trans (hB2.mono (by simp))
      have hl2 : wr.heap.size < w2.heap.size := by have := hB2.size; simp at this; omega
      have HB2 := Lib.hid (HBB.out.trans (hBw.mono HBB.out.size))
      have HO2 := Lib.hid (owns_below HO.out hBw)
      clear HO HBB hbA hBw hB2 hB e0 e1 hbw
      cases hok : okG gs[k]
      · have he : edgesG gs[k] = [] := by unfold edgesG; rw [hok]; rfl
        rw [he, List.append_nil] at HST
        have HOK := Lib.hid hok
        clear hok he
        go_wp2_with fail
        go_roundw
        case rel => exact ⟨k + 1, hlt, by simp, by rw [HST.out]; exact HO2.out, HB2.out⟩
        case measure => simp [intOf]; omega
      · have he : edgesG gs[k] = [(gs[k].1, false), (gs[k].2, true)] := by unfold edgesG; rw [hok]; rfl
        rw [he] at HST
        clear hok he
        have hnews := World.news_of_block (cs := #[.int .i64 gs[k].1, .bool false, .int .i64 gs[k].2, .bool true]) (t := 94) (fr := (0, 0)) (heap_alloc_new w2 _)
        have HNW := Lib.hid hnews
        clear hnews
        go_wp2_with (at_builtin; refine wpList_append_lies _ rfl _ _ _ rfl w.heap.size 94 i0 _ 2 16 Try.underlying88 hi hz0 hz1 hz2 rfl (by omega) u4 (edgesL (gs.take k)).length ((edgesL (gs.take k)).flatMap encE) rfl (HO2.out.alloc _) ⟨w2.heap.size, 0, none⟩ 2 2 [.int .i64 gs[k].1, .bool false, .int .i64 gs[k].2, .bool true] rfl rfl HNW.out (by simp [Value.oneCell']) (by omega) (by unfold maxLen; have := HEL.out; omega) (by have := HEL.out; omega) (by have := HB2.out.size; simp; omega) (w2.heap.size + 1) (by simp) ?_; intro gg cap w3 hown1 hgrow hat hlt'; have HB3 := Lib.hid ((HB2.out.alloc HB2.out.size _).grown hgrow (by have := HB2.out.size; simp; omega) (fun q hq => (HO2.out.lt q hq).1)); have HO3 := Lib.hid hown1; clear hown1 hgrow hat hlt')
        go_roundw
        case rel =>
          refine ⟨k + 1, hlt, by simp, ?_, HB3.out⟩
          have := HO3.out
          rw [HST.out, List.flatMap_append, List.length_append]
          exact this
        case measure => simp [intOf]; omega
    · obtain rfl : k = n := by omega
      have hfull : gs.take k = gs := List.take_of_length_le (by have := HN.out; omega)
      rw [hfull] at hown
      have hlen := edgesL_len gs
      have hrl := rightL_le gs
      have hql : rightL gs ≤ 1000 := by have := HN.out; omega
      by_cases h0 : rightL gs = 0
      · have hes : edgesL gs = [] := List.eq_nil_of_length_eq_zero (by omega)
        rw [hes] at hown
        have hu : ∃ p cap, u4 = .slice p 0 cap := by
          rcases hown.2 with ⟨h, _⟩ | ⟨g, cap, cur, h, _⟩
          · exact ⟨_, _, h⟩
          · exact ⟨_, _, h⟩
        obtain ⟨p, cap, rfl⟩ := hu
        have HB := Lib.hid hB
        have HES := Lib.hid hes
        clear hown hfull hB hes
        go_wp2_with (go_at_call 56; refine (sortN29 _ _ _ _).mono ?_; rintro e w' ⟨rfl, rfl⟩)
        go_ret2
        exact ⟨p, cap, by simp [h0], by rw [HES.out]; intro i hi; rw [sortE_len] at hi; simp at hi, HB.out⟩
      · rcases hown.2 with ⟨_, h⟩ | ⟨g, cap, cur, rfl, hge, hg, hc, hm, hs, ht⟩
        · omega
        have hH := holds_of_row hg (edgesL gs) ht
        have hgl := lt_of_heap hg
        have hsort := sortE29 g cap (edgesL gs) wr hH hgl (by omega)
        have hdl : (sortE (edgesL gs)).toArray.size = (edgesL gs).toArray.size := by simp [sortE_len]
        have hpost : ∀ nn os, EdgesIn (sortWorldK encE 2 wr g 0 nn (sortE (edgesL gs)).toArray os) (some ⟨g, 0, none⟩) (sortE (edgesL gs)) ∧ Go.RowKit.Below w.heap.size w (sortWorldK encE 2 wr g 0 nn (sortE (edgesL gs)).toArray os) := fun nn os =>
          ⟨edges_of_holds _ (Nat.lt_of_lt_of_le hgl (size_sortWorldK_c encE 2 wr g 0 nn _ os)) (holdsK_sortWorldK_c encE 2 wr g 0 (edgesL gs).toArray _ nn os hH hgl hdl), hB.trans (below_sortWorldK hge hgl)⟩
        have HP := Lib.hid hpost
        have HSO := Lib.hid hsort
        clear hown hB hg hc hm hs ht hH hsort hpost hdl hfull
        generalize hmm : (edgesL gs).length = m at *
        have hmr : m = 2 * rightL gs := hlen
        subst hmr
        clear hlen hmm
        generalize hrr : rightL gs = r at *
        have hdiv : ((2 * r : Nat) : Int).tdiv 2 = r := by rw [Int.natCast_mul]; exact Int.mul_tdiv_cancel_left _ (by decide)
        have HRR := Lib.hid hrr
        clear hrr
        go_wp2_with (go_at_call 56; refine HSO.out.mono ?_; rintro e w' ⟨rfl, nn, os, rfl⟩)
        go_ret2
        exact ⟨_, cap, by simp [HRR.out], (HP.out nn os).1, (HP.out nn os).2⟩

end Go.Proofs.Ytkgodolhcoeaeaa
