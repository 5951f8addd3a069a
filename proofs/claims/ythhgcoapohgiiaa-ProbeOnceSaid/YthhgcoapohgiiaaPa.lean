/- Walks of package probe's small functions and of slices.Delete, IndexFunc and DeleteFunc at its rows. -/
import Derived.Test.YthhgcoapohgiiaaChecked
import Derived.Test.YthhgcoapohgiiaaKtwo
import Derived.Outline
namespace Go.Proofs.Ythhgcoapohgiiaa
open Go.RowKit

def isTimeB (v : Int) : Bool := decide (0 ≤ v ∧ v ≤ 4611686018427387903)

theorem isTime_any (v : Int) (w : World) :
    Calls Try.prog 12 #[.int .i64 v] w fun e w' => e = .returned (.bool (isTimeB v)) ∧ w = w' := by
  by_cases ha : 0 ≤ v
  · go_enter Try.func12, Try.ntmps12
    go_wp2
    go_ret
    exact ⟨by simp [isTimeB, ha], rfl⟩
  · go_enter Try.func12, Try.ntmps12
    go_wp2
    go_ret
    exact ⟨by simp only [isTimeB]; congr 1; simp; omega, rfl⟩

structure Row where
  boot : Int
  count : Int
  agent : Int
  epoch : Int
  at_ : Int

def Row.cells (r : Row) : List Value := [.int .i64 r.boot, .int .i64 r.count, .int .i64 r.agent, .int .i64 r.epoch, .int .i64 r.at_]

theorem rows_length (rs : List Row) : (rs.flatMap Row.cells).length = rs.length * 5 := by
  induction rs with
  | nil => rfl
  | cons r rs ih => rw [List.flatMap_cons, List.length_append, ih]; simp [Row.cells]; omega

theorem rows_take (rs : List Row) (i : Nat) : (rs.take i).flatMap Row.cells = (rs.flatMap Row.cells).take (i * 5) := by
  induction rs generalizing i with
  | nil => simp
  | cons r rs ih =>
    cases i with
    | zero => simp
    | succ i =>
      rw [List.take_succ_cons, List.flatMap_cons, List.flatMap_cons, ih, List.take_append]
      have : r.cells.length = 5 := rfl
      rw [this, List.take_of_length_le (l := r.cells) (by rw [this]; omega), show (i + 1) * 5 - 5 = i * 5 by omega]

theorem rows_drop (rs : List Row) (i : Nat) : (rs.drop i).flatMap Row.cells = (rs.flatMap Row.cells).drop (i * 5) := by
  induction rs generalizing i with
  | nil => simp
  | cons r rs ih =>
    cases i with
    | zero => simp
    | succ i =>
      rw [List.drop_succ_cons, List.flatMap_cons, ih, List.drop_append]
      have : r.cells.length = 5 := rfl
      rw [this, List.drop_of_length_le (l := r.cells) (by rw [this]; omega), show (i + 1) * 5 - 5 = i * 5 by omega, List.nil_append]

theorem rows_oneCell (rs : List Row) : ∀ u ∈ rs.flatMap Row.cells, u.oneCell' = true := by
  intro u hu
  obtain ⟨r, _, hr⟩ := List.mem_flatMap.1 hu
  simp [Row.cells] at hr
  rcases hr with rfl | rfl | rfl | rfl | rfl <;> rfl

theorem ans1_any (b c ag ep at_ b' c' : Int) (B : Nat) (w : World) (hB : B < w.heap.size) (h0 : w.cell? ⟨B, 0, none⟩ = some (.int .i64 b')) (h1 : w.cell? ⟨B, 1, none⟩ = some (.int .i64 c')) :
    Calls Try.prog 15 #[.agg #[.int .i64 b, .int .i64 c, .int .i64 ag, .int .i64 ep, .int .i64 at_], .pointer (some ⟨B, 0, none⟩)] w fun e w' => e = .returned (.bool (decide (b = b' ∧ c = c'))) ∧ Below w.heap.size w w' := by
  go_enter Try.func15, Try.ntmps15
  go_wp2
  all_goals (go_ret; exact ⟨by simp [*], (Below.refl _ _).alloc (Nat.le_refl _) _⟩)

theorem forget1_any (b c ag ep at_ ag' : Int) (B : Nat) (w : World) (hB : B < w.heap.size) (h0 : w.cell? ⟨B, 0, none⟩ = some (.int .i64 ag')) :
    Calls Try.prog 17 #[.agg #[.int .i64 b, .int .i64 c, .int .i64 ag, .int .i64 ep, .int .i64 at_], .pointer (some ⟨B, 0, none⟩)] w fun e w' => e = .returned (.bool (decide (ag = ag'))) ∧ Below w.heap.size w w' := by
  go_enter Try.func17, Try.ntmps17
  go_wp2
  all_goals (go_ret; exact ⟨by simp only [Bool.beq_eq_decide_eq]; rfl, (Below.refl _ _).alloc (Nat.le_refl _) _⟩)

/-- five cells of a row -/
structure RowIn (w : World) (b o : Nat) (r : Row) : Prop where
  c0 : w.cell? ⟨b, o, none⟩ = some (.int .i64 r.boot)
  c1 : w.cell? ⟨b, o + 1, none⟩ = some (.int .i64 r.count)
  c2 : w.cell? ⟨b, o + 2, none⟩ = some (.int .i64 r.agent)
  c3 : w.cell? ⟨b, o + 3, none⟩ = some (.int .i64 r.epoch)
  c4 : w.cell? ⟨b, o + 4, none⟩ = some (.int .i64 r.at_)

theorem rows_at (rs : List Row) (i : Nat) (h : i < rs.length) : ∀ j, j < 5 → (rs.flatMap Row.cells)[i * 5 + j]? = (rs[i].cells)[j]? := by
  intro j hj
  have h1 : rs = rs.take i ++ rs[i] :: rs.drop (i + 1) := by rw [← List.drop_eq_getElem_cons h, List.take_append_drop]
  have h2 : ((rs.take i).flatMap Row.cells).length = i * 5 := by rw [rows_length, List.length_take, Nat.min_eq_left (by omega)]
  have hc : rs[i].cells.length = 5 := rfl
  conv => lhs; rw [h1]
  rw [List.flatMap_append, List.flatMap_cons, List.getElem?_append_right (by rw [h2]; omega), h2, show i * 5 + j - i * 5 = j by omega, List.getElem?_append_left (by rw [hc]; omega)]

theorem row_in {w : World} {g n cap : Nat} {rs : List Row} {cur : Array Value} (hg : w.heap[g]? = some (.cells cur 51 (0, 0))) (ht : cur.toList.take (rs.length * 5) = rs.flatMap Row.cells) (i : Nat) (h : i < rs.length) : RowIn w g (i * 5) rs[i] := by
  have h1 : ∀ j, j < 5 → w.cell? ⟨g, i * 5 + j, none⟩ = (rs[i].cells)[j]? := by
    intro j hj
    rw [← rows_at rs i h j hj, ← ht, List.getElem?_take, if_pos (by omega)]
    simp [World.cell?, hg]
  exact ⟨h1 0 (by omega), h1 1 (by omega), h1 2 (by omega), h1 3 (by omega), h1 4 (by omega)⟩

theorem info51 : (Try.prog.info? 51).map (fun i => (i.zero, i.size, i.bytes)) = some (some (.agg #[.int .i64 0, .int .i64 0, .int .i64 0, .int .i64 0, .int .i64 0]), 5, 40) := by kernel_rfl

theorem zero51 (w : World) : (zeroValue 51).run Try.prog w = .ok (.agg #[.int .i64 0, .int .i64 0, .int .i64 0, .int .i64 0, .int .i64 0]) w := by kernel_rfl

/-- What is left of a row's cells behind Delete. -/
theorem delete_cells {cur : List Value} {n cap i j : Nat} {z : List Value} (hn : n ≤ cap) (hcs : cur.length = cap * 5) (hij : i < j) (hj : j ≤ n) (hz : z.length = (j - i) * 5) :
    let news := (cur.take (n * 5)).drop (j * 5)
    let c1 := cur.take (i * 5) ++ news ++ cur.drop (i * 5 + news.length)
    let c2 := c1.take ((i + (n - j)) * 5) ++ z ++ c1.drop ((i + (n - j)) * 5 + z.length)
    c1.length = cap * 5 ∧ c2.length = cap * 5 ∧ c2.take ((n - (j - i)) * 5) = cur.take (i * 5) ++ news := by
  have hnews : ((cur.take (n * 5)).drop (j * 5)).length = (n - j) * 5 := by rw [List.length_drop, List.length_take, hcs]; omega
  have hti : (cur.take (i * 5)).length = i * 5 := by rw [List.length_take, hcs]; omega
  have h12 : (cur.take (i * 5) ++ (cur.take (n * 5)).drop (j * 5)).length = (i + (n - j)) * 5 := by rw [List.length_append, hti, hnews]; omega
  have hc1 : (cur.take (i * 5) ++ (cur.take (n * 5)).drop (j * 5) ++ cur.drop (i * 5 + ((cur.take (n * 5)).drop (j * 5)).length)).length = cap * 5 := by
    rw [List.length_append, h12, List.length_drop, hnews, hcs]; omega
  have ht : (cur.take (i * 5) ++ (cur.take (n * 5)).drop (j * 5) ++ cur.drop (i * 5 + ((cur.take (n * 5)).drop (j * 5)).length)).take ((i + (n - j)) * 5) = cur.take (i * 5) ++ (cur.take (n * 5)).drop (j * 5) := by
    rw [← h12]; exact List.take_left
  refine ⟨hc1, ?_, ?_⟩
  · simp only [List.length_append, List.length_take, List.length_drop, hz, hcs]
    omega
  · rw [ht, List.append_assoc, show n - (j - i) = i + (n - j) by omega, ← h12]
    exact List.take_left

set_option maxHeartbeats 400000 in
theorem delete_any (g n cap i j : Nat) (cur : Array Value) (w : World) (hg : w.heap[g]? = some (.cells cur 51 (0, 0))) (hn : n ≤ cap) (hcap : cap ≤ 9223372036854775807) (hcs : cur.size = cap * 5)
    (hone : ∀ u ∈ cur.toList.take (n * 5), u.oneCell' = true) (hij : i < j) (hj : j ≤ n) :
    Calls Try.prog 13 #[.slice (some ⟨g, 0, none⟩) n cap, .int .i64 i, .int .i64 j] w fun e w' => e = .returned (.slice (some ⟨g, 0, none⟩) (n - (j - i)) cap) ∧ Turn [g] w w' ∧
      ∃ cur', w'.heap[g]? = some (.cells cur' 51 (0, 0)) ∧ cur'.size = cap * 5 ∧ cur'.toList.take ((n - (j - i)) * 5) = cur.toList.take (i * 5) ++ (cur.toList.take (n * 5)).drop (j * 5) := by
  obtain ⟨i0, hi, hz0, hz1, hz2⟩ := info_parts info51
  have hcs' : cur.toList.length = cap * 5 := by rw [Array.length_toList, hcs]
  obtain ⟨hc1, hc2, hc3⟩ := delete_cells (z := (Builtin.zeroCells #[.int .i64 0, .int .i64 0, .int .i64 0, .int .i64 0, .int .i64 0] (j - i)).toList) hn hcs' hij hj (by rw [Array.length_toList, size_zeroCells]; rfl)
  generalize hnw : (cur.toList.take (n * 5)).drop (j * 5) = news at hc1 hc2 hc3 ⊢
  have hnews1 : ∀ u ∈ news, u.oneCell' = true := by rw [← hnw]; exact fun u hu => hone u (List.mem_of_mem_drop hu)
  have hnewsl : news.length = (n - j) * 5 := by rw [← hnw, List.length_drop, List.length_take, hcs']; omega
  have hnewsc : ∀ (W : World), W.heap[g]? = some (.cells cur 51 (0, 0)) → ∀ k u, news[k]? = some u → W.cell? ⟨g, j * 5 + k, none⟩ = some u := by
    intro W hW k u hk
    rw [← hnw, List.getElem?_drop, List.getElem?_take] at hk
    split at hk
    · simpa [World.cell?, hW] using hk
    · cases hk
  generalize hc1d : cur.toList.take (i * 5) ++ news ++ cur.toList.drop (i * 5 + news.length) = c1 at hc1 hc2 hc3
  generalize hc2d : c1.take ((i + (n - j)) * 5) ++ (Builtin.zeroCells #[.int .i64 0, .int .i64 0, .int .i64 0, .int .i64 0, .int .i64 0] (j - i)).toList ++ c1.drop ((i + (n - j)) * 5 + (Builtin.zeroCells #[.int .i64 0, .int .i64 0, .int .i64 0, .int .i64 0, .int .i64 0] (j - i)).toList.length) = c2 at hc2 hc3
  have H1 := Lib.hid hc1d; clear hc1d
  have H2 := Lib.hid hc2d; clear hc2d
  have H3 := Lib.hid hc3; clear hc3
  have H4 := Lib.hid hnewsl; clear hnewsl
  have H5 := Lib.hid hc1; clear hc1
  have H6 := Lib.hid hc2; clear hc2
  have H7 := Lib.hid hnw; clear hnw
  have H8 := Lib.hid hcs; clear hcs hcs'
  have H9 := Lib.hid hnewsc; clear hnewsc
  go_enter Try.func13, Try.ntmps13
  have hne : ((i : Int) == (j : Int)) = false := by simp; omega
  have hic : i ≤ cap := by omega
  have hfin : ∀ w3 : World, w3.heap[g]? = some (.cells c1.toArray 51 (0, 0)) → (Builtin.clear_ #[46] 0 #[.slice (some ⟨g, (i + (n - j)) * 5, none⟩) (n - (i + (n - j))) (cap - (i + (n - j)))]).run Try.prog w3 = .ok (.tuple #[]) (w3.setRow g c2.toArray) := by
    intro w3 h3
    have h := run_clear_row (P := Try.prog) w3 46 0 51 (.agg #[.int .i64 0, .int .i64 0, .int .i64 0, .int .i64 0, .int .i64 0]) 5 Try.underlying46 (zero51 w3) rfl (by intro u hu; simp [Value.cells] at hu; subst hu; rfl) (by omega) g (i + (n - j)) (n - (i + (n - j))) (cap - (i + (n - j))) c1.toArray h3 (by omega) (by rw [List.size_toArray, H5.out]; omega)
    simp only [show n - (i + (n - j)) = j - i by omega] at h ⊢
    rw [h]
    congr 2
    exact congrArg List.toArray H2.out
  have hend : ∀ w3 : World, w3.heap[g]? = some (.cells c1.toArray 51 (0, 0)) → Turn [g] w w3 → Turn [g] w (w3.setRow g c2.toArray) ∧ ∃ cur', (w3.setRow g c2.toArray).heap[g]? = some (.cells cur' 51 (0, 0)) ∧ cur'.size = cap * 5 ∧ cur'.toList.take ((n - (j - i)) * 5) = cur.toList.take (i * 5) ++ news :=
    fun w3 h3 ht => ⟨ht.setRow (.inl (by simp)) _, c2.toArray, setRow_heap _ _ _ _ _ _ h3, by rw [List.size_toArray, H6.out], H3.out⟩
  have Hend := Lib.hid hend; clear hend
  have Hfin := Lib.hid hfin; clear hfin
  by_cases hcj : cap = j
  · obtain rfl : j = cap := hcj.symm
    obtain rfl : n = j := by omega
    have hn0 : news = [] := List.eq_nil_of_length_eq_zero (by rw [H4.out]; omega)
    go_wp2
    go_still_tail 6, (by kernel_rfl)
    change wpList _ _ _ _ _ w.drew
    have hg2 : w.drew.heap[g]? = some (.cells cur 51 (0, 0)) := hg
    have hT : Turn [g] w w.drew := (Turn.refl _ _).drew
    generalize w.drew = w2 at hg2 hT
    have hn0' := Lib.hid hn0; clear hn0
    go_wp2_with (at_builtin; refine wpList_append_room rfl (.tmp 22) (.tmp 25) 46 rfl 51 i0 5 Try.underlying46 hi hz1 g i n cur rfl hg2 ⟨g, 0, none⟩ 0 0 [] rfl rfl (by simp) (by simp) (by omega) (by rw [H8.out]; simp; omega) ?_; have hx1 := H1.out; rw [hn0'.out] at hx1; rw [hx1]; have hT3 := hT.setRow (.inl (List.mem_singleton.2 rfl)) c1.toArray; have hg3 := setRow_heap w2 g cur c1.toArray 51 (0, 0) hg2; generalize w2.setRow g c1.toArray = w3 at hT3 hg3 ⊢; clear hx1; have hclr := Hfin.out w3 hg3; simp only [Nat.sub_self, Nat.add_zero] at hclr ⊢)
    go_ret
    rw [show n - (n - i) = i by omega]
    exact ⟨rfl, by have := Hend.out w3 hg3 hT3; rwa [show n - (n - i) = i by omega] at this⟩
  · go_wp2
    go_still_tail 6, (by kernel_rfl)
    change wpList _ _ _ _ _ w.drew
    have hg2 : w.drew.heap[g]? = some (.cells cur 51 (0, 0)) := hg
    have hT : Turn [g] w w.drew := (Turn.refl _ _).drew
    generalize w.drew = w2 at hg2 hT
    have HC : Hid (∀ k u, news[k]? = some u → w2.cell? ((⟨g, j * 5, none⟩ : Addr).add k) = some u) := by
      intro k u hk
      have := H9.out w2 hg2 k u hk
      simpa [Addr.add_lit] using this
    go_wp2_with (at_builtin; refine wpList_append_room rfl (.tmp 22) (.tmp 25) 46 rfl 51 i0 5 Try.underlying46 hi hz1 g i cap cur rfl hg2 ⟨g, j * 5, none⟩ (n - j) (cap - j) news rfl H4.out HC.out hnews1 (by omega) (by rw [H4.out, H8.out]; omega) ?_; rw [H1.out]; have hT3 := hT.setRow (.inl (List.mem_singleton.2 rfl)) c1.toArray; have hg3 := setRow_heap w2 g cur c1.toArray 51 (0, 0) hg2; generalize w2.setRow g c1.toArray = w3 at hT3 hg3 ⊢; have hclr := Hfin.out w3 hg3)
    go_ret
    rw [show n - (j - i) = i + (n - j) by omega]
    exact ⟨rfl, by have := Hend.out w3 hg3 hT3; rwa [show n - (j - i) = i + (n - j) by omega] at this⟩

/-- Where the first row stands of which p holds; -1: there is none. -/
def idxB (p : Row → Bool) (rs : List Row) : Int := match rs.findIdx? p with | some i => i | none => -1

theorem idxB_some {p : Row → Bool} {rs : List Row} {k : Nat} (hk : k < rs.length) (h : p rs[k] = true) (hb : ∀ j (hj : j < k), p (rs[j]'(by omega)) = false) : idxB p rs = k := by
  have : rs.findIdx? p = some k := List.findIdx?_eq_some_iff_getElem.2 ⟨hk, h, fun j hj => by simp [hb j hj]⟩
  simp [idxB, this]

theorem idxB_none {p : Row → Bool} {rs : List Row} (h : ∀ j (hj : j < rs.length), p rs[j] = false) : idxB p rs = -1 := by
  have : rs.findIdx? p = none := List.findIdx?_eq_none_iff.2 fun x hx => by
    obtain ⟨j, hj, rfl⟩ := List.getElem_of_mem hx
    exact h j hj
  simp [idxB, this]

/-- A function value that tells of a row what p says, in every world that has turned no block but those of F. -/
def Tells (F : List Nat) (w : World) (f B : Nat) (p : Row → Bool) : Prop :=
  ∀ (r : Row) (W : World), Turn F w W → Calls Try.prog f #[.agg #[.int .i64 r.boot, .int .i64 r.count, .int .i64 r.agent, .int .i64 r.epoch, .int .i64 r.at_], .pointer (some ⟨B, 0, none⟩)] W fun e W' => e = .returned (.bool (p r)) ∧ Below W.heap.size W W'

theorem indexFunc_nil (fv : Value) (w : World) :
    Calls Try.prog 14 #[.slice none 0 0, fv] w fun e w' => e = .returned (.int .i64 (-1)) ∧ w = w' := by
  go_enter Try.func14, Try.ntmps14
  go_wp2
  go_loop [5, 8] (fun _ i => i = .int .i64 0) (fun _ _ => 0)
  case atStart => exact rfl
  case round =>
    obtain rfl := hrel
    go_wp2
    go_ret
    exact ⟨rfl, rfl⟩

set_option maxHeartbeats 400000 in
theorem indexFunc_any (f B g cap : Nat) (p : Row → Bool) (rs : List Row) (cur : Array Value) (w : World) (hg : w.heap[g]? = some (.cells cur 51 (0, 0))) (ht : cur.toList.take (rs.length * 5) = rs.flatMap Row.cells) (hl : rs.length ≤ 9223372036854775807)
    (eg : ∀ args w, (callFunc f args).run Try.prog w = .ok (.enter f args) w) (hf : Tells [] w f B p) :
    Calls Try.prog 14 #[.slice (some ⟨g, 0, none⟩) rs.length cap, .func (.func f) #[] #[.pointer (some ⟨B, 0, none⟩)]] w fun e w' => e = .returned (.int .i64 (idxB p rs)) ∧ Turn [] w w' := by
  have hgl := lt_of_heap hg
  go_enter Try.func14, Try.ntmps14
  go_wp2
  go_loopw [5, 8] (fun _ i wr => ∃ k : Nat, k ≤ rs.length ∧ i = .int .i64 k ∧ Turn [] w wr ∧ ∀ j (hj : j < rs.length), j < k → p rs[j] = false) (fun _ i _ => rs.length - (intOf i).toNat)
  case atStart => exact ⟨0, Nat.zero_le _, rfl, Turn.refl _ _, fun _ _ h => by omega⟩
  case round =>
    obtain ⟨k, hk, rfl, hb, hno⟩ := hrel
    have HNO := Lib.hid hno; clear hno
    have HG := Lib.hid hg; clear hg
    have HT := Lib.hid ht; clear ht
    by_cases hlt : k < rs.length
    · obtain ⟨e0, e1, e2, e3, e4⟩ := row_in (n := 0) (cap := 0) ((hb.block g hgl (by simp)).trans HG.out) HT.out k hlt
      have hc := hf rs[k] wr hb
      have HC := Lib.hid hc; clear hc
      cases hp : p rs[k] with
      | true =>
        have HP := Lib.hid hp; clear hp
        go_wp2_with fail
        refine HC.out.mono ?_
        rintro e w1 ⟨rfl, hb1⟩
        rw [HP.out]
        go_wp2
        go_ret
        refine ⟨?_, hb.trans (Turn.below hb1) (by simp)⟩
        rw [idxB_some hlt HP.out fun j hj => HNO.out j (by omega) hj]; rfl
      | false =>
        have HP := Lib.hid hp; clear hp
        go_wp2_with fail
        refine HC.out.mono ?_
        rintro e w1 ⟨rfl, hb1⟩
        rw [HP.out]
        go_wp2
        go_roundw
        case rel =>
          refine ⟨k + 1, by omega, by go_num, hb.trans (Turn.below hb1) (by simp), fun j hj hjk => ?_⟩
          by_cases e : j = k
          · subst e; exact HP.out
          · exact HNO.out j hj (by omega)
        case measure => simp [intOf]; omega
    · go_wp2
      go_ret
      refine ⟨?_, hb⟩
      rw [idxB_none fun j hj => HNO.out j hj (by omega)]; rfl

end Go.Proofs.Ythhgcoapohgiiaa
