/- Walks of the methods of package probe: New, Answer, Forget, Out, Due, Boot. -/
import Derived.Test.YthhgcoapohgiiaaPc
import Derived.Shelf.Abstract
namespace Go.Proofs.Ythhgcoapohgiiaa
open Go.RowKit

theorem enter15 : ∀ args w, (callFunc 15 args).run Try.prog w = .ok (.enter 15 args) w := Go.Proofs.enters_of Try.func15 (by kernel_rfl) rfl
theorem enter17 : ∀ args w, (callFunc 17 args).run Try.prog w = .ok (.enter 17 args) w := Go.Proofs.enters_of Try.func17 (by kernel_rfl) rfl

theorem boot_any (bp bm : Nat) (boot count most : Int) (rows : List Row) (last : List (Int × Int)) (v : Value) (w : World) (hS : PSt w bp boot count most rows last v bm) :
    Calls Try.prog 11 #[.pointer (some ⟨bp, 0, none⟩)] w fun e w' => e = .returned (.int .i64 boot) ∧ w = w' := by
  have c0 : w.cell? ⟨bp, 0, none⟩ = some (.int .i64 boot) := by simp [World.cell?, hS.at_]
  clear hS
  go_enter Try.func11, Try.ntmps11
  go_wp2
  go_ret
  exact ⟨rfl, rfl⟩

def newBad (b m : Int) : Prop := b < 1 ∨ 1099511627776 < b ∨ m < 1 ∨ 1024 < m

theorem new_bad (b m : Int) (w : World) (h : newBad b m) :
    Calls Try.prog 5 #[.int .i64 b, .int .i64 m] w fun e w' => e = .returned (.tuple #[.pointer none, .int .i64 11]) ∧ w = w' := by
  have hh : b < 1 ∨ (1 ≤ b ∧ 1099511627776 < b) ∨ (1 ≤ b ∧ b ≤ 1099511627776 ∧ m < 1) ∨ (1 ≤ b ∧ b ≤ 1099511627776 ∧ 1 ≤ m ∧ 1024 < m) := by
    unfold newBad at h; omega
  clear h
  rcases hh with h1 | ⟨h1, h2⟩ | ⟨h1, h2, h3⟩ | ⟨h1, h2, h3, h4⟩
  all_goals
    go_enter Try.func5, Try.ntmps5
    go_wp2
    go_ret2
    exact ⟨rfl, rfl⟩

theorem new_ok (b m : Int) (w : World) (h1 : 1 ≤ b) (h2 : b ≤ 1099511627776) (h3 : 1 ≤ m) (h4 : m ≤ 1024) :
    Calls Try.prog 5 #[.int .i64 b, .int .i64 m] w fun e w' => e = .returned (.tuple #[.pointer (some ⟨w.heap.size + 1, 0, none⟩), .int .i64 0]) ∧ Below w.heap.size w w' ∧ PSt w' (w.heap.size + 1) b 0 m [] [] (.slice none 0 0) w.heap.size := by
  have hmm := @run_makeMap Try.prog
  go_enter Try.func5, Try.ntmps5
  go_wp2
  go_ret2
  refine ⟨rfl, ((Below.refl _ _).alloc (Nat.le_refl _) _).alloc (by simp) _, ?_, World.ownsRow_nil _ _ _ _, (MapAt.made w _ _).same (Below.heap_alloc _ _ _ (by simp))⟩
  have := heap_alloc_new (w.alloc (.map #[] 0)) (.cells #[.int .i64 b, .int .i64 0, .int .i64 m, .slice none 0 0, .map (some w.heap.size)] 48)
  simpa using this

def isN (nb nc : Int) (r : Row) : Bool := decide (r.boot = nb ∧ r.count = nc)

/-- What Answer answers, and what is out then. -/
def answer (rows : List Row) (boot agent epoch nb nc : Int) : Int × Int × List Row :=
  if nb ≠ boot then (-1, 22, rows) else
  match rows.findIdx? (isN nb nc) with
  | none => (-1, 19, rows)
  | some k => match rows[k]? with
    | none => (-1, 19, rows)
    | some r => if r.agent ≠ agent ∨ r.epoch ≠ epoch then (-1, 10, rows) else (r.at_, 0, rows.eraseIdx k)

theorem tells15 {F : List Nat} {w : World} {B : Nat} {nb nc : Int} (h : w.heap[B]? = some (.cells #[.int .i64 nb, .int .i64 nc] 31 (0, 0))) (hF : B ∉ F) : Tells F w 15 B (isN nb nc) := by
  intro r W hT
  have hW := (hT.block B (lt_of_heap h) hF).trans h
  exact ans1_any r.boot r.count r.agent r.epoch r.at_ nb nc B W (lt_of_heap hW) (by simp [World.cell?, hW]) (by simp [World.cell?, hW])

theorem tells17 {F : List Nat} {w : World} {B : Nat} {ag : Int} (h : w.heap[B]? = some (.cells #[.int .i64 ag] 2 (0, 0))) (hF : B ∉ F) : Tells F w 17 B fun r => decide (r.agent = ag) := by
  intro r W hT
  have hW := (hT.block B (lt_of_heap h) hF).trans h
  exact forget1_any r.boot r.count r.agent r.epoch r.at_ ag B W (lt_of_heap hW) (by simp [World.cell?, hW])

theorem indexFunc_own (f B : Nat) (p : Row → Bool) (v : Value) (rs : List Row) (w : World) (hown : w.ownsRow 0 51 5 v rs.length (rs.flatMap Row.cells)) (hl : rs.length ≤ 1000000)
    (eg : ∀ args w, (callFunc f args).run Try.prog w = .ok (.enter f args) w) (hf : Tells [] w f B p) :
    Calls Try.prog 14 #[v, .func (.func f) #[] #[.pointer (some ⟨B, 0, none⟩)]] w fun e w' => e = .returned (.int .i64 (idxB p rs)) ∧ Turn [] w w' := by
  rcases hown.2 with ⟨rfl, h0⟩ | ⟨g, cap, cur, rfl, _, hg, hnc, hcm, hcs, ht⟩
  · have : rs = [] := List.eq_nil_of_length_eq_zero h0
    subst this
    exact (indexFunc_nil _ w).mono fun e w' ⟨he, hw⟩ => ⟨he, by rw [← hw]; exact Turn.refl _ _⟩
  · exact indexFunc_any f B g cap p rs cur w hg ht (by omega) eg hf

theorem PSt.cells {w : World} {bp bm : Nat} {boot count most : Int} {rows : List Row} {last : List (Int × Int)} {v : Value} (h : PSt w bp boot count most rows last v bm) :
    w.cell? ⟨bp, 0, none⟩ = some (.int .i64 boot) ∧ w.cell? ⟨bp, 1, none⟩ = some (.int .i64 count) ∧ w.cell? ⟨bp, 2, none⟩ = some (.int .i64 most) ∧ w.cell? ⟨bp, 3, none⟩ = some v ∧ w.cell? ⟨bp, 4, none⟩ = some (.map (some bm)) ∧ ∀ o, w.frozen? ⟨bp, o, none⟩ = false := by
  have h := h.at_
  exact ⟨by simp [World.cell?, h], by simp [World.cell?, h], by simp [World.cell?, h], by simp [World.cell?, h], by simp [World.cell?, h], fun o => by simp [World.frozen?, h]⟩

theorem box_turn {w w1 : World} {H : Nat} {o : Obj} (hH : H = w.heap.size) (hT : Turn [] (w.alloc o) w1) : w1.heap[H]? = some o := by
  subst hH
  exact (hT.block _ (by simp) (by simp)).trans (heap_alloc_new w o)

/-- Nothing that was there has turned: the probes are as they were. -/
theorem PSt.still {w w' : World} {bp bm : Nat} {boot count most : Int} {rows : List Row} {last : List (Int × Int)} {v : Value} (h : PSt w bp boot count most rows last v bm) (hT : Turn [] w w') : PSt w' bp boot count most rows last v bm :=
  h.turn hT (by simp)

set_option maxHeartbeats 1000000 in
theorem answer_old (bp bm : Nat) (boot count most agent epoch nb nc : Int) (rows : List Row) (last : List (Int × Int)) (v : Value) (w : World) (hS : PSt w bp boot count most rows last v bm) (hb : nb ≠ boot) :
    Calls Try.prog 7 #[.pointer (some ⟨bp, 0, none⟩), .int .i64 agent, .int .i64 epoch, .agg #[.int .i64 nb, .int .i64 nc]] w fun e w' => e = .returned (.tuple #[.int .i64 (-1), .int .i64 22]) ∧ Turn [] w w' := by
  have hbp := lt_of_heap hS.at_
  obtain ⟨c0, -, -, -, -, -⟩ := hS.cells
  clear hS
  have hne : (nb == boot) = false := by simpa using hb
  clear hb
  go_enter Try.func7, Try.ntmps7
  go_wp2
  go_quiet (fail)
  go_wp2
  go_ret2
  exact ⟨rfl, ((Turn.refl [] w).alloc _).drewN _⟩

set_option maxHeartbeats 1000000 in
theorem answer_any (bp bm : Nat) (boot count most agent epoch nc : Int) (rows : List Row) (last : List (Int × Int)) (v : Value) (w : World) (hS : PSt w bp boot count most rows last v bm) (hl : rows.length ≤ 1000000) :
    Calls Try.prog 7 #[.pointer (some ⟨bp, 0, none⟩), .int .i64 agent, .int .i64 epoch, .agg #[.int .i64 boot, .int .i64 nc]] w fun e w' => e = .returned (.tuple #[.int .i64 (answer rows boot agent epoch boot nc).1, .int .i64 (answer rows boot agent epoch boot nc).2.1]) ∧ Turn (foot bp bm v) w w' ∧
      ∃ v', PSt w' bp boot count most (answer rows boot agent epoch boot nc).2.2 last v' bm ∧ v'.ownBlock = v.ownBlock := by
  have hbp := lt_of_heap hS.at_
  obtain ⟨c0, -, -, c3, -, -⟩ := hS.cells
  have hidx := fun nq : Nat => indexFunc_own 15 w.heap.size (isN boot nc) v rows ((w.alloc (.cells #[.int .i64 boot, .int .i64 nc] 31)).drewN nq) ((hS.still ((Turn.refl [] w).alloc _)).row) hl enter15 (tells15 (heap_alloc_new w _) (by simp))
  have HI := Lib.hid hidx; clear hidx
  have HS := Lib.hid hS; clear hS
  have hT0 := fun nq : Nat => (((Turn.refl [] w).alloc (.cells #[.int .i64 boot, .int .i64 nc] 31)).drewN nq)
  have HT0 := Lib.hid hT0; clear hT0
  have hee : (boot == boot) = true := by simp
  go_enter Try.func7, Try.ntmps7
  go_wp2
  go_quiet (fail)
  go_wp2_with fail
  refine (HI.out nq).mono ?_
  rintro e w1 ⟨rfl, hT1⟩
  have hS1 := HS.out.still ((HT0.out nq).trans hT1 (by simp))
  have hTT := (HT0.out nq).trans hT1 (by simp)
  clear hT1
  obtain ⟨d0, -, -, d3, -, df⟩ := hS1.cells
  have HS1 := Lib.hid hS1; clear hS1
  clear c0 c3
  cases hf : rows.findIdx? (isN boot nc) with
  | none =>
    have hk : idxB (isN boot nc) rows = -1 := by simp [idxB, hf]
    have ha : answer rows boot agent epoch boot nc = (-1, 19, rows) := by simp [answer, hf]
    have HA := Lib.hid ha; clear ha hf
    rw [hk]
    clear hk
    go_wp2
    go_ret2
    rw [HA.out]
    exact ⟨rfl, hTT.mono (by simp), v, HS1.out, rfl⟩
  | some k =>
    obtain ⟨hkl, hpk, hbk⟩ := List.findIdx?_eq_some_iff_getElem.1 hf
    have hk : idxB (isN boot nc) rows = k := by simp [idxB, hf]
    rw [hk]
    have hgk : rows[k]? = some rows[k] := List.getElem?_eq_getElem hkl
    have ha : answer rows boot agent epoch boot nc = if rows[k].agent ≠ agent ∨ rows[k].epoch ≠ epoch then (-1, 10, rows) else (rows[k].at_, 0, rows.eraseIdx k) := by
      unfold answer
      rw [if_neg (by simp), hf]
      simp only [hgk]
    have HA := Lib.hid ha; clear ha hf hpk hbk hgk hk
    have hvn : v ≠ .slice none 0 0 := by
      rintro rfl
      have := HS.out.row.1
      rcases HS.out.row.2 with ⟨_, h0⟩ | ⟨g, cap, cur, h0, _⟩
      · omega
      · cases h0
    obtain ⟨g, cap, cur, hv, hg, hnc, hcm, hcs, ht⟩ := ownsRow_block HS1.out.row hvn
    subst hv
    clear hvn
    obtain ⟨e0, e1, e2, e3, e4⟩ := row_in (n := 0) (cap := 0) hg ht k hkl
    have HG := Lib.hid hg; clear hg
    have HT := Lib.hid ht; clear ht
    have HCS := Lib.hid hcs; clear hcs
    have hbp1 : bp < w1.heap.size := by have := hTT.size; omega
    have hg1 : g < w1.heap.size := lt_of_heap HG.out
    by_cases h1 : rows[k].agent = agent
    · by_cases h2 : rows[k].epoch = epoch
      · have b1 : (rows[k].agent == agent) = true := by simpa using h1
        have b2 : (rows[k].epoch == epoch) = true := by simpa using h2
        have ha : answer rows boot agent epoch boot nc = (rows[k].at_, 0, rows.eraseIdx k) := by rw [HA.out, if_neg (by simp [h1, h2])]
        have HA2 := Lib.hid ha; clear ha HA h1 h2
        have b3 : (rows[k].agent != agent) = false := by simpa using b1
        have b4 : (rows[k].epoch != epoch) = false := by simpa using b2
        have hS2 : PSt (w1.alloc (.cells #[.int .i64 rows[k].boot, .int .i64 rows[k].count, .int .i64 rows[k].agent, .int .i64 rows[k].epoch, .int .i64 rows[k].at_] 51)) bp boot count most rows last (.slice (some ⟨g, 0, none⟩) rows.length cap) bm := HS1.out.still ((Turn.refl _ _).alloc _)
        have hB2 : (w1.alloc (.cells #[.int .i64 rows[k].boot, .int .i64 rows[k].count, .int .i64 rows[k].agent, .int .i64 rows[k].epoch, .int .i64 rows[k].at_] 51)).heap[w1.heap.size]? = some _ := heap_alloc_new w1 _
        have hdel := delete_at g rows.length cap k k (k + 1) rfl rfl rows _ hS2.row rfl hkl
        have HD := Lib.hid hdel; clear hdel
        have HS2 := Lib.hid hS2; clear hS2
        have HB2 := Lib.hid hB2; clear hB2
        go_wp2_with fail
        refine HD.out.mono ?_
        rintro e w2 ⟨rfl, hT2, ho2⟩
        have hng := HS2.out.ne_row
        have hnb : bp ≠ g := by intro e; exact hng.1 (by simp [Value.ownBlock, e])
        have hnm : bm ≠ g := by intro e; exact hng.2 (by simp [Value.ownBlock, e])
        have r3 := (hT2.block bp (lt_of_heap HS2.out.at_) (by simpa using hnb)).trans HS2.out.at_
        have rB := (hT2.block w1.heap.size (by simp) (by simp; omega)).trans HB2.out
        have r4 := HS2.out.map.turn hT2 (by simpa using hnm)
        have f4 : w2.cell? ⟨w1.heap.size, 4, none⟩ = some (.int .i64 rows[k].at_) := by simp [World.cell?, rB]
        have f3 : w2.cell? ⟨bp, 3, none⟩ = some (.slice (some ⟨g, 0, none⟩) rows.length cap) := by simp [World.cell?, r3]
        have ff : w2.frozen? ⟨bp, 3, none⟩ = false := by simp [World.frozen?, r3]
        have hT3 : Turn (foot bp bm (.slice (some ⟨g, 0, none⟩) rows.length cap)) w w2 := ((hTT.alloc _).mono (G := foot bp bm (.slice (some ⟨g, 0, none⟩) rows.length cap)) (by simp)).trans hT2 (by simp [foot, Value.ownBlock])
        obtain ⟨-, p3, p4, p5, p6⟩ := put_row (T := 51) rB (by decide) r3 r4 hT3 ho2
        have P3 := Lib.hid p3; have P4 := Lib.hid p4; have P5 := Lib.hid p5; have P6 := Lib.hid p6
        clear p3 p4 p5 p6 hT3 r3 r4 rB hng hnb hnm ho2 hT2 e0 e1 e2 e3 e4
        go_wp2_with fail
        go_ret2
        rw [HA2.out]
        refine ⟨rfl, P5.out, _, ⟨P3.out, ?_, P4.out⟩, rfl⟩
        have hl2 : (rows.eraseIdx k).length = rows.length - 1 := by rw [List.length_eraseIdx, if_pos hkl]
        show World.ownsRow _ _ _ _ _ (rows.eraseIdx k).length ((rows.eraseIdx k).flatMap Row.cells)
        rw [hl2]
        exact P6.out
      · have b1 : (rows[k].agent != agent) = false := by simpa using h1
        have b2 : (rows[k].epoch != epoch) = true := by simpa using h2
        have ha : answer rows boot agent epoch boot nc = (-1, 10, rows) := by rw [HA.out, if_pos (.inr h2)]
        have HA2 := Lib.hid ha; clear ha HA h1 h2
        go_wp2_with fail
        go_ret2
        rw [HA2.out]
        exact ⟨rfl, (hTT.alloc _).mono (by simp), _, HS1.out.still ((Turn.refl _ _).alloc _), rfl⟩
    · have b1 : (rows[k].agent != agent) = true := by simpa using h1
      have ha : answer rows boot agent epoch boot nc = (-1, 10, rows) := by rw [HA.out, if_pos (.inl h1)]
      have HA2 := Lib.hid ha; clear ha HA h1
      go_wp2_with fail
      go_ret2
      rw [HA2.out]
      exact ⟨rfl, (hTT.alloc _).mono (by simp), _, HS1.out.still ((Turn.refl _ _).alloc _), rfl⟩

end Go.Proofs.Ythhgcoapohgiiaa
