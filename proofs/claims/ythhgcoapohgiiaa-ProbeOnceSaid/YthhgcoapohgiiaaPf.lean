/- Walks of the methods of package probe: Out, Due. -/
import Derived.Test.YthhgcoapohgiiaaPe
namespace Go.Proofs.Ythhgcoapohgiiaa
open Go.RowKit

def Row.nonce (r : Row) : List Value := [.int .i64 r.boot, .int .i64 r.count]

theorem nonces_length (rs : List Row) : (rs.flatMap Row.nonce).length = rs.length * 2 := by
  induction rs with
  | nil => rfl
  | cons r rs ih => rw [List.flatMap_cons, List.length_append, ih]; simp [Row.nonce]; omega

theorem nonces_snoc (rs : List Row) (k : Nat) (h : k < rs.length) : (rs.take (k + 1)).flatMap Row.nonce = (rs.take k).flatMap Row.nonce ++ [.int .i64 rs[k].boot, .int .i64 rs[k].count] := by
  rw [List.take_succ_eq_append_getElem h, List.flatMap_append]
  simp [Row.nonce]

theorem info31 : (Try.prog.info? 31).map (fun i => (i.zero, i.size, i.bytes)) = some (some (.agg #[.int .i64 0, .int .i64 0]), 2, 16) := by kernel_rfl

set_option maxHeartbeats 1000000 in
theorem out_any (bp bm : Nat) (boot count most : Int) (rows : List Row) (last : List (Int × Int)) (v : Value) (w : World) (hS : PSt w bp boot count most rows last v bm) (hl : rows.length ≤ 1000000) :
    Calls Try.prog 9 #[.pointer (some ⟨bp, 0, none⟩)] w fun e w' => ∃ A c, e = .returned (.slice A rows.length c) ∧ Below w.heap.size w w' ∧ w'.ownsRow w.heap.size 31 2 (.slice A rows.length c) rows.length (rows.flatMap Row.nonce) := by
  obtain ⟨i0, hi, hz0, hz1, hz2⟩ := info_parts info31
  have hbp := lt_of_heap hS.at_
  obtain ⟨A0, cc0, hvs, _⟩ := ownsRow_slice hS.row
  obtain ⟨-, -, -, c3, -, -⟩ := hS.cells
  subst hvs
  have HS := Lib.hid hS; clear hS
  go_enter Try.func9, Try.ntmps9
  go_wp2
  go_loopw [3, 11] (fun o i wr => ∃ (k : Nat) (A : Option Addr) (c : Nat), k ≤ rows.length ∧ i = .int .i64 k ∧ o = .slice A k c ∧ Below w.heap.size w wr ∧ wr.ownsRow w.heap.size 31 2 (.slice A k c) k ((rows.take k).flatMap Row.nonce)) (fun _ i _ => rows.length - (intOf i).toNat)
  case atStart => exact ⟨0, none, 0, Nat.zero_le _, rfl, rfl, Below.refl _ _, World.ownsRow_nil _ _ _ _⟩
  case round =>
    obtain ⟨k, A, c, hk, rfl, rfl, hb, ho⟩ := hrel
    have HO := Lib.hid ho; clear ho
    by_cases hlt : k < rows.length
    · have hT : Turn [] w wr := Turn.below hb
      have hSr := HS.out.still hT
      have hvn : (Value.slice A0 rows.length cc0) ≠ .slice none 0 0 := by
        intro e
        simp only [Value.slice.injEq] at e
        omega
      obtain ⟨g, cap, cur, hv, hg, hnc, hcm, hcs, ht⟩ := ownsRow_block hSr.row hvn
      simp only [Value.slice.injEq, true_and] at hv
      obtain ⟨rfl, rfl⟩ := hv
      obtain ⟨e0, e1, e2, e3, e4⟩ := row_in (n := 0) (cap := 0) hg ht k hlt
      have hgl := lt_of_heap hg
      have hbs := hb.size
      clear hg ht hcs hSr hvn
      go_wp2_with (at_builtin; refine wpList_append_lies _ rfl _ _ _ rfl w.heap.size 31 i0 _ 2 16 Try.underlying40 hi hz0 hz1 hz2 rfl (by omega) (.slice A k c) k ((rows.take k).flatMap Row.nonce) rfl ((HO.out.alloc _).alloc _) ⟨wr.heap.size + 1, 0, none⟩ 1 1 [.int .i64 rows[k].boot, .int .i64 rows[k].count] rfl rfl (World.news_of_block (cs := #[.int .i64 rows[k].boot, .int .i64 rows[k].count]) (t := 31) (fr := (0, 0)) (by have := heap_alloc_new (wr.alloc (.cells #[.int .i64 rows[k].boot, .int .i64 rows[k].count, .int .i64 rows[k].agent, .int .i64 rows[k].epoch, .int .i64 rows[k].at_] 51)) (.cells #[.int .i64 rows[k].boot, .int .i64 rows[k].count] 31); simpa using this)) (by simp [Value.oneCell']) (by omega) (by unfold maxLen; omega) (by omega) (by simp; omega) (wr.heap.size + 2) (by simp) ?_; intro gg cap' w3 hown1 hgrow hat hlt2; have HO3 := Lib.hid hown1; have HG3 := Lib.hid hgrow; clear hown1 hgrow hat hlt2)
      go_roundw
      case rel =>
        refine ⟨k + 1, _, _, by omega, by go_num, rfl, ?_, by rw [nonces_snoc _ _ hlt]; exact HO3.out⟩
        refine ((hb.alloc hbs _).alloc (by simp; omega) _).grown HG3.out (by simp; omega) fun g' hg' => (HO.out.lt g' hg').1
      case measure => simp [intOf]; omega
    · have : k = rows.length := by omega
      subst this
      go_wp2
      go_ret
      refine ⟨A, c, rfl, hb, ?_⟩
      have := HO.out
      rwa [List.take_length] at this

/-- Is a probe due? -/
def due (last : List (Int × Int)) (agent now period : Int) : Bool :=
  isTimeB now && isTimeB period && (match aget agent last with | none => true | some at_ => decide (period ≤ wrap64 (now - at_)))

theorem zero2 (w : World) : (zeroValue 2).run Try.prog w = .ok (.int .i64 0) w := by kernel_rfl

set_option maxHeartbeats 1000000 in
theorem due_any (bp bm : Nat) (boot count most agent now period : Int) (rows : List Row) (last : List (Int × Int)) (v : Value) (w : World) (hS : PSt w bp boot count most rows last v bm) :
    Calls Try.prog 10 #[.pointer (some ⟨bp, 0, none⟩), .int .i64 agent, .int .i64 now, .int .i64 period] w fun e w' => e = .returned (.bool (due last agent now period)) ∧ w = w' := by
  have hbp := lt_of_heap hS.at_
  obtain ⟨-, -, -, -, c4, -⟩ := hS.cells
  have HM := Lib.hid hS.map
  clear hS
  have hd : due last agent now period = (isTimeB now && isTimeB period && (match aget agent last with | none => true | some at_ => decide (period ≤ wrap64 (now - at_)))) := rfl
  have HD := Lib.hid hd; clear hd
  cases hA : isTimeB now with
  | false =>
    go_enter Try.func10, Try.ntmps10
    go_wp2_with (first | (at_lookup; refine wpList_lookup_al rfl _ _ 45 true rfl 2 2 mkey2 Try.underlying45 _ (zero2 _) bm last HM.out agent rfl rfl ?_) | (go_at_call 12; refine (isTime_any _ _).mono ?_; rintro e w' ⟨rfl, rfl⟩))
    go_ret
    exact ⟨by rw [HD.out, hA]; rfl, rfl⟩
  | true =>
    cases hB : isTimeB period with
    | false =>
      go_enter Try.func10, Try.ntmps10
      go_wp2_with (first | (at_lookup; refine wpList_lookup_al rfl _ _ 45 true rfl 2 2 mkey2 Try.underlying45 _ (zero2 _) bm last HM.out agent rfl rfl ?_) | (go_at_call 12; refine (isTime_any _ _).mono ?_; rintro e w' ⟨rfl, rfl⟩))
      go_ret
      exact ⟨by rw [HD.out, hA, hB]; rfl, rfl⟩
    | true =>
      cases hC : aget agent last with
      | none =>
        go_enter Try.func10, Try.ntmps10
        go_wp2_with (first | (at_lookup; refine wpList_lookup_al rfl _ _ 45 true rfl 2 2 mkey2 Try.underlying45 _ (zero2 _) bm last HM.out agent rfl rfl ?_) | (go_at_call 12; refine (isTime_any _ _).mono ?_; rintro e w' ⟨rfl, rfl⟩))
        go_ret
        exact ⟨by rw [HD.out, hA, hB, hC]; rfl, rfl⟩
      | some a =>
        go_enter Try.func10, Try.ntmps10
        go_wp2_with (first | (at_lookup; refine wpList_lookup_al rfl _ _ 45 true rfl 2 2 mkey2 Try.underlying45 _ (zero2 _) bm last HM.out agent rfl rfl ?_) | (go_at_call 12; refine (isTime_any _ _).mono ?_; rintro e w' ⟨rfl, rfl⟩))
        go_ret
        exact ⟨by rw [HD.out, hA, hB, hC]; rfl, rfl⟩

end Go.Proofs.Ythhgcoapohgiiaa
