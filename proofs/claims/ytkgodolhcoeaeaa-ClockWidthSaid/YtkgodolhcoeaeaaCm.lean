/- Clock: 'alive' walked: it holds. No condition. -/
import Derived.Test.YtkgodolhcoeaeaaCl
namespace Go.Proofs.Ytkgodolhcoeaeaa
open Go.RowKit

set_option maxRecDepth 100000 in
set_option maxHeartbeats 8000000 in
theorem alive_walk (w : World) : Calls Try.prog 7 #[] w fun e w' => e = .returned (.bool true) ∧ Below w.heap.size w w' := by
  go_enter Try.func7, Try.ntmps7
  go_wp2_with fail
  have hA := at_walk sA 9 0 (by unfold inL; omega) (w.alloc (.cells #[.int .i64 100, .int .i64 7, .int .i64 9, .int .i64 110] 23))
  rw [atA] at hA
  refine hA.mono ?_
  clear hA
  rintro e w1 ⟨rfl, hB1⟩
  have HS1 := Lib.hid ((Bx4.new w 23 sA).ext hB1)
  have HB1 := Lib.hid (((Below.refl w.heap.size w).alloc (Nat.le_refl _) (.cells #[.int .i64 100, .int .i64 7, .int .i64 9, .int .i64 110] 23)).trans (hB1.mono (by simp)))
  have HS2 := Lib.hid (HS1.out.alloc (.cells #[.int .i64 101, .int .i64 111] 26))
  have HG2 := Lib.hid (Box2.new w1 26 101 111)
  have HB2 := Lib.hid (HB1.out.alloc HB1.out.size (.cells #[.int .i64 101, .int .i64 111] 26))
  have HZ := Lib.hid HB1.out.size
  clear hB1 HS1 HB1
  unfold encG
  go_wp2_with fail
  generalize w1.alloc (.cells #[.int .i64 101, .int .i64 111] 26) = w2 at *
  generalize w1.heap.size = i2 at *
  refine (newC_ok 0 1 (by decide +kernel) _).mono ?_
  rintro e w3 ⟨bc, rfl, hb3, hc3, hB3⟩
  have H3 : Hid (AlSt w w3 bc k0 (.slice none 0 0) [(i2, .cells #[.int .i64 101, .int .i64 111] 26 (0, 0)), (w.heap.size, .cells #[.int .i64 100, .int .i64 7, .int .i64 9, .int .i64 110] 23 (0, 0))]) := by
    have h1 : AlSt w w3 bc k0 (.slice none 0 0) [] := ⟨hc3, HB2.out.trans (hB3.mono HB2.out.size), by have := HB2.out.size; omega, fun g hg => by simp [Value.ownBlock] at hg, fun x hx => by simp at hx⟩
    have hl1 := lt_of_heap HS2.out
    have hl2 := lt_of_heap HG2.out
    exact (h1.keep ((hB3.block _ hl1).trans HS2.out) (by simp [footC, Value.ownBlock]; omega)).keep ((hB3.block _ hl2).trans HG2.out) (by simp [footC, Value.ownBlock]; omega)
  clear hb3 hc3 hB3 HS2 HG2 HB2
  go_wp2_with fail
  have hq := atC_walk bc k0 _ 9 w3 H3.out.st (by decide) (by unfold inL; omega)
  rw [show k0.list = [] from rfl, show k0.rho = 0 from rfl, atC0] at hq
  refine hq.mono ?_
  clear hq
  rintro e w4 ⟨rfl, hB4⟩
  have H4 := Lib.hid ((H3.out.ext hB4).ext ((Below.refl _ w4).alloc (Nat.le_refl _) (.cells #[.int .i64 0, .int .i64 0] 26)))
  clear hB4 H3
  obtain ⟨s0, s1, s2, s3, s4⟩ := (show Bx4 _ w.heap.size 23 sA from (H4.out.kept (w.heap.size, .cells #[.int .i64 100, .int .i64 7, .int .i64 9, .int .i64 110] 23 (0, 0)) (by simp)).1).cells
  simp only [sA] at s0 s1 s2 s3
  unfold encG
  go_wp2_with fail
  generalize w4.alloc (.cells #[.int .i64 0, .int .i64 0] 26) = w5 at *
  have hq := add_any bc k0 _ sA w5 H4.out.st (by decide) (by decide) (by decide)
  rw [add1] at hq
  refine hq.mono ?_
  clear hq s0 s1 s2 s3 s4
  rintro e w6 ⟨rfl, v6, hs6, hT6, ho6⟩
  have H6 := Lib.hid (H4.out.step hs6 hT6 ho6)
  clear hs6 hT6 ho6 H4
  go_wp2_with fail
  have hq := atC_walk bc k1 _ 9 w6 H6.out.st (by decide) (by unfold inL; omega)
  rw [show k1.list = [sA] from rfl, show k1.rho = 0 from rfl, atC1] at hq
  refine hq.mono ?_
  clear hq
  rintro e w7 ⟨rfl, hB7⟩
  have H7 := Lib.hid ((H6.out.ext hB7).alloc #[.int .i64 101, .int .i64 111] 26)
  clear hB7 H6
  unfold encG
  go_wp2_with fail
  generalize w7.alloc (.cells #[.int .i64 101, .int .i64 111] 26) = w8 at *
  generalize w7.heap.size = i9 at *
  have hq := point_walk bc k1 _ 9 w8 H7.out.st (by decide) (by unfold inL; omega) (by rw [show k1.list = [sA] from rfl, show k1.rho = 0 from rfl, atC1]; decide) (by rw [show k1.list = [sA] from rfl, show k1.rho = 0 from rfl, atC1]; decide) (by rw [show k1.list = [sA] from rfl, show k1.rho = 0 from rfl, atC1]; decide)
  rw [show k1.list = [sA] from rfl, show k1.rho = 0 from rfl, atC1] at hq
  refine hq.mono ?_
  clear hq
  rintro e w9 ⟨rfl, hB9⟩
  have H9 := Lib.hid (H7.out.ext hB9)
  clear hB9 H7
  rw [show midG ((101, 111), (0 : Int)).1 = 106 by decide]
  go_wp2_with fail
  have hq := clone_walk bc k1 _ w9 H9.out.st (by decide)
  refine hq.mono ?_
  clear hq
  rintro e w10 ⟨bx, vx, rfl, hX, hbx, hvx, hB10⟩
  have H10 := Lib.hid ((H9.out.ext hB10).keep hX.at_ (fun hm => by have := H9.out.st.foot_lt _ hm; omega))
  clear hX hbx hvx hB10 H9
  go_wp2_with fail
  have hq := add_any bc k1 _ sB w10 H10.out.st (by decide) (by decide) (by decide)
  rw [add2] at hq
  refine hq.mono ?_
  clear hq
  rintro e w11 ⟨rfl, v11, hs11, hT11, ho11⟩
  have H11 := Lib.hid (H10.out.step hs11 hT11 ho11)
  clear hs11 hT11 ho11 H10
  go_wp2_with fail
  refine (held_walk bc k2 _ _ H11.out.st).mono ?_
  rintro e w' ⟨rfl, rfl⟩
  rw [show k2.held = true from rfl]
  go_wp2_with fail
  refine (samples_walk bc k2 _ _ H11.out.st (by decide)).mono ?_
  rintro e w12 ⟨vl, rfl, hO, hB12⟩
  have hgg : ∃ g cap cur, vl = .slice (some ⟨g, 0, none⟩) 1 cap ∧ 1 ≤ cap ∧ w'.heap.size ≤ g ∧ w12.heap[g]? = some (.cells cur 23 (0, 0)) ∧ (∀ W : World, W.heap[g]? = some (.cells cur 23 (0, 0)) → W.cell? ⟨g, 0, none⟩ = some (.int .i64 300)) := by
    obtain ⟨A, cap', h1, h2, h3, h4, h5, h6⟩ := smps_of_row hO
    rcases hO.2 with ⟨_, h0⟩ | ⟨g, cap, cur, h7, hge, hg, hc, hm, hs, ht⟩
    · exact absurd h0 (by decide)
    · refine ⟨g, cap, cur, h7, hc, hge, hg, fun W hW => ?_⟩
      rw [h7] at h1
      cases h1
      obtain ⟨b', off', hA', hb', hi'⟩ := h5 0 (by decide)
      cases hA'
      have := hi'.c0
      rw [← World.cell?_of_block (w := w12) (w' := W) (a := ⟨g, 0, none⟩) (hW.trans hg.symm)] at this
      exact this
  obtain ⟨gl, capl, curl, rfl, hcl, hgl, hbl, hrd⟩ := hgg
  have H12 := Lib.hid ((H11.out.ext hB12).keep hbl (fun hm => by have := H11.out.st.foot_lt _ hm; omega))
  have HRD := Lib.hid hrd
  clear hO hB12 hgl hbl hrd H11
  go_wp2_with fail
  have hq := add_any bc k2 _ sC w12 H12.out.st (by decide) (by decide) (by decide)
  rw [add3] at hq
  refine hq.mono ?_
  clear hq
  rintro e w13 ⟨rfl, v13, hs13, hT13, ho13⟩
  have H13 := Lib.hid (H12.out.step hs13 hT13 ho13)
  clear hs13 hT13 ho13 H12
  have e1 : w13.cell? ⟨gl, 0, none⟩ = some (.int .i64 300) := HRD.out _ (H13.out.kept (gl, .cells curl 23 (0, 0)) (by simp)).1
  obtain ⟨s0, s1, s2, s3, s4⟩ := (show Bx4 w13 w.heap.size 23 sA from (H13.out.kept (w.heap.size, .cells #[.int .i64 100, .int .i64 7, .int .i64 9, .int .i64 110] 23 (0, 0)) (by simp)).1).cells
  obtain ⟨g0, g1, g2, g3⟩ := (show Box2 w13 i2 26 101 111 from (H13.out.kept (i2, .cells #[.int .i64 101, .int .i64 111] 26 (0, 0)) (by simp)).1).cells
  obtain ⟨f0, f1, f2, f3⟩ := (show Box2 w13 i9 26 101 111 from (H13.out.kept (i9, .cells #[.int .i64 101, .int .i64 111] 26 (0, 0)) (by simp)).1).cells
  simp only [sA] at s0 s1 s2 s3
  go_wp2_with fail
  refine (held_walk bc k3 _ _ H13.out.st).mono ?_
  rintro e w14 ⟨rfl, rfl⟩
  rw [show k3.held = false from rfl]
  go_wp2_with fail
  refine (streak_walk bc k3 _ _ H13.out.st).mono ?_
  rintro e w15 ⟨rfl, rfl⟩
  rw [show k3.streak = 1 from rfl]
  go_wp2_with fail
  refine (rightS_walk sA _).mono ?_
  rintro e w16 ⟨rfl, hB⟩
  have H16 := Lib.hid (H13.out.ext hB)
  clear hB H13 e1 s0 s1 s2 s3 s4 g0 g1 g2 g3 f0 f1 f2 f3
  obtain ⟨s0, s1, s2, s3, s4⟩ := (show Bx4 w16 w.heap.size 23 sA from (H16.out.kept (w.heap.size, .cells #[.int .i64 100, .int .i64 7, .int .i64 9, .int .i64 110] 23 (0, 0)) (by simp)).1).cells
  simp only [sA] at s0 s1 s2 s3
  rw [show rightS sA = true by decide +kernel]
  go_wp2_with fail
  refine (trip_walk sA _).mono ?_
  rintro e w17 ⟨rfl, hB⟩
  have H17 := Lib.hid (H16.out.ext hB)
  clear hB H16 s0 s1 s2 s3 s4
  obtain ⟨s0, s1, s2, s3, s4⟩ := (show Bx4 w17 w.heap.size 23 sA from (H17.out.kept (w.heap.size, .cells #[.int .i64 100, .int .i64 7, .int .i64 9, .int .i64 110] 23 (0, 0)) (by simp)).1).cells
  simp only [sA] at s0 s1 s2 s3
  rw [show tripS sA = 8 by decide +kernel]
  go_wp2_with fail
  have hx : w17.heap[bx]? = some (.cells #[.int .i64 0, .int .i64 1, .bool false, .int .i64 1, vx] 58 (0, 0)) := (H17.out.kept (bx, .cells #[.int .i64 k1.rho, .int .i64 k1.need, .bool k1.held, .int .i64 k1.streak, vx] 58 (0, 0)) (by simp)).1
  have HX := Lib.hid hx
  clear hx
  refine (held_at bx _ _ _ _ _ _ _ HX.out).mono ?_
  rintro e w18 ⟨rfl, rfl⟩
  go_wp2_with fail
  refine (streak_at bx _ _ _ _ _ _ _ HX.out).mono ?_
  rintro e w19 ⟨rfl, rfl⟩
  go_wp2_with fail
  have H19 := Lib.hid (H17.out.alloc #[.int .i64 100, .int .i64 7, .int .i64 9, .int .i64 110] 23)
  have hin : SmpsIn (w19.alloc (.cells #[.int .i64 100, .int .i64 7, .int .i64 9, .int .i64 110] 23)) (some ⟨w19.heap.size, 0, none⟩) [sA] := by
    intro i hi
    have hi0 : i = 0 := by simp at hi; exact hi
    subst hi0
    obtain ⟨q0, q1, q2, q3, q4⟩ := (Bx4.new w19 23 sA).cells
    exact ⟨w19.heap.size, 0, rfl, q4, q0, q1, q2, q3⟩
  have hset := set_walk bc k3 v13 true 0 (some ⟨w19.heap.size, 0, none⟩) 1 1 [sA] _ H19.out.st rfl (by decide) (by simp) hin (by decide +kernel) (by decide)
  clear hin s0 s1 s2 s3 s4 HX
  refine hset.mono ?_
  clear hset
  rintro e w20 ⟨v20, rfl, hs20, hT20⟩
  have HB20 := Lib.hid (H19.out.bel.trans (hT20.toBelow H19.out.bel.size (by intro x hx; have h0 : x = bc := (by simpa using hx); rw [h0]; exact H19.out.hb)))
  have HS20 := Lib.hid hs20
  clear hs20 hT20 H17 H19
  go_wp2_with fail
  refine (held_walk bc _ _ _ HS20.out).mono ?_
  rintro e w21 ⟨rfl, rfl⟩
  go_wp2_with fail
  go_ret
  exact ⟨rfl, HB20.out⟩

end Go.Proofs.Ytkgodolhcoeaeaa
