/- Sweep: the second law (Turns) walked: it holds. No condition. -/
import Derived.Test.YtljkijolehalcaaTj
namespace Go.Proofs.Ytljkijolehalcaa
open Go.RowKit

theorem GapsIn.slicedAt {w : World} {ad : Addr} {gs : List (Int × Int)} (hG : GapsIn w (some ad) gs) {k c : Nat} (hk : k ≤ gs.length) (hc : gs.length ≤ c) : GapsIn w (some (if c = k then ad else ad.add (k * 2))) (gs.drop k) := by
  intro i hi
  rw [List.length_drop] at hi
  rw [if_neg (by omega)]
  obtain ⟨b', off', hA, hb, hg⟩ := hG (k + i) (by omega)
  cases hA
  have hadd : (⟨b', off', none⟩ : Addr).add (k * 2) = ⟨b', off' + k * 2, none⟩ := by
    unfold Addr.add
    split
    · rename_i h0; have h1 : k * 2 = 0 := by simpa using h0
      simp [h1]
    · simp
  rw [hadd]
  refine ⟨b', off' + k * 2, rfl, hb, ?_⟩
  rw [List.getElem_drop, show off' + k * 2 + i * 2 = off' + (k + i) * 2 by omega]
  exact hg

theorem GapsIn.taken {w : World} {A : Option Addr} {gs : List (Int × Int)} (hG : GapsIn w A gs) (k : Nat) : GapsIn w A (gs.take k) := by
  intro i hi
  rw [List.length_take] at hi
  obtain ⟨b', off', hA, hb, hg⟩ := hG i (by omega)
  refine ⟨b', off', hA, hb, ?_⟩
  rw [List.getElem_take]
  exact hg

theorem owns_ext {w w' : World} {B e s n : Nat} {v : Value} {xs : List Value} (h : w.ownsRow B e s v n xs) (hB : Below w.heap.size w w') : w'.ownsRow B e s v n xs := by
  refine ⟨h.1, ?_⟩
  rcases h.2 with h' | ⟨g, cap, cur, hv, hb, hg, hr⟩
  · exact .inl h'
  · exact .inr ⟨g, cap, cur, hv, hb, (hB.block g (lt_of_heap hg)).trans hg, hr⟩

theorem box_grown {w w' : World} {b : Nat} {t : TypeId} {x y : Int} {row : Option Nat} (h : Box2 w b t x y) (hg : w.grownBy w' row) (hne : row = some b → False) : Box2 w' b t x y := (hg.block b (lt_of_heap h) (fun e => hne e.symm)).trans h

theorem gapsIn1 {w : World} {b : Nat} {t : TypeId} {g1 : Int × Int} (h : w.heap[b]? = some (.cells #[.int .i64 g1.1, .int .i64 g1.2] t (0, 0))) : GapsIn w (some ⟨b, 0, none⟩) [g1] := by
  intro i hi
  refine ⟨b, 0, rfl, lt_of_heap h, ?_⟩
  match i, hi with
  | 0, _ => exact ⟨by simp [World.cell?, h], by simp [World.cell?, h]⟩

/-- What is asked of the best ones' number. -/
theorem refBest_len (gs : List (Int × Int)) (hR : ∀ g ∈ gs, inR g) : (refBest gs).2 ≤ gs.length := by
  have h := isBest gs fun g hg => (hR g hg).2.2.2
  by_cases h0 : 0 < (refBest gs).2
  · have := h.has h0
    have := votesL_le (refBest gs).1.1 gs
    omega
  · omega

set_option maxHeartbeats 8000000 in
set_option maxRecDepth 100000 in
theorem law4 (A : Option Addr) (n c : Nat) (gs : List (Int × Int)) (tu f : Int) (w : World) (hn : n = gs.length) (hnc : n ≤ c) (hnil : A = none → n = 0 ∧ c = 0) (hR : ∀ g ∈ gs, inR g) (hG : GapsIn w A gs) :
    Calls Try.prog 4 #[.slice A n c, .int .i64 tu, .int .i64 f] w fun e w' => e = .returned (.bool true) ∧ Below w.heap.size w w' := by
  have HG := Lib.hid hG; clear hG
  have HN := Lib.hid hn; clear hn
  have HR := Lib.hid hR; clear hR
  go_enter Try.func4, Try.ntmps4
  go_wp2_with fail
  refine (alive7 _).mono ?_
  rintro e w1 ⟨rfl, hB1⟩
  have HB1 := Lib.hid hB1
  clear hB1
  by_cases h100 : 100 < n
  · have hd : decide ((n : Int) > 100) = true := by simp; omega
    go_wp2_with fail
    go_ret
    exact ⟨rfl, HB1.out⟩
  have hn2 : n ≤ 1000 := by omega
  have hd : decide ((n : Int) > 100) = false := by simp; omega
  by_cases h0 : tu < 0
  · have hd2 : decide (tu < 0) = true := by simpa using h0
    go_wp2_with fail
    go_ret
    exact ⟨rfl, HB1.out⟩
  by_cases h1 : (n : Int) < tu
  · have hd2 : decide (tu < 0) = false := by simpa using h0
    have hd3 : decide (tu > (n : Int)) = true := by simpa using h1
    go_wp2_with fail
    go_ret
    exact ⟨rfl, HB1.out⟩
  obtain ⟨k, rfl⟩ := Int.eq_ofNat_of_zero_le (by omega : 0 ≤ tu)
  have hk : k ≤ n := by omega
  have hd2 : decide ((k : Int) < 0) = false := by simp
  have hd3 : decide ((k : Int) > (n : Int)) = false := by simp; omega
  have hlit := World.ownsRow_lit (base := w.heap.size) (e := 25) (size := 2) w1 #[] 0 HB1.out.size (by unfold maxLen; omega) rfl
  have HLIT := Lib.hid hlit
  have HBA := Lib.hid (HB1.out.alloc HB1.out.size (.cells #[] 25))
  clear hlit
  cases A with
  | none =>
    obtain ⟨hn0, hc0⟩ := hnil rfl
    subst hn0
    subst hc0
    obtain rfl : k = 0 := by omega
    have hgs : gs = [] := List.length_eq_zero_iff.1 HN.out.symm
    go_wp2_with fail
    go_region_held3 (fun _ => True) (trivial) ((first
      | (refine step_append_gaps (by rfl) _ _ (by rfl) w.heap.size _ [] [] 0 (by rfl) (by rfl) HLIT.out.drew none 0 0 (by rfl) (by rfl) (fun _ => ⟨rfl, rfl⟩) (fun i hi => absurd hi (by simp)) (by simp) HBA.out.drew.size ?_; intro v2 w2 hown2 hgrow2)
      | (refine step_append_gaps (by rfl) _ _ (by rfl) w.heap.size v2 [] [] 0 (by rfl) (by rfl) hown2 none 0 0 (by rfl) (by rfl) (fun _ => ⟨rfl, rfl⟩) (fun i hi => absurd hi (by simp)) (by simp) (by have := hgrow2.size; have := HBA.out.drew.size; omega) ?_; intro v3 w3 hown3 hgrow3)))
    have hL : ∃ L : List (Int × Int), L.Perm gs ∧ w3.ownsRow w.heap.size 25 2 v3 L.length (L.flatMap cellsG) := ⟨_, by rw [hgs]; exact List.Perm.refl _, hown3⟩
    have HB2 := Lib.hid (HBA.out.drew.grown hgrow2 HBA.out.drew.size (fun q hq => (HLIT.out.lt q hq).1))
    have HB3 := Lib.hid (HB2.out.grown hgrow3 HB2.out.size (fun q hq => (hown2.lt q hq).1))
    clear hown3 hgrow3 hown2 hgrow2 HB2 HLIT HBA HB1 hgs
    obtain ⟨L, hperm, hown⟩ := hL
    have hll : L.length = 0 := hperm.length_eq.trans HN.out.symm
    rw [hll] at hown
    obtain ⟨A2, c2, hv3, -, -, hG2⟩ := gaps_of_row hown
    subst hv3
    have HGO_3 := Lib.hid hG2
    have HOW_3 := Lib.hid hown
    clear hG2 hown
    have hmax : ∀ g ∈ gs, g.2 ≤ 9223372036854775807 := fun g hg => (HR.out g hg).2.2.2
    have hRL : ∀ g ∈ L, inR g := fun g hg => HR.out g (hperm.mem_iff.1 hg)
    have hmaxL : ∀ g ∈ L, g.2 ≤ 9223372036854775807 := fun g hg => (hRL g hg).2.2.2
    have hbg := fun (A : Option Addr) (c : Nat) (w : World) (h : GapsIn w A gs) => best8 A 0 c gs w HN.out hn2 h
    rw [best_eq gs hmax] at hbg
    have hbo := fun (A : Option Addr) (c : Nat) (w : World) (h : GapsIn w A L) => best8 A 0 c L w hll.symm hn2 h
    rw [best_eq L hmaxL, ← refBest_perm hperm.symm hmax] at hbo
    have hwg := fun (A : Option Addr) (c : Nat) (w : World) (h : GapsIn w A gs) => without11 f A 0 c gs w HN.out hn2 h
    rw [without_eq] at hwg
    have hwo := fun (A : Option Addr) (c : Nat) (w : World) (h : GapsIn w A L) => without11 f A 0 c L w hll.symm hn2 h
    rw [without_eq, ← refWithout_perm hperm.symm] at hwo
    have hag := fun (A : Option Addr) (c : Nat) (w : World) (h : GapsIn w A gs) => agree15 A 0 c gs w HN.out hn2 h
    rw [agree_eq gs hmax] at hag
    have hao := fun (A : Option Addr) (c : Nat) (w : World) (h : GapsIn w A L) => agree15 A 0 c L w hll.symm hn2 h
    rw [agree_eq L hmaxL, ← refAgree_perm hperm.symm hmax] at hao
    have hlla : 0 + 1 = (L ++ [allG]).length := by simp [hll]
    have hba := fun (A : Option Addr) (c : Nat) (w : World) (h : GapsIn w A (L ++ [allG])) => best8 A (0 + 1) c (L ++ [allG]) w hlla (by omega) h
    rw [best_eq (L ++ [allG]) (fun g hg => by
      rcases List.mem_append.1 hg with h | h
      · exact hmaxL g h
      · simp at h; subst h; exact Int.le_refl _)] at hba
    have hmore := refBest_more hRL
    rw [← refBest_perm hperm.symm hmax] at hmore
    have hmn : (refBest gs).2 ≤ 0 := by have := HN.out; have := refBest_len gs HR.out; omega
    generalize refBest (L ++ [allG]) = za at *
    generalize refBest gs = z at *
    generalize refWithout f gs = y at *
    generalize refAgree gs = ag at *
    obtain ⟨⟨p, q⟩, m⟩ := z
    obtain ⟨⟨p2, q2⟩, m2⟩ := za
    obtain ⟨⟨u, v⟩, ok⟩ := y
    have HBG := Lib.hid hbg
    have HBO := Lib.hid hbo
    have HWG := Lib.hid hwg
    have HWO := Lib.hid hwo
    have HAG := Lib.hid hag
    have HAO := Lib.hid hao
    have HBAL := Lib.hid hba
    have HMO := Lib.hid hmore
    have HLL := Lib.hid hll
    clear hbg hbo hwg hwo hag hao hba hmore hll hlla hmax hRL hmaxL hperm
    go_wp2_with fail
    refine (HBG.out _ _ _ (HG.out.turn HB3.out)).mono ?_
    rintro e w4 ⟨rfl, hB4⟩
    have HB4 := Lib.hid (HB3.out.trans (hB4.mono HB3.out.size))
    have HGO_4 := Lib.hid (HGO_3.out.turn hB4)
    have HOW_4 := Lib.hid (owns_ext HOW_3.out hB4)
    clear hB4 HB3 HGO_3 HOW_3
    have HNE := Lib.hid (fun q (h : (Value.slice A2 0 c2).ownBlock = some q) => (HOW_4.out.lt q h).2)
    have HB5 := Lib.hid (HB4.out.alloc HB4.out.size (.cells #[.int .i64 p, .int .i64 q] 25))
    have HGO_5 := Lib.hid (HGO_4.out.turn ((Below.refl _ w4).alloc (Nat.le_refl _) (.cells #[.int .i64 p, .int .i64 q] 25)))
    have HOW_5 := Lib.hid (HOW_4.out.alloc (.cells #[.int .i64 p, .int .i64 q] 25))
    have HQ8_5 := Lib.hid (Box2.new w4 25 p q)
    clear HB4 HGO_4 HOW_4
    unfold encG
    go_wp2_with fail
    generalize w4.alloc (.cells #[.int .i64 p, .int .i64 q] 25) = w5 at *
    generalize w4.heap.size = bQ8 at *
    refine (HBO.out A2 c2 _ HGO_5.out).mono ?_
    rintro e w6 ⟨rfl, hB6⟩
    have HB6 := Lib.hid (HB5.out.trans (hB6.mono HB5.out.size))
    have HGO_6 := Lib.hid (HGO_5.out.turn hB6)
    have HOW_6 := Lib.hid (owns_ext HOW_5.out hB6)
    have HQ8_6 := Lib.hid (HQ8_5.out.ext hB6)
    clear hB6 HB5 HGO_5 HOW_5 HQ8_5
    have HB7 := Lib.hid (HB6.out.alloc HB6.out.size (.cells #[.int .i64 p, .int .i64 q] 25))
    have HGO_7 := Lib.hid (HGO_6.out.turn ((Below.refl _ w6).alloc (Nat.le_refl _) (.cells #[.int .i64 p, .int .i64 q] 25)))
    have HOW_7 := Lib.hid (HOW_6.out.alloc (.cells #[.int .i64 p, .int .i64 q] 25))
    have HQ8_7 := Lib.hid (HQ8_6.out.alloc (.cells #[.int .i64 p, .int .i64 q] 25))
    have HQ10_7 := Lib.hid (Box2.new w6 25 p q)
    clear HB6 HGO_6 HOW_6 HQ8_6
    unfold encG
    go_wp2_with fail
    generalize w6.alloc (.cells #[.int .i64 p, .int .i64 q] 25) = w7 at *
    generalize w6.heap.size = bQ10 at *
    refine (HWG.out _ _ _ (HG.out.turn HB7.out)).mono ?_
    rintro e w8 ⟨rfl, hB8⟩
    have HB8 := Lib.hid (HB7.out.trans (hB8.mono HB7.out.size))
    have HGO_8 := Lib.hid (HGO_7.out.turn hB8)
    have HOW_8 := Lib.hid (owns_ext HOW_7.out hB8)
    have HQ8_8 := Lib.hid (HQ8_7.out.ext hB8)
    have HQ10_8 := Lib.hid (HQ10_7.out.ext hB8)
    clear hB8 HB7 HGO_7 HOW_7 HQ8_7 HQ10_7
    have HB9 := Lib.hid (HB8.out.alloc HB8.out.size (.cells #[.int .i64 u, .int .i64 v] 25))
    have HGO_9 := Lib.hid (HGO_8.out.turn ((Below.refl _ w8).alloc (Nat.le_refl _) (.cells #[.int .i64 u, .int .i64 v] 25)))
    have HOW_9 := Lib.hid (HOW_8.out.alloc (.cells #[.int .i64 u, .int .i64 v] 25))
    have HQ8_9 := Lib.hid (HQ8_8.out.alloc (.cells #[.int .i64 u, .int .i64 v] 25))
    have HQ10_9 := Lib.hid (HQ10_8.out.alloc (.cells #[.int .i64 u, .int .i64 v] 25))
    have HQ12_9 := Lib.hid (Box2.new w8 25 u v)
    clear HB8 HGO_8 HOW_8 HQ8_8 HQ10_8
    unfold encG
    go_wp2_with fail
    generalize w8.alloc (.cells #[.int .i64 u, .int .i64 v] 25) = w9 at *
    generalize w8.heap.size = bQ12 at *
    refine (HWO.out A2 c2 _ HGO_9.out).mono ?_
    rintro e w10 ⟨rfl, hB10⟩
    have HB10 := Lib.hid (HB9.out.trans (hB10.mono HB9.out.size))
    have HGO_10 := Lib.hid (HGO_9.out.turn hB10)
    have HOW_10 := Lib.hid (owns_ext HOW_9.out hB10)
    have HQ8_10 := Lib.hid (HQ8_9.out.ext hB10)
    have HQ10_10 := Lib.hid (HQ10_9.out.ext hB10)
    have HQ12_10 := Lib.hid (HQ12_9.out.ext hB10)
    clear hB10 HB9 HGO_9 HOW_9 HQ8_9 HQ10_9 HQ12_9
    obtain ⟨c0, c1, cc2, c3⟩ := HQ8_10.out.cells
    obtain ⟨d0, d1, d2, d3⟩ := HQ10_10.out.cells
    obtain ⟨e0, e1, e2, e3⟩ := HQ12_10.out.cells
    have HB11 := Lib.hid (HB10.out.alloc HB10.out.size (.cells #[.int .i64 u, .int .i64 v] 25))
    have HGO_11 := Lib.hid (HGO_10.out.turn ((Below.refl _ w10).alloc (Nat.le_refl _) (.cells #[.int .i64 u, .int .i64 v] 25)))
    have HOW_11 := Lib.hid (HOW_10.out.alloc (.cells #[.int .i64 u, .int .i64 v] 25))
    have HQ8_11 := Lib.hid (HQ8_10.out.alloc (.cells #[.int .i64 u, .int .i64 v] 25))
    have HQ10_11 := Lib.hid (HQ10_10.out.alloc (.cells #[.int .i64 u, .int .i64 v] 25))
    have HQ12_11 := Lib.hid (HQ12_10.out.alloc (.cells #[.int .i64 u, .int .i64 v] 25))
    have HQ14_11 := Lib.hid (Box2.new w10 25 u v)
    clear HB10 HGO_10 HOW_10 HQ8_10 HQ10_10 HQ12_10
    unfold encG
    go_wp2_with fail
    generalize w10.alloc (.cells #[.int .i64 u, .int .i64 v] 25) = w11 at *
    generalize w10.heap.size = bQ14 at *
    clear c0 c1 cc2 c3 d0 d1 d2 d3 e0 e1 e2 e3
    refine (HAG.out _ _ _ (HG.out.turn HB11.out)).mono ?_
    rintro e w12 ⟨rfl, hB12⟩
    have HB12 := Lib.hid (HB11.out.trans (hB12.mono HB11.out.size))
    have HGO_12 := Lib.hid (HGO_11.out.turn hB12)
    have HOW_12 := Lib.hid (owns_ext HOW_11.out hB12)
    have HQ8_12 := Lib.hid (HQ8_11.out.ext hB12)
    have HQ10_12 := Lib.hid (HQ10_11.out.ext hB12)
    have HQ12_12 := Lib.hid (HQ12_11.out.ext hB12)
    have HQ14_12 := Lib.hid (HQ14_11.out.ext hB12)
    clear hB12 HB11 HGO_11 HOW_11 HQ8_11 HQ10_11 HQ12_11 HQ14_11
    go_wp2_with fail
    refine (HAO.out A2 c2 _ HGO_12.out).mono ?_
    rintro e w13 ⟨rfl, hB13⟩
    have HB13 := Lib.hid (HB12.out.trans (hB13.mono HB12.out.size))
    have HGO_13 := Lib.hid (HGO_12.out.turn hB13)
    have HOW_13 := Lib.hid (owns_ext HOW_12.out hB13)
    have HQ8_13 := Lib.hid (HQ8_12.out.ext hB13)
    have HQ10_13 := Lib.hid (HQ10_12.out.ext hB13)
    have HQ12_13 := Lib.hid (HQ12_12.out.ext hB13)
    have HQ14_13 := Lib.hid (HQ14_12.out.ext hB13)
    clear hB13 HB12 HGO_12 HOW_12 HQ8_12 HQ10_12 HQ12_12 HQ14_12
    clear HQ10_13 HQ12_13 HQ14_13
    have hagd : (ag != ag) = false := by cases ag <;> rfl
    have HB14 := Lib.hid (HB13.out.alloc HB13.out.size (.cells #[.int .i64 (-9223372036854775808), .int .i64 9223372036854775807] 25))
    have HQ8_14 := Lib.hid (HQ8_13.out.alloc (.cells #[.int .i64 (-9223372036854775808), .int .i64 9223372036854775807] 25))
    have HOW_14 := Lib.hid (HOW_13.out.alloc (.cells #[.int .i64 (-9223372036854775808), .int .i64 9223372036854775807] 25))
    have hgn : GapsIn (w13.alloc (.cells #[.int .i64 (-9223372036854775808), .int .i64 9223372036854775807] 25)) (some ⟨w13.heap.size, 0, none⟩) [allG] := gapsIn1 (heap_alloc_new w13 _)
    have HGN := Lib.hid hgn
    clear hgn
    go_wp2_with (at_builtin; refine wpList_append_gaps rfl _ _ rfl w.heap.size (.slice A2 0 c2) L [allG] 0 HLL.out.symm rfl HOW_14.out (some ⟨w13.heap.size, 0, none⟩) 1 1 rfl rfl (fun h => by cases h) HGN.out (by have := HLL.out; show L.length + 1 ≤ 1000; omega) HB14.out.size ?_; intro v15 w15 hown15 hgrow15)
    have HB15 := Lib.hid (HB14.out.grown hgrow15 HB14.out.size (fun q hq => (HOW_14.out.lt q hq).1))
    have HQ15 : Hid (Box2 w15 bQ8 25 p q) := Lib.hid (box_grown HQ8_14.out hgrow15 (fun h => Nat.lt_irrefl _ (HNE.out _ h)))
    have hl15 : (L ++ [allG]).length = 0 + 1 := by rw [List.length_append, HLL.out]; rfl
    rw [hl15] at hown15
    obtain ⟨A15, c15, hv15, -, -, hG15⟩ := gaps_of_row hown15
    subst hv15
    have HG15 := Lib.hid hG15
    clear hG15 hown15 hgrow15 hl15
    have HOB15 := Lib.hid HB15.out
    refine (HBAL.out A15 c15 _ HG15.out).mono ?_
    rintro e w16 ⟨rfl, hB16⟩
    have HB16 := Lib.hid (HB15.out.trans (hB16.mono HB15.out.size))
    have HQ16 := Lib.hid (HQ15.out.ext hB16)
    obtain ⟨hm2, hpq⟩ := HMO.out
    subst hm2
    obtain ⟨c0, c1, cc2, c3⟩ := HQ16.out.cells
    obtain ⟨d0, d1, d2, d3⟩ := (Box2.new w16 25 p2 q2).cells
    have HB17 := Lib.hid (HB16.out.alloc HB16.out.size (.cells #[.int .i64 p2, .int .i64 q2] 25))
    clear hB16 HB16 HQ15 HB15 HG15 HOB15
    have hwr : wrap64 ((m : Int) + 1) = ((m + 1 : Nat) : Int) := by simp [wrap64]; omega
    by_cases hm0 : m = 0
    · subst hm0
      unfold encG
      go_wp2_with fail
      go_ret
      exact ⟨rfl, HB17.out⟩
    · have hm0' : ((m : Int) == 0) = false := by simp; omega
      exact absurd (Nat.le_zero.1 hmn) hm0
  | some ad =>
    have hk0 : (0 : Int) ≤ (k : Int) := by omega
    have hk1 : (k : Int) ≤ (n : Int) := by omega
    have hk2 : (k : Int) ≤ (c : Int) := by omega
    have HGT := Lib.hid (fun (w' : World) (h : Below w.heap.size w w') => GapsIn.taken (HG.out.turn h) k)
    by_cases hck : c = k
    · subst hck
      obtain rfl : n = c := by omega
      go_wp2_with fail
      go_region_held3 (fun _ => True) (trivial) ((first
        | (refine step_append_gaps (by rfl) _ _ (by rfl) w.heap.size _ [] [] 0 (by rfl) (by rfl) HLIT.out.drew (some ad) 0 0 (by rfl) (by rfl) (fun h => by cases h) (fun i hi => absurd hi (by simp)) (by simp) HBA.out.drew.size ?_; intro v2 w2 hown2 hgrow2; have HB2 := Lib.hid (HBA.out.drew.grown hgrow2 HBA.out.drew.size (fun q hq => (HLIT.out.lt q hq).1)))
        | (refine step_append_gaps (by rfl) _ _ (by rfl) w.heap.size v2 [] gs 0 (by rfl) (by rfl) hown2 (some ad) n n (by rfl) HN.out (fun h => by cases h) (HG.out.turn HB2.out) (by have := HN.out; simp; omega) HB2.out.size ?_; intro v3 w3 hown3 hgrow3)))
      have hL : ∃ L : List (Int × Int), L.Perm gs ∧ w3.ownsRow w.heap.size 25 2 v3 L.length (L.flatMap cellsG) := ⟨_, List.Perm.refl _, hown3⟩
      have HB3 := Lib.hid (HB2.out.grown hgrow3 HB2.out.size (fun q hq => (hown2.lt q hq).1))
      clear hown3 hgrow3 hown2 hgrow2 HB2 HLIT HBA HB1 HGT
      obtain ⟨L, hperm, hown⟩ := hL
      have hll : L.length = n := hperm.length_eq.trans HN.out.symm
      rw [hll] at hown
      obtain ⟨A2, c2, hv3, -, -, hG2⟩ := gaps_of_row hown
      subst hv3
      have HGO_3 := Lib.hid hG2
      have HOW_3 := Lib.hid hown
      clear hG2 hown
      have hmax : ∀ g ∈ gs, g.2 ≤ 9223372036854775807 := fun g hg => (HR.out g hg).2.2.2
      have hRL : ∀ g ∈ L, inR g := fun g hg => HR.out g (hperm.mem_iff.1 hg)
      have hmaxL : ∀ g ∈ L, g.2 ≤ 9223372036854775807 := fun g hg => (hRL g hg).2.2.2
      have hbg := fun (A : Option Addr) (c : Nat) (w : World) (h : GapsIn w A gs) => best8 A n c gs w HN.out hn2 h
      rw [best_eq gs hmax] at hbg
      have hbo := fun (A : Option Addr) (c : Nat) (w : World) (h : GapsIn w A L) => best8 A n c L w hll.symm hn2 h
      rw [best_eq L hmaxL, ← refBest_perm hperm.symm hmax] at hbo
      have hwg := fun (A : Option Addr) (c : Nat) (w : World) (h : GapsIn w A gs) => without11 f A n c gs w HN.out hn2 h
      rw [without_eq] at hwg
      have hwo := fun (A : Option Addr) (c : Nat) (w : World) (h : GapsIn w A L) => without11 f A n c L w hll.symm hn2 h
      rw [without_eq, ← refWithout_perm hperm.symm] at hwo
      have hag := fun (A : Option Addr) (c : Nat) (w : World) (h : GapsIn w A gs) => agree15 A n c gs w HN.out hn2 h
      rw [agree_eq gs hmax] at hag
      have hao := fun (A : Option Addr) (c : Nat) (w : World) (h : GapsIn w A L) => agree15 A n c L w hll.symm hn2 h
      rw [agree_eq L hmaxL, ← refAgree_perm hperm.symm hmax] at hao
      have hlla : n + 1 = (L ++ [allG]).length := by simp [hll]
      have hba := fun (A : Option Addr) (c : Nat) (w : World) (h : GapsIn w A (L ++ [allG])) => best8 A (n + 1) c (L ++ [allG]) w hlla (by omega) h
      rw [best_eq (L ++ [allG]) (fun g hg => by
        rcases List.mem_append.1 hg with h | h
        · exact hmaxL g h
        · simp at h; subst h; exact Int.le_refl _)] at hba
      have hmore := refBest_more hRL
      rw [← refBest_perm hperm.symm hmax] at hmore
      have hmn : (refBest gs).2 ≤ n := by have := HN.out; have := refBest_len gs HR.out; omega
      generalize refBest (L ++ [allG]) = za at *
      generalize refBest gs = z at *
      generalize refWithout f gs = y at *
      generalize refAgree gs = ag at *
      obtain ⟨⟨p, q⟩, m⟩ := z
      obtain ⟨⟨p2, q2⟩, m2⟩ := za
      obtain ⟨⟨u, v⟩, ok⟩ := y
      have HBG := Lib.hid hbg
      have HBO := Lib.hid hbo
      have HWG := Lib.hid hwg
      have HWO := Lib.hid hwo
      have HAG := Lib.hid hag
      have HAO := Lib.hid hao
      have HBAL := Lib.hid hba
      have HMO := Lib.hid hmore
      have HLL := Lib.hid hll
      clear hbg hbo hwg hwo hag hao hba hmore hll hlla hmax hRL hmaxL hperm
      go_wp2_with fail
      refine (HBG.out _ _ _ (HG.out.turn HB3.out)).mono ?_
      rintro e w4 ⟨rfl, hB4⟩
      have HB4 := Lib.hid (HB3.out.trans (hB4.mono HB3.out.size))
      have HGO_4 := Lib.hid (HGO_3.out.turn hB4)
      have HOW_4 := Lib.hid (owns_ext HOW_3.out hB4)
      clear hB4 HB3 HGO_3 HOW_3
      have HNE := Lib.hid (fun q (h : (Value.slice A2 n c2).ownBlock = some q) => (HOW_4.out.lt q h).2)
      have HB5 := Lib.hid (HB4.out.alloc HB4.out.size (.cells #[.int .i64 p, .int .i64 q] 25))
      have HGO_5 := Lib.hid (HGO_4.out.turn ((Below.refl _ w4).alloc (Nat.le_refl _) (.cells #[.int .i64 p, .int .i64 q] 25)))
      have HOW_5 := Lib.hid (HOW_4.out.alloc (.cells #[.int .i64 p, .int .i64 q] 25))
      have HQ8_5 := Lib.hid (Box2.new w4 25 p q)
      clear HB4 HGO_4 HOW_4
      unfold encG
      go_wp2_with fail
      generalize w4.alloc (.cells #[.int .i64 p, .int .i64 q] 25) = w5 at *
      generalize w4.heap.size = bQ8 at *
      refine (HBO.out A2 c2 _ HGO_5.out).mono ?_
      rintro e w6 ⟨rfl, hB6⟩
      have HB6 := Lib.hid (HB5.out.trans (hB6.mono HB5.out.size))
      have HGO_6 := Lib.hid (HGO_5.out.turn hB6)
      have HOW_6 := Lib.hid (owns_ext HOW_5.out hB6)
      have HQ8_6 := Lib.hid (HQ8_5.out.ext hB6)
      clear hB6 HB5 HGO_5 HOW_5 HQ8_5
      have HB7 := Lib.hid (HB6.out.alloc HB6.out.size (.cells #[.int .i64 p, .int .i64 q] 25))
      have HGO_7 := Lib.hid (HGO_6.out.turn ((Below.refl _ w6).alloc (Nat.le_refl _) (.cells #[.int .i64 p, .int .i64 q] 25)))
      have HOW_7 := Lib.hid (HOW_6.out.alloc (.cells #[.int .i64 p, .int .i64 q] 25))
      have HQ8_7 := Lib.hid (HQ8_6.out.alloc (.cells #[.int .i64 p, .int .i64 q] 25))
      have HQ10_7 := Lib.hid (Box2.new w6 25 p q)
      clear HB6 HGO_6 HOW_6 HQ8_6
      unfold encG
      go_wp2_with fail
      generalize w6.alloc (.cells #[.int .i64 p, .int .i64 q] 25) = w7 at *
      generalize w6.heap.size = bQ10 at *
      refine (HWG.out _ _ _ (HG.out.turn HB7.out)).mono ?_
      rintro e w8 ⟨rfl, hB8⟩
      have HB8 := Lib.hid (HB7.out.trans (hB8.mono HB7.out.size))
      have HGO_8 := Lib.hid (HGO_7.out.turn hB8)
      have HOW_8 := Lib.hid (owns_ext HOW_7.out hB8)
      have HQ8_8 := Lib.hid (HQ8_7.out.ext hB8)
      have HQ10_8 := Lib.hid (HQ10_7.out.ext hB8)
      clear hB8 HB7 HGO_7 HOW_7 HQ8_7 HQ10_7
      have HB9 := Lib.hid (HB8.out.alloc HB8.out.size (.cells #[.int .i64 u, .int .i64 v] 25))
      have HGO_9 := Lib.hid (HGO_8.out.turn ((Below.refl _ w8).alloc (Nat.le_refl _) (.cells #[.int .i64 u, .int .i64 v] 25)))
      have HOW_9 := Lib.hid (HOW_8.out.alloc (.cells #[.int .i64 u, .int .i64 v] 25))
      have HQ8_9 := Lib.hid (HQ8_8.out.alloc (.cells #[.int .i64 u, .int .i64 v] 25))
      have HQ10_9 := Lib.hid (HQ10_8.out.alloc (.cells #[.int .i64 u, .int .i64 v] 25))
      have HQ12_9 := Lib.hid (Box2.new w8 25 u v)
      clear HB8 HGO_8 HOW_8 HQ8_8 HQ10_8
      unfold encG
      go_wp2_with fail
      generalize w8.alloc (.cells #[.int .i64 u, .int .i64 v] 25) = w9 at *
      generalize w8.heap.size = bQ12 at *
      refine (HWO.out A2 c2 _ HGO_9.out).mono ?_
      rintro e w10 ⟨rfl, hB10⟩
      have HB10 := Lib.hid (HB9.out.trans (hB10.mono HB9.out.size))
      have HGO_10 := Lib.hid (HGO_9.out.turn hB10)
      have HOW_10 := Lib.hid (owns_ext HOW_9.out hB10)
      have HQ8_10 := Lib.hid (HQ8_9.out.ext hB10)
      have HQ10_10 := Lib.hid (HQ10_9.out.ext hB10)
      have HQ12_10 := Lib.hid (HQ12_9.out.ext hB10)
      clear hB10 HB9 HGO_9 HOW_9 HQ8_9 HQ10_9 HQ12_9
      obtain ⟨c0, c1, cc2, c3⟩ := HQ8_10.out.cells
      obtain ⟨d0, d1, d2, d3⟩ := HQ10_10.out.cells
      obtain ⟨e0, e1, e2, e3⟩ := HQ12_10.out.cells
      have HB11 := Lib.hid (HB10.out.alloc HB10.out.size (.cells #[.int .i64 u, .int .i64 v] 25))
      have HGO_11 := Lib.hid (HGO_10.out.turn ((Below.refl _ w10).alloc (Nat.le_refl _) (.cells #[.int .i64 u, .int .i64 v] 25)))
      have HOW_11 := Lib.hid (HOW_10.out.alloc (.cells #[.int .i64 u, .int .i64 v] 25))
      have HQ8_11 := Lib.hid (HQ8_10.out.alloc (.cells #[.int .i64 u, .int .i64 v] 25))
      have HQ10_11 := Lib.hid (HQ10_10.out.alloc (.cells #[.int .i64 u, .int .i64 v] 25))
      have HQ12_11 := Lib.hid (HQ12_10.out.alloc (.cells #[.int .i64 u, .int .i64 v] 25))
      have HQ14_11 := Lib.hid (Box2.new w10 25 u v)
      clear HB10 HGO_10 HOW_10 HQ8_10 HQ10_10 HQ12_10
      unfold encG
      go_wp2_with fail
      generalize w10.alloc (.cells #[.int .i64 u, .int .i64 v] 25) = w11 at *
      generalize w10.heap.size = bQ14 at *
      clear c0 c1 cc2 c3 d0 d1 d2 d3 e0 e1 e2 e3
      refine (HAG.out _ _ _ (HG.out.turn HB11.out)).mono ?_
      rintro e w12 ⟨rfl, hB12⟩
      have HB12 := Lib.hid (HB11.out.trans (hB12.mono HB11.out.size))
      have HGO_12 := Lib.hid (HGO_11.out.turn hB12)
      have HOW_12 := Lib.hid (owns_ext HOW_11.out hB12)
      have HQ8_12 := Lib.hid (HQ8_11.out.ext hB12)
      have HQ10_12 := Lib.hid (HQ10_11.out.ext hB12)
      have HQ12_12 := Lib.hid (HQ12_11.out.ext hB12)
      have HQ14_12 := Lib.hid (HQ14_11.out.ext hB12)
      clear hB12 HB11 HGO_11 HOW_11 HQ8_11 HQ10_11 HQ12_11 HQ14_11
      go_wp2_with fail
      refine (HAO.out A2 c2 _ HGO_12.out).mono ?_
      rintro e w13 ⟨rfl, hB13⟩
      have HB13 := Lib.hid (HB12.out.trans (hB13.mono HB12.out.size))
      have HGO_13 := Lib.hid (HGO_12.out.turn hB13)
      have HOW_13 := Lib.hid (owns_ext HOW_12.out hB13)
      have HQ8_13 := Lib.hid (HQ8_12.out.ext hB13)
      have HQ10_13 := Lib.hid (HQ10_12.out.ext hB13)
      have HQ12_13 := Lib.hid (HQ12_12.out.ext hB13)
      have HQ14_13 := Lib.hid (HQ14_12.out.ext hB13)
      clear hB13 HB12 HGO_12 HOW_12 HQ8_12 HQ10_12 HQ12_12 HQ14_12
      clear HQ10_13 HQ12_13 HQ14_13
      have hagd : (ag != ag) = false := by cases ag <;> rfl
      have HB14 := Lib.hid (HB13.out.alloc HB13.out.size (.cells #[.int .i64 (-9223372036854775808), .int .i64 9223372036854775807] 25))
      have HQ8_14 := Lib.hid (HQ8_13.out.alloc (.cells #[.int .i64 (-9223372036854775808), .int .i64 9223372036854775807] 25))
      have HOW_14 := Lib.hid (HOW_13.out.alloc (.cells #[.int .i64 (-9223372036854775808), .int .i64 9223372036854775807] 25))
      have hgn : GapsIn (w13.alloc (.cells #[.int .i64 (-9223372036854775808), .int .i64 9223372036854775807] 25)) (some ⟨w13.heap.size, 0, none⟩) [allG] := gapsIn1 (heap_alloc_new w13 _)
      have HGN := Lib.hid hgn
      clear hgn
      go_wp2_with (at_builtin; refine wpList_append_gaps rfl _ _ rfl w.heap.size (.slice A2 n c2) L [allG] n HLL.out.symm rfl HOW_14.out (some ⟨w13.heap.size, 0, none⟩) 1 1 rfl rfl (fun h => by cases h) HGN.out (by have := HLL.out; show L.length + 1 ≤ 1000; omega) HB14.out.size ?_; intro v15 w15 hown15 hgrow15)
      have HB15 := Lib.hid (HB14.out.grown hgrow15 HB14.out.size (fun q hq => (HOW_14.out.lt q hq).1))
      have HQ15 : Hid (Box2 w15 bQ8 25 p q) := Lib.hid (box_grown HQ8_14.out hgrow15 (fun h => Nat.lt_irrefl _ (HNE.out _ h)))
      have hl15 : (L ++ [allG]).length = n + 1 := by rw [List.length_append, HLL.out]; rfl
      rw [hl15] at hown15
      obtain ⟨A15, c15, hv15, -, -, hG15⟩ := gaps_of_row hown15
      subst hv15
      have HG15 := Lib.hid hG15
      clear hG15 hown15 hgrow15 hl15
      have HOB15 := Lib.hid HB15.out
      refine (HBAL.out A15 c15 _ HG15.out).mono ?_
      rintro e w16 ⟨rfl, hB16⟩
      have HB16 := Lib.hid (HB15.out.trans (hB16.mono HB15.out.size))
      have HQ16 := Lib.hid (HQ15.out.ext hB16)
      obtain ⟨hm2, hpq⟩ := HMO.out
      subst hm2
      obtain ⟨c0, c1, cc2, c3⟩ := HQ16.out.cells
      obtain ⟨d0, d1, d2, d3⟩ := (Box2.new w16 25 p2 q2).cells
      have HB17 := Lib.hid (HB16.out.alloc HB16.out.size (.cells #[.int .i64 p2, .int .i64 q2] 25))
      clear hB16 HB16 HQ15 HB15 HG15 HOB15
      have hwr : wrap64 ((m : Int) + 1) = ((m + 1 : Nat) : Int) := by simp [wrap64]; omega
      by_cases hm0 : m = 0
      · subst hm0
        unfold encG
        go_wp2_with fail
        go_ret
        exact ⟨rfl, HB17.out⟩
      · have hm0' : ((m : Int) == 0) = false := by simp; omega
        have hpq' : (p2, q2) = (p, q) := by
          rcases hpq with h | h
          · exact absurd h hm0
          · exact h
        cases hpq'
        unfold encG
        go_wp2_with fail
        go_ret
        exact ⟨rfl, HB17.out⟩
    · have HGD := Lib.hid (fun (w' : World) (h : Below w.heap.size w w') => GapsIn.slicedAt (HG.out.turn h) (k := k) (c := c) (by have := HN.out; omega) (by have := HN.out; omega))
      rw [if_neg hck] at HGD
      go_wp2_with fail
      go_region_held3 (fun _ => True) (trivial) ((first
        | (refine step_append_gaps (by rfl) _ _ (by rfl) w.heap.size _ [] (gs.drop k) 0 (by rfl) (by rfl) HLIT.out.drew (some (ad.add (k * 2))) (n - k) (c - k) (by rfl) (by have := HN.out; rw [List.length_drop]; omega) (fun h => by cases h) (HGD.out _ HBA.out.drew) (by have := HN.out; simp; omega) HBA.out.drew.size ?_; intro v2 w2 hown2 hgrow2; have HB2 := Lib.hid (HBA.out.drew.grown hgrow2 HBA.out.drew.size (fun q hq => (HLIT.out.lt q hq).1)))
        | (refine step_append_gaps (by rfl) _ _ (by rfl) w.heap.size v2 ([] ++ gs.drop k) (gs.take k) ([] ++ gs.drop k).length (by rfl) (by rfl) hown2 (some ad) k c (by rfl) (by have := HN.out; rw [List.length_take]; omega) (fun h => by cases h) (HGT.out _ HB2.out) (by have := HN.out; simp; omega) HB2.out.size ?_; intro v3 w3 hown3 hgrow3)))
      have hL : ∃ L : List (Int × Int), L.Perm gs ∧ w3.ownsRow w.heap.size 25 2 v3 L.length (L.flatMap cellsG) := ⟨_, by rw [List.nil_append]; exact (List.perm_append_comm).trans (by rw [List.take_append_drop]), hown3⟩
      have HB3 := Lib.hid (HB2.out.grown hgrow3 HB2.out.size (fun q hq => (hown2.lt q hq).1))
      clear hown3 hgrow3 hown2 hgrow2 HB2 HLIT HBA HB1 HGD HGT
      obtain ⟨L, hperm, hown⟩ := hL
      have hll : L.length = n := hperm.length_eq.trans HN.out.symm
      rw [hll] at hown
      obtain ⟨A2, c2, hv3, -, -, hG2⟩ := gaps_of_row hown
      subst hv3
      have HGO_3 := Lib.hid hG2
      have HOW_3 := Lib.hid hown
      clear hG2 hown
      have hmax : ∀ g ∈ gs, g.2 ≤ 9223372036854775807 := fun g hg => (HR.out g hg).2.2.2
      have hRL : ∀ g ∈ L, inR g := fun g hg => HR.out g (hperm.mem_iff.1 hg)
      have hmaxL : ∀ g ∈ L, g.2 ≤ 9223372036854775807 := fun g hg => (hRL g hg).2.2.2
      have hbg := fun (A : Option Addr) (c : Nat) (w : World) (h : GapsIn w A gs) => best8 A n c gs w HN.out hn2 h
      rw [best_eq gs hmax] at hbg
      have hbo := fun (A : Option Addr) (c : Nat) (w : World) (h : GapsIn w A L) => best8 A n c L w hll.symm hn2 h
      rw [best_eq L hmaxL, ← refBest_perm hperm.symm hmax] at hbo
      have hwg := fun (A : Option Addr) (c : Nat) (w : World) (h : GapsIn w A gs) => without11 f A n c gs w HN.out hn2 h
      rw [without_eq] at hwg
      have hwo := fun (A : Option Addr) (c : Nat) (w : World) (h : GapsIn w A L) => without11 f A n c L w hll.symm hn2 h
      rw [without_eq, ← refWithout_perm hperm.symm] at hwo
      have hag := fun (A : Option Addr) (c : Nat) (w : World) (h : GapsIn w A gs) => agree15 A n c gs w HN.out hn2 h
      rw [agree_eq gs hmax] at hag
      have hao := fun (A : Option Addr) (c : Nat) (w : World) (h : GapsIn w A L) => agree15 A n c L w hll.symm hn2 h
      rw [agree_eq L hmaxL, ← refAgree_perm hperm.symm hmax] at hao
      have hlla : n + 1 = (L ++ [allG]).length := by simp [hll]
      have hba := fun (A : Option Addr) (c : Nat) (w : World) (h : GapsIn w A (L ++ [allG])) => best8 A (n + 1) c (L ++ [allG]) w hlla (by omega) h
      rw [best_eq (L ++ [allG]) (fun g hg => by
        rcases List.mem_append.1 hg with h | h
        · exact hmaxL g h
        · simp at h; subst h; exact Int.le_refl _)] at hba
      have hmore := refBest_more hRL
      rw [← refBest_perm hperm.symm hmax] at hmore
      have hmn : (refBest gs).2 ≤ n := by have := HN.out; have := refBest_len gs HR.out; omega
      generalize refBest (L ++ [allG]) = za at *
      generalize refBest gs = z at *
      generalize refWithout f gs = y at *
      generalize refAgree gs = ag at *
      obtain ⟨⟨p, q⟩, m⟩ := z
      obtain ⟨⟨p2, q2⟩, m2⟩ := za
      obtain ⟨⟨u, v⟩, ok⟩ := y
      have HBG := Lib.hid hbg
      have HBO := Lib.hid hbo
      have HWG := Lib.hid hwg
      have HWO := Lib.hid hwo
      have HAG := Lib.hid hag
      have HAO := Lib.hid hao
      have HBAL := Lib.hid hba
      have HMO := Lib.hid hmore
      have HLL := Lib.hid hll
      clear hbg hbo hwg hwo hag hao hba hmore hll hlla hmax hRL hmaxL hperm
      go_wp2_with fail
      refine (HBG.out _ _ _ (HG.out.turn HB3.out)).mono ?_
      rintro e w4 ⟨rfl, hB4⟩
      have HB4 := Lib.hid (HB3.out.trans (hB4.mono HB3.out.size))
      have HGO_4 := Lib.hid (HGO_3.out.turn hB4)
      have HOW_4 := Lib.hid (owns_ext HOW_3.out hB4)
      clear hB4 HB3 HGO_3 HOW_3
      have HNE := Lib.hid (fun q (h : (Value.slice A2 n c2).ownBlock = some q) => (HOW_4.out.lt q h).2)
      have HB5 := Lib.hid (HB4.out.alloc HB4.out.size (.cells #[.int .i64 p, .int .i64 q] 25))
      have HGO_5 := Lib.hid (HGO_4.out.turn ((Below.refl _ w4).alloc (Nat.le_refl _) (.cells #[.int .i64 p, .int .i64 q] 25)))
      have HOW_5 := Lib.hid (HOW_4.out.alloc (.cells #[.int .i64 p, .int .i64 q] 25))
      have HQ8_5 := Lib.hid (Box2.new w4 25 p q)
      clear HB4 HGO_4 HOW_4
      unfold encG
      go_wp2_with fail
      generalize w4.alloc (.cells #[.int .i64 p, .int .i64 q] 25) = w5 at *
      generalize w4.heap.size = bQ8 at *
      refine (HBO.out A2 c2 _ HGO_5.out).mono ?_
      rintro e w6 ⟨rfl, hB6⟩
      have HB6 := Lib.hid (HB5.out.trans (hB6.mono HB5.out.size))
      have HGO_6 := Lib.hid (HGO_5.out.turn hB6)
      have HOW_6 := Lib.hid (owns_ext HOW_5.out hB6)
      have HQ8_6 := Lib.hid (HQ8_5.out.ext hB6)
      clear hB6 HB5 HGO_5 HOW_5 HQ8_5
      have HB7 := Lib.hid (HB6.out.alloc HB6.out.size (.cells #[.int .i64 p, .int .i64 q] 25))
      have HGO_7 := Lib.hid (HGO_6.out.turn ((Below.refl _ w6).alloc (Nat.le_refl _) (.cells #[.int .i64 p, .int .i64 q] 25)))
      have HOW_7 := Lib.hid (HOW_6.out.alloc (.cells #[.int .i64 p, .int .i64 q] 25))
      have HQ8_7 := Lib.hid (HQ8_6.out.alloc (.cells #[.int .i64 p, .int .i64 q] 25))
      have HQ10_7 := Lib.hid (Box2.new w6 25 p q)
      clear HB6 HGO_6 HOW_6 HQ8_6
      unfold encG
      go_wp2_with fail
      generalize w6.alloc (.cells #[.int .i64 p, .int .i64 q] 25) = w7 at *
      generalize w6.heap.size = bQ10 at *
      refine (HWG.out _ _ _ (HG.out.turn HB7.out)).mono ?_
      rintro e w8 ⟨rfl, hB8⟩
      have HB8 := Lib.hid (HB7.out.trans (hB8.mono HB7.out.size))
      have HGO_8 := Lib.hid (HGO_7.out.turn hB8)
      have HOW_8 := Lib.hid (owns_ext HOW_7.out hB8)
      have HQ8_8 := Lib.hid (HQ8_7.out.ext hB8)
      have HQ10_8 := Lib.hid (HQ10_7.out.ext hB8)
      clear hB8 HB7 HGO_7 HOW_7 HQ8_7 HQ10_7
      have HB9 := Lib.hid (HB8.out.alloc HB8.out.size (.cells #[.int .i64 u, .int .i64 v] 25))
      have HGO_9 := Lib.hid (HGO_8.out.turn ((Below.refl _ w8).alloc (Nat.le_refl _) (.cells #[.int .i64 u, .int .i64 v] 25)))
      have HOW_9 := Lib.hid (HOW_8.out.alloc (.cells #[.int .i64 u, .int .i64 v] 25))
      have HQ8_9 := Lib.hid (HQ8_8.out.alloc (.cells #[.int .i64 u, .int .i64 v] 25))
      have HQ10_9 := Lib.hid (HQ10_8.out.alloc (.cells #[.int .i64 u, .int .i64 v] 25))
      have HQ12_9 := Lib.hid (Box2.new w8 25 u v)
      clear HB8 HGO_8 HOW_8 HQ8_8 HQ10_8
      unfold encG
      go_wp2_with fail
      generalize w8.alloc (.cells #[.int .i64 u, .int .i64 v] 25) = w9 at *
      generalize w8.heap.size = bQ12 at *
      refine (HWO.out A2 c2 _ HGO_9.out).mono ?_
      rintro e w10 ⟨rfl, hB10⟩
      have HB10 := Lib.hid (HB9.out.trans (hB10.mono HB9.out.size))
      have HGO_10 := Lib.hid (HGO_9.out.turn hB10)
      have HOW_10 := Lib.hid (owns_ext HOW_9.out hB10)
      have HQ8_10 := Lib.hid (HQ8_9.out.ext hB10)
      have HQ10_10 := Lib.hid (HQ10_9.out.ext hB10)
      have HQ12_10 := Lib.hid (HQ12_9.out.ext hB10)
      clear hB10 HB9 HGO_9 HOW_9 HQ8_9 HQ10_9 HQ12_9
      obtain ⟨c0, c1, cc2, c3⟩ := HQ8_10.out.cells
      obtain ⟨d0, d1, d2, d3⟩ := HQ10_10.out.cells
      obtain ⟨e0, e1, e2, e3⟩ := HQ12_10.out.cells
      have HB11 := Lib.hid (HB10.out.alloc HB10.out.size (.cells #[.int .i64 u, .int .i64 v] 25))
      have HGO_11 := Lib.hid (HGO_10.out.turn ((Below.refl _ w10).alloc (Nat.le_refl _) (.cells #[.int .i64 u, .int .i64 v] 25)))
      have HOW_11 := Lib.hid (HOW_10.out.alloc (.cells #[.int .i64 u, .int .i64 v] 25))
      have HQ8_11 := Lib.hid (HQ8_10.out.alloc (.cells #[.int .i64 u, .int .i64 v] 25))
      have HQ10_11 := Lib.hid (HQ10_10.out.alloc (.cells #[.int .i64 u, .int .i64 v] 25))
      have HQ12_11 := Lib.hid (HQ12_10.out.alloc (.cells #[.int .i64 u, .int .i64 v] 25))
      have HQ14_11 := Lib.hid (Box2.new w10 25 u v)
      clear HB10 HGO_10 HOW_10 HQ8_10 HQ10_10 HQ12_10
      unfold encG
      go_wp2_with fail
      generalize w10.alloc (.cells #[.int .i64 u, .int .i64 v] 25) = w11 at *
      generalize w10.heap.size = bQ14 at *
      clear c0 c1 cc2 c3 d0 d1 d2 d3 e0 e1 e2 e3
      refine (HAG.out _ _ _ (HG.out.turn HB11.out)).mono ?_
      rintro e w12 ⟨rfl, hB12⟩
      have HB12 := Lib.hid (HB11.out.trans (hB12.mono HB11.out.size))
      have HGO_12 := Lib.hid (HGO_11.out.turn hB12)
      have HOW_12 := Lib.hid (owns_ext HOW_11.out hB12)
      have HQ8_12 := Lib.hid (HQ8_11.out.ext hB12)
      have HQ10_12 := Lib.hid (HQ10_11.out.ext hB12)
      have HQ12_12 := Lib.hid (HQ12_11.out.ext hB12)
      have HQ14_12 := Lib.hid (HQ14_11.out.ext hB12)
      clear hB12 HB11 HGO_11 HOW_11 HQ8_11 HQ10_11 HQ12_11 HQ14_11
      go_wp2_with fail
      refine (HAO.out A2 c2 _ HGO_12.out).mono ?_
      rintro e w13 ⟨rfl, hB13⟩
      have HB13 := Lib.hid (HB12.out.trans (hB13.mono HB12.out.size))
      have HGO_13 := Lib.hid (HGO_12.out.turn hB13)
      have HOW_13 := Lib.hid (owns_ext HOW_12.out hB13)
      have HQ8_13 := Lib.hid (HQ8_12.out.ext hB13)
      have HQ10_13 := Lib.hid (HQ10_12.out.ext hB13)
      have HQ12_13 := Lib.hid (HQ12_12.out.ext hB13)
      have HQ14_13 := Lib.hid (HQ14_12.out.ext hB13)
      clear hB13 HB12 HGO_12 HOW_12 HQ8_12 HQ10_12 HQ12_12 HQ14_12
      clear HQ10_13 HQ12_13 HQ14_13
      have hagd : (ag != ag) = false := by cases ag <;> rfl
      have HB14 := Lib.hid (HB13.out.alloc HB13.out.size (.cells #[.int .i64 (-9223372036854775808), .int .i64 9223372036854775807] 25))
      have HQ8_14 := Lib.hid (HQ8_13.out.alloc (.cells #[.int .i64 (-9223372036854775808), .int .i64 9223372036854775807] 25))
      have HOW_14 := Lib.hid (HOW_13.out.alloc (.cells #[.int .i64 (-9223372036854775808), .int .i64 9223372036854775807] 25))
      have hgn : GapsIn (w13.alloc (.cells #[.int .i64 (-9223372036854775808), .int .i64 9223372036854775807] 25)) (some ⟨w13.heap.size, 0, none⟩) [allG] := gapsIn1 (heap_alloc_new w13 _)
      have HGN := Lib.hid hgn
      clear hgn
      go_wp2_with (at_builtin; refine wpList_append_gaps rfl _ _ rfl w.heap.size (.slice A2 n c2) L [allG] n HLL.out.symm rfl HOW_14.out (some ⟨w13.heap.size, 0, none⟩) 1 1 rfl rfl (fun h => by cases h) HGN.out (by have := HLL.out; show L.length + 1 ≤ 1000; omega) HB14.out.size ?_; intro v15 w15 hown15 hgrow15)
      have HB15 := Lib.hid (HB14.out.grown hgrow15 HB14.out.size (fun q hq => (HOW_14.out.lt q hq).1))
      have HQ15 : Hid (Box2 w15 bQ8 25 p q) := Lib.hid (box_grown HQ8_14.out hgrow15 (fun h => Nat.lt_irrefl _ (HNE.out _ h)))
      have hl15 : (L ++ [allG]).length = n + 1 := by rw [List.length_append, HLL.out]; rfl
      rw [hl15] at hown15
      obtain ⟨A15, c15, hv15, -, -, hG15⟩ := gaps_of_row hown15
      subst hv15
      have HG15 := Lib.hid hG15
      clear hG15 hown15 hgrow15 hl15
      have HOB15 := Lib.hid HB15.out
      refine (HBAL.out A15 c15 _ HG15.out).mono ?_
      rintro e w16 ⟨rfl, hB16⟩
      have HB16 := Lib.hid (HB15.out.trans (hB16.mono HB15.out.size))
      have HQ16 := Lib.hid (HQ15.out.ext hB16)
      obtain ⟨hm2, hpq⟩ := HMO.out
      subst hm2
      obtain ⟨c0, c1, cc2, c3⟩ := HQ16.out.cells
      obtain ⟨d0, d1, d2, d3⟩ := (Box2.new w16 25 p2 q2).cells
      have HB17 := Lib.hid (HB16.out.alloc HB16.out.size (.cells #[.int .i64 p2, .int .i64 q2] 25))
      clear hB16 HB16 HQ15 HB15 HG15 HOB15
      have hwr : wrap64 ((m : Int) + 1) = ((m + 1 : Nat) : Int) := by simp [wrap64]; omega
      by_cases hm0 : m = 0
      · subst hm0
        unfold encG
        go_wp2_with fail
        go_ret
        exact ⟨rfl, HB17.out⟩
      · have hm0' : ((m : Int) == 0) = false := by simp; omega
        have hpq' : (p2, q2) = (p, q) := by
          rcases hpq with h | h
          · exact absurd h hm0
          · exact h
        cases hpq'
        unfold encG
        go_wp2_with fail
        go_ret
        exact ⟨rfl, HB17.out⟩

end Go.Proofs.Ytljkijolehalcaa
