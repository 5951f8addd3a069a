/- Clock: agrees, At and Point, walked. No condition. -/
import Derived.Test.YtkgodolhcoeaeaaCe
namespace Go.Proofs.Ytkgodolhcoeaeaa
open Go.RowKit

def agreesC (l : List Smp) (x r : Int) : Bool := gapsOk l x r && agreeL (gapsL l x r)

set_option maxHeartbeats 4000000 in
theorem agrees_walk (b : Nat) (c : Clk) (v : Value) (x : Int) (w : World) (h : CSt w b c v) (hl : c.list.length ≤ 1000) (hx : inL x) :
    Calls Try.prog 29 #[.pointer (some ⟨b, 0, none⟩), .int .i64 x] w fun e w' => e = .returned (.bool (agreesC c.list x c.rho)) ∧ Below w.heap.size w w' := by
  have hk := gaps_walk b c v x w h hl hx
  have hR : gapsOk c.list x c.rho = true → gapsR c.list x c.rho = gapsL c.list x c.rho := fun h => by unfold gapsR; rw [if_pos h]
  have hL := gapsL_len c.list x c.rho
  unfold agreesC
  generalize gapsOk c.list x c.rho = ok at *
  generalize gapsR c.list x c.rho = gr at *
  generalize gapsL c.list x c.rho = gl at *
  have HR := Lib.hid hR
  have HL := Lib.hid hL
  have HLL := Lib.hid hl
  clear h hR hL hl
  go_enter Try.func29, Try.ntmps29
  go_wp2_with fail
  refine hk.mono ?_
  rintro e w2 ⟨A', n', cap', rfl, hn, hG, hB⟩
  have HB := Lib.hid hB
  have HN := Lib.hid hn
  have HG := Lib.hid hG
  clear hk hB hn hG
  cases ok
  · go_wp2_with fail
    go_ret
    exact ⟨by simp, HB.out⟩
  · have hgr : gr = gl := HR.out rfl
    have hag := agree15 A' n' cap' gl w2 (by rw [HN.out, hgr]) (by rw [HN.out, hgr, HL.out]; exact HLL.out) (by rw [← hgr]; exact HG.out)
    have HAG := Lib.hid hag
    clear hgr hag
    go_wp2_with fail
    refine HAG.out.mono ?_
    rintro e w3 ⟨rfl, hB3⟩
    have HB3 := Lib.hid (HB.out.trans (hB3.mono HB.out.size))
    clear hB3
    go_wp2_with fail
    go_ret
    exact ⟨by simp, HB3.out⟩

/-- What a clock answers of a stamp. -/
def atC (l : List Smp) (x r : Int) : (Int × Int) × Int :=
  if l.length = 0 then ((0, 0), 19) else if timeB x = false then ((0, 0), 11) else if gapsOk l x r = false then ((0, 0), 13) else meetAll (gapsL l x r)

set_option maxHeartbeats 4000000 in
theorem atC_walk (b : Nat) (c : Clk) (v : Value) (x : Int) (w : World) (h : CSt w b c v) (hl : c.list.length ≤ 1000) (hx : inL x) :
    Calls Try.prog 15 #[.pointer (some ⟨b, 0, none⟩), .int .i64 x] w fun e w' => e = .returned (.tuple #[encG (atC c.list x c.rho).1, .int .i64 (atC c.list x c.rho).2]) ∧ Below w.heap.size w w' := by
  have hB0 := (Below.refl w.heap.size w).alloc (Nat.le_refl _) (.cells #[.int .i64 0, .int .i64 0] 26)
  have hk := gaps_walk b c v x (w.alloc (.cells #[.int .i64 0, .int .i64 0] 26)) (h.ext hB0) hl hx
  have hR : gapsOk c.list x c.rho = true → gapsR c.list x c.rho = gapsL c.list x c.rho := fun h => by unfold gapsR; rw [if_pos h]
  have hL := gapsL_len c.list x c.rho
  have hq : atC c.list x c.rho = if c.list.length = 0 then ((0, 0), 19) else if timeB x = false then ((0, 0), 11) else if gapsOk c.list x c.rho = false then ((0, 0), 13) else meetAll (gapsL c.list x c.rho) := rfl
  obtain ⟨A, cap, rfl, hc1, hc2, hG, hnil⟩ := h.row_in
  obtain ⟨c0, c1, c2, c3, c4, c5, c6⟩ := (h.ext hB0).cells
  generalize gapsOk c.list x c.rho = ok at *
  generalize gapsR c.list x c.rho = gr at *
  generalize gapsL c.list x c.rho = gl at *
  generalize atC c.list x c.rho = t at *
  generalize c.list.length = n at *
  have HR := Lib.hid hR
  have HL := Lib.hid hL
  have HQ := Lib.hid hq
  have HK := Lib.hid hk
  have HB := Lib.hid hB0
  have HN := Lib.hid (Box2.new w 26 0 0)
  obtain ⟨g0, g1, g2, g3⟩ := HN.out.cells
  clear h hR hL hq hk hG hnil hc1 hc2 hB0
  go_enter Try.func15, Try.ntmps15
  by_cases h0 : n = 0
  · subst h0
    go_wp2_with fail
    have p2 := HN.out.put 0 0
    obtain ⟨p4, p5⟩ := p2.ret
    exact bodyPost_ret (v := .tuple #[.agg #[.int .i64 0, .int .i64 0], .int .i64 19]) (by simp [results, Try.results15, go_sem, p4, p5]) rfl ⟨by rw [HQ.out]; simp [encG], HB.out⟩
  · have HQ1 := Lib.hid (show t = if timeB x = false then ((0, 0), 11) else if ok = false then ((0, 0), 13) else meetAll gl by rw [HQ.out, if_neg h0])
    have h0b : ((n : Int) == 0) = false := by simpa using h0
    clear HQ
    go_wp2_with fail
    refine (isTime_walk x _).mono ?_
    rintro e w1 ⟨rfl, rfl⟩
    cases htx : timeB x
    · have HTX := Lib.hid htx
      clear htx
      go_wp2_with fail
      have p2 := HN.out.put 0 0
      obtain ⟨p4, p5⟩ := p2.ret
      exact bodyPost_ret (v := .tuple #[.agg #[.int .i64 0, .int .i64 0], .int .i64 11]) (by simp [results, Try.results15, go_sem, p4, p5]) rfl ⟨by rw [HQ1.out, HTX.out]; simp [encG], HB.out⟩
    · have HQ2 := Lib.hid (show t = if ok = false then ((0, 0), 13) else meetAll gl by rw [HQ1.out, htx]; simp)
      clear HQ1 htx
      go_wp2_with fail
      refine HK.out.mono ?_
      rintro e w2 ⟨A', n', cap', rfl, hn, hG, hB⟩
      have HN2 := Lib.hid (HN.out.ext hB)
      have HB2 := Lib.hid (HB.out.trans (hB.mono HB.out.size))
      have HNN := Lib.hid hn
      have HG := Lib.hid hG
      obtain ⟨g0', g1', g2', g3'⟩ := HN2.out.cells
      clear HK hB hn hG g0 g1 g2 g3 HN HB c0 c1 c2 c3 c4 c5 c6
      cases ok
      · have HQ3 := Lib.hid (show t = ((0, 0), 13) by rw [HQ2.out]; simp)
        clear HQ2
        go_wp2_with fail
        have p2 := HN2.out.put 0 0
        obtain ⟨p4, p5⟩ := p2.ret
        exact bodyPost_ret (v := .tuple #[.agg #[.int .i64 0, .int .i64 0], .int .i64 13]) (by simp [results, Try.results15, go_sem, p4, p5]) rfl ⟨by rw [HQ3.out]; simp [encG], below_put HB2.out (Nat.le_refl _) 0 0⟩
      · have HQ3 := Lib.hid (show t = meetAll gl by rw [HQ2.out]; simp)
        have hgr : gr = gl := HR.out rfl
        have hme := meet21 A' n' cap' gl w2 (by rw [HNN.out, hgr]) (by rw [HNN.out, hgr, HL.out]; exact hl) (by rw [← hgr]; exact HG.out)
        rw [← HQ3.out] at hme
        have HME := Lib.hid hme
        clear hgr hme HQ2
        obtain ⟨⟨z1, z2⟩, z3⟩ := t
        unfold encG at HME
        simp only at HME
        go_wp2_with fail
        refine HME.out.mono ?_
        rintro e w3 ⟨rfl, hB3⟩
        have HN3 := Lib.hid (HN2.out.ext hB3)
        have HB3 := Lib.hid (HB2.out.trans (hB3.mono HB2.out.size))
        obtain ⟨f0, f1, f2, f3⟩ := HN3.out.cells
        clear hB3 HN2 HB2 HME g0' g1' g2' g3'
        go_wp2_with fail
        have p2 := HN3.out.put z1 z2
        obtain ⟨p4, p5⟩ := p2.ret
        exact bodyPost_ret (v := .tuple #[.agg #[.int .i64 z1, .int .i64 z2], .int .i64 z3]) (by simp [results, Try.results15, go_sem, p4, p5]) rfl ⟨rfl, below_put HB3.out (Nat.le_refl _) z1 z2⟩

def midG (g : Int × Int) : Int := g.1 + (g.2 - g.1) / 2

set_option maxHeartbeats 4000000 in
theorem point_walk (b : Nat) (c : Clk) (v : Value) (x : Int) (w : World) (h : CSt w b c v) (hl : c.list.length ≤ 1000) (hx : inL x)
    (h1 : -9223372036854775808 ≤ (atC c.list x c.rho).1.1) (h2 : (atC c.list x c.rho).1.2 ≤ 9223372036854775807) (h3 : (atC c.list x c.rho).1.1 ≤ (atC c.list x c.rho).1.2) :
    Calls Try.prog 20 #[.pointer (some ⟨b, 0, none⟩), .int .i64 x] w fun e w' => e = .returned (.tuple #[.int .i64 (midG (atC c.list x c.rho).1), .int .i64 (atC c.list x c.rho).2]) ∧ Below w.heap.size w w' := by
  have hk := atC_walk b c v x w h hl hx
  generalize atC c.list x c.rho = t at *
  obtain ⟨⟨z1, z2⟩, z3⟩ := t
  unfold encG at hk
  simp only at h1 h2 h3 hk
  have HK := Lib.hid hk
  have hm := fun w => mid20 (z1, z2) w h1 h2 h3
  have HM := Lib.hid hm
  unfold encG at HM
  simp only at HM
  clear h hk hm
  unfold midG
  go_enter Try.func20, Try.ntmps20
  go_wp2_with fail
  refine HK.out.mono ?_
  rintro e w2 ⟨rfl, hB⟩
  have HB := Lib.hid (hB.alloc hB.size (.cells #[.int .i64 z1, .int .i64 z2] 26))
  obtain ⟨g0, g1, g2, g3⟩ := (Box2.new w2 26 z1 z2).cells
  clear hB HK
  go_wp2_with fail
  refine (HM.out _).mono ?_
  rintro e w3 ⟨rfl, hB3⟩
  have HB3 := Lib.hid (HB.out.trans (hB3.mono HB.out.size))
  clear hB3
  go_wp2_with fail
  go_ret2
  exact ⟨rfl, HB3.out⟩

end Go.Proofs.Ytkgodolhcoeaeaa
