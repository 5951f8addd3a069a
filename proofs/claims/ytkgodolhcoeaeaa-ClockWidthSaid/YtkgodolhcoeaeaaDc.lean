/- Drift: the plain law of bits.Div64 at divisors of 20 and 21 bits. No condition. -/
namespace Go.Proofs.Ytkgodolhcoeaeaa

theorem ediv_of {N y Q R : Int} (h : N = Q * y + R) (h0 : 0 ≤ R) (h1 : R < y) : N / y = Q ∧ N % y = R := by
  have hy : 0 < y := by omega
  have := (Int.ediv_emod_unique (a := N) (b := y) (r := R) (q := Q) hy).2 ⟨by rw [Int.mul_comm y Q]; omega, h0, h1⟩
  exact this

/-- The parts of Knuth's division, where the divisor's lower half is 0 once it is moved up by 44. -/
theorem div44 {hi lo y q1 rh q0 r0 : Int} (e1 : hi * 17592186044416 + lo / 1048576 = q1 * y * 4096 + rh) (e2 : rh * 4294967296 + lo % 1048576 * 4096 = q0 * y * 4096 + r0) (h0 : 0 ≤ r0) (h1 : r0 < y * 4096) :
    (hi * 18446744073709551616 + lo) / y = q1 * 4294967296 + q0 ∧ (hi * 18446744073709551616 + lo) % y = r0 / 4096 := by
  refine ediv_of ?_ (by omega) (by omega)
  rw [Int.add_mul, Int.mul_right_comm]
  generalize q1 * y = a at *
  generalize q0 * y = b at *
  omega

theorem div43 {hi lo y q1 rh q0 r0 : Int} (e1 : hi * 8796093022208 + lo / 2097152 = q1 * y * 2048 + rh) (e2 : rh * 4294967296 + lo % 2097152 * 2048 = q0 * y * 2048 + r0) (h0 : 0 ≤ r0) (h1 : r0 < y * 2048) :
    (hi * 18446744073709551616 + lo) / y = q1 * 4294967296 + q0 ∧ (hi * 18446744073709551616 + lo) % y = r0 / 2048 := by
  refine ediv_of ?_ (by omega) (by omega)
  rw [Int.add_mul, Int.mul_right_comm]
  generalize q1 * y = a at *
  generalize q0 * y = b at *
  omega

end Go.Proofs.Ytkgodolhcoeaeaa
