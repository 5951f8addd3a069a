/- Nonces as keys of a map. -/
import Derived.Test.YthhgcoapohgiiaaPg
namespace Go.Proofs.Ythhgcoapohgiiaa
open Go.RowKit

def encN (x : Int × Int) : Value := .agg #[.int .i64 x.1, .int .i64 x.2]

theorem encN_inj {x y : Int × Int} (h : encN x = encN y) : x = y := by
  simp only [encN, Value.agg.injEq] at h
  have h1 := congrArg (fun a : Array Value => a.toList) h
  simp only [List.cons.injEq, Value.int.injEq, true_and, and_true] at h1
  exact Prod.ext h1.1 h1.2

theorem encN_same (x : Int × Int) : Instr.sameBits 10000 (encN x) (encN x) = true := by
  show Instr.sameBits (9999 + 1) _ _ = true
  simp only [encN]
  rw [Instr.sameBits]
  simp [Instr.sameBits]

theorem encN_equal (w : World) (x y : Int × Int) : (Op.equal 31 (encN x) (encN y)).run Try.prog w = .ok (decide (x = y)) w := by
  have : (Op.equal 31 (encN x) (encN y)).run Try.prog w = (Op.equalIn (9999 + 1) 31 (encN x) (encN y)).run Try.prog w := rfl
  rw [this]
  simp only [encN]
  rw [run_equalIn_struct _ _ _ _ _ (by kernel_rfl) (by kernel_rfl)]
  simp [go_sem]
  by_cases h1 : x.1 = y.1
  · by_cases h2 : x.2 = y.2
    · rw [if_pos h1, if_pos h2, decide_eq_true (Prod.ext h1 h2)]
    · rw [if_pos h1, if_neg h2, decide_eq_false (fun e => h2 (by rw [e]))]
  · rw [if_neg h1, decide_eq_false (fun e => h1 (by rw [e]))]

theorem encN_check (w : World) (em : Bool) (x : Int × Int) : (Instr.checkKey em 10000 31 (encN x)).run Try.prog w = .ok () w := by
  show (Instr.checkKey em (9999 + 1) 31 _).run Try.prog w = _
  simp only [encN]
  rw [Instr.checkKey]
  have h := fun (W : World) (n : Int) => check_int (P := Try.prog) (q := .i64) Try.underlying2 W em 9998 n
  simp only [Nat.reduceAdd] at h
  simp [run_underlying Try.underlying31, go_sem, h]

theorem mkey31 : MKey Try.prog 31 encN := MKey.struct Try.underlying31 (fun _ => ⟨_, rfl⟩) encN_check encN_equal encN_inj encN_same

end Go.Proofs.Ythhgcoapohgiiaa
