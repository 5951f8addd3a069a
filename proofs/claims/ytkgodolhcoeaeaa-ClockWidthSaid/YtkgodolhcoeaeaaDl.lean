/- Clock: the shelf's contract of bits.Mul64 laid at this program (printed by lay-plain.mjs, then named). No condition. -/
import Derived.Shelf.SlGeneric
import Derived.Shelf.Bits.Mul64
import Derived.Ground.NamesProg
import Derived.Test.YtkgodolhcoeaeaaProg
namespace Go.Proofs
open Go.Shelf
def Try.mul64_ren : Go.Shelf.Ren := ⟨fun | 264 => 51 | n => n, fun | 53 => 68 | 46 => 78 | n => n, fun | n => n⟩
theorem Try.mul64 : Go.Proofs.Lays.n264 Try.prog Try.mul64_ren := {
  mixed := by kernel_rfl
  f264 := Try.func51.trans (congrArg some (by kernel_rfl))
  t46 := Try.underlying78
  a46 := Try.isAgg78
  z46 := Try.sizeOf78
  v46 := Try.zeroValue78
  t53 := Try.underlying68
  a53 := Try.isAgg68
  z53 := Try.sizeOf68
  v53 := Try.zeroValue68 }
end Go.Proofs
