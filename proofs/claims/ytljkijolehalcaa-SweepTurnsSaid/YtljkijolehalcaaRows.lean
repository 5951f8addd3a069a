/-
  No cell of these rows narrows 'for every input' (looked for: loops, veiled, ifaces, maps, wideKeys, modest, calm, conditions, laid).
  DERIVED. THE GIVEN ROWS OF THIS SEAT. 4 by the template 'for every input the law returns true; each argument reads behind the call as it read before'; 0 by the template 'total and deterministic' (their statements: YtljkijolehalcaaTotals.lean).
  GIVEN WITH THE SEED: the statements are not yours to turn. If you find one false, say at which input.
  Laid BY PROGRAM, IN A SANDBOX (cutbox-rows.mjs): the forced cells as the released guide's own fill.sh prints them over the translation b2a20573dc512ec4… (all of the seat's roots in one cut). By AI agents, Wed Nov 11 2026. No macro, syntax, notation, axiom, sorry.
-/
import Derived.Test.YtljkijolehalcaaChecked
import GoSem.Claim
import GoSem.ClaimJoined
import GoSem.ClaimMapViews
import Derived.JoinedTies
import Derived.KernelRfl
namespace Go.Proofs.Ytljkijolehalcaa
/- THE CELL 'sum', in the pinned program and in every row, IS THE sha256 OF THE DUMP (.gsa) THAT YtljkijolehalcaaProg.lean LOADS. Nothing in Lean hashes anything: it is a label: what it is worth is what the hold of that sum in a sandbox is worth. -/
noncomputable def Try.pinned : Pinned := { name := "ytljkijolehalcaa", sum := "b2a20573dc512ec445104dbed0949dfa2289bd71aeea93970a6bd9f9f7f1a408", checked := Try.checked }
namespace Rows
def none {H : Type} : Left H := { results := [], args := [] }

/-- 'noonmarklaw17.SweepAnswers': WHATEVER THE INPUT: true; the input reads as it did. -/
def sweepAnswersSpec : ChangeSpec := { name := "sweepAnswers", fn := fun _ => fun
  | [d1, d2, d3] => { results := [.lit (.bool true)], args := [d1, d2, d3] }
  | _ => none }
def sweepAnswersRow : OpenClaim := { program := "ytljkijolehalcaa", sum := "b2a20573dc512ec445104dbed0949dfa2289bd71aeea93970a6bd9f9f7f1a408", func := "noonmark/noonmarklaw17.SweepAnswers", spec := "sweepAnswers", unfollowed := true, recurses := true, apart := false }
def SweepAnswersSaid : Prop := sweepAnswersRow.holds Try.pinned (OpenSpec.ofChange sweepAnswersSpec)

/-- ITS FALSE NEIGHBOUR: 'it returns false'. Refute it at one input. -/
def sweepAnswersWrong : ChangeSpec := { name := "sweepAnswers", fn := fun _ => fun
  | [d1, d2, d3] => { results := [.lit (.bool false)], args := [d1, d2, d3] }
  | _ => none }
def SweepAnswersWrongFalsely : Prop := sweepAnswersRow.holds Try.pinned (OpenSpec.ofChange sweepAnswersWrong)

/-- 'noonmarklaw17.SweepTurns': WHATEVER THE INPUT: true; the input reads as it did. -/
def sweepTurnsSpec : ChangeSpec := { name := "sweepTurns", fn := fun _ => fun
  | [d1, d2, d3] => { results := [.lit (.bool true)], args := [d1, d2, d3] }
  | _ => none }
def sweepTurnsRow : OpenClaim := { program := "ytljkijolehalcaa", sum := "b2a20573dc512ec445104dbed0949dfa2289bd71aeea93970a6bd9f9f7f1a408", func := "noonmark/noonmarklaw17.SweepTurns", spec := "sweepTurns", unfollowed := true, recurses := true, apart := false }
def SweepTurnsSaid : Prop := sweepTurnsRow.holds Try.pinned (OpenSpec.ofChange sweepTurnsSpec)

/-- ITS FALSE NEIGHBOUR: 'it returns false'. Refute it at one input. -/
def sweepTurnsWrong : ChangeSpec := { name := "sweepTurns", fn := fun _ => fun
  | [d1, d2, d3] => { results := [.lit (.bool false)], args := [d1, d2, d3] }
  | _ => none }
def SweepTurnsWrongFalsely : Prop := sweepTurnsRow.holds Try.pinned (OpenSpec.ofChange sweepTurnsWrong)

/-- 'noonmarklaw17.SweepTruth': WHATEVER THE INPUT: true; the input reads as it did. -/
def sweepTruthSpec : ChangeSpec := { name := "sweepTruth", fn := fun _ => fun
  | [d1, d2, d3] => { results := [.lit (.bool true)], args := [d1, d2, d3] }
  | _ => none }
def sweepTruthRow : OpenClaim := { program := "ytljkijolehalcaa", sum := "b2a20573dc512ec445104dbed0949dfa2289bd71aeea93970a6bd9f9f7f1a408", func := "noonmark/noonmarklaw17.SweepTruth", spec := "sweepTruth", unfollowed := true, recurses := true, apart := false }
def SweepTruthSaid : Prop := sweepTruthRow.holds Try.pinned (OpenSpec.ofChange sweepTruthSpec)

/-- ITS FALSE NEIGHBOUR: 'it returns false'. Refute it at one input. -/
def sweepTruthWrong : ChangeSpec := { name := "sweepTruth", fn := fun _ => fun
  | [d1, d2, d3] => { results := [.lit (.bool false)], args := [d1, d2, d3] }
  | _ => none }
def SweepTruthWrongFalsely : Prop := sweepTruthRow.holds Try.pinned (OpenSpec.ofChange sweepTruthWrong)

/-- 'noonmarklaw17.SweepMost': WHATEVER THE INPUT: true; the input reads as it did. -/
def sweepMostSpec : ChangeSpec := { name := "sweepMost", fn := fun _ => fun
  | [d1, d2] => { results := [.lit (.bool true)], args := [d1, d2] }
  | _ => none }
def sweepMostRow : OpenClaim := { program := "ytljkijolehalcaa", sum := "b2a20573dc512ec445104dbed0949dfa2289bd71aeea93970a6bd9f9f7f1a408", func := "noonmark/noonmarklaw17.SweepMost", spec := "sweepMost", unfollowed := true, recurses := true, apart := false }
def SweepMostSaid : Prop := sweepMostRow.holds Try.pinned (OpenSpec.ofChange sweepMostSpec)

/-- ITS FALSE NEIGHBOUR: 'it returns false'. Refute it at one input. -/
def sweepMostWrong : ChangeSpec := { name := "sweepMost", fn := fun _ => fun
  | [d1, d2] => { results := [.lit (.bool false)], args := [d1, d2] }
  | _ => none }
def SweepMostWrongFalsely : Prop := sweepMostRow.holds Try.pinned (OpenSpec.ofChange sweepMostWrong)

/- THE SECOND FORM. 'bulk': how many values and letters a reading holds, each counted each time it is reached (what is shared counts as often as it is met; a slice's spare places count too). A statement '..UptoSaid' is the law's where the arguments, and the package variables that the reading takes, are together of bulk at most 1048576: NARROWER than '..Said'. Prove '..Said' where nothing that the law and all that it calls make is longer than what came in: it says more and counts as full. Else prove '..UptoSaid'. A law counts once. -/
mutual
def uptoBulk {H : Type} : DataW H → Nat
  | .lit (.string bytes) => bytes.length + 1
  | .lit _ => 1
  | .nil => 1
  | .ptr d => uptoBulk d + 1
  | .slice elems spare => uptoBulkAll elems + uptoBulkAll spare + 1
  | .agg parts => uptoBulkAll parts + 1
  | .iface _ d => uptoBulk d + 1
  | .map entries => uptoBulkEntries entries + 1
  | .held _ => 1
def uptoBulkAll {H : Type} : List (DataW H) → Nat
  | [] => 0
  | d :: r => uptoBulk d + uptoBulkAll r
def uptoBulkEntries {H : Type} : List (Lit × DataW H) → Nat
  | [] => 0
  | x :: r => uptoBulkEntry x + uptoBulkEntries r
def uptoBulkEntry {H : Type} : Lit × DataW H → Nat
  | (.string bytes, d) => bytes.length + uptoBulk d + 1
  | (_, d) => uptoBulk d + 1
 end
def uptoSmall : (H : Type) → List (DataW H) → Bool := fun _ ds => decide (uptoBulkAll ds ≤ 1048576)
def OpenSpec.upto (s : _root_.Go.ChangeSpec) : _root_.Go.OpenSpec := { _root_.Go.OpenSpec.ofChange s with cond := some uptoSmall }

/-- 'noonmarklaw17.SweepAnswers', WHERE WHAT IT READS IS OF BULK AT MOST 1048576: true; the input reads as it did. -/
def sweepAnswersUptoRow : OpenClaim := { program := "ytljkijolehalcaa", sum := "b2a20573dc512ec445104dbed0949dfa2289bd71aeea93970a6bd9f9f7f1a408", func := "noonmark/noonmarklaw17.SweepAnswers", spec := "sweepAnswers", unfollowed := true, recurses := true, apart := false, narrowed := true }
def SweepAnswersUptoSaid : Prop := sweepAnswersUptoRow.holds Try.pinned (OpenSpec.upto sweepAnswersSpec)

/-- 'noonmarklaw17.SweepTurns', WHERE WHAT IT READS IS OF BULK AT MOST 1048576: true; the input reads as it did. -/
def sweepTurnsUptoRow : OpenClaim := { program := "ytljkijolehalcaa", sum := "b2a20573dc512ec445104dbed0949dfa2289bd71aeea93970a6bd9f9f7f1a408", func := "noonmark/noonmarklaw17.SweepTurns", spec := "sweepTurns", unfollowed := true, recurses := true, apart := false, narrowed := true }
def SweepTurnsUptoSaid : Prop := sweepTurnsUptoRow.holds Try.pinned (OpenSpec.upto sweepTurnsSpec)

/-- 'noonmarklaw17.SweepTruth', WHERE WHAT IT READS IS OF BULK AT MOST 1048576: true; the input reads as it did. -/
def sweepTruthUptoRow : OpenClaim := { program := "ytljkijolehalcaa", sum := "b2a20573dc512ec445104dbed0949dfa2289bd71aeea93970a6bd9f9f7f1a408", func := "noonmark/noonmarklaw17.SweepTruth", spec := "sweepTruth", unfollowed := true, recurses := true, apart := false, narrowed := true }
def SweepTruthUptoSaid : Prop := sweepTruthUptoRow.holds Try.pinned (OpenSpec.upto sweepTruthSpec)

/-- 'noonmarklaw17.SweepMost', WHERE WHAT IT READS IS OF BULK AT MOST 1048576: true; the input reads as it did. -/
def sweepMostUptoRow : OpenClaim := { program := "ytljkijolehalcaa", sum := "b2a20573dc512ec445104dbed0949dfa2289bd71aeea93970a6bd9f9f7f1a408", func := "noonmark/noonmarklaw17.SweepMost", spec := "sweepMost", unfollowed := true, recurses := true, apart := false, narrowed := true }
def SweepMostUptoSaid : Prop := sweepMostUptoRow.holds Try.pinned (OpenSpec.upto sweepMostSpec)

end Rows
end Go.Proofs.Ytljkijolehalcaa
