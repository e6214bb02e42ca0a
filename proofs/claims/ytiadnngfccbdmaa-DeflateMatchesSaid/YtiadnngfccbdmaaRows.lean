/-
  No cell of these rows narrows 'for every input' (looked for: loops, veiled, ifaces, maps, wideKeys, modest, calm, conditions, laid).
  DERIVED. THE GIVEN ROWS OF THIS SEAT. 3 by the template 'for every input the law returns true; each argument reads behind the call as it read before'; 0 by the template 'total and deterministic' (their statements: YtiadnngfccbdmaaTotals.lean).
  GIVEN WITH THE SEED: the statements are not yours to turn. If you find one false, say at which input.
  Laid BY PROGRAM, IN A SANDBOX (cutbox-rows.mjs): the forced cells as the released guide's own fill.sh prints them over the translation 10fe8b0abd9a912d… (all of the seat's roots in one cut). By AI agents, Wed Nov 11 2026. No macro, syntax, notation, axiom, sorry.
-/
import Derived.Test.YtiadnngfccbdmaaChecked
import GoSem.Claim
import GoSem.ClaimJoined
import GoSem.ClaimMapViews
import Derived.JoinedTies
import Derived.KernelRfl
namespace Go.Proofs.Ytiadnngfccbdmaa
/- THE CELL 'sum', in the pinned program and in every row, IS THE sha256 OF THE DUMP (.gsa) THAT YtiadnngfccbdmaaProg.lean LOADS. Nothing in Lean hashes anything: it is a label: what it is worth is what the hold of that sum in a sandbox is worth. -/
noncomputable def Try.pinned : Pinned := { name := "ytiadnngfccbdmaa", sum := "10fe8b0abd9a912def398548bf0356a6bcbd50e99d856ceaabad31cd9e37b371", checked := Try.checked }
namespace Rows
def none {H : Type} : Left H := { results := [], args := [] }

/-- 'stemmalaw7.DeflateMatches': WHATEVER THE INPUT: true; the input reads as it did. -/
def deflateMatchesSpec : ChangeSpec := { name := "deflateMatches", fn := fun _ => fun
  | [d1, d2] => { results := [.lit (.bool true)], args := [d1, d2] }
  | _ => none }
def deflateMatchesRow : OpenClaim := { program := "ytiadnngfccbdmaa", sum := "10fe8b0abd9a912def398548bf0356a6bcbd50e99d856ceaabad31cd9e37b371", func := "stemma/stemmalaw7.DeflateMatches", spec := "deflateMatches", unfollowed := true, recurses := true, apart := false }
def DeflateMatchesSaid : Prop := deflateMatchesRow.holds Try.pinned (OpenSpec.ofChange deflateMatchesSpec)

/-- ITS FALSE NEIGHBOUR: 'it returns false'. Refute it at one input. -/
def deflateMatchesWrong : ChangeSpec := { name := "deflateMatches", fn := fun _ => fun
  | [d1, d2] => { results := [.lit (.bool false)], args := [d1, d2] }
  | _ => none }
def DeflateMatchesWrongFalsely : Prop := deflateMatchesRow.holds Try.pinned (OpenSpec.ofChange deflateMatchesWrong)

/-- 'stemmalaw7.DeflatePairs': WHATEVER THE INPUT: true; the input reads as it did. -/
def deflatePairsSpec : ChangeSpec := { name := "deflatePairs", fn := fun _ => fun
  | [d] => { results := [.lit (.bool true)], args := [d] }
  | _ => none }
def deflatePairsRow : OpenClaim := { program := "ytiadnngfccbdmaa", sum := "10fe8b0abd9a912def398548bf0356a6bcbd50e99d856ceaabad31cd9e37b371", func := "stemma/stemmalaw7.DeflatePairs", spec := "deflatePairs", unfollowed := true, recurses := true, apart := false }
def DeflatePairsSaid : Prop := deflatePairsRow.holds Try.pinned (OpenSpec.ofChange deflatePairsSpec)

/-- ITS FALSE NEIGHBOUR: 'it returns false'. Refute it at one input. -/
def deflatePairsWrong : ChangeSpec := { name := "deflatePairs", fn := fun _ => fun
  | [d] => { results := [.lit (.bool false)], args := [d] }
  | _ => none }
def DeflatePairsWrongFalsely : Prop := deflatePairsRow.holds Try.pinned (OpenSpec.ofChange deflatePairsWrong)

/-- 'stemmalaw7.DeflateRuns': WHATEVER THE INPUT: true; the input reads as it did. -/
def deflateRunsSpec : ChangeSpec := { name := "deflateRuns", fn := fun _ => fun
  | [d1, d2] => { results := [.lit (.bool true)], args := [d1, d2] }
  | _ => none }
def deflateRunsRow : OpenClaim := { program := "ytiadnngfccbdmaa", sum := "10fe8b0abd9a912def398548bf0356a6bcbd50e99d856ceaabad31cd9e37b371", func := "stemma/stemmalaw7.DeflateRuns", spec := "deflateRuns", unfollowed := true, recurses := true, apart := false }
def DeflateRunsSaid : Prop := deflateRunsRow.holds Try.pinned (OpenSpec.ofChange deflateRunsSpec)

/-- ITS FALSE NEIGHBOUR: 'it returns false'. Refute it at one input. -/
def deflateRunsWrong : ChangeSpec := { name := "deflateRuns", fn := fun _ => fun
  | [d1, d2] => { results := [.lit (.bool false)], args := [d1, d2] }
  | _ => none }
def DeflateRunsWrongFalsely : Prop := deflateRunsRow.holds Try.pinned (OpenSpec.ofChange deflateRunsWrong)

/- THE SECOND FORM. 'bulk': how many values and letters a reading holds, each counted each time it is reached (what is shared counts as often as it is met; a slice's spare places count too). A statement '..UptoSaid' is the law's where the arguments, and the package variables that the reading takes, are together of bulk at most 1048576: NARROWER than '..Said'. Prove '..Said' where nothing that the law and all that it calls make is longer than what came in: it says more and counts as full. Else prove '..UptoSaid'. A law counts once. -/
mutual
def uptoBulk {H : Type} : DataW H → Nat
  | .lit (.string bytes) => bytes.length + 1
  | .lit _ => 1
  | .nil => 1
  | .ptr d => uptoBulk d + 1
  | .slice elems spare => uptoBulkAll elems + uptoBulkAll spare + 1
  | .agg parts => uptoBulkAll parts + 1
  | .iface _ d => uptoBulk d + 1
  | .map entries => uptoBulkEntries entries + 1
  | .held _ => 1
def uptoBulkAll {H : Type} : List (DataW H) → Nat
  | [] => 0
  | d :: r => uptoBulk d + uptoBulkAll r
def uptoBulkEntries {H : Type} : List (Lit × DataW H) → Nat
  | [] => 0
  | x :: r => uptoBulkEntry x + uptoBulkEntries r
def uptoBulkEntry {H : Type} : Lit × DataW H → Nat
  | (.string bytes, d) => bytes.length + uptoBulk d + 1
  | (_, d) => uptoBulk d + 1
 end
def uptoSmall : (H : Type) → List (DataW H) → Bool := fun _ ds => decide (uptoBulkAll ds ≤ 1048576)
def OpenSpec.upto (s : _root_.Go.ChangeSpec) : _root_.Go.OpenSpec := { _root_.Go.OpenSpec.ofChange s with cond := some uptoSmall }

/-- 'stemmalaw7.DeflateMatches', WHERE WHAT IT READS IS OF BULK AT MOST 1048576: true; the input reads as it did. -/
def deflateMatchesUptoRow : OpenClaim := { program := "ytiadnngfccbdmaa", sum := "10fe8b0abd9a912def398548bf0356a6bcbd50e99d856ceaabad31cd9e37b371", func := "stemma/stemmalaw7.DeflateMatches", spec := "deflateMatches", unfollowed := true, recurses := true, apart := false, narrowed := true }
def DeflateMatchesUptoSaid : Prop := deflateMatchesUptoRow.holds Try.pinned (OpenSpec.upto deflateMatchesSpec)

/-- 'stemmalaw7.DeflatePairs', WHERE WHAT IT READS IS OF BULK AT MOST 1048576: true; the input reads as it did. -/
def deflatePairsUptoRow : OpenClaim := { program := "ytiadnngfccbdmaa", sum := "10fe8b0abd9a912def398548bf0356a6bcbd50e99d856ceaabad31cd9e37b371", func := "stemma/stemmalaw7.DeflatePairs", spec := "deflatePairs", unfollowed := true, recurses := true, apart := false, narrowed := true }
def DeflatePairsUptoSaid : Prop := deflatePairsUptoRow.holds Try.pinned (OpenSpec.upto deflatePairsSpec)

/-- 'stemmalaw7.DeflateRuns', WHERE WHAT IT READS IS OF BULK AT MOST 1048576: true; the input reads as it did. -/
def deflateRunsUptoRow : OpenClaim := { program := "ytiadnngfccbdmaa", sum := "10fe8b0abd9a912def398548bf0356a6bcbd50e99d856ceaabad31cd9e37b371", func := "stemma/stemmalaw7.DeflateRuns", spec := "deflateRuns", unfollowed := true, recurses := true, apart := false, narrowed := true }
def DeflateRunsUptoSaid : Prop := deflateRunsUptoRow.holds Try.pinned (OpenSpec.upto deflateRunsSpec)

end Rows
end Go.Proofs.Ytiadnngfccbdmaa
