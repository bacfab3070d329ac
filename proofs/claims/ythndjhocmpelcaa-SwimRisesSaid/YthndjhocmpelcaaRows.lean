/-
  No cell of these rows narrows 'for every input' (looked for: loops, veiled, ifaces, maps, wideKeys, modest, calm, conditions, laid).
  DERIVED. THE GIVEN ROWS OF THIS SEAT. 6 by the template 'for every input the law returns true; each argument reads behind the call as it read before'; 0 by the template 'total and deterministic' (their statements: YthndjhocmpelcaaTotals.lean).
  GIVEN WITH THE SEED: the statements are not yours to turn. If you find one false, say at which input.
  Laid BY PROGRAM, IN A SANDBOX (cutbox-rows.mjs): the forced cells as the released guide's own fill.sh prints them over the translation 47406d73967518fb… (all of the seat's roots in one cut). By AI agents, Wed Nov 11 2026. No macro, syntax, notation, axiom, sorry.
-/
import Derived.Test.YthndjhocmpelcaaChecked
import GoSem.Claim
import GoSem.ClaimJoined
import GoSem.ClaimMapViews
import Derived.JoinedTies
import Derived.KernelRfl
namespace Go.Proofs.Ythndjhocmpelcaa
/- THE CELL 'sum', in the pinned program and in every row, IS THE sha256 OF THE DUMP (.gsa) THAT YthndjhocmpelcaaProg.lean LOADS. Nothing in Lean hashes anything: it is a label: what it is worth is what the hold of that sum in a sandbox is worth. -/
noncomputable def Try.pinned : Pinned := { name := "ythndjhocmpelcaa", sum := "47406d73967518fb79b0af7c871060a4a5989e4aa389bfd8a958622699dfd40f", checked := Try.checked }
namespace Rows
def none {H : Type} : Left H := { results := [], args := [] }

/-- 'starlinglaw6.SwimAnswers': WHATEVER THE INPUT: true; the input reads as it did. -/
def swimAnswersSpec : ChangeSpec := { name := "swimAnswers", fn := fun _ => fun
  | [d1, d2, d3, d4, d5] => { results := [.lit (.bool true)], args := [d1, d2, d3, d4, d5] }
  | _ => none }
def swimAnswersRow : OpenClaim := { program := "ythndjhocmpelcaa", sum := "47406d73967518fb79b0af7c871060a4a5989e4aa389bfd8a958622699dfd40f", func := "starling/starlinglaw6.SwimAnswers", spec := "swimAnswers", unfollowed := true, recurses := true, apart := false }
def SwimAnswersSaid : Prop := swimAnswersRow.holds Try.pinned (OpenSpec.ofChange swimAnswersSpec)

/-- ITS FALSE NEIGHBOUR: 'it returns false'. Refute it at one input. -/
def swimAnswersWrong : ChangeSpec := { name := "swimAnswers", fn := fun _ => fun
  | [d1, d2, d3, d4, d5] => { results := [.lit (.bool false)], args := [d1, d2, d3, d4, d5] }
  | _ => none }
def SwimAnswersWrongFalsely : Prop := swimAnswersRow.holds Try.pinned (OpenSpec.ofChange swimAnswersWrong)

/-- 'starlinglaw6.SwimDoubts': WHATEVER THE INPUT: true; the input reads as it did. -/
def swimDoubtsSpec : ChangeSpec := { name := "swimDoubts", fn := fun _ => fun
  | [d1, d2] => { results := [.lit (.bool true)], args := [d1, d2] }
  | _ => none }
def swimDoubtsRow : OpenClaim := { program := "ythndjhocmpelcaa", sum := "47406d73967518fb79b0af7c871060a4a5989e4aa389bfd8a958622699dfd40f", func := "starling/starlinglaw6.SwimDoubts", spec := "swimDoubts", unfollowed := true, recurses := true, apart := false }
def SwimDoubtsSaid : Prop := swimDoubtsRow.holds Try.pinned (OpenSpec.ofChange swimDoubtsSpec)

/-- ITS FALSE NEIGHBOUR: 'it returns false'. Refute it at one input. -/
def swimDoubtsWrong : ChangeSpec := { name := "swimDoubts", fn := fun _ => fun
  | [d1, d2] => { results := [.lit (.bool false)], args := [d1, d2] }
  | _ => none }
def SwimDoubtsWrongFalsely : Prop := swimDoubtsRow.holds Try.pinned (OpenSpec.ofChange swimDoubtsWrong)

/-- 'starlinglaw6.SwimTells': WHATEVER THE INPUT: true; the input reads as it did. -/
def swimTellsSpec : ChangeSpec := { name := "swimTells", fn := fun _ => fun
  | [d1, d2, d3] => { results := [.lit (.bool true)], args := [d1, d2, d3] }
  | _ => none }
def swimTellsRow : OpenClaim := { program := "ythndjhocmpelcaa", sum := "47406d73967518fb79b0af7c871060a4a5989e4aa389bfd8a958622699dfd40f", func := "starling/starlinglaw6.SwimTells", spec := "swimTells", unfollowed := true, recurses := true, apart := false }
def SwimTellsSaid : Prop := swimTellsRow.holds Try.pinned (OpenSpec.ofChange swimTellsSpec)

/-- ITS FALSE NEIGHBOUR: 'it returns false'. Refute it at one input. -/
def swimTellsWrong : ChangeSpec := { name := "swimTells", fn := fun _ => fun
  | [d1, d2, d3] => { results := [.lit (.bool false)], args := [d1, d2, d3] }
  | _ => none }
def SwimTellsWrongFalsely : Prop := swimTellsRow.holds Try.pinned (OpenSpec.ofChange swimTellsWrong)

/-- 'starlinglaw6.SwimLeaves': WHATEVER THE INPUT: true; the input reads as it did. -/
def swimLeavesSpec : ChangeSpec := { name := "swimLeaves", fn := fun _ => fun
  | [d] => { results := [.lit (.bool true)], args := [d] }
  | _ => none }
def swimLeavesRow : OpenClaim := { program := "ythndjhocmpelcaa", sum := "47406d73967518fb79b0af7c871060a4a5989e4aa389bfd8a958622699dfd40f", func := "starling/starlinglaw6.SwimLeaves", spec := "swimLeaves", unfollowed := true, recurses := true, apart := false }
def SwimLeavesSaid : Prop := swimLeavesRow.holds Try.pinned (OpenSpec.ofChange swimLeavesSpec)

/-- ITS FALSE NEIGHBOUR: 'it returns false'. Refute it at one input. -/
def swimLeavesWrong : ChangeSpec := { name := "swimLeaves", fn := fun _ => fun
  | [d] => { results := [.lit (.bool false)], args := [d] }
  | _ => none }
def SwimLeavesWrongFalsely : Prop := swimLeavesRow.holds Try.pinned (OpenSpec.ofChange swimLeavesWrong)

/-- 'starlinglaw6.SwimRises': WHATEVER THE INPUT: true; the input reads as it did. -/
def swimRisesSpec : ChangeSpec := { name := "swimRises", fn := fun _ => fun
  | [d1, d2, d3] => { results := [.lit (.bool true)], args := [d1, d2, d3] }
  | _ => none }
def swimRisesRow : OpenClaim := { program := "ythndjhocmpelcaa", sum := "47406d73967518fb79b0af7c871060a4a5989e4aa389bfd8a958622699dfd40f", func := "starling/starlinglaw6.SwimRises", spec := "swimRises", unfollowed := true, recurses := true, apart := false }
def SwimRisesSaid : Prop := swimRisesRow.holds Try.pinned (OpenSpec.ofChange swimRisesSpec)

/-- ITS FALSE NEIGHBOUR: 'it returns false'. Refute it at one input. -/
def swimRisesWrong : ChangeSpec := { name := "swimRises", fn := fun _ => fun
  | [d1, d2, d3] => { results := [.lit (.bool false)], args := [d1, d2, d3] }
  | _ => none }
def SwimRisesWrongFalsely : Prop := swimRisesRow.holds Try.pinned (OpenSpec.ofChange swimRisesWrong)

/-- 'starlinglaw6.SwimNil': WHATEVER THE INPUT: true; the input reads as it did. -/
def swimNilSpec : ChangeSpec := { name := "swimNil", fn := fun _ => fun
  | [d] => { results := [.lit (.bool true)], args := [d] }
  | _ => none }
def swimNilRow : OpenClaim := { program := "ythndjhocmpelcaa", sum := "47406d73967518fb79b0af7c871060a4a5989e4aa389bfd8a958622699dfd40f", func := "starling/starlinglaw6.SwimNil", spec := "swimNil", unfollowed := true, recurses := true, apart := false }
def SwimNilSaid : Prop := swimNilRow.holds Try.pinned (OpenSpec.ofChange swimNilSpec)

/-- ITS FALSE NEIGHBOUR: 'it returns false'. Refute it at one input. -/
def swimNilWrong : ChangeSpec := { name := "swimNil", fn := fun _ => fun
  | [d] => { results := [.lit (.bool false)], args := [d] }
  | _ => none }
def SwimNilWrongFalsely : Prop := swimNilRow.holds Try.pinned (OpenSpec.ofChange swimNilWrong)

/- THE SECOND FORM. 'bulk': how many values and letters a reading holds, each counted each time it is reached (what is shared counts as often as it is met; a slice's spare places count too). A statement '..UptoSaid' is the law's where the arguments, and the package variables that the reading takes, are together of bulk at most 1048576: NARROWER than '..Said'. Prove '..Said' where nothing that the law and all that it calls make is longer than what came in: it says more and counts as full. Else prove '..UptoSaid'. A law counts once. -/
mutual
def uptoBulk {H : Type} : DataW H → Nat
  | .lit (.string bytes) => bytes.length + 1
  | .lit _ => 1
  | .nil => 1
  | .ptr d => uptoBulk d + 1
  | .slice elems spare => uptoBulkAll elems + uptoBulkAll spare + 1
  | .agg parts => uptoBulkAll parts + 1
  | .iface _ d => uptoBulk d + 1
  | .map entries => uptoBulkEntries entries + 1
  | .held _ => 1
def uptoBulkAll {H : Type} : List (DataW H) → Nat
  | [] => 0
  | d :: r => uptoBulk d + uptoBulkAll r
def uptoBulkEntries {H : Type} : List (Lit × DataW H) → Nat
  | [] => 0
  | x :: r => uptoBulkEntry x + uptoBulkEntries r
def uptoBulkEntry {H : Type} : Lit × DataW H → Nat
  | (.string bytes, d) => bytes.length + uptoBulk d + 1
  | (_, d) => uptoBulk d + 1
 end
def uptoSmall : (H : Type) → List (DataW H) → Bool := fun _ ds => decide (uptoBulkAll ds ≤ 1048576)
def OpenSpec.upto (s : _root_.Go.ChangeSpec) : _root_.Go.OpenSpec := { _root_.Go.OpenSpec.ofChange s with cond := some uptoSmall }

/-- 'starlinglaw6.SwimAnswers', WHERE WHAT IT READS IS OF BULK AT MOST 1048576: true; the input reads as it did. -/
def swimAnswersUptoRow : OpenClaim := { program := "ythndjhocmpelcaa", sum := "47406d73967518fb79b0af7c871060a4a5989e4aa389bfd8a958622699dfd40f", func := "starling/starlinglaw6.SwimAnswers", spec := "swimAnswers", unfollowed := true, recurses := true, apart := false, narrowed := true }
def SwimAnswersUptoSaid : Prop := swimAnswersUptoRow.holds Try.pinned (OpenSpec.upto swimAnswersSpec)

/-- 'starlinglaw6.SwimDoubts', WHERE WHAT IT READS IS OF BULK AT MOST 1048576: true; the input reads as it did. -/
def swimDoubtsUptoRow : OpenClaim := { program := "ythndjhocmpelcaa", sum := "47406d73967518fb79b0af7c871060a4a5989e4aa389bfd8a958622699dfd40f", func := "starling/starlinglaw6.SwimDoubts", spec := "swimDoubts", unfollowed := true, recurses := true, apart := false, narrowed := true }
def SwimDoubtsUptoSaid : Prop := swimDoubtsUptoRow.holds Try.pinned (OpenSpec.upto swimDoubtsSpec)

/-- 'starlinglaw6.SwimTells', WHERE WHAT IT READS IS OF BULK AT MOST 1048576: true; the input reads as it did. -/
def swimTellsUptoRow : OpenClaim := { program := "ythndjhocmpelcaa", sum := "47406d73967518fb79b0af7c871060a4a5989e4aa389bfd8a958622699dfd40f", func := "starling/starlinglaw6.SwimTells", spec := "swimTells", unfollowed := true, recurses := true, apart := false, narrowed := true }
def SwimTellsUptoSaid : Prop := swimTellsUptoRow.holds Try.pinned (OpenSpec.upto swimTellsSpec)

/-- 'starlinglaw6.SwimLeaves', WHERE WHAT IT READS IS OF BULK AT MOST 1048576: true; the input reads as it did. -/
def swimLeavesUptoRow : OpenClaim := { program := "ythndjhocmpelcaa", sum := "47406d73967518fb79b0af7c871060a4a5989e4aa389bfd8a958622699dfd40f", func := "starling/starlinglaw6.SwimLeaves", spec := "swimLeaves", unfollowed := true, recurses := true, apart := false, narrowed := true }
def SwimLeavesUptoSaid : Prop := swimLeavesUptoRow.holds Try.pinned (OpenSpec.upto swimLeavesSpec)

/-- 'starlinglaw6.SwimRises', WHERE WHAT IT READS IS OF BULK AT MOST 1048576: true; the input reads as it did. -/
def swimRisesUptoRow : OpenClaim := { program := "ythndjhocmpelcaa", sum := "47406d73967518fb79b0af7c871060a4a5989e4aa389bfd8a958622699dfd40f", func := "starling/starlinglaw6.SwimRises", spec := "swimRises", unfollowed := true, recurses := true, apart := false, narrowed := true }
def SwimRisesUptoSaid : Prop := swimRisesUptoRow.holds Try.pinned (OpenSpec.upto swimRisesSpec)

/-- 'starlinglaw6.SwimNil', WHERE WHAT IT READS IS OF BULK AT MOST 1048576: true; the input reads as it did. -/
def swimNilUptoRow : OpenClaim := { program := "ythndjhocmpelcaa", sum := "47406d73967518fb79b0af7c871060a4a5989e4aa389bfd8a958622699dfd40f", func := "starling/starlinglaw6.SwimNil", spec := "swimNil", unfollowed := true, recurses := true, apart := false, narrowed := true }
def SwimNilUptoSaid : Prop := swimNilUptoRow.holds Try.pinned (OpenSpec.upto swimNilSpec)

end Rows
end Go.Proofs.Ythndjhocmpelcaa
