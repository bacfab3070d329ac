/-
  No cell of these rows narrows 'for every input' (looked for: loops, veiled, ifaces, maps, wideKeys, modest, calm, conditions, laid).
  DERIVED. THE GIVEN ROWS OF THIS SEAT. 10 by the template 'for every input the law returns true; each argument reads behind the call as it read before'; 0 by the template 'total and deterministic' (their statements: YthobimdnjggkfaaTotals.lean).
  GIVEN WITH THE SEED: the statements are not yours to turn. If you find one false, say at which input.
  Laid BY PROGRAM, IN A SANDBOX (cutbox-rows.mjs): the forced cells as the released guide's own fill.sh prints them over the translation e28299ac511cc4a1… (all of the seat's roots in one cut). By AI agents, Wed Nov 11 2026. No macro, syntax, notation, axiom, sorry.
-/
import Derived.Test.YthobimdnjggkfaaChecked
import GoSem.Claim
import GoSem.ClaimJoined
import GoSem.ClaimMapViews
import Derived.JoinedTies
import Derived.KernelRfl
namespace Go.Proofs.Ythobimdnjggkfaa
/- THE CELL 'sum', in the pinned program and in every row, IS THE sha256 OF THE DUMP (.gsa) THAT YthobimdnjggkfaaProg.lean LOADS. Nothing in Lean hashes anything: it is a label: what it is worth is what the hold of that sum in a sandbox is worth. -/
noncomputable def Try.pinned : Pinned := { name := "ythobimdnjggkfaa", sum := "e28299ac511cc4a10db14b209f69e2cbc185f0685f38245730d953af463877cb", checked := Try.checked }
namespace Rows
def none {H : Type} : Left H := { results := [], args := [] }

/-- 'starlinglaw4.ProbeShuffles': WHATEVER THE INPUT: true; the input reads as it did. -/
def probeShufflesSpec : ChangeSpec := { name := "probeShuffles", fn := fun _ => fun
  | [d1, d2, d3] => { results := [.lit (.bool true)], args := [d1, d2, d3] }
  | _ => none }
def probeShufflesRow : OpenClaim := { program := "ythobimdnjggkfaa", sum := "e28299ac511cc4a10db14b209f69e2cbc185f0685f38245730d953af463877cb", func := "starling/starlinglaw4.ProbeShuffles", spec := "probeShuffles", unfollowed := true, recurses := true, apart := false }
def ProbeShufflesSaid : Prop := probeShufflesRow.holds Try.pinned (OpenSpec.ofChange probeShufflesSpec)

/-- ITS FALSE NEIGHBOUR: 'it returns false'. Refute it at one input. -/
def probeShufflesWrong : ChangeSpec := { name := "probeShuffles", fn := fun _ => fun
  | [d1, d2, d3] => { results := [.lit (.bool false)], args := [d1, d2, d3] }
  | _ => none }
def ProbeShufflesWrongFalsely : Prop := probeShufflesRow.holds Try.pinned (OpenSpec.ofChange probeShufflesWrong)

/-- 'starlinglaw4.ProbeSome': WHATEVER THE INPUT: true; the input reads as it did. -/
def probeSomeSpec : ChangeSpec := { name := "probeSome", fn := fun _ => fun
  | [d1, d2, d3] => { results := [.lit (.bool true)], args := [d1, d2, d3] }
  | _ => none }
def probeSomeRow : OpenClaim := { program := "ythobimdnjggkfaa", sum := "e28299ac511cc4a10db14b209f69e2cbc185f0685f38245730d953af463877cb", func := "starling/starlinglaw4.ProbeSome", spec := "probeSome", unfollowed := true, recurses := true, apart := false }
def ProbeSomeSaid : Prop := probeSomeRow.holds Try.pinned (OpenSpec.ofChange probeSomeSpec)

/-- ITS FALSE NEIGHBOUR: 'it returns false'. Refute it at one input. -/
def probeSomeWrong : ChangeSpec := { name := "probeSome", fn := fun _ => fun
  | [d1, d2, d3] => { results := [.lit (.bool false)], args := [d1, d2, d3] }
  | _ => none }
def ProbeSomeWrongFalsely : Prop := probeSomeRow.holds Try.pinned (OpenSpec.ofChange probeSomeWrong)

/-- 'starlinglaw4.ProbeNil': WHATEVER THE INPUT: true; the input reads as it did. -/
def probeNilSpec : ChangeSpec := { name := "probeNil", fn := fun _ => fun
  | [d] => { results := [.lit (.bool true)], args := [d] }
  | _ => none }
def probeNilRow : OpenClaim := { program := "ythobimdnjggkfaa", sum := "e28299ac511cc4a10db14b209f69e2cbc185f0685f38245730d953af463877cb", func := "starling/starlinglaw4.ProbeNil", spec := "probeNil", unfollowed := true, recurses := true, apart := false }
def ProbeNilSaid : Prop := probeNilRow.holds Try.pinned (OpenSpec.ofChange probeNilSpec)

/-- ITS FALSE NEIGHBOUR: 'it returns false'. Refute it at one input. -/
def probeNilWrong : ChangeSpec := { name := "probeNil", fn := fun _ => fun
  | [d] => { results := [.lit (.bool false)], args := [d] }
  | _ => none }
def ProbeNilWrongFalsely : Prop := probeNilRow.holds Try.pinned (OpenSpec.ofChange probeNilWrong)

/-- 'starlinglaw4.ProbeRounds': WHATEVER THE INPUT: true; the input reads as it did. -/
def probeRoundsSpec : ChangeSpec := { name := "probeRounds", fn := fun _ => fun
  | [d1, d2, d3] => { results := [.lit (.bool true)], args := [d1, d2, d3] }
  | _ => none }
def probeRoundsRow : OpenClaim := { program := "ythobimdnjggkfaa", sum := "e28299ac511cc4a10db14b209f69e2cbc185f0685f38245730d953af463877cb", func := "starling/starlinglaw4.ProbeRounds", spec := "probeRounds", unfollowed := true, recurses := true, apart := false }
def ProbeRoundsSaid : Prop := probeRoundsRow.holds Try.pinned (OpenSpec.ofChange probeRoundsSpec)

/-- ITS FALSE NEIGHBOUR: 'it returns false'. Refute it at one input. -/
def probeRoundsWrong : ChangeSpec := { name := "probeRounds", fn := fun _ => fun
  | [d1, d2, d3] => { results := [.lit (.bool false)], args := [d1, d2, d3] }
  | _ => none }
def ProbeRoundsWrongFalsely : Prop := probeRoundsRow.holds Try.pinned (OpenSpec.ofChange probeRoundsWrong)

/-- 'starlinglaw4.ProbeChanges': WHATEVER THE INPUT: true; the input reads as it did. -/
def probeChangesSpec : ChangeSpec := { name := "probeChanges", fn := fun _ => fun
  | [d1, d2, d3, d4] => { results := [.lit (.bool true)], args := [d1, d2, d3, d4] }
  | _ => none }
def probeChangesRow : OpenClaim := { program := "ythobimdnjggkfaa", sum := "e28299ac511cc4a10db14b209f69e2cbc185f0685f38245730d953af463877cb", func := "starling/starlinglaw4.ProbeChanges", spec := "probeChanges", unfollowed := true, recurses := true, apart := false }
def ProbeChangesSaid : Prop := probeChangesRow.holds Try.pinned (OpenSpec.ofChange probeChangesSpec)

/-- ITS FALSE NEIGHBOUR: 'it returns false'. Refute it at one input. -/
def probeChangesWrong : ChangeSpec := { name := "probeChanges", fn := fun _ => fun
  | [d1, d2, d3, d4] => { results := [.lit (.bool false)], args := [d1, d2, d3, d4] }
  | _ => none }
def ProbeChangesWrongFalsely : Prop := probeChangesRow.holds Try.pinned (OpenSpec.ofChange probeChangesWrong)

/-- 'starlinglaw2.BeliefOne': WHATEVER THE INPUT: true; the input reads as it did. -/
def beliefOneSpec : ChangeSpec := { name := "beliefOne", fn := fun _ => fun
  | [d1, d2] => { results := [.lit (.bool true)], args := [d1, d2] }
  | _ => none }
def beliefOneRow : OpenClaim := { program := "ythobimdnjggkfaa", sum := "e28299ac511cc4a10db14b209f69e2cbc185f0685f38245730d953af463877cb", func := "starling/starlinglaw2.BeliefOne", spec := "beliefOne", unfollowed := true, recurses := true, apart := false }
def BeliefOneSaid : Prop := beliefOneRow.holds Try.pinned (OpenSpec.ofChange beliefOneSpec)

/-- ITS FALSE NEIGHBOUR: 'it returns false'. Refute it at one input. -/
def beliefOneWrong : ChangeSpec := { name := "beliefOne", fn := fun _ => fun
  | [d1, d2] => { results := [.lit (.bool false)], args := [d1, d2] }
  | _ => none }
def BeliefOneWrongFalsely : Prop := beliefOneRow.holds Try.pinned (OpenSpec.ofChange beliefOneWrong)

/-- 'starlinglaw4.ProbePlays': WHATEVER THE INPUT: true; the input reads as it did. -/
def probePlaysSpec : ChangeSpec := { name := "probePlays", fn := fun _ => fun
  | [d1, d2, d3] => { results := [.lit (.bool true)], args := [d1, d2, d3] }
  | _ => none }
def probePlaysRow : OpenClaim := { program := "ythobimdnjggkfaa", sum := "e28299ac511cc4a10db14b209f69e2cbc185f0685f38245730d953af463877cb", func := "starling/starlinglaw4.ProbePlays", spec := "probePlays", unfollowed := true, recurses := true, apart := false }
def ProbePlaysSaid : Prop := probePlaysRow.holds Try.pinned (OpenSpec.ofChange probePlaysSpec)

/-- ITS FALSE NEIGHBOUR: 'it returns false'. Refute it at one input. -/
def probePlaysWrong : ChangeSpec := { name := "probePlays", fn := fun _ => fun
  | [d1, d2, d3] => { results := [.lit (.bool false)], args := [d1, d2, d3] }
  | _ => none }
def ProbePlaysWrongFalsely : Prop := probePlaysRow.holds Try.pinned (OpenSpec.ofChange probePlaysWrong)

/-- 'starlinglaw2.BeliefJoins': WHATEVER THE INPUT: true; the input reads as it did. -/
def beliefJoinsSpec : ChangeSpec := { name := "beliefJoins", fn := fun _ => fun
  | [d1, d2, d3] => { results := [.lit (.bool true)], args := [d1, d2, d3] }
  | _ => none }
def beliefJoinsRow : OpenClaim := { program := "ythobimdnjggkfaa", sum := "e28299ac511cc4a10db14b209f69e2cbc185f0685f38245730d953af463877cb", func := "starling/starlinglaw2.BeliefJoins", spec := "beliefJoins", unfollowed := true, recurses := true, apart := false }
def BeliefJoinsSaid : Prop := beliefJoinsRow.holds Try.pinned (OpenSpec.ofChange beliefJoinsSpec)

/-- ITS FALSE NEIGHBOUR: 'it returns false'. Refute it at one input. -/
def beliefJoinsWrong : ChangeSpec := { name := "beliefJoins", fn := fun _ => fun
  | [d1, d2, d3] => { results := [.lit (.bool false)], args := [d1, d2, d3] }
  | _ => none }
def BeliefJoinsWrongFalsely : Prop := beliefJoinsRow.holds Try.pinned (OpenSpec.ofChange beliefJoinsWrong)

/-- 'starlinglaw2.BeliefCopy': WHATEVER THE INPUT: true; the input reads as it did. -/
def beliefCopySpec : ChangeSpec := { name := "beliefCopy", fn := fun _ => fun
  | [d1, d2] => { results := [.lit (.bool true)], args := [d1, d2] }
  | _ => none }
def beliefCopyRow : OpenClaim := { program := "ythobimdnjggkfaa", sum := "e28299ac511cc4a10db14b209f69e2cbc185f0685f38245730d953af463877cb", func := "starling/starlinglaw2.BeliefCopy", spec := "beliefCopy", unfollowed := true, recurses := true, apart := false }
def BeliefCopySaid : Prop := beliefCopyRow.holds Try.pinned (OpenSpec.ofChange beliefCopySpec)

/-- ITS FALSE NEIGHBOUR: 'it returns false'. Refute it at one input. -/
def beliefCopyWrong : ChangeSpec := { name := "beliefCopy", fn := fun _ => fun
  | [d1, d2] => { results := [.lit (.bool false)], args := [d1, d2] }
  | _ => none }
def BeliefCopyWrongFalsely : Prop := beliefCopyRow.holds Try.pinned (OpenSpec.ofChange beliefCopyWrong)

/-- 'starlinglaw2.BeliefNil': WHATEVER THE INPUT: true; the input reads as it did. -/
def beliefNilSpec : ChangeSpec := { name := "beliefNil", fn := fun _ => fun
  | [d] => { results := [.lit (.bool true)], args := [d] }
  | _ => none }
def beliefNilRow : OpenClaim := { program := "ythobimdnjggkfaa", sum := "e28299ac511cc4a10db14b209f69e2cbc185f0685f38245730d953af463877cb", func := "starling/starlinglaw2.BeliefNil", spec := "beliefNil", unfollowed := true, recurses := true, apart := false }
def BeliefNilSaid : Prop := beliefNilRow.holds Try.pinned (OpenSpec.ofChange beliefNilSpec)

/-- ITS FALSE NEIGHBOUR: 'it returns false'. Refute it at one input. -/
def beliefNilWrong : ChangeSpec := { name := "beliefNil", fn := fun _ => fun
  | [d] => { results := [.lit (.bool false)], args := [d] }
  | _ => none }
def BeliefNilWrongFalsely : Prop := beliefNilRow.holds Try.pinned (OpenSpec.ofChange beliefNilWrong)

/- THE SECOND FORM. 'bulk': how many values and letters a reading holds, each counted each time it is reached (what is shared counts as often as it is met; a slice's spare places count too). A statement '..UptoSaid' is the law's where the arguments, and the package variables that the reading takes, are together of bulk at most 1048576: NARROWER than '..Said'. Prove '..Said' where nothing that the law and all that it calls make is longer than what came in: it says more and counts as full. Else prove '..UptoSaid'. A law counts once. -/
mutual
def uptoBulk {H : Type} : DataW H → Nat
  | .lit (.string bytes) => bytes.length + 1
  | .lit _ => 1
  | .nil => 1
  | .ptr d => uptoBulk d + 1
  | .slice elems spare => uptoBulkAll elems + uptoBulkAll spare + 1
  | .agg parts => uptoBulkAll parts + 1
  | .iface _ d => uptoBulk d + 1
  | .map entries => uptoBulkEntries entries + 1
  | .held _ => 1
def uptoBulkAll {H : Type} : List (DataW H) → Nat
  | [] => 0
  | d :: r => uptoBulk d + uptoBulkAll r
def uptoBulkEntries {H : Type} : List (Lit × DataW H) → Nat
  | [] => 0
  | x :: r => uptoBulkEntry x + uptoBulkEntries r
def uptoBulkEntry {H : Type} : Lit × DataW H → Nat
  | (.string bytes, d) => bytes.length + uptoBulk d + 1
  | (_, d) => uptoBulk d + 1
 end
def uptoSmall : (H : Type) → List (DataW H) → Bool := fun _ ds => decide (uptoBulkAll ds ≤ 1048576)
def OpenSpec.upto (s : _root_.Go.ChangeSpec) : _root_.Go.OpenSpec := { _root_.Go.OpenSpec.ofChange s with cond := some uptoSmall }

/-- 'starlinglaw4.ProbeShuffles', WHERE WHAT IT READS IS OF BULK AT MOST 1048576: true; the input reads as it did. -/
def probeShufflesUptoRow : OpenClaim := { program := "ythobimdnjggkfaa", sum := "e28299ac511cc4a10db14b209f69e2cbc185f0685f38245730d953af463877cb", func := "starling/starlinglaw4.ProbeShuffles", spec := "probeShuffles", unfollowed := true, recurses := true, apart := false, narrowed := true }
def ProbeShufflesUptoSaid : Prop := probeShufflesUptoRow.holds Try.pinned (OpenSpec.upto probeShufflesSpec)

/-- 'starlinglaw4.ProbeSome', WHERE WHAT IT READS IS OF BULK AT MOST 1048576: true; the input reads as it did. -/
def probeSomeUptoRow : OpenClaim := { program := "ythobimdnjggkfaa", sum := "e28299ac511cc4a10db14b209f69e2cbc185f0685f38245730d953af463877cb", func := "starling/starlinglaw4.ProbeSome", spec := "probeSome", unfollowed := true, recurses := true, apart := false, narrowed := true }
def ProbeSomeUptoSaid : Prop := probeSomeUptoRow.holds Try.pinned (OpenSpec.upto probeSomeSpec)

/-- 'starlinglaw4.ProbeNil', WHERE WHAT IT READS IS OF BULK AT MOST 1048576: true; the input reads as it did. -/
def probeNilUptoRow : OpenClaim := { program := "ythobimdnjggkfaa", sum := "e28299ac511cc4a10db14b209f69e2cbc185f0685f38245730d953af463877cb", func := "starling/starlinglaw4.ProbeNil", spec := "probeNil", unfollowed := true, recurses := true, apart := false, narrowed := true }
def ProbeNilUptoSaid : Prop := probeNilUptoRow.holds Try.pinned (OpenSpec.upto probeNilSpec)

/-- 'starlinglaw4.ProbeRounds', WHERE WHAT IT READS IS OF BULK AT MOST 1048576: true; the input reads as it did. -/
def probeRoundsUptoRow : OpenClaim := { program := "ythobimdnjggkfaa", sum := "e28299ac511cc4a10db14b209f69e2cbc185f0685f38245730d953af463877cb", func := "starling/starlinglaw4.ProbeRounds", spec := "probeRounds", unfollowed := true, recurses := true, apart := false, narrowed := true }
def ProbeRoundsUptoSaid : Prop := probeRoundsUptoRow.holds Try.pinned (OpenSpec.upto probeRoundsSpec)

/-- 'starlinglaw4.ProbeChanges', WHERE WHAT IT READS IS OF BULK AT MOST 1048576: true; the input reads as it did. -/
def probeChangesUptoRow : OpenClaim := { program := "ythobimdnjggkfaa", sum := "e28299ac511cc4a10db14b209f69e2cbc185f0685f38245730d953af463877cb", func := "starling/starlinglaw4.ProbeChanges", spec := "probeChanges", unfollowed := true, recurses := true, apart := false, narrowed := true }
def ProbeChangesUptoSaid : Prop := probeChangesUptoRow.holds Try.pinned (OpenSpec.upto probeChangesSpec)

/-- 'starlinglaw2.BeliefOne', WHERE WHAT IT READS IS OF BULK AT MOST 1048576: true; the input reads as it did. -/
def beliefOneUptoRow : OpenClaim := { program := "ythobimdnjggkfaa", sum := "e28299ac511cc4a10db14b209f69e2cbc185f0685f38245730d953af463877cb", func := "starling/starlinglaw2.BeliefOne", spec := "beliefOne", unfollowed := true, recurses := true, apart := false, narrowed := true }
def BeliefOneUptoSaid : Prop := beliefOneUptoRow.holds Try.pinned (OpenSpec.upto beliefOneSpec)

/-- 'starlinglaw4.ProbePlays', WHERE WHAT IT READS IS OF BULK AT MOST 1048576: true; the input reads as it did. -/
def probePlaysUptoRow : OpenClaim := { program := "ythobimdnjggkfaa", sum := "e28299ac511cc4a10db14b209f69e2cbc185f0685f38245730d953af463877cb", func := "starling/starlinglaw4.ProbePlays", spec := "probePlays", unfollowed := true, recurses := true, apart := false, narrowed := true }
def ProbePlaysUptoSaid : Prop := probePlaysUptoRow.holds Try.pinned (OpenSpec.upto probePlaysSpec)

/-- 'starlinglaw2.BeliefJoins', WHERE WHAT IT READS IS OF BULK AT MOST 1048576: true; the input reads as it did. -/
def beliefJoinsUptoRow : OpenClaim := { program := "ythobimdnjggkfaa", sum := "e28299ac511cc4a10db14b209f69e2cbc185f0685f38245730d953af463877cb", func := "starling/starlinglaw2.BeliefJoins", spec := "beliefJoins", unfollowed := true, recurses := true, apart := false, narrowed := true }
def BeliefJoinsUptoSaid : Prop := beliefJoinsUptoRow.holds Try.pinned (OpenSpec.upto beliefJoinsSpec)

/-- 'starlinglaw2.BeliefCopy', WHERE WHAT IT READS IS OF BULK AT MOST 1048576: true; the input reads as it did. -/
def beliefCopyUptoRow : OpenClaim := { program := "ythobimdnjggkfaa", sum := "e28299ac511cc4a10db14b209f69e2cbc185f0685f38245730d953af463877cb", func := "starling/starlinglaw2.BeliefCopy", spec := "beliefCopy", unfollowed := true, recurses := true, apart := false, narrowed := true }
def BeliefCopyUptoSaid : Prop := beliefCopyUptoRow.holds Try.pinned (OpenSpec.upto beliefCopySpec)

/-- 'starlinglaw2.BeliefNil', WHERE WHAT IT READS IS OF BULK AT MOST 1048576: true; the input reads as it did. -/
def beliefNilUptoRow : OpenClaim := { program := "ythobimdnjggkfaa", sum := "e28299ac511cc4a10db14b209f69e2cbc185f0685f38245730d953af463877cb", func := "starling/starlinglaw2.BeliefNil", spec := "beliefNil", unfollowed := true, recurses := true, apart := false, narrowed := true }
def BeliefNilUptoSaid : Prop := beliefNilUptoRow.holds Try.pinned (OpenSpec.upto beliefNilSpec)

end Rows
end Go.Proofs.Ythobimdnjggkfaa
