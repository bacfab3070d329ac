/-
  No cell of these rows narrows 'for every input' (looked for: loops, veiled, ifaces, maps, wideKeys, modest, calm, conditions, laid).
  DERIVED. THE GIVEN ROWS OF THIS SEAT. 8 by the template 'for every input the law returns true; each argument reads behind the call as it read before'; 0 by the template 'total and deterministic' (their statements: YtngoopfdfihkpaaTotals.lean).
  GIVEN WITH THE SEED: the statements are not yours to turn. If you find one false, say at which input.
  Laid BY PROGRAM, IN A SANDBOX (cutbox-rows.mjs): the forced cells as the released guide's own fill.sh prints them over the translation 8936f919c1f4e0e8… (all of the seat's roots in one cut). By AI agents, Wed Nov 11 2026. No macro, syntax, notation, axiom, sorry.
-/
import Derived.Test.YtngoopfdfihkpaaChecked
import GoSem.Claim
import GoSem.ClaimJoined
import GoSem.ClaimMapViews
import Derived.JoinedTies
import Derived.KernelRfl
namespace Go.Proofs.Ytngoopfdfihkpaa
/- THE CELL 'sum', in the pinned program and in every row, IS THE sha256 OF THE DUMP (.gsa) THAT YtngoopfdfihkpaaProg.lean LOADS. Nothing in Lean hashes anything: it is a label: what it is worth is what the hold of that sum in a sandbox is worth. -/
noncomputable def Try.pinned : Pinned := { name := "ytngoopfdfihkpaa", sum := "8936f919c1f4e0e8c89f4d3ffe593e9210a1ba9988256146d22d906f8ea5345c", checked := Try.checked }
namespace Rows
def none {H : Type} : Left H := { results := [], args := [] }

/-- 'starlinglaw13.ClockJoins': WHATEVER THE INPUT: true; the input reads as it did. -/
def clockJoinsSpec : ChangeSpec := { name := "clockJoins", fn := fun _ => fun
  | [d1, d2, d3, d4] => { results := [.lit (.bool true)], args := [d1, d2, d3, d4] }
  | _ => none }
def clockJoinsRow : OpenClaim := { program := "ytngoopfdfihkpaa", sum := "8936f919c1f4e0e8c89f4d3ffe593e9210a1ba9988256146d22d906f8ea5345c", func := "starling/starlinglaw13.ClockJoins", spec := "clockJoins", apart := false }
def ClockJoinsSaid : Prop := clockJoinsRow.holds Try.pinned (OpenSpec.ofChange clockJoinsSpec)

/-- ITS FALSE NEIGHBOUR: 'it returns false'. Refute it at one input. -/
def clockJoinsWrong : ChangeSpec := { name := "clockJoins", fn := fun _ => fun
  | [d1, d2, d3, d4] => { results := [.lit (.bool false)], args := [d1, d2, d3, d4] }
  | _ => none }
def ClockJoinsWrongFalsely : Prop := clockJoinsRow.holds Try.pinned (OpenSpec.ofChange clockJoinsWrong)

/-- 'starlinglaw13.ClockDots': WHATEVER THE INPUT: true; the input reads as it did. -/
def clockDotsSpec : ChangeSpec := { name := "clockDots", fn := fun _ => fun
  | [d1, d2, d3] => { results := [.lit (.bool true)], args := [d1, d2, d3] }
  | _ => none }
def clockDotsRow : OpenClaim := { program := "ytngoopfdfihkpaa", sum := "8936f919c1f4e0e8c89f4d3ffe593e9210a1ba9988256146d22d906f8ea5345c", func := "starling/starlinglaw13.ClockDots", spec := "clockDots", apart := false }
def ClockDotsSaid : Prop := clockDotsRow.holds Try.pinned (OpenSpec.ofChange clockDotsSpec)

/-- ITS FALSE NEIGHBOUR: 'it returns false'. Refute it at one input. -/
def clockDotsWrong : ChangeSpec := { name := "clockDots", fn := fun _ => fun
  | [d1, d2, d3] => { results := [.lit (.bool false)], args := [d1, d2, d3] }
  | _ => none }
def ClockDotsWrongFalsely : Prop := clockDotsRow.holds Try.pinned (OpenSpec.ofChange clockDotsWrong)

/-- 'starlinglaw9.EntryBounds': WHATEVER THE INPUT: true; the input reads as it did. -/
def entryBoundsSpec : ChangeSpec := { name := "entryBounds", fn := fun _ => fun
  | [d1, d2, d3] => { results := [.lit (.bool true)], args := [d1, d2, d3] }
  | _ => none }
def entryBoundsRow : OpenClaim := { program := "ytngoopfdfihkpaa", sum := "8936f919c1f4e0e8c89f4d3ffe593e9210a1ba9988256146d22d906f8ea5345c", func := "starling/starlinglaw9.EntryBounds", spec := "entryBounds", apart := false }
def EntryBoundsSaid : Prop := entryBoundsRow.holds Try.pinned (OpenSpec.ofChange entryBoundsSpec)

/-- ITS FALSE NEIGHBOUR: 'it returns false'. Refute it at one input. -/
def entryBoundsWrong : ChangeSpec := { name := "entryBounds", fn := fun _ => fun
  | [d1, d2, d3] => { results := [.lit (.bool false)], args := [d1, d2, d3] }
  | _ => none }
def EntryBoundsWrongFalsely : Prop := entryBoundsRow.holds Try.pinned (OpenSpec.ofChange entryBoundsWrong)

/-- 'starlinglaw13.ClockOrder': WHATEVER THE INPUT: true; the input reads as it did. -/
def clockOrderSpec : ChangeSpec := { name := "clockOrder", fn := fun _ => fun
  | [d1, d2, d3] => { results := [.lit (.bool true)], args := [d1, d2, d3] }
  | _ => none }
def clockOrderRow : OpenClaim := { program := "ytngoopfdfihkpaa", sum := "8936f919c1f4e0e8c89f4d3ffe593e9210a1ba9988256146d22d906f8ea5345c", func := "starling/starlinglaw13.ClockOrder", spec := "clockOrder", apart := false }
def ClockOrderSaid : Prop := clockOrderRow.holds Try.pinned (OpenSpec.ofChange clockOrderSpec)

/-- ITS FALSE NEIGHBOUR: 'it returns false'. Refute it at one input. -/
def clockOrderWrong : ChangeSpec := { name := "clockOrder", fn := fun _ => fun
  | [d1, d2, d3] => { results := [.lit (.bool false)], args := [d1, d2, d3] }
  | _ => none }
def ClockOrderWrongFalsely : Prop := clockOrderRow.holds Try.pinned (OpenSpec.ofChange clockOrderWrong)

/-- 'starlinglaw9.EntryForms': WHATEVER THE INPUT: true; the input reads as it did. -/
def entryFormsSpec : ChangeSpec := { name := "entryForms", fn := fun _ => fun
  | [d1, d2, d3] => { results := [.lit (.bool true)], args := [d1, d2, d3] }
  | _ => none }
def entryFormsRow : OpenClaim := { program := "ytngoopfdfihkpaa", sum := "8936f919c1f4e0e8c89f4d3ffe593e9210a1ba9988256146d22d906f8ea5345c", func := "starling/starlinglaw9.EntryForms", spec := "entryForms", apart := false }
def EntryFormsSaid : Prop := entryFormsRow.holds Try.pinned (OpenSpec.ofChange entryFormsSpec)

/-- ITS FALSE NEIGHBOUR: 'it returns false'. Refute it at one input. -/
def entryFormsWrong : ChangeSpec := { name := "entryForms", fn := fun _ => fun
  | [d1, d2, d3] => { results := [.lit (.bool false)], args := [d1, d2, d3] }
  | _ => none }
def EntryFormsWrongFalsely : Prop := entryFormsRow.holds Try.pinned (OpenSpec.ofChange entryFormsWrong)

/-- 'starlinglaw9.EntryJoins': WHATEVER THE INPUT: true; the input reads as it did. -/
def entryJoinsSpec : ChangeSpec := { name := "entryJoins", fn := fun _ => fun
  | [d1, d2, d3, d4] => { results := [.lit (.bool true)], args := [d1, d2, d3, d4] }
  | _ => none }
def entryJoinsRow : OpenClaim := { program := "ytngoopfdfihkpaa", sum := "8936f919c1f4e0e8c89f4d3ffe593e9210a1ba9988256146d22d906f8ea5345c", func := "starling/starlinglaw9.EntryJoins", spec := "entryJoins", apart := false }
def EntryJoinsSaid : Prop := entryJoinsRow.holds Try.pinned (OpenSpec.ofChange entryJoinsSpec)

/-- ITS FALSE NEIGHBOUR: 'it returns false'. Refute it at one input. -/
def entryJoinsWrong : ChangeSpec := { name := "entryJoins", fn := fun _ => fun
  | [d1, d2, d3, d4] => { results := [.lit (.bool false)], args := [d1, d2, d3, d4] }
  | _ => none }
def EntryJoinsWrongFalsely : Prop := entryJoinsRow.holds Try.pinned (OpenSpec.ofChange entryJoinsWrong)

/-- 'starlinglaw9.EntryOnce': WHATEVER THE INPUT: true; the input reads as it did. -/
def entryOnceSpec : ChangeSpec := { name := "entryOnce", fn := fun _ => fun
  | [d1, d2] => { results := [.lit (.bool true)], args := [d1, d2] }
  | _ => none }
def entryOnceRow : OpenClaim := { program := "ytngoopfdfihkpaa", sum := "8936f919c1f4e0e8c89f4d3ffe593e9210a1ba9988256146d22d906f8ea5345c", func := "starling/starlinglaw9.EntryOnce", spec := "entryOnce", apart := false }
def EntryOnceSaid : Prop := entryOnceRow.holds Try.pinned (OpenSpec.ofChange entryOnceSpec)

/-- ITS FALSE NEIGHBOUR: 'it returns false'. Refute it at one input. -/
def entryOnceWrong : ChangeSpec := { name := "entryOnce", fn := fun _ => fun
  | [d1, d2] => { results := [.lit (.bool false)], args := [d1, d2] }
  | _ => none }
def EntryOnceWrongFalsely : Prop := entryOnceRow.holds Try.pinned (OpenSpec.ofChange entryOnceWrong)

/-- 'starlinglaw13.ClockForms': WHATEVER THE INPUT: true; the input reads as it did. -/
def clockFormsSpec : ChangeSpec := { name := "clockForms", fn := fun _ => fun
  | [d1, d2, d3, d4] => { results := [.lit (.bool true)], args := [d1, d2, d3, d4] }
  | _ => none }
def clockFormsRow : OpenClaim := { program := "ytngoopfdfihkpaa", sum := "8936f919c1f4e0e8c89f4d3ffe593e9210a1ba9988256146d22d906f8ea5345c", func := "starling/starlinglaw13.ClockForms", spec := "clockForms", apart := false }
def ClockFormsSaid : Prop := clockFormsRow.holds Try.pinned (OpenSpec.ofChange clockFormsSpec)

/-- ITS FALSE NEIGHBOUR: 'it returns false'. Refute it at one input. -/
def clockFormsWrong : ChangeSpec := { name := "clockForms", fn := fun _ => fun
  | [d1, d2, d3, d4] => { results := [.lit (.bool false)], args := [d1, d2, d3, d4] }
  | _ => none }
def ClockFormsWrongFalsely : Prop := clockFormsRow.holds Try.pinned (OpenSpec.ofChange clockFormsWrong)

/- THE SECOND FORM. 'bulk': how many values and letters a reading holds, each counted each time it is reached (what is shared counts as often as it is met; a slice's spare places count too). A statement '..UptoSaid' is the law's where the arguments, and the package variables that the reading takes, are together of bulk at most 1048576: NARROWER than '..Said'. Prove '..Said' where nothing that the law and all that it calls make is longer than what came in: it says more and counts as full. Else prove '..UptoSaid'. A law counts once. -/
mutual
def uptoBulk {H : Type} : DataW H → Nat
  | .lit (.string bytes) => bytes.length + 1
  | .lit _ => 1
  | .nil => 1
  | .ptr d => uptoBulk d + 1
  | .slice elems spare => uptoBulkAll elems + uptoBulkAll spare + 1
  | .agg parts => uptoBulkAll parts + 1
  | .iface _ d => uptoBulk d + 1
  | .map entries => uptoBulkEntries entries + 1
  | .held _ => 1
def uptoBulkAll {H : Type} : List (DataW H) → Nat
  | [] => 0
  | d :: r => uptoBulk d + uptoBulkAll r
def uptoBulkEntries {H : Type} : List (Lit × DataW H) → Nat
  | [] => 0
  | x :: r => uptoBulkEntry x + uptoBulkEntries r
def uptoBulkEntry {H : Type} : Lit × DataW H → Nat
  | (.string bytes, d) => bytes.length + uptoBulk d + 1
  | (_, d) => uptoBulk d + 1
 end
def uptoSmall : (H : Type) → List (DataW H) → Bool := fun _ ds => decide (uptoBulkAll ds ≤ 1048576)
def OpenSpec.upto (s : _root_.Go.ChangeSpec) : _root_.Go.OpenSpec := { _root_.Go.OpenSpec.ofChange s with cond := some uptoSmall }

/-- 'starlinglaw13.ClockJoins', WHERE WHAT IT READS IS OF BULK AT MOST 1048576: true; the input reads as it did. -/
def clockJoinsUptoRow : OpenClaim := { program := "ytngoopfdfihkpaa", sum := "8936f919c1f4e0e8c89f4d3ffe593e9210a1ba9988256146d22d906f8ea5345c", func := "starling/starlinglaw13.ClockJoins", spec := "clockJoins", apart := false, narrowed := true }
def ClockJoinsUptoSaid : Prop := clockJoinsUptoRow.holds Try.pinned (OpenSpec.upto clockJoinsSpec)

/-- 'starlinglaw13.ClockDots', WHERE WHAT IT READS IS OF BULK AT MOST 1048576: true; the input reads as it did. -/
def clockDotsUptoRow : OpenClaim := { program := "ytngoopfdfihkpaa", sum := "8936f919c1f4e0e8c89f4d3ffe593e9210a1ba9988256146d22d906f8ea5345c", func := "starling/starlinglaw13.ClockDots", spec := "clockDots", apart := false, narrowed := true }
def ClockDotsUptoSaid : Prop := clockDotsUptoRow.holds Try.pinned (OpenSpec.upto clockDotsSpec)

/-- 'starlinglaw9.EntryBounds', WHERE WHAT IT READS IS OF BULK AT MOST 1048576: true; the input reads as it did. -/
def entryBoundsUptoRow : OpenClaim := { program := "ytngoopfdfihkpaa", sum := "8936f919c1f4e0e8c89f4d3ffe593e9210a1ba9988256146d22d906f8ea5345c", func := "starling/starlinglaw9.EntryBounds", spec := "entryBounds", apart := false, narrowed := true }
def EntryBoundsUptoSaid : Prop := entryBoundsUptoRow.holds Try.pinned (OpenSpec.upto entryBoundsSpec)

/-- 'starlinglaw13.ClockOrder', WHERE WHAT IT READS IS OF BULK AT MOST 1048576: true; the input reads as it did. -/
def clockOrderUptoRow : OpenClaim := { program := "ytngoopfdfihkpaa", sum := "8936f919c1f4e0e8c89f4d3ffe593e9210a1ba9988256146d22d906f8ea5345c", func := "starling/starlinglaw13.ClockOrder", spec := "clockOrder", apart := false, narrowed := true }
def ClockOrderUptoSaid : Prop := clockOrderUptoRow.holds Try.pinned (OpenSpec.upto clockOrderSpec)

/-- 'starlinglaw9.EntryForms', WHERE WHAT IT READS IS OF BULK AT MOST 1048576: true; the input reads as it did. -/
def entryFormsUptoRow : OpenClaim := { program := "ytngoopfdfihkpaa", sum := "8936f919c1f4e0e8c89f4d3ffe593e9210a1ba9988256146d22d906f8ea5345c", func := "starling/starlinglaw9.EntryForms", spec := "entryForms", apart := false, narrowed := true }
def EntryFormsUptoSaid : Prop := entryFormsUptoRow.holds Try.pinned (OpenSpec.upto entryFormsSpec)

/-- 'starlinglaw9.EntryJoins', WHERE WHAT IT READS IS OF BULK AT MOST 1048576: true; the input reads as it did. -/
def entryJoinsUptoRow : OpenClaim := { program := "ytngoopfdfihkpaa", sum := "8936f919c1f4e0e8c89f4d3ffe593e9210a1ba9988256146d22d906f8ea5345c", func := "starling/starlinglaw9.EntryJoins", spec := "entryJoins", apart := false, narrowed := true }
def EntryJoinsUptoSaid : Prop := entryJoinsUptoRow.holds Try.pinned (OpenSpec.upto entryJoinsSpec)

/-- 'starlinglaw9.EntryOnce', WHERE WHAT IT READS IS OF BULK AT MOST 1048576: true; the input reads as it did. -/
def entryOnceUptoRow : OpenClaim := { program := "ytngoopfdfihkpaa", sum := "8936f919c1f4e0e8c89f4d3ffe593e9210a1ba9988256146d22d906f8ea5345c", func := "starling/starlinglaw9.EntryOnce", spec := "entryOnce", apart := false, narrowed := true }
def EntryOnceUptoSaid : Prop := entryOnceUptoRow.holds Try.pinned (OpenSpec.upto entryOnceSpec)

/-- 'starlinglaw13.ClockForms', WHERE WHAT IT READS IS OF BULK AT MOST 1048576: true; the input reads as it did. -/
def clockFormsUptoRow : OpenClaim := { program := "ytngoopfdfihkpaa", sum := "8936f919c1f4e0e8c89f4d3ffe593e9210a1ba9988256146d22d906f8ea5345c", func := "starling/starlinglaw13.ClockForms", spec := "clockForms", apart := false, narrowed := true }
def ClockFormsUptoSaid : Prop := clockFormsUptoRow.holds Try.pinned (OpenSpec.upto clockFormsSpec)

end Rows
end Go.Proofs.Ytngoopfdfihkpaa
