/-
  No cell of these rows narrows 'for every input' (looked for: loops, veiled, ifaces, maps, wideKeys, modest, calm, conditions, laid).
  DERIVED. THE GIVEN ROWS OF THIS SEAT. 12 by the template 'for every input the law returns true; each argument reads behind the call as it read before'; 0 by the template 'total and deterministic' (their statements: YtoikadgfbjjfiaaTotals.lean).
  GIVEN WITH THE SEED: the statements are not yours to turn. If you find one false, say at which input.
  Laid BY PROGRAM, IN A SANDBOX (cutbox-rows.mjs): the forced cells as the released guide's own fill.sh prints them over the translation 7ae9a29d34f72b17… (all of the seat's roots in one cut). By AI agents, Wed Nov 11 2026. No macro, syntax, notation, axiom, sorry.
-/
import Derived.Test.YtoikadgfbjjfiaaChecked
import GoSem.Claim
import GoSem.ClaimJoined
import GoSem.ClaimMapViews
import Derived.JoinedTies
import Derived.KernelRfl
namespace Go.Proofs.Ytoikadgfbjjfiaa
/- THE CELL 'sum', in the pinned program and in every row, IS THE sha256 OF THE DUMP (.gsa) THAT YtoikadgfbjjfiaaProg.lean LOADS. Nothing in Lean hashes anything: it is a label: what it is worth is what the hold of that sum in a sandbox is worth. -/
noncomputable def Try.pinned : Pinned := { name := "ytoikadgfbjjfiaa", sum := "7ae9a29d34f72b174466e3373eb32fa21cec32a5fb523edb5759dc95ec263a28", checked := Try.checked }
namespace Rows
def none {H : Type} : Left H := { results := [], args := [] }

/-- 'starlinglaw5.WatchTies': WHATEVER THE INPUT: true; the input reads as it did. -/
def watchTiesSpec : ChangeSpec := { name := "watchTies", fn := fun _ => fun
  | [d1, d2] => { results := [.lit (.bool true)], args := [d1, d2] }
  | _ => none }
def watchTiesRow : OpenClaim := { program := "ytoikadgfbjjfiaa", sum := "7ae9a29d34f72b174466e3373eb32fa21cec32a5fb523edb5759dc95ec263a28", func := "starling/starlinglaw5.WatchTies", spec := "watchTies", unfollowed := true, recurses := true, apart := false }
def WatchTiesSaid : Prop := watchTiesRow.holds Try.pinned (OpenSpec.ofChange watchTiesSpec)

/-- ITS FALSE NEIGHBOUR: 'it returns false'. Refute it at one input. -/
def watchTiesWrong : ChangeSpec := { name := "watchTies", fn := fun _ => fun
  | [d1, d2] => { results := [.lit (.bool false)], args := [d1, d2] }
  | _ => none }
def WatchTiesWrongFalsely : Prop := watchTiesRow.holds Try.pinned (OpenSpec.ofChange watchTiesWrong)

/-- 'starlinglaw5.WatchPlays': WHATEVER THE INPUT: true; the input reads as it did. -/
def watchPlaysSpec : ChangeSpec := { name := "watchPlays", fn := fun _ => fun
  | [d] => { results := [.lit (.bool true)], args := [d] }
  | _ => none }
def watchPlaysRow : OpenClaim := { program := "ytoikadgfbjjfiaa", sum := "7ae9a29d34f72b174466e3373eb32fa21cec32a5fb523edb5759dc95ec263a28", func := "starling/starlinglaw5.WatchPlays", spec := "watchPlays", unfollowed := true, recurses := true, apart := false }
def WatchPlaysSaid : Prop := watchPlaysRow.holds Try.pinned (OpenSpec.ofChange watchPlaysSpec)

/-- ITS FALSE NEIGHBOUR: 'it returns false'. Refute it at one input. -/
def watchPlaysWrong : ChangeSpec := { name := "watchPlays", fn := fun _ => fun
  | [d] => { results := [.lit (.bool false)], args := [d] }
  | _ => none }
def WatchPlaysWrongFalsely : Prop := watchPlaysRow.holds Try.pinned (OpenSpec.ofChange watchPlaysWrong)

/-- 'starlinglaw5.WatchNil': WHATEVER THE INPUT: true; the input reads as it did. -/
def watchNilSpec : ChangeSpec := { name := "watchNil", fn := fun _ => fun
  | [d] => { results := [.lit (.bool true)], args := [d] }
  | _ => none }
def watchNilRow : OpenClaim := { program := "ytoikadgfbjjfiaa", sum := "7ae9a29d34f72b174466e3373eb32fa21cec32a5fb523edb5759dc95ec263a28", func := "starling/starlinglaw5.WatchNil", spec := "watchNil", unfollowed := true, recurses := true, apart := false }
def WatchNilSaid : Prop := watchNilRow.holds Try.pinned (OpenSpec.ofChange watchNilSpec)

/-- ITS FALSE NEIGHBOUR: 'it returns false'. Refute it at one input. -/
def watchNilWrong : ChangeSpec := { name := "watchNil", fn := fun _ => fun
  | [d] => { results := [.lit (.bool false)], args := [d] }
  | _ => none }
def WatchNilWrongFalsely : Prop := watchNilRow.holds Try.pinned (OpenSpec.ofChange watchNilWrong)

/-- 'starlinglaw5.WatchOrder': WHATEVER THE INPUT: true; the input reads as it did. -/
def watchOrderSpec : ChangeSpec := { name := "watchOrder", fn := fun _ => fun
  | [d1, d2] => { results := [.lit (.bool true)], args := [d1, d2] }
  | _ => none }
def watchOrderRow : OpenClaim := { program := "ytoikadgfbjjfiaa", sum := "7ae9a29d34f72b174466e3373eb32fa21cec32a5fb523edb5759dc95ec263a28", func := "starling/starlinglaw5.WatchOrder", spec := "watchOrder", unfollowed := true, recurses := true, apart := false }
def WatchOrderSaid : Prop := watchOrderRow.holds Try.pinned (OpenSpec.ofChange watchOrderSpec)

/-- ITS FALSE NEIGHBOUR: 'it returns false'. Refute it at one input. -/
def watchOrderWrong : ChangeSpec := { name := "watchOrder", fn := fun _ => fun
  | [d1, d2] => { results := [.lit (.bool false)], args := [d1, d2] }
  | _ => none }
def WatchOrderWrongFalsely : Prop := watchOrderRow.holds Try.pinned (OpenSpec.ofChange watchOrderWrong)

/-- 'starlinglaw5.WatchSets': WHATEVER THE INPUT: true; the input reads as it did. -/
def watchSetsSpec : ChangeSpec := { name := "watchSets", fn := fun _ => fun
  | [d1, d2, d3, d4] => { results := [.lit (.bool true)], args := [d1, d2, d3, d4] }
  | _ => none }
def watchSetsRow : OpenClaim := { program := "ytoikadgfbjjfiaa", sum := "7ae9a29d34f72b174466e3373eb32fa21cec32a5fb523edb5759dc95ec263a28", func := "starling/starlinglaw5.WatchSets", spec := "watchSets", unfollowed := true, recurses := true, apart := false }
def WatchSetsSaid : Prop := watchSetsRow.holds Try.pinned (OpenSpec.ofChange watchSetsSpec)

/-- ITS FALSE NEIGHBOUR: 'it returns false'. Refute it at one input. -/
def watchSetsWrong : ChangeSpec := { name := "watchSets", fn := fun _ => fun
  | [d1, d2, d3, d4] => { results := [.lit (.bool false)], args := [d1, d2, d3, d4] }
  | _ => none }
def WatchSetsWrongFalsely : Prop := watchSetsRow.holds Try.pinned (OpenSpec.ofChange watchSetsWrong)

/-- 'starlinglaw5.WatchApart': WHATEVER THE INPUT: true; the input reads as it did. -/
def watchApartSpec : ChangeSpec := { name := "watchApart", fn := fun _ => fun
  | [d1, d2, d3] => { results := [.lit (.bool true)], args := [d1, d2, d3] }
  | _ => none }
def watchApartRow : OpenClaim := { program := "ytoikadgfbjjfiaa", sum := "7ae9a29d34f72b174466e3373eb32fa21cec32a5fb523edb5759dc95ec263a28", func := "starling/starlinglaw5.WatchApart", spec := "watchApart", unfollowed := true, recurses := true, apart := false }
def WatchApartSaid : Prop := watchApartRow.holds Try.pinned (OpenSpec.ofChange watchApartSpec)

/-- ITS FALSE NEIGHBOUR: 'it returns false'. Refute it at one input. -/
def watchApartWrong : ChangeSpec := { name := "watchApart", fn := fun _ => fun
  | [d1, d2, d3] => { results := [.lit (.bool false)], args := [d1, d2, d3] }
  | _ => none }
def WatchApartWrongFalsely : Prop := watchApartRow.holds Try.pinned (OpenSpec.ofChange watchApartWrong)

/-- 'starlinglaw3.RumorPlays': WHATEVER THE INPUT: true; the input reads as it did. -/
def rumorPlaysSpec : ChangeSpec := { name := "rumorPlays", fn := fun _ => fun
  | [d1, d2] => { results := [.lit (.bool true)], args := [d1, d2] }
  | _ => none }
def rumorPlaysRow : OpenClaim := { program := "ytoikadgfbjjfiaa", sum := "7ae9a29d34f72b174466e3373eb32fa21cec32a5fb523edb5759dc95ec263a28", func := "starling/starlinglaw3.RumorPlays", spec := "rumorPlays", unfollowed := true, recurses := true, apart := false }
def RumorPlaysSaid : Prop := rumorPlaysRow.holds Try.pinned (OpenSpec.ofChange rumorPlaysSpec)

/-- ITS FALSE NEIGHBOUR: 'it returns false'. Refute it at one input. -/
def rumorPlaysWrong : ChangeSpec := { name := "rumorPlays", fn := fun _ => fun
  | [d1, d2] => { results := [.lit (.bool false)], args := [d1, d2] }
  | _ => none }
def RumorPlaysWrongFalsely : Prop := rumorPlaysRow.holds Try.pinned (OpenSpec.ofChange rumorPlaysWrong)

/-- 'starlinglaw3.RumorNil': WHATEVER THE INPUT: true; the input reads as it did. -/
def rumorNilSpec : ChangeSpec := { name := "rumorNil", fn := fun _ => fun
  | [d] => { results := [.lit (.bool true)], args := [d] }
  | _ => none }
def rumorNilRow : OpenClaim := { program := "ytoikadgfbjjfiaa", sum := "7ae9a29d34f72b174466e3373eb32fa21cec32a5fb523edb5759dc95ec263a28", func := "starling/starlinglaw3.RumorNil", spec := "rumorNil", unfollowed := true, recurses := true, apart := false }
def RumorNilSaid : Prop := rumorNilRow.holds Try.pinned (OpenSpec.ofChange rumorNilSpec)

/-- ITS FALSE NEIGHBOUR: 'it returns false'. Refute it at one input. -/
def rumorNilWrong : ChangeSpec := { name := "rumorNil", fn := fun _ => fun
  | [d] => { results := [.lit (.bool false)], args := [d] }
  | _ => none }
def RumorNilWrongFalsely : Prop := rumorNilRow.holds Try.pinned (OpenSpec.ofChange rumorNilWrong)

/-- 'starlinglaw3.RumorOften': WHATEVER THE INPUT: true; the input reads as it did. -/
def rumorOftenSpec : ChangeSpec := { name := "rumorOften", fn := fun _ => fun
  | [d1, d2, d3] => { results := [.lit (.bool true)], args := [d1, d2, d3] }
  | _ => none }
def rumorOftenRow : OpenClaim := { program := "ytoikadgfbjjfiaa", sum := "7ae9a29d34f72b174466e3373eb32fa21cec32a5fb523edb5759dc95ec263a28", func := "starling/starlinglaw3.RumorOften", spec := "rumorOften", unfollowed := true, recurses := true, apart := false }
def RumorOftenSaid : Prop := rumorOftenRow.holds Try.pinned (OpenSpec.ofChange rumorOftenSpec)

/-- ITS FALSE NEIGHBOUR: 'it returns false'. Refute it at one input. -/
def rumorOftenWrong : ChangeSpec := { name := "rumorOften", fn := fun _ => fun
  | [d1, d2, d3] => { results := [.lit (.bool false)], args := [d1, d2, d3] }
  | _ => none }
def RumorOftenWrongFalsely : Prop := rumorOftenRow.holds Try.pinned (OpenSpec.ofChange rumorOftenWrong)

/-- 'starlinglaw3.RumorLouder': WHATEVER THE INPUT: true; the input reads as it did. -/
def rumorLouderSpec : ChangeSpec := { name := "rumorLouder", fn := fun _ => fun
  | [d1, d2] => { results := [.lit (.bool true)], args := [d1, d2] }
  | _ => none }
def rumorLouderRow : OpenClaim := { program := "ytoikadgfbjjfiaa", sum := "7ae9a29d34f72b174466e3373eb32fa21cec32a5fb523edb5759dc95ec263a28", func := "starling/starlinglaw3.RumorLouder", spec := "rumorLouder", unfollowed := true, recurses := true, apart := false }
def RumorLouderSaid : Prop := rumorLouderRow.holds Try.pinned (OpenSpec.ofChange rumorLouderSpec)

/-- ITS FALSE NEIGHBOUR: 'it returns false'. Refute it at one input. -/
def rumorLouderWrong : ChangeSpec := { name := "rumorLouder", fn := fun _ => fun
  | [d1, d2] => { results := [.lit (.bool false)], args := [d1, d2] }
  | _ => none }
def RumorLouderWrongFalsely : Prop := rumorLouderRow.holds Try.pinned (OpenSpec.ofChange rumorLouderWrong)

/-- 'starlinglaw3.RumorFirst': WHATEVER THE INPUT: true; the input reads as it did. -/
def rumorFirstSpec : ChangeSpec := { name := "rumorFirst", fn := fun _ => fun
  | [d1, d2] => { results := [.lit (.bool true)], args := [d1, d2] }
  | _ => none }
def rumorFirstRow : OpenClaim := { program := "ytoikadgfbjjfiaa", sum := "7ae9a29d34f72b174466e3373eb32fa21cec32a5fb523edb5759dc95ec263a28", func := "starling/starlinglaw3.RumorFirst", spec := "rumorFirst", unfollowed := true, recurses := true, apart := false }
def RumorFirstSaid : Prop := rumorFirstRow.holds Try.pinned (OpenSpec.ofChange rumorFirstSpec)

/-- ITS FALSE NEIGHBOUR: 'it returns false'. Refute it at one input. -/
def rumorFirstWrong : ChangeSpec := { name := "rumorFirst", fn := fun _ => fun
  | [d1, d2] => { results := [.lit (.bool false)], args := [d1, d2] }
  | _ => none }
def RumorFirstWrongFalsely : Prop := rumorFirstRow.holds Try.pinned (OpenSpec.ofChange rumorFirstWrong)

/-- 'starlinglaw3.RumorBack': WHATEVER THE INPUT: true; the input reads as it did. -/
def rumorBackSpec : ChangeSpec := { name := "rumorBack", fn := fun _ => fun
  | [d1, d2] => { results := [.lit (.bool true)], args := [d1, d2] }
  | _ => none }
def rumorBackRow : OpenClaim := { program := "ytoikadgfbjjfiaa", sum := "7ae9a29d34f72b174466e3373eb32fa21cec32a5fb523edb5759dc95ec263a28", func := "starling/starlinglaw3.RumorBack", spec := "rumorBack", unfollowed := true, recurses := true, apart := false }
def RumorBackSaid : Prop := rumorBackRow.holds Try.pinned (OpenSpec.ofChange rumorBackSpec)

/-- ITS FALSE NEIGHBOUR: 'it returns false'. Refute it at one input. -/
def rumorBackWrong : ChangeSpec := { name := "rumorBack", fn := fun _ => fun
  | [d1, d2] => { results := [.lit (.bool false)], args := [d1, d2] }
  | _ => none }
def RumorBackWrongFalsely : Prop := rumorBackRow.holds Try.pinned (OpenSpec.ofChange rumorBackWrong)

/- THE SECOND FORM. 'bulk': how many values and letters a reading holds, each counted each time it is reached (what is shared counts as often as it is met; a slice's spare places count too). A statement '..UptoSaid' is the law's where the arguments, and the package variables that the reading takes, are together of bulk at most 1048576: NARROWER than '..Said'. Prove '..Said' where nothing that the law and all that it calls make is longer than what came in: it says more and counts as full. Else prove '..UptoSaid'. A law counts once. -/
mutual
def uptoBulk {H : Type} : DataW H → Nat
  | .lit (.string bytes) => bytes.length + 1
  | .lit _ => 1
  | .nil => 1
  | .ptr d => uptoBulk d + 1
  | .slice elems spare => uptoBulkAll elems + uptoBulkAll spare + 1
  | .agg parts => uptoBulkAll parts + 1
  | .iface _ d => uptoBulk d + 1
  | .map entries => uptoBulkEntries entries + 1
  | .held _ => 1
def uptoBulkAll {H : Type} : List (DataW H) → Nat
  | [] => 0
  | d :: r => uptoBulk d + uptoBulkAll r
def uptoBulkEntries {H : Type} : List (Lit × DataW H) → Nat
  | [] => 0
  | x :: r => uptoBulkEntry x + uptoBulkEntries r
def uptoBulkEntry {H : Type} : Lit × DataW H → Nat
  | (.string bytes, d) => bytes.length + uptoBulk d + 1
  | (_, d) => uptoBulk d + 1
 end
def uptoSmall : (H : Type) → List (DataW H) → Bool := fun _ ds => decide (uptoBulkAll ds ≤ 1048576)
def OpenSpec.upto (s : _root_.Go.ChangeSpec) : _root_.Go.OpenSpec := { _root_.Go.OpenSpec.ofChange s with cond := some uptoSmall }

/-- 'starlinglaw5.WatchTies', WHERE WHAT IT READS IS OF BULK AT MOST 1048576: true; the input reads as it did. -/
def watchTiesUptoRow : OpenClaim := { program := "ytoikadgfbjjfiaa", sum := "7ae9a29d34f72b174466e3373eb32fa21cec32a5fb523edb5759dc95ec263a28", func := "starling/starlinglaw5.WatchTies", spec := "watchTies", unfollowed := true, recurses := true, apart := false, narrowed := true }
def WatchTiesUptoSaid : Prop := watchTiesUptoRow.holds Try.pinned (OpenSpec.upto watchTiesSpec)

/-- 'starlinglaw5.WatchPlays', WHERE WHAT IT READS IS OF BULK AT MOST 1048576: true; the input reads as it did. -/
def watchPlaysUptoRow : OpenClaim := { program := "ytoikadgfbjjfiaa", sum := "7ae9a29d34f72b174466e3373eb32fa21cec32a5fb523edb5759dc95ec263a28", func := "starling/starlinglaw5.WatchPlays", spec := "watchPlays", unfollowed := true, recurses := true, apart := false, narrowed := true }
def WatchPlaysUptoSaid : Prop := watchPlaysUptoRow.holds Try.pinned (OpenSpec.upto watchPlaysSpec)

/-- 'starlinglaw5.WatchNil', WHERE WHAT IT READS IS OF BULK AT MOST 1048576: true; the input reads as it did. -/
def watchNilUptoRow : OpenClaim := { program := "ytoikadgfbjjfiaa", sum := "7ae9a29d34f72b174466e3373eb32fa21cec32a5fb523edb5759dc95ec263a28", func := "starling/starlinglaw5.WatchNil", spec := "watchNil", unfollowed := true, recurses := true, apart := false, narrowed := true }
def WatchNilUptoSaid : Prop := watchNilUptoRow.holds Try.pinned (OpenSpec.upto watchNilSpec)

/-- 'starlinglaw5.WatchOrder', WHERE WHAT IT READS IS OF BULK AT MOST 1048576: true; the input reads as it did. -/
def watchOrderUptoRow : OpenClaim := { program := "ytoikadgfbjjfiaa", sum := "7ae9a29d34f72b174466e3373eb32fa21cec32a5fb523edb5759dc95ec263a28", func := "starling/starlinglaw5.WatchOrder", spec := "watchOrder", unfollowed := true, recurses := true, apart := false, narrowed := true }
def WatchOrderUptoSaid : Prop := watchOrderUptoRow.holds Try.pinned (OpenSpec.upto watchOrderSpec)

/-- 'starlinglaw5.WatchSets', WHERE WHAT IT READS IS OF BULK AT MOST 1048576: true; the input reads as it did. -/
def watchSetsUptoRow : OpenClaim := { program := "ytoikadgfbjjfiaa", sum := "7ae9a29d34f72b174466e3373eb32fa21cec32a5fb523edb5759dc95ec263a28", func := "starling/starlinglaw5.WatchSets", spec := "watchSets", unfollowed := true, recurses := true, apart := false, narrowed := true }
def WatchSetsUptoSaid : Prop := watchSetsUptoRow.holds Try.pinned (OpenSpec.upto watchSetsSpec)

/-- 'starlinglaw5.WatchApart', WHERE WHAT IT READS IS OF BULK AT MOST 1048576: true; the input reads as it did. -/
def watchApartUptoRow : OpenClaim := { program := "ytoikadgfbjjfiaa", sum := "7ae9a29d34f72b174466e3373eb32fa21cec32a5fb523edb5759dc95ec263a28", func := "starling/starlinglaw5.WatchApart", spec := "watchApart", unfollowed := true, recurses := true, apart := false, narrowed := true }
def WatchApartUptoSaid : Prop := watchApartUptoRow.holds Try.pinned (OpenSpec.upto watchApartSpec)

/-- 'starlinglaw3.RumorPlays', WHERE WHAT IT READS IS OF BULK AT MOST 1048576: true; the input reads as it did. -/
def rumorPlaysUptoRow : OpenClaim := { program := "ytoikadgfbjjfiaa", sum := "7ae9a29d34f72b174466e3373eb32fa21cec32a5fb523edb5759dc95ec263a28", func := "starling/starlinglaw3.RumorPlays", spec := "rumorPlays", unfollowed := true, recurses := true, apart := false, narrowed := true }
def RumorPlaysUptoSaid : Prop := rumorPlaysUptoRow.holds Try.pinned (OpenSpec.upto rumorPlaysSpec)

/-- 'starlinglaw3.RumorNil', WHERE WHAT IT READS IS OF BULK AT MOST 1048576: true; the input reads as it did. -/
def rumorNilUptoRow : OpenClaim := { program := "ytoikadgfbjjfiaa", sum := "7ae9a29d34f72b174466e3373eb32fa21cec32a5fb523edb5759dc95ec263a28", func := "starling/starlinglaw3.RumorNil", spec := "rumorNil", unfollowed := true, recurses := true, apart := false, narrowed := true }
def RumorNilUptoSaid : Prop := rumorNilUptoRow.holds Try.pinned (OpenSpec.upto rumorNilSpec)

/-- 'starlinglaw3.RumorOften', WHERE WHAT IT READS IS OF BULK AT MOST 1048576: true; the input reads as it did. -/
def rumorOftenUptoRow : OpenClaim := { program := "ytoikadgfbjjfiaa", sum := "7ae9a29d34f72b174466e3373eb32fa21cec32a5fb523edb5759dc95ec263a28", func := "starling/starlinglaw3.RumorOften", spec := "rumorOften", unfollowed := true, recurses := true, apart := false, narrowed := true }
def RumorOftenUptoSaid : Prop := rumorOftenUptoRow.holds Try.pinned (OpenSpec.upto rumorOftenSpec)

/-- 'starlinglaw3.RumorLouder', WHERE WHAT IT READS IS OF BULK AT MOST 1048576: true; the input reads as it did. -/
def rumorLouderUptoRow : OpenClaim := { program := "ytoikadgfbjjfiaa", sum := "7ae9a29d34f72b174466e3373eb32fa21cec32a5fb523edb5759dc95ec263a28", func := "starling/starlinglaw3.RumorLouder", spec := "rumorLouder", unfollowed := true, recurses := true, apart := false, narrowed := true }
def RumorLouderUptoSaid : Prop := rumorLouderUptoRow.holds Try.pinned (OpenSpec.upto rumorLouderSpec)

/-- 'starlinglaw3.RumorFirst', WHERE WHAT IT READS IS OF BULK AT MOST 1048576: true; the input reads as it did. -/
def rumorFirstUptoRow : OpenClaim := { program := "ytoikadgfbjjfiaa", sum := "7ae9a29d34f72b174466e3373eb32fa21cec32a5fb523edb5759dc95ec263a28", func := "starling/starlinglaw3.RumorFirst", spec := "rumorFirst", unfollowed := true, recurses := true, apart := false, narrowed := true }
def RumorFirstUptoSaid : Prop := rumorFirstUptoRow.holds Try.pinned (OpenSpec.upto rumorFirstSpec)

/-- 'starlinglaw3.RumorBack', WHERE WHAT IT READS IS OF BULK AT MOST 1048576: true; the input reads as it did. -/
def rumorBackUptoRow : OpenClaim := { program := "ytoikadgfbjjfiaa", sum := "7ae9a29d34f72b174466e3373eb32fa21cec32a5fb523edb5759dc95ec263a28", func := "starling/starlinglaw3.RumorBack", spec := "rumorBack", unfollowed := true, recurses := true, apart := false, narrowed := true }
def RumorBackUptoSaid : Prop := rumorBackUptoRow.holds Try.pinned (OpenSpec.upto rumorBackSpec)

end Rows
end Go.Proofs.Ytoikadgfbjjfiaa
