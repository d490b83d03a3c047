/-
  No cell of these rows narrows 'for every input' (looked for: loops, veiled, ifaces, maps, wideKeys, modest, calm, conditions, laid).
  DERIVED. THE GIVEN ROWS OF THIS SEAT. 16 by the template 'for every input the law returns true; each argument reads behind the call as it read before'; 0 by the template 'total and deterministic' (their statements: YtoefligelajfkaaTotals.lean).
  GIVEN WITH THE SEED: the statements are not yours to turn. If you find one false, say at which input.
  Laid BY PROGRAM, IN A SANDBOX (cutbox-rows.mjs): the forced cells as the released guide's own fill.sh prints them over the translation 5e6b91c54aa1c76c… (all of the seat's roots in one cut). By AI agents, Wed Nov 11 2026. No macro, syntax, notation, axiom, sorry.
-/
import Derived.Test.YtoefligelajfkaaChecked
import GoSem.Claim
import GoSem.ClaimJoined
import GoSem.ClaimMapViews
import Derived.JoinedTies
import Derived.KernelRfl
namespace Go.Proofs.Ytoefligelajfkaa
/- THE CELL 'sum', in the pinned program and in every row, IS THE sha256 OF THE DUMP (.gsa) THAT YtoefligelajfkaaProg.lean LOADS. Nothing in Lean hashes anything: it is a label: what it is worth is what the hold of that sum in a sandbox is worth. -/
noncomputable def Try.pinned : Pinned := { name := "ytoefligelajfkaa", sum := "5e6b91c54aa1c76cd94cc89a101fa65d5139ecd5619669449bff663e6c6d097b", checked := Try.checked }
namespace Rows
def none {H : Type} : Left H := { results := [], args := [] }

/-- 'freightlaw4.PressPacks': WHATEVER THE INPUT: true; the input reads as it did. -/
def pressPacksSpec : ChangeSpec := { name := "pressPacks", fn := fun _ => fun
  | [d] => { results := [.lit (.bool true)], args := [d] }
  | _ => none }
def pressPacksRow : OpenClaim := { program := "ytoefligelajfkaa", sum := "5e6b91c54aa1c76cd94cc89a101fa65d5139ecd5619669449bff663e6c6d097b", func := "freight/freightlaw4.PressPacks", spec := "pressPacks", plainKeys := false, apart := false }
def PressPacksSaid : Prop := pressPacksRow.holds Try.pinned (OpenSpec.ofChange pressPacksSpec)

/-- ITS FALSE NEIGHBOUR: 'it returns false'. Refute it at one input. -/
def pressPacksWrong : ChangeSpec := { name := "pressPacks", fn := fun _ => fun
  | [d] => { results := [.lit (.bool false)], args := [d] }
  | _ => none }
def PressPacksWrongFalsely : Prop := pressPacksRow.holds Try.pinned (OpenSpec.ofChange pressPacksWrong)

/-- 'freightlaw4.PressUnpacks': WHATEVER THE INPUT: true; the input reads as it did. -/
def pressUnpacksSpec : ChangeSpec := { name := "pressUnpacks", fn := fun _ => fun
  | [d1, d2] => { results := [.lit (.bool true)], args := [d1, d2] }
  | _ => none }
def pressUnpacksRow : OpenClaim := { program := "ytoefligelajfkaa", sum := "5e6b91c54aa1c76cd94cc89a101fa65d5139ecd5619669449bff663e6c6d097b", func := "freight/freightlaw4.PressUnpacks", spec := "pressUnpacks", plainKeys := false, apart := false }
def PressUnpacksSaid : Prop := pressUnpacksRow.holds Try.pinned (OpenSpec.ofChange pressUnpacksSpec)

/-- ITS FALSE NEIGHBOUR: 'it returns false'. Refute it at one input. -/
def pressUnpacksWrong : ChangeSpec := { name := "pressUnpacks", fn := fun _ => fun
  | [d1, d2] => { results := [.lit (.bool false)], args := [d1, d2] }
  | _ => none }
def PressUnpacksWrongFalsely : Prop := pressUnpacksRow.holds Try.pinned (OpenSpec.ofChange pressUnpacksWrong)

/-- 'freightlaw4.PressSpoilt': WHATEVER THE INPUT: true; the input reads as it did. -/
def pressSpoiltSpec : ChangeSpec := { name := "pressSpoilt", fn := fun _ => fun
  | [d1, d2, d3, d4, d5] => { results := [.lit (.bool true)], args := [d1, d2, d3, d4, d5] }
  | _ => none }
def pressSpoiltRow : OpenClaim := { program := "ytoefligelajfkaa", sum := "5e6b91c54aa1c76cd94cc89a101fa65d5139ecd5619669449bff663e6c6d097b", func := "freight/freightlaw4.PressSpoilt", spec := "pressSpoilt", plainKeys := false, apart := false }
def PressSpoiltSaid : Prop := pressSpoiltRow.holds Try.pinned (OpenSpec.ofChange pressSpoiltSpec)

/-- ITS FALSE NEIGHBOUR: 'it returns false'. Refute it at one input. -/
def pressSpoiltWrong : ChangeSpec := { name := "pressSpoilt", fn := fun _ => fun
  | [d1, d2, d3, d4, d5] => { results := [.lit (.bool false)], args := [d1, d2, d3, d4, d5] }
  | _ => none }
def PressSpoiltWrongFalsely : Prop := pressSpoiltRow.holds Try.pinned (OpenSpec.ofChange pressSpoiltWrong)

/-- 'freightlaw4.PressBack': WHATEVER THE INPUT: true; the input reads as it did. -/
def pressBackSpec : ChangeSpec := { name := "pressBack", fn := fun _ => fun
  | [d] => { results := [.lit (.bool true)], args := [d] }
  | _ => none }
def pressBackRow : OpenClaim := { program := "ytoefligelajfkaa", sum := "5e6b91c54aa1c76cd94cc89a101fa65d5139ecd5619669449bff663e6c6d097b", func := "freight/freightlaw4.PressBack", spec := "pressBack", plainKeys := false, apart := false }
def PressBackSaid : Prop := pressBackRow.holds Try.pinned (OpenSpec.ofChange pressBackSpec)

/-- ITS FALSE NEIGHBOUR: 'it returns false'. Refute it at one input. -/
def pressBackWrong : ChangeSpec := { name := "pressBack", fn := fun _ => fun
  | [d] => { results := [.lit (.bool false)], args := [d] }
  | _ => none }
def PressBackWrongFalsely : Prop := pressBackRow.holds Try.pinned (OpenSpec.ofChange pressBackWrong)

/-- 'freightlaw4.PressGreedy': WHATEVER THE INPUT: true; the input reads as it did. -/
def pressGreedySpec : ChangeSpec := { name := "pressGreedy", fn := fun _ => fun
  | [d] => { results := [.lit (.bool true)], args := [d] }
  | _ => none }
def pressGreedyRow : OpenClaim := { program := "ytoefligelajfkaa", sum := "5e6b91c54aa1c76cd94cc89a101fa65d5139ecd5619669449bff663e6c6d097b", func := "freight/freightlaw4.PressGreedy", spec := "pressGreedy", plainKeys := false, apart := false }
def PressGreedySaid : Prop := pressGreedyRow.holds Try.pinned (OpenSpec.ofChange pressGreedySpec)

/-- ITS FALSE NEIGHBOUR: 'it returns false'. Refute it at one input. -/
def pressGreedyWrong : ChangeSpec := { name := "pressGreedy", fn := fun _ => fun
  | [d] => { results := [.lit (.bool false)], args := [d] }
  | _ => none }
def PressGreedyWrongFalsely : Prop := pressGreedyRow.holds Try.pinned (OpenSpec.ofChange pressGreedyWrong)

/-- 'freightlaw4.PressBounded': WHATEVER THE INPUT: true; the input reads as it did. -/
def pressBoundedSpec : ChangeSpec := { name := "pressBounded", fn := fun _ => fun
  | [d1, d2] => { results := [.lit (.bool true)], args := [d1, d2] }
  | _ => none }
def pressBoundedRow : OpenClaim := { program := "ytoefligelajfkaa", sum := "5e6b91c54aa1c76cd94cc89a101fa65d5139ecd5619669449bff663e6c6d097b", func := "freight/freightlaw4.PressBounded", spec := "pressBounded", plainKeys := false, apart := false }
def PressBoundedSaid : Prop := pressBoundedRow.holds Try.pinned (OpenSpec.ofChange pressBoundedSpec)

/-- ITS FALSE NEIGHBOUR: 'it returns false'. Refute it at one input. -/
def pressBoundedWrong : ChangeSpec := { name := "pressBounded", fn := fun _ => fun
  | [d1, d2] => { results := [.lit (.bool false)], args := [d1, d2] }
  | _ => none }
def PressBoundedWrongFalsely : Prop := pressBoundedRow.holds Try.pinned (OpenSpec.ofChange pressBoundedWrong)

/-- 'freightlaw4.PressTwice': WHATEVER THE INPUT: true; the input reads as it did. -/
def pressTwiceSpec : ChangeSpec := { name := "pressTwice", fn := fun _ => fun
  | [d1, d2] => { results := [.lit (.bool true)], args := [d1, d2] }
  | _ => none }
def pressTwiceRow : OpenClaim := { program := "ytoefligelajfkaa", sum := "5e6b91c54aa1c76cd94cc89a101fa65d5139ecd5619669449bff663e6c6d097b", func := "freight/freightlaw4.PressTwice", spec := "pressTwice", plainKeys := false, apart := false }
def PressTwiceSaid : Prop := pressTwiceRow.holds Try.pinned (OpenSpec.ofChange pressTwiceSpec)

/-- ITS FALSE NEIGHBOUR: 'it returns false'. Refute it at one input. -/
def pressTwiceWrong : ChangeSpec := { name := "pressTwice", fn := fun _ => fun
  | [d1, d2] => { results := [.lit (.bool false)], args := [d1, d2] }
  | _ => none }
def PressTwiceWrongFalsely : Prop := pressTwiceRow.holds Try.pinned (OpenSpec.ofChange pressTwiceWrong)

/-- 'freightlaw4.PressIsNew': WHATEVER THE INPUT: true; the input reads as it did. -/
def pressIsNewSpec : ChangeSpec := { name := "pressIsNew", fn := fun _ => fun
  | [d] => { results := [.lit (.bool true)], args := [d] }
  | _ => none }
def pressIsNewRow : OpenClaim := { program := "ytoefligelajfkaa", sum := "5e6b91c54aa1c76cd94cc89a101fa65d5139ecd5619669449bff663e6c6d097b", func := "freight/freightlaw4.PressIsNew", spec := "pressIsNew", plainKeys := false, apart := false }
def PressIsNewSaid : Prop := pressIsNewRow.holds Try.pinned (OpenSpec.ofChange pressIsNewSpec)

/-- ITS FALSE NEIGHBOUR: 'it returns false'. Refute it at one input. -/
def pressIsNewWrong : ChangeSpec := { name := "pressIsNew", fn := fun _ => fun
  | [d] => { results := [.lit (.bool false)], args := [d] }
  | _ => none }
def PressIsNewWrongFalsely : Prop := pressIsNewRow.holds Try.pinned (OpenSpec.ofChange pressIsNewWrong)

/-- 'freightlaw11.BlockPacks': WHATEVER THE INPUT: true; the input reads as it did. -/
def blockPacksSpec : ChangeSpec := { name := "blockPacks", fn := fun _ => fun
  | [d] => { results := [.lit (.bool true)], args := [d] }
  | _ => none }
def blockPacksRow : OpenClaim := { program := "ytoefligelajfkaa", sum := "5e6b91c54aa1c76cd94cc89a101fa65d5139ecd5619669449bff663e6c6d097b", func := "freight/freightlaw11.BlockPacks", spec := "blockPacks", unfollowed := true, recurses := true, plainKeys := false, apart := false }
def BlockPacksSaid : Prop := blockPacksRow.holds Try.pinned (OpenSpec.ofChange blockPacksSpec)

/-- ITS FALSE NEIGHBOUR: 'it returns false'. Refute it at one input. -/
def blockPacksWrong : ChangeSpec := { name := "blockPacks", fn := fun _ => fun
  | [d] => { results := [.lit (.bool false)], args := [d] }
  | _ => none }
def BlockPacksWrongFalsely : Prop := blockPacksRow.holds Try.pinned (OpenSpec.ofChange blockPacksWrong)

/-- 'freightlaw11.BlockOpens': WHATEVER THE INPUT: true; the input reads as it did. -/
def blockOpensSpec : ChangeSpec := { name := "blockOpens", fn := fun _ => fun
  | [d] => { results := [.lit (.bool true)], args := [d] }
  | _ => none }
def blockOpensRow : OpenClaim := { program := "ytoefligelajfkaa", sum := "5e6b91c54aa1c76cd94cc89a101fa65d5139ecd5619669449bff663e6c6d097b", func := "freight/freightlaw11.BlockOpens", spec := "blockOpens", unfollowed := true, recurses := true, plainKeys := false, apart := false }
def BlockOpensSaid : Prop := blockOpensRow.holds Try.pinned (OpenSpec.ofChange blockOpensSpec)

/-- ITS FALSE NEIGHBOUR: 'it returns false'. Refute it at one input. -/
def blockOpensWrong : ChangeSpec := { name := "blockOpens", fn := fun _ => fun
  | [d] => { results := [.lit (.bool false)], args := [d] }
  | _ => none }
def BlockOpensWrongFalsely : Prop := blockOpensRow.holds Try.pinned (OpenSpec.ofChange blockOpensWrong)

/-- 'freightlaw11.BlockValid': WHATEVER THE INPUT: true; the input reads as it did. -/
def blockValidSpec : ChangeSpec := { name := "blockValid", fn := fun _ => fun
  | [d1, d2, d3] => { results := [.lit (.bool true)], args := [d1, d2, d3] }
  | _ => none }
def blockValidRow : OpenClaim := { program := "ytoefligelajfkaa", sum := "5e6b91c54aa1c76cd94cc89a101fa65d5139ecd5619669449bff663e6c6d097b", func := "freight/freightlaw11.BlockValid", spec := "blockValid", unfollowed := true, recurses := true, plainKeys := false, apart := false }
def BlockValidSaid : Prop := blockValidRow.holds Try.pinned (OpenSpec.ofChange blockValidSpec)

/-- ITS FALSE NEIGHBOUR: 'it returns false'. Refute it at one input. -/
def blockValidWrong : ChangeSpec := { name := "blockValid", fn := fun _ => fun
  | [d1, d2, d3] => { results := [.lit (.bool false)], args := [d1, d2, d3] }
  | _ => none }
def BlockValidWrongFalsely : Prop := blockValidRow.holds Try.pinned (OpenSpec.ofChange blockValidWrong)

/-- 'freightlaw11.BlockCovers': WHATEVER THE INPUT: true; the input reads as it did. -/
def blockCoversSpec : ChangeSpec := { name := "blockCovers", fn := fun _ => fun
  | [d1, d2, d3] => { results := [.lit (.bool true)], args := [d1, d2, d3] }
  | _ => none }
def blockCoversRow : OpenClaim := { program := "ytoefligelajfkaa", sum := "5e6b91c54aa1c76cd94cc89a101fa65d5139ecd5619669449bff663e6c6d097b", func := "freight/freightlaw11.BlockCovers", spec := "blockCovers", unfollowed := true, recurses := true, plainKeys := false, apart := false }
def BlockCoversSaid : Prop := blockCoversRow.holds Try.pinned (OpenSpec.ofChange blockCoversSpec)

/-- ITS FALSE NEIGHBOUR: 'it returns false'. Refute it at one input. -/
def blockCoversWrong : ChangeSpec := { name := "blockCovers", fn := fun _ => fun
  | [d1, d2, d3] => { results := [.lit (.bool false)], args := [d1, d2, d3] }
  | _ => none }
def BlockCoversWrongFalsely : Prop := blockCoversRow.holds Try.pinned (OpenSpec.ofChange blockCoversWrong)

/-- 'freightlaw11.BlockBack': WHATEVER THE INPUT: true; the input reads as it did. -/
def blockBackSpec : ChangeSpec := { name := "blockBack", fn := fun _ => fun
  | [d1, d2] => { results := [.lit (.bool true)], args := [d1, d2] }
  | _ => none }
def blockBackRow : OpenClaim := { program := "ytoefligelajfkaa", sum := "5e6b91c54aa1c76cd94cc89a101fa65d5139ecd5619669449bff663e6c6d097b", func := "freight/freightlaw11.BlockBack", spec := "blockBack", unfollowed := true, recurses := true, plainKeys := false, apart := false }
def BlockBackSaid : Prop := blockBackRow.holds Try.pinned (OpenSpec.ofChange blockBackSpec)

/-- ITS FALSE NEIGHBOUR: 'it returns false'. Refute it at one input. -/
def blockBackWrong : ChangeSpec := { name := "blockBack", fn := fun _ => fun
  | [d1, d2] => { results := [.lit (.bool false)], args := [d1, d2] }
  | _ => none }
def BlockBackWrongFalsely : Prop := blockBackRow.holds Try.pinned (OpenSpec.ofChange blockBackWrong)

/-- 'freightlaw11.BlockTurned': WHATEVER THE INPUT: true; the input reads as it did. -/
def blockTurnedSpec : ChangeSpec := { name := "blockTurned", fn := fun _ => fun
  | [d1, d2, d3, d4, d5] => { results := [.lit (.bool true)], args := [d1, d2, d3, d4, d5] }
  | _ => none }
def blockTurnedRow : OpenClaim := { program := "ytoefligelajfkaa", sum := "5e6b91c54aa1c76cd94cc89a101fa65d5139ecd5619669449bff663e6c6d097b", func := "freight/freightlaw11.BlockTurned", spec := "blockTurned", unfollowed := true, recurses := true, plainKeys := false, apart := false }
def BlockTurnedSaid : Prop := blockTurnedRow.holds Try.pinned (OpenSpec.ofChange blockTurnedSpec)

/-- ITS FALSE NEIGHBOUR: 'it returns false'. Refute it at one input. -/
def blockTurnedWrong : ChangeSpec := { name := "blockTurned", fn := fun _ => fun
  | [d1, d2, d3, d4, d5] => { results := [.lit (.bool false)], args := [d1, d2, d3, d4, d5] }
  | _ => none }
def BlockTurnedWrongFalsely : Prop := blockTurnedRow.holds Try.pinned (OpenSpec.ofChange blockTurnedWrong)

/-- 'freightlaw11.BlockJust': WHATEVER THE INPUT: true; the input reads as it did. -/
def blockJustSpec : ChangeSpec := { name := "blockJust", fn := fun _ => fun
  | [d1, d2, d3] => { results := [.lit (.bool true)], args := [d1, d2, d3] }
  | _ => none }
def blockJustRow : OpenClaim := { program := "ytoefligelajfkaa", sum := "5e6b91c54aa1c76cd94cc89a101fa65d5139ecd5619669449bff663e6c6d097b", func := "freight/freightlaw11.BlockJust", spec := "blockJust", unfollowed := true, recurses := true, plainKeys := false, apart := false }
def BlockJustSaid : Prop := blockJustRow.holds Try.pinned (OpenSpec.ofChange blockJustSpec)

/-- ITS FALSE NEIGHBOUR: 'it returns false'. Refute it at one input. -/
def blockJustWrong : ChangeSpec := { name := "blockJust", fn := fun _ => fun
  | [d1, d2, d3] => { results := [.lit (.bool false)], args := [d1, d2, d3] }
  | _ => none }
def BlockJustWrongFalsely : Prop := blockJustRow.holds Try.pinned (OpenSpec.ofChange blockJustWrong)

/-- 'freightlaw11.BlockOwn': WHATEVER THE INPUT: true; the input reads as it did. -/
def blockOwnSpec : ChangeSpec := { name := "blockOwn", fn := fun _ => fun
  | [d] => { results := [.lit (.bool true)], args := [d] }
  | _ => none }
def blockOwnRow : OpenClaim := { program := "ytoefligelajfkaa", sum := "5e6b91c54aa1c76cd94cc89a101fa65d5139ecd5619669449bff663e6c6d097b", func := "freight/freightlaw11.BlockOwn", spec := "blockOwn", unfollowed := true, recurses := true, plainKeys := false, apart := false }
def BlockOwnSaid : Prop := blockOwnRow.holds Try.pinned (OpenSpec.ofChange blockOwnSpec)

/-- ITS FALSE NEIGHBOUR: 'it returns false'. Refute it at one input. -/
def blockOwnWrong : ChangeSpec := { name := "blockOwn", fn := fun _ => fun
  | [d] => { results := [.lit (.bool false)], args := [d] }
  | _ => none }
def BlockOwnWrongFalsely : Prop := blockOwnRow.holds Try.pinned (OpenSpec.ofChange blockOwnWrong)

/- THE SECOND FORM. 'bulk': how many values and letters a reading holds, each counted each time it is reached (what is shared counts as often as it is met; a slice's spare places count too). A statement '..UptoSaid' is the law's where the arguments, and the package variables that the reading takes, are together of bulk at most 1048576: NARROWER than '..Said'. Prove '..Said' where nothing that the law and all that it calls make is longer than what came in: it says more and counts as full. Else prove '..UptoSaid'. A law counts once. -/
mutual
def uptoBulk {H : Type} : DataW H → Nat
  | .lit (.string bytes) => bytes.length + 1
  | .lit _ => 1
  | .nil => 1
  | .ptr d => uptoBulk d + 1
  | .slice elems spare => uptoBulkAll elems + uptoBulkAll spare + 1
  | .agg parts => uptoBulkAll parts + 1
  | .iface _ d => uptoBulk d + 1
  | .map entries => uptoBulkEntries entries + 1
  | .held _ => 1
def uptoBulkAll {H : Type} : List (DataW H) → Nat
  | [] => 0
  | d :: r => uptoBulk d + uptoBulkAll r
def uptoBulkEntries {H : Type} : List (Lit × DataW H) → Nat
  | [] => 0
  | x :: r => uptoBulkEntry x + uptoBulkEntries r
def uptoBulkEntry {H : Type} : Lit × DataW H → Nat
  | (.string bytes, d) => bytes.length + uptoBulk d + 1
  | (_, d) => uptoBulk d + 1
 end
def uptoSmall : (H : Type) → List (DataW H) → Bool := fun _ ds => decide (uptoBulkAll ds ≤ 1048576)
def OpenSpec.upto (s : _root_.Go.ChangeSpec) : _root_.Go.OpenSpec := { _root_.Go.OpenSpec.ofChange s with cond := some uptoSmall }

/-- 'freightlaw4.PressPacks', WHERE WHAT IT READS IS OF BULK AT MOST 1048576: true; the input reads as it did. -/
def pressPacksUptoRow : OpenClaim := { program := "ytoefligelajfkaa", sum := "5e6b91c54aa1c76cd94cc89a101fa65d5139ecd5619669449bff663e6c6d097b", func := "freight/freightlaw4.PressPacks", spec := "pressPacks", plainKeys := false, apart := false, narrowed := true }
def PressPacksUptoSaid : Prop := pressPacksUptoRow.holds Try.pinned (OpenSpec.upto pressPacksSpec)

/-- 'freightlaw4.PressUnpacks', WHERE WHAT IT READS IS OF BULK AT MOST 1048576: true; the input reads as it did. -/
def pressUnpacksUptoRow : OpenClaim := { program := "ytoefligelajfkaa", sum := "5e6b91c54aa1c76cd94cc89a101fa65d5139ecd5619669449bff663e6c6d097b", func := "freight/freightlaw4.PressUnpacks", spec := "pressUnpacks", plainKeys := false, apart := false, narrowed := true }
def PressUnpacksUptoSaid : Prop := pressUnpacksUptoRow.holds Try.pinned (OpenSpec.upto pressUnpacksSpec)

/-- 'freightlaw4.PressSpoilt', WHERE WHAT IT READS IS OF BULK AT MOST 1048576: true; the input reads as it did. -/
def pressSpoiltUptoRow : OpenClaim := { program := "ytoefligelajfkaa", sum := "5e6b91c54aa1c76cd94cc89a101fa65d5139ecd5619669449bff663e6c6d097b", func := "freight/freightlaw4.PressSpoilt", spec := "pressSpoilt", plainKeys := false, apart := false, narrowed := true }
def PressSpoiltUptoSaid : Prop := pressSpoiltUptoRow.holds Try.pinned (OpenSpec.upto pressSpoiltSpec)

/-- 'freightlaw4.PressBack', WHERE WHAT IT READS IS OF BULK AT MOST 1048576: true; the input reads as it did. -/
def pressBackUptoRow : OpenClaim := { program := "ytoefligelajfkaa", sum := "5e6b91c54aa1c76cd94cc89a101fa65d5139ecd5619669449bff663e6c6d097b", func := "freight/freightlaw4.PressBack", spec := "pressBack", plainKeys := false, apart := false, narrowed := true }
def PressBackUptoSaid : Prop := pressBackUptoRow.holds Try.pinned (OpenSpec.upto pressBackSpec)

/-- 'freightlaw4.PressGreedy', WHERE WHAT IT READS IS OF BULK AT MOST 1048576: true; the input reads as it did. -/
def pressGreedyUptoRow : OpenClaim := { program := "ytoefligelajfkaa", sum := "5e6b91c54aa1c76cd94cc89a101fa65d5139ecd5619669449bff663e6c6d097b", func := "freight/freightlaw4.PressGreedy", spec := "pressGreedy", plainKeys := false, apart := false, narrowed := true }
def PressGreedyUptoSaid : Prop := pressGreedyUptoRow.holds Try.pinned (OpenSpec.upto pressGreedySpec)

/-- 'freightlaw4.PressBounded', WHERE WHAT IT READS IS OF BULK AT MOST 1048576: true; the input reads as it did. -/
def pressBoundedUptoRow : OpenClaim := { program := "ytoefligelajfkaa", sum := "5e6b91c54aa1c76cd94cc89a101fa65d5139ecd5619669449bff663e6c6d097b", func := "freight/freightlaw4.PressBounded", spec := "pressBounded", plainKeys := false, apart := false, narrowed := true }
def PressBoundedUptoSaid : Prop := pressBoundedUptoRow.holds Try.pinned (OpenSpec.upto pressBoundedSpec)

/-- 'freightlaw4.PressTwice', WHERE WHAT IT READS IS OF BULK AT MOST 1048576: true; the input reads as it did. -/
def pressTwiceUptoRow : OpenClaim := { program := "ytoefligelajfkaa", sum := "5e6b91c54aa1c76cd94cc89a101fa65d5139ecd5619669449bff663e6c6d097b", func := "freight/freightlaw4.PressTwice", spec := "pressTwice", plainKeys := false, apart := false, narrowed := true }
def PressTwiceUptoSaid : Prop := pressTwiceUptoRow.holds Try.pinned (OpenSpec.upto pressTwiceSpec)

/-- 'freightlaw4.PressIsNew', WHERE WHAT IT READS IS OF BULK AT MOST 1048576: true; the input reads as it did. -/
def pressIsNewUptoRow : OpenClaim := { program := "ytoefligelajfkaa", sum := "5e6b91c54aa1c76cd94cc89a101fa65d5139ecd5619669449bff663e6c6d097b", func := "freight/freightlaw4.PressIsNew", spec := "pressIsNew", plainKeys := false, apart := false, narrowed := true }
def PressIsNewUptoSaid : Prop := pressIsNewUptoRow.holds Try.pinned (OpenSpec.upto pressIsNewSpec)

/-- 'freightlaw11.BlockPacks', WHERE WHAT IT READS IS OF BULK AT MOST 1048576: true; the input reads as it did. -/
def blockPacksUptoRow : OpenClaim := { program := "ytoefligelajfkaa", sum := "5e6b91c54aa1c76cd94cc89a101fa65d5139ecd5619669449bff663e6c6d097b", func := "freight/freightlaw11.BlockPacks", spec := "blockPacks", unfollowed := true, recurses := true, plainKeys := false, apart := false, narrowed := true }
def BlockPacksUptoSaid : Prop := blockPacksUptoRow.holds Try.pinned (OpenSpec.upto blockPacksSpec)

/-- 'freightlaw11.BlockOpens', WHERE WHAT IT READS IS OF BULK AT MOST 1048576: true; the input reads as it did. -/
def blockOpensUptoRow : OpenClaim := { program := "ytoefligelajfkaa", sum := "5e6b91c54aa1c76cd94cc89a101fa65d5139ecd5619669449bff663e6c6d097b", func := "freight/freightlaw11.BlockOpens", spec := "blockOpens", unfollowed := true, recurses := true, plainKeys := false, apart := false, narrowed := true }
def BlockOpensUptoSaid : Prop := blockOpensUptoRow.holds Try.pinned (OpenSpec.upto blockOpensSpec)

/-- 'freightlaw11.BlockValid', WHERE WHAT IT READS IS OF BULK AT MOST 1048576: true; the input reads as it did. -/
def blockValidUptoRow : OpenClaim := { program := "ytoefligelajfkaa", sum := "5e6b91c54aa1c76cd94cc89a101fa65d5139ecd5619669449bff663e6c6d097b", func := "freight/freightlaw11.BlockValid", spec := "blockValid", unfollowed := true, recurses := true, plainKeys := false, apart := false, narrowed := true }
def BlockValidUptoSaid : Prop := blockValidUptoRow.holds Try.pinned (OpenSpec.upto blockValidSpec)

/-- 'freightlaw11.BlockCovers', WHERE WHAT IT READS IS OF BULK AT MOST 1048576: true; the input reads as it did. -/
def blockCoversUptoRow : OpenClaim := { program := "ytoefligelajfkaa", sum := "5e6b91c54aa1c76cd94cc89a101fa65d5139ecd5619669449bff663e6c6d097b", func := "freight/freightlaw11.BlockCovers", spec := "blockCovers", unfollowed := true, recurses := true, plainKeys := false, apart := false, narrowed := true }
def BlockCoversUptoSaid : Prop := blockCoversUptoRow.holds Try.pinned (OpenSpec.upto blockCoversSpec)

/-- 'freightlaw11.BlockBack', WHERE WHAT IT READS IS OF BULK AT MOST 1048576: true; the input reads as it did. -/
def blockBackUptoRow : OpenClaim := { program := "ytoefligelajfkaa", sum := "5e6b91c54aa1c76cd94cc89a101fa65d5139ecd5619669449bff663e6c6d097b", func := "freight/freightlaw11.BlockBack", spec := "blockBack", unfollowed := true, recurses := true, plainKeys := false, apart := false, narrowed := true }
def BlockBackUptoSaid : Prop := blockBackUptoRow.holds Try.pinned (OpenSpec.upto blockBackSpec)

/-- 'freightlaw11.BlockTurned', WHERE WHAT IT READS IS OF BULK AT MOST 1048576: true; the input reads as it did. -/
def blockTurnedUptoRow : OpenClaim := { program := "ytoefligelajfkaa", sum := "5e6b91c54aa1c76cd94cc89a101fa65d5139ecd5619669449bff663e6c6d097b", func := "freight/freightlaw11.BlockTurned", spec := "blockTurned", unfollowed := true, recurses := true, plainKeys := false, apart := false, narrowed := true }
def BlockTurnedUptoSaid : Prop := blockTurnedUptoRow.holds Try.pinned (OpenSpec.upto blockTurnedSpec)

/-- 'freightlaw11.BlockJust', WHERE WHAT IT READS IS OF BULK AT MOST 1048576: true; the input reads as it did. -/
def blockJustUptoRow : OpenClaim := { program := "ytoefligelajfkaa", sum := "5e6b91c54aa1c76cd94cc89a101fa65d5139ecd5619669449bff663e6c6d097b", func := "freight/freightlaw11.BlockJust", spec := "blockJust", unfollowed := true, recurses := true, plainKeys := false, apart := false, narrowed := true }
def BlockJustUptoSaid : Prop := blockJustUptoRow.holds Try.pinned (OpenSpec.upto blockJustSpec)

/-- 'freightlaw11.BlockOwn', WHERE WHAT IT READS IS OF BULK AT MOST 1048576: true; the input reads as it did. -/
def blockOwnUptoRow : OpenClaim := { program := "ytoefligelajfkaa", sum := "5e6b91c54aa1c76cd94cc89a101fa65d5139ecd5619669449bff663e6c6d097b", func := "freight/freightlaw11.BlockOwn", spec := "blockOwn", unfollowed := true, recurses := true, plainKeys := false, apart := false, narrowed := true }
def BlockOwnUptoSaid : Prop := blockOwnUptoRow.holds Try.pinned (OpenSpec.upto blockOwnSpec)

end Rows
end Go.Proofs.Ytoefligelajfkaa
