/-
  No cell of these rows narrows 'for every input' (looked for: loops, veiled, ifaces, maps, wideKeys, modest, calm, conditions, laid).
  DERIVED. THE GIVEN ROWS OF THIS SEAT. 8 by the template 'for every input the law returns true; each argument reads behind the call as it read before'; 0 by the template 'total and deterministic' (their statements: YtbgiljognlbkhaaTotals.lean).
  GIVEN WITH THE SEED: the statements are not yours to turn. If you find one false, say at which input.
  Laid BY PROGRAM, IN A SANDBOX (cutbox-rows.mjs): the forced cells as the released guide's own fill.sh prints them over the translation 41d0c79bc690e6db… (all of the seat's roots in one cut). By AI agents, Wed Nov 11 2026. No macro, syntax, notation, axiom, sorry.
-/
import Derived.Test.YtbgiljognlbkhaaChecked
import GoSem.Claim
import GoSem.ClaimJoined
import GoSem.ClaimMapViews
import Derived.JoinedTies
import Derived.KernelRfl
namespace Go.Proofs.Ytbgiljognlbkhaa
/- THE CELL 'sum', in the pinned program and in every row, IS THE sha256 OF THE DUMP (.gsa) THAT YtbgiljognlbkhaaProg.lean LOADS. Nothing in Lean hashes anything: it is a label: what it is worth is what the hold of that sum in a sandbox is worth. -/
noncomputable def Try.pinned : Pinned := { name := "ytbgiljognlbkhaa", sum := "41d0c79bc690e6dbe5e99a946fa58b84b9726aae93548e01af27a7c270cb9217", checked := Try.checked }
namespace Rows
def none {H : Type} : Left H := { results := [], args := [] }

/-- 'retortlaw03.LevelUnder': WHATEVER THE INPUT: true; the input reads as it did. -/
def levelUnderSpec : ChangeSpec := { name := "levelUnder", fn := fun _ => fun
  | [d1, d2, d3] => { results := [.lit (.bool true)], args := [d1, d2, d3] }
  | _ => none }
def levelUnderRow : OpenClaim := { program := "ytbgiljognlbkhaa", sum := "41d0c79bc690e6dbe5e99a946fa58b84b9726aae93548e01af27a7c270cb9217", func := "retort/retortlaw03.LevelUnder", spec := "levelUnder", unfollowed := true, recurses := true, plainKeys := false, apart := false }
def LevelUnderSaid : Prop := levelUnderRow.holds Try.pinned (OpenSpec.ofChange levelUnderSpec)

/-- ITS FALSE NEIGHBOUR: 'it returns false'. Refute it at one input. -/
def levelUnderWrong : ChangeSpec := { name := "levelUnder", fn := fun _ => fun
  | [d1, d2, d3] => { results := [.lit (.bool false)], args := [d1, d2, d3] }
  | _ => none }
def LevelUnderWrongFalsely : Prop := levelUnderRow.holds Try.pinned (OpenSpec.ofChange levelUnderWrong)

/-- 'retortlaw03.LevelTight': WHATEVER THE INPUT: true; the input reads as it did. -/
def levelTightSpec : ChangeSpec := { name := "levelTight", fn := fun _ => fun
  | [d1, d2] => { results := [.lit (.bool true)], args := [d1, d2] }
  | _ => none }
def levelTightRow : OpenClaim := { program := "ytbgiljognlbkhaa", sum := "41d0c79bc690e6dbe5e99a946fa58b84b9726aae93548e01af27a7c270cb9217", func := "retort/retortlaw03.LevelTight", spec := "levelTight", unfollowed := true, recurses := true, plainKeys := false, apart := false }
def LevelTightSaid : Prop := levelTightRow.holds Try.pinned (OpenSpec.ofChange levelTightSpec)

/-- ITS FALSE NEIGHBOUR: 'it returns false'. Refute it at one input. -/
def levelTightWrong : ChangeSpec := { name := "levelTight", fn := fun _ => fun
  | [d1, d2] => { results := [.lit (.bool false)], args := [d1, d2] }
  | _ => none }
def LevelTightWrongFalsely : Prop := levelTightRow.holds Try.pinned (OpenSpec.ofChange levelTightWrong)

/-- 'retortlaw03.LevelSound': WHATEVER THE INPUT: true; the input reads as it did. -/
def levelSoundSpec : ChangeSpec := { name := "levelSound", fn := fun _ => fun
  | [d1, d2, d3] => { results := [.lit (.bool true)], args := [d1, d2, d3] }
  | _ => none }
def levelSoundRow : OpenClaim := { program := "ytbgiljognlbkhaa", sum := "41d0c79bc690e6dbe5e99a946fa58b84b9726aae93548e01af27a7c270cb9217", func := "retort/retortlaw03.LevelSound", spec := "levelSound", unfollowed := true, recurses := true, plainKeys := false, apart := false }
def LevelSoundSaid : Prop := levelSoundRow.holds Try.pinned (OpenSpec.ofChange levelSoundSpec)

/-- ITS FALSE NEIGHBOUR: 'it returns false'. Refute it at one input. -/
def levelSoundWrong : ChangeSpec := { name := "levelSound", fn := fun _ => fun
  | [d1, d2, d3] => { results := [.lit (.bool false)], args := [d1, d2, d3] }
  | _ => none }
def LevelSoundWrongFalsely : Prop := levelSoundRow.holds Try.pinned (OpenSpec.ofChange levelSoundWrong)

/-- 'retortlaw03.LevelOrders': WHATEVER THE INPUT: true; the input reads as it did. -/
def levelOrdersSpec : ChangeSpec := { name := "levelOrders", fn := fun _ => fun
  | [d] => { results := [.lit (.bool true)], args := [d] }
  | _ => none }
def levelOrdersRow : OpenClaim := { program := "ytbgiljognlbkhaa", sum := "41d0c79bc690e6dbe5e99a946fa58b84b9726aae93548e01af27a7c270cb9217", func := "retort/retortlaw03.LevelOrders", spec := "levelOrders", unfollowed := true, recurses := true, plainKeys := false, apart := false }
def LevelOrdersSaid : Prop := levelOrdersRow.holds Try.pinned (OpenSpec.ofChange levelOrdersSpec)

/-- ITS FALSE NEIGHBOUR: 'it returns false'. Refute it at one input. -/
def levelOrdersWrong : ChangeSpec := { name := "levelOrders", fn := fun _ => fun
  | [d] => { results := [.lit (.bool false)], args := [d] }
  | _ => none }
def LevelOrdersWrongFalsely : Prop := levelOrdersRow.holds Try.pinned (OpenSpec.ofChange levelOrdersWrong)

/-- 'retortlaw03.LevelLeast': WHATEVER THE INPUT: true; the input reads as it did. -/
def levelLeastSpec : ChangeSpec := { name := "levelLeast", fn := fun _ => fun
  | [d] => { results := [.lit (.bool true)], args := [d] }
  | _ => none }
def levelLeastRow : OpenClaim := { program := "ytbgiljognlbkhaa", sum := "41d0c79bc690e6dbe5e99a946fa58b84b9726aae93548e01af27a7c270cb9217", func := "retort/retortlaw03.LevelLeast", spec := "levelLeast", unfollowed := true, recurses := true, plainKeys := false, apart := false }
def LevelLeastSaid : Prop := levelLeastRow.holds Try.pinned (OpenSpec.ofChange levelLeastSpec)

/-- ITS FALSE NEIGHBOUR: 'it returns false'. Refute it at one input. -/
def levelLeastWrong : ChangeSpec := { name := "levelLeast", fn := fun _ => fun
  | [d] => { results := [.lit (.bool false)], args := [d] }
  | _ => none }
def LevelLeastWrongFalsely : Prop := levelLeastRow.holds Try.pinned (OpenSpec.ofChange levelLeastWrong)

/-- 'retortlaw03.LevelJoins': WHATEVER THE INPUT: true; the input reads as it did. -/
def levelJoinsSpec : ChangeSpec := { name := "levelJoins", fn := fun _ => fun
  | [d1, d2, d3, d4] => { results := [.lit (.bool true)], args := [d1, d2, d3, d4] }
  | _ => none }
def levelJoinsRow : OpenClaim := { program := "ytbgiljognlbkhaa", sum := "41d0c79bc690e6dbe5e99a946fa58b84b9726aae93548e01af27a7c270cb9217", func := "retort/retortlaw03.LevelJoins", spec := "levelJoins", unfollowed := true, recurses := true, plainKeys := false, apart := false }
def LevelJoinsSaid : Prop := levelJoinsRow.holds Try.pinned (OpenSpec.ofChange levelJoinsSpec)

/-- ITS FALSE NEIGHBOUR: 'it returns false'. Refute it at one input. -/
def levelJoinsWrong : ChangeSpec := { name := "levelJoins", fn := fun _ => fun
  | [d1, d2, d3, d4] => { results := [.lit (.bool false)], args := [d1, d2, d3, d4] }
  | _ => none }
def LevelJoinsWrongFalsely : Prop := levelJoinsRow.holds Try.pinned (OpenSpec.ofChange levelJoinsWrong)

/-- 'retortlaw03.LevelKeeps': WHATEVER THE INPUT: true; the input reads as it did. -/
def levelKeepsSpec : ChangeSpec := { name := "levelKeeps", fn := fun _ => fun
  | [d1, d2, d3] => { results := [.lit (.bool true)], args := [d1, d2, d3] }
  | _ => none }
def levelKeepsRow : OpenClaim := { program := "ytbgiljognlbkhaa", sum := "41d0c79bc690e6dbe5e99a946fa58b84b9726aae93548e01af27a7c270cb9217", func := "retort/retortlaw03.LevelKeeps", spec := "levelKeeps", unfollowed := true, recurses := true, plainKeys := false, apart := false }
def LevelKeepsSaid : Prop := levelKeepsRow.holds Try.pinned (OpenSpec.ofChange levelKeepsSpec)

/-- ITS FALSE NEIGHBOUR: 'it returns false'. Refute it at one input. -/
def levelKeepsWrong : ChangeSpec := { name := "levelKeeps", fn := fun _ => fun
  | [d1, d2, d3] => { results := [.lit (.bool false)], args := [d1, d2, d3] }
  | _ => none }
def LevelKeepsWrongFalsely : Prop := levelKeepsRow.holds Try.pinned (OpenSpec.ofChange levelKeepsWrong)

/-- 'retortlaw03.LevelSays': WHATEVER THE INPUT: true; the input reads as it did. -/
def levelSaysSpec : ChangeSpec := { name := "levelSays", fn := fun _ => fun
  | [d1, d2] => { results := [.lit (.bool true)], args := [d1, d2] }
  | _ => none }
def levelSaysRow : OpenClaim := { program := "ytbgiljognlbkhaa", sum := "41d0c79bc690e6dbe5e99a946fa58b84b9726aae93548e01af27a7c270cb9217", func := "retort/retortlaw03.LevelSays", spec := "levelSays", unfollowed := true, recurses := true, plainKeys := false, apart := false }
def LevelSaysSaid : Prop := levelSaysRow.holds Try.pinned (OpenSpec.ofChange levelSaysSpec)

/-- ITS FALSE NEIGHBOUR: 'it returns false'. Refute it at one input. -/
def levelSaysWrong : ChangeSpec := { name := "levelSays", fn := fun _ => fun
  | [d1, d2] => { results := [.lit (.bool false)], args := [d1, d2] }
  | _ => none }
def LevelSaysWrongFalsely : Prop := levelSaysRow.holds Try.pinned (OpenSpec.ofChange levelSaysWrong)

/- THE SECOND FORM. 'bulk': how many values and letters a reading holds, each counted each time it is reached (what is shared counts as often as it is met; a slice's spare places count too). A statement '..UptoSaid' is the law's where the arguments, and the package variables that the reading takes, are together of bulk at most 1048576: NARROWER than '..Said'. Prove '..Said' where nothing that the law and all that it calls make is longer than what came in: it says more and counts as full. Else prove '..UptoSaid'. A law counts once. -/
mutual
def uptoBulk {H : Type} : DataW H → Nat
  | .lit (.string bytes) => bytes.length + 1
  | .lit _ => 1
  | .nil => 1
  | .ptr d => uptoBulk d + 1
  | .slice elems spare => uptoBulkAll elems + uptoBulkAll spare + 1
  | .agg parts => uptoBulkAll parts + 1
  | .iface _ d => uptoBulk d + 1
  | .map entries => uptoBulkEntries entries + 1
  | .held _ => 1
def uptoBulkAll {H : Type} : List (DataW H) → Nat
  | [] => 0
  | d :: r => uptoBulk d + uptoBulkAll r
def uptoBulkEntries {H : Type} : List (Lit × DataW H) → Nat
  | [] => 0
  | x :: r => uptoBulkEntry x + uptoBulkEntries r
def uptoBulkEntry {H : Type} : Lit × DataW H → Nat
  | (.string bytes, d) => bytes.length + uptoBulk d + 1
  | (_, d) => uptoBulk d + 1
 end
def uptoSmall : (H : Type) → List (DataW H) → Bool := fun _ ds => decide (uptoBulkAll ds ≤ 1048576)
def OpenSpec.upto (s : _root_.Go.ChangeSpec) : _root_.Go.OpenSpec := { _root_.Go.OpenSpec.ofChange s with cond := some uptoSmall }

/-- 'retortlaw03.LevelUnder', WHERE WHAT IT READS IS OF BULK AT MOST 1048576: true; the input reads as it did. -/
def levelUnderUptoRow : OpenClaim := { program := "ytbgiljognlbkhaa", sum := "41d0c79bc690e6dbe5e99a946fa58b84b9726aae93548e01af27a7c270cb9217", func := "retort/retortlaw03.LevelUnder", spec := "levelUnder", unfollowed := true, recurses := true, plainKeys := false, apart := false, narrowed := true }
def LevelUnderUptoSaid : Prop := levelUnderUptoRow.holds Try.pinned (OpenSpec.upto levelUnderSpec)

/-- 'retortlaw03.LevelTight', WHERE WHAT IT READS IS OF BULK AT MOST 1048576: true; the input reads as it did. -/
def levelTightUptoRow : OpenClaim := { program := "ytbgiljognlbkhaa", sum := "41d0c79bc690e6dbe5e99a946fa58b84b9726aae93548e01af27a7c270cb9217", func := "retort/retortlaw03.LevelTight", spec := "levelTight", unfollowed := true, recurses := true, plainKeys := false, apart := false, narrowed := true }
def LevelTightUptoSaid : Prop := levelTightUptoRow.holds Try.pinned (OpenSpec.upto levelTightSpec)

/-- 'retortlaw03.LevelSound', WHERE WHAT IT READS IS OF BULK AT MOST 1048576: true; the input reads as it did. -/
def levelSoundUptoRow : OpenClaim := { program := "ytbgiljognlbkhaa", sum := "41d0c79bc690e6dbe5e99a946fa58b84b9726aae93548e01af27a7c270cb9217", func := "retort/retortlaw03.LevelSound", spec := "levelSound", unfollowed := true, recurses := true, plainKeys := false, apart := false, narrowed := true }
def LevelSoundUptoSaid : Prop := levelSoundUptoRow.holds Try.pinned (OpenSpec.upto levelSoundSpec)

/-- 'retortlaw03.LevelOrders', WHERE WHAT IT READS IS OF BULK AT MOST 1048576: true; the input reads as it did. -/
def levelOrdersUptoRow : OpenClaim := { program := "ytbgiljognlbkhaa", sum := "41d0c79bc690e6dbe5e99a946fa58b84b9726aae93548e01af27a7c270cb9217", func := "retort/retortlaw03.LevelOrders", spec := "levelOrders", unfollowed := true, recurses := true, plainKeys := false, apart := false, narrowed := true }
def LevelOrdersUptoSaid : Prop := levelOrdersUptoRow.holds Try.pinned (OpenSpec.upto levelOrdersSpec)

/-- 'retortlaw03.LevelLeast', WHERE WHAT IT READS IS OF BULK AT MOST 1048576: true; the input reads as it did. -/
def levelLeastUptoRow : OpenClaim := { program := "ytbgiljognlbkhaa", sum := "41d0c79bc690e6dbe5e99a946fa58b84b9726aae93548e01af27a7c270cb9217", func := "retort/retortlaw03.LevelLeast", spec := "levelLeast", unfollowed := true, recurses := true, plainKeys := false, apart := false, narrowed := true }
def LevelLeastUptoSaid : Prop := levelLeastUptoRow.holds Try.pinned (OpenSpec.upto levelLeastSpec)

/-- 'retortlaw03.LevelJoins', WHERE WHAT IT READS IS OF BULK AT MOST 1048576: true; the input reads as it did. -/
def levelJoinsUptoRow : OpenClaim := { program := "ytbgiljognlbkhaa", sum := "41d0c79bc690e6dbe5e99a946fa58b84b9726aae93548e01af27a7c270cb9217", func := "retort/retortlaw03.LevelJoins", spec := "levelJoins", unfollowed := true, recurses := true, plainKeys := false, apart := false, narrowed := true }
def LevelJoinsUptoSaid : Prop := levelJoinsUptoRow.holds Try.pinned (OpenSpec.upto levelJoinsSpec)

/-- 'retortlaw03.LevelKeeps', WHERE WHAT IT READS IS OF BULK AT MOST 1048576: true; the input reads as it did. -/
def levelKeepsUptoRow : OpenClaim := { program := "ytbgiljognlbkhaa", sum := "41d0c79bc690e6dbe5e99a946fa58b84b9726aae93548e01af27a7c270cb9217", func := "retort/retortlaw03.LevelKeeps", spec := "levelKeeps", unfollowed := true, recurses := true, plainKeys := false, apart := false, narrowed := true }
def LevelKeepsUptoSaid : Prop := levelKeepsUptoRow.holds Try.pinned (OpenSpec.upto levelKeepsSpec)

/-- 'retortlaw03.LevelSays', WHERE WHAT IT READS IS OF BULK AT MOST 1048576: true; the input reads as it did. -/
def levelSaysUptoRow : OpenClaim := { program := "ytbgiljognlbkhaa", sum := "41d0c79bc690e6dbe5e99a946fa58b84b9726aae93548e01af27a7c270cb9217", func := "retort/retortlaw03.LevelSays", spec := "levelSays", unfollowed := true, recurses := true, plainKeys := false, apart := false, narrowed := true }
def LevelSaysUptoSaid : Prop := levelSaysUptoRow.holds Try.pinned (OpenSpec.upto levelSaysSpec)

end Rows
end Go.Proofs.Ytbgiljognlbkhaa
