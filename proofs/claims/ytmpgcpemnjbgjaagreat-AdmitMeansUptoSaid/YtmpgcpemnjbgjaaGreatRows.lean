/-
  No cell of these rows narrows 'for every input' (looked for: loops, veiled, ifaces, maps, wideKeys, modest, calm, conditions, laid).
  DERIVED. THE GIVEN ROWS OF THIS SEAT. 7 by the template 'for every input the law returns true; each argument reads behind the call as it read before'; 0 by the template 'total and deterministic' (their statements: YtmpgcpemnjbgjaaGreatTotals.lean).
  GIVEN WITH THE SEED: the statements are not yours to turn. If you find one false, say at which input.
  Laid BY PROGRAM, IN A SANDBOX (cutbox-rows.mjs): the forced cells as the released guide's own fill.sh prints them over the translation 907db753dd189a76… (all of the seat's roots in one cut). By AI agents, Wed Nov 11 2026. No macro, syntax, notation, axiom, sorry.
-/
import Derived.Test.YtmpgcpemnjbgjaaGreatChecked
import GoSem.Claim
import GoSem.ClaimJoined
import GoSem.ClaimMapViews
import Derived.JoinedTies
import Derived.KernelRfl
namespace Go.Proofs.YtmpgcpemnjbgjaaGreat
/- THE CELL 'sum', in the pinned program and in every row, IS THE sha256 OF THE DUMP (.gsa) THAT YtmpgcpemnjbgjaaGreatProg.lean LOADS. Nothing in Lean hashes anything: it is a label: what it is worth is what the hold of that sum in a sandbox is worth. -/
noncomputable def Tryz.pinned : Pinned := { name := "ytmpgcpemnjbgjaagreat", sum := "907db753dd189a760d10f8c6ddf90deed2db1be59017b31feee6ff924ea615b5", checked := Tryz.checked }
namespace Rows
def none {H : Type} : Left H := { results := [], args := [] }

/-- 'retortlaw11.FamilyStands': WHATEVER THE INPUT: true; the input reads as it did. -/
def familyStandsSpec : ChangeSpec := { name := "familyStands", fn := fun _ => fun
  | [d1, d2, d3] => { results := [.lit (.bool true)], args := [d1, d2, d3] }
  | _ => none }
def familyStandsRow : OpenClaim := { program := "ytmpgcpemnjbgjaagreat", sum := "907db753dd189a760d10f8c6ddf90deed2db1be59017b31feee6ff924ea615b5", func := "retort/retortlaw11.FamilyStands", spec := "familyStands", unfollowed := true, recurses := true, plainKeys := false, apart := false }
def FamilyStandsSaid : Prop := familyStandsRow.holds Tryz.pinned (OpenSpec.ofChange familyStandsSpec)

/-- ITS FALSE NEIGHBOUR: 'it returns false'. Refute it at one input. -/
def familyStandsWrong : ChangeSpec := { name := "familyStands", fn := fun _ => fun
  | [d1, d2, d3] => { results := [.lit (.bool false)], args := [d1, d2, d3] }
  | _ => none }
def FamilyStandsWrongFalsely : Prop := familyStandsRow.holds Tryz.pinned (OpenSpec.ofChange familyStandsWrong)

/-- 'retortlaw11.FamilyRoom': WHATEVER THE INPUT: true; the input reads as it did. -/
def familyRoomSpec : ChangeSpec := { name := "familyRoom", fn := fun _ => fun
  | [d1, d2, d3, d4] => { results := [.lit (.bool true)], args := [d1, d2, d3, d4] }
  | _ => none }
def familyRoomRow : OpenClaim := { program := "ytmpgcpemnjbgjaagreat", sum := "907db753dd189a760d10f8c6ddf90deed2db1be59017b31feee6ff924ea615b5", func := "retort/retortlaw11.FamilyRoom", spec := "familyRoom", unfollowed := true, recurses := true, plainKeys := false, apart := false }
def FamilyRoomSaid : Prop := familyRoomRow.holds Tryz.pinned (OpenSpec.ofChange familyRoomSpec)

/-- ITS FALSE NEIGHBOUR: 'it returns false'. Refute it at one input. -/
def familyRoomWrong : ChangeSpec := { name := "familyRoom", fn := fun _ => fun
  | [d1, d2, d3, d4] => { results := [.lit (.bool false)], args := [d1, d2, d3, d4] }
  | _ => none }
def FamilyRoomWrongFalsely : Prop := familyRoomRow.holds Tryz.pinned (OpenSpec.ofChange familyRoomWrong)

/-- 'retortlaw11.FamilyDrops': WHATEVER THE INPUT: true; the input reads as it did. -/
def familyDropsSpec : ChangeSpec := { name := "familyDrops", fn := fun _ => fun
  | [d1, d2, d3] => { results := [.lit (.bool true)], args := [d1, d2, d3] }
  | _ => none }
def familyDropsRow : OpenClaim := { program := "ytmpgcpemnjbgjaagreat", sum := "907db753dd189a760d10f8c6ddf90deed2db1be59017b31feee6ff924ea615b5", func := "retort/retortlaw11.FamilyDrops", spec := "familyDrops", unfollowed := true, recurses := true, plainKeys := false, apart := false }
def FamilyDropsSaid : Prop := familyDropsRow.holds Tryz.pinned (OpenSpec.ofChange familyDropsSpec)

/-- ITS FALSE NEIGHBOUR: 'it returns false'. Refute it at one input. -/
def familyDropsWrong : ChangeSpec := { name := "familyDrops", fn := fun _ => fun
  | [d1, d2, d3] => { results := [.lit (.bool false)], args := [d1, d2, d3] }
  | _ => none }
def FamilyDropsWrongFalsely : Prop := familyDropsRow.holds Tryz.pinned (OpenSpec.ofChange familyDropsWrong)

/-- 'retortlaw11.FamilyTypes': WHATEVER THE INPUT: true; the input reads as it did. -/
def familyTypesSpec : ChangeSpec := { name := "familyTypes", fn := fun _ => fun
  | [d1, d2] => { results := [.lit (.bool true)], args := [d1, d2] }
  | _ => none }
def familyTypesRow : OpenClaim := { program := "ytmpgcpemnjbgjaagreat", sum := "907db753dd189a760d10f8c6ddf90deed2db1be59017b31feee6ff924ea615b5", func := "retort/retortlaw11.FamilyTypes", spec := "familyTypes", unfollowed := true, recurses := true, plainKeys := false, apart := false }
def FamilyTypesSaid : Prop := familyTypesRow.holds Tryz.pinned (OpenSpec.ofChange familyTypesSpec)

/-- ITS FALSE NEIGHBOUR: 'it returns false'. Refute it at one input. -/
def familyTypesWrong : ChangeSpec := { name := "familyTypes", fn := fun _ => fun
  | [d1, d2] => { results := [.lit (.bool false)], args := [d1, d2] }
  | _ => none }
def FamilyTypesWrongFalsely : Prop := familyTypesRow.holds Tryz.pinned (OpenSpec.ofChange familyTypesWrong)

/-- 'retortlaw12.AdmitFuel': WHATEVER THE INPUT: true; the input reads as it did. -/
def admitFuelSpec : ChangeSpec := { name := "admitFuel", fn := fun _ => fun
  | [d1, d2, d3] => { results := [.lit (.bool true)], args := [d1, d2, d3] }
  | _ => none }
def admitFuelRow : OpenClaim := { program := "ytmpgcpemnjbgjaagreat", sum := "907db753dd189a760d10f8c6ddf90deed2db1be59017b31feee6ff924ea615b5", func := "retort/retortlaw12.AdmitFuel", spec := "admitFuel", unfollowed := true, recurses := true, plainKeys := false, apart := false }
def AdmitFuelSaid : Prop := admitFuelRow.holds Tryz.pinned (OpenSpec.ofChange admitFuelSpec)

/-- ITS FALSE NEIGHBOUR: 'it returns false'. Refute it at one input. -/
def admitFuelWrong : ChangeSpec := { name := "admitFuel", fn := fun _ => fun
  | [d1, d2, d3] => { results := [.lit (.bool false)], args := [d1, d2, d3] }
  | _ => none }
def AdmitFuelWrongFalsely : Prop := admitFuelRow.holds Tryz.pinned (OpenSpec.ofChange admitFuelWrong)

/-- 'retortlaw12.AdmitBegins': WHATEVER THE INPUT: true; the input reads as it did. -/
def admitBeginsSpec : ChangeSpec := { name := "admitBegins", fn := fun _ => fun
  | [d1, d2, d3] => { results := [.lit (.bool true)], args := [d1, d2, d3] }
  | _ => none }
def admitBeginsRow : OpenClaim := { program := "ytmpgcpemnjbgjaagreat", sum := "907db753dd189a760d10f8c6ddf90deed2db1be59017b31feee6ff924ea615b5", func := "retort/retortlaw12.AdmitBegins", spec := "admitBegins", unfollowed := true, recurses := true, plainKeys := false, apart := false }
def AdmitBeginsSaid : Prop := admitBeginsRow.holds Tryz.pinned (OpenSpec.ofChange admitBeginsSpec)

/-- ITS FALSE NEIGHBOUR: 'it returns false'. Refute it at one input. -/
def admitBeginsWrong : ChangeSpec := { name := "admitBegins", fn := fun _ => fun
  | [d1, d2, d3] => { results := [.lit (.bool false)], args := [d1, d2, d3] }
  | _ => none }
def AdmitBeginsWrongFalsely : Prop := admitBeginsRow.holds Tryz.pinned (OpenSpec.ofChange admitBeginsWrong)

/-- 'retortlaw12.AdmitMeans': WHATEVER THE INPUT: true; the input reads as it did. -/
def admitMeansSpec : ChangeSpec := { name := "admitMeans", fn := fun _ => fun
  | [d1, d2, d3] => { results := [.lit (.bool true)], args := [d1, d2, d3] }
  | _ => none }
def admitMeansRow : OpenClaim := { program := "ytmpgcpemnjbgjaagreat", sum := "907db753dd189a760d10f8c6ddf90deed2db1be59017b31feee6ff924ea615b5", func := "retort/retortlaw12.AdmitMeans", spec := "admitMeans", unfollowed := true, recurses := true, plainKeys := false, apart := false }
def AdmitMeansSaid : Prop := admitMeansRow.holds Tryz.pinned (OpenSpec.ofChange admitMeansSpec)

/-- ITS FALSE NEIGHBOUR: 'it returns false'. Refute it at one input. -/
def admitMeansWrong : ChangeSpec := { name := "admitMeans", fn := fun _ => fun
  | [d1, d2, d3] => { results := [.lit (.bool false)], args := [d1, d2, d3] }
  | _ => none }
def AdmitMeansWrongFalsely : Prop := admitMeansRow.holds Tryz.pinned (OpenSpec.ofChange admitMeansWrong)

/- THE SECOND FORM. 'bulk': how many values and letters a reading holds, each counted each time it is reached (what is shared counts as often as it is met; a slice's spare places count too). A statement '..UptoSaid' is the law's where the arguments, and the package variables that the reading takes, are together of bulk at most 1048576: NARROWER than '..Said'. Prove '..Said' where nothing that the law and all that it calls make is longer than what came in: it says more and counts as full. Else prove '..UptoSaid'. A law counts once. -/
mutual
def uptoBulk {H : Type} : DataW H → Nat
  | .lit (.string bytes) => bytes.length + 1
  | .lit _ => 1
  | .nil => 1
  | .ptr d => uptoBulk d + 1
  | .slice elems spare => uptoBulkAll elems + uptoBulkAll spare + 1
  | .agg parts => uptoBulkAll parts + 1
  | .iface _ d => uptoBulk d + 1
  | .map entries => uptoBulkEntries entries + 1
  | .held _ => 1
def uptoBulkAll {H : Type} : List (DataW H) → Nat
  | [] => 0
  | d :: r => uptoBulk d + uptoBulkAll r
def uptoBulkEntries {H : Type} : List (Lit × DataW H) → Nat
  | [] => 0
  | x :: r => uptoBulkEntry x + uptoBulkEntries r
def uptoBulkEntry {H : Type} : Lit × DataW H → Nat
  | (.string bytes, d) => bytes.length + uptoBulk d + 1
  | (_, d) => uptoBulk d + 1
 end
def uptoSmall : (H : Type) → List (DataW H) → Bool := fun _ ds => decide (uptoBulkAll ds ≤ 1048576)
def OpenSpec.upto (s : _root_.Go.ChangeSpec) : _root_.Go.OpenSpec := { _root_.Go.OpenSpec.ofChange s with cond := some uptoSmall }

/-- 'retortlaw11.FamilyStands', WHERE WHAT IT READS IS OF BULK AT MOST 1048576: true; the input reads as it did. -/
def familyStandsUptoRow : OpenClaim := { program := "ytmpgcpemnjbgjaagreat", sum := "907db753dd189a760d10f8c6ddf90deed2db1be59017b31feee6ff924ea615b5", func := "retort/retortlaw11.FamilyStands", spec := "familyStands", unfollowed := true, recurses := true, plainKeys := false, apart := false, narrowed := true }
def FamilyStandsUptoSaid : Prop := familyStandsUptoRow.holds Tryz.pinned (OpenSpec.upto familyStandsSpec)

/-- 'retortlaw11.FamilyRoom', WHERE WHAT IT READS IS OF BULK AT MOST 1048576: true; the input reads as it did. -/
def familyRoomUptoRow : OpenClaim := { program := "ytmpgcpemnjbgjaagreat", sum := "907db753dd189a760d10f8c6ddf90deed2db1be59017b31feee6ff924ea615b5", func := "retort/retortlaw11.FamilyRoom", spec := "familyRoom", unfollowed := true, recurses := true, plainKeys := false, apart := false, narrowed := true }
def FamilyRoomUptoSaid : Prop := familyRoomUptoRow.holds Tryz.pinned (OpenSpec.upto familyRoomSpec)

/-- 'retortlaw11.FamilyDrops', WHERE WHAT IT READS IS OF BULK AT MOST 1048576: true; the input reads as it did. -/
def familyDropsUptoRow : OpenClaim := { program := "ytmpgcpemnjbgjaagreat", sum := "907db753dd189a760d10f8c6ddf90deed2db1be59017b31feee6ff924ea615b5", func := "retort/retortlaw11.FamilyDrops", spec := "familyDrops", unfollowed := true, recurses := true, plainKeys := false, apart := false, narrowed := true }
def FamilyDropsUptoSaid : Prop := familyDropsUptoRow.holds Tryz.pinned (OpenSpec.upto familyDropsSpec)

/-- 'retortlaw11.FamilyTypes', WHERE WHAT IT READS IS OF BULK AT MOST 1048576: true; the input reads as it did. -/
def familyTypesUptoRow : OpenClaim := { program := "ytmpgcpemnjbgjaagreat", sum := "907db753dd189a760d10f8c6ddf90deed2db1be59017b31feee6ff924ea615b5", func := "retort/retortlaw11.FamilyTypes", spec := "familyTypes", unfollowed := true, recurses := true, plainKeys := false, apart := false, narrowed := true }
def FamilyTypesUptoSaid : Prop := familyTypesUptoRow.holds Tryz.pinned (OpenSpec.upto familyTypesSpec)

/-- 'retortlaw12.AdmitFuel', WHERE WHAT IT READS IS OF BULK AT MOST 1048576: true; the input reads as it did. -/
def admitFuelUptoRow : OpenClaim := { program := "ytmpgcpemnjbgjaagreat", sum := "907db753dd189a760d10f8c6ddf90deed2db1be59017b31feee6ff924ea615b5", func := "retort/retortlaw12.AdmitFuel", spec := "admitFuel", unfollowed := true, recurses := true, plainKeys := false, apart := false, narrowed := true }
def AdmitFuelUptoSaid : Prop := admitFuelUptoRow.holds Tryz.pinned (OpenSpec.upto admitFuelSpec)

/-- 'retortlaw12.AdmitBegins', WHERE WHAT IT READS IS OF BULK AT MOST 1048576: true; the input reads as it did. -/
def admitBeginsUptoRow : OpenClaim := { program := "ytmpgcpemnjbgjaagreat", sum := "907db753dd189a760d10f8c6ddf90deed2db1be59017b31feee6ff924ea615b5", func := "retort/retortlaw12.AdmitBegins", spec := "admitBegins", unfollowed := true, recurses := true, plainKeys := false, apart := false, narrowed := true }
def AdmitBeginsUptoSaid : Prop := admitBeginsUptoRow.holds Tryz.pinned (OpenSpec.upto admitBeginsSpec)

/-- 'retortlaw12.AdmitMeans', WHERE WHAT IT READS IS OF BULK AT MOST 1048576: true; the input reads as it did. -/
def admitMeansUptoRow : OpenClaim := { program := "ytmpgcpemnjbgjaagreat", sum := "907db753dd189a760d10f8c6ddf90deed2db1be59017b31feee6ff924ea615b5", func := "retort/retortlaw12.AdmitMeans", spec := "admitMeans", unfollowed := true, recurses := true, plainKeys := false, apart := false, narrowed := true }
def AdmitMeansUptoSaid : Prop := admitMeansUptoRow.holds Tryz.pinned (OpenSpec.upto admitMeansSpec)

end Rows
end Go.Proofs.YtmpgcpemnjbgjaaGreat
