/-
  NARROWER THAN 'FOR EVERY INPUT', by the rows' own cells (each row's printed sentence says how): VmSays: laid · VmTight: laid · VmCounts: laid · VmKeeps: laid · VmTotal: laid.
  DERIVED. THE GIVEN ROWS OF THIS SEAT. 5 by the template 'for every input the law returns true; each argument reads behind the call as it read before'; 0 by the template 'total and deterministic' (their statements: YtbggaljmollhmaaGreatDoorTotals.lean).
  GIVEN WITH THE SEED: the statements are not yours to turn. If you find one false, say at which input.
  Laid BY PROGRAM, IN A SANDBOX (cutbox-rows.mjs): the forced cells as the released guide's own fill.sh prints them over the translation c619920004767c83… (all of the seat's roots in one cut). By AI agents, Wed Nov 11 2026. No macro, syntax, notation, axiom, sorry.
-/
import Derived.Test.YtbggaljmollhmaaGreatDoorChecked
import GoSem.Claim
import GoSem.ClaimJoined
import GoSem.ClaimMapViews
import Derived.JoinedTies
import Derived.KernelRfl
namespace Go.Proofs.YtbggaljmollhmaaGreatDoor
/- THE CELL 'sum', in the pinned program and in every row, IS THE sha256 OF THE DUMP (.gsa) THAT YtbggaljmollhmaaGreatDoorProg.lean LOADS. Nothing in Lean hashes anything: it is a label: what it is worth is what the hold of that sum in a sandbox is worth. -/
noncomputable def Tryz.pinned : Pinned := { name := "ytbggaljmollhmaagreatdoor", sum := "c619920004767c837c5b8c3ebfa829a78d06baa0aa5cfaad08db747d6e23c04e", checked := Tryz.checked }
namespace Rows
def none {H : Type} : Left H := { results := [], args := [] }

/- WHAT THE LISTED PACKAGE-LEVEL VARIABLES READ AS WHEN THE CALL BEGINS. Each datum BY PROGRAM (the guide's laid-datum.mjs) off the statement by which the dump's own 'gosem.cut.vars' lays the variable. In a bare row this is a premise. The card (YtbggaljmollhmaaGreatDoorCards.lean) ties it to the program's text. -/
def laid_retort_heap_kinds {H : Type} : DataW H := .agg [.agg [.lit (.int .i64 1023), .lit (.int .i64 1), .lit (.int .i64 16)], .agg [.lit (.int .i64 4095), .lit (.int .i64 0), .lit (.int .i64 255)], .agg [.lit (.int .i64 0), .lit (.int .i64 1), .lit (.int .i64 65535)]]

/-- 'retortlaw22.VmSays': WHATEVER THE INPUT: true; the input reads as it did. -/
def vmSaysSpec : ChangeSpec := { name := "vmSays", fn := fun _ => fun
  | [d1, d2, d3, d4] => { results := [.lit (.bool true)], args := [d1, d2, d3, d4] }
  | _ => none }
def vmSaysRow : OpenClaim := { program := "ytbggaljmollhmaagreatdoor", sum := "c619920004767c837c5b8c3ebfa829a78d06baa0aa5cfaad08db747d6e23c04e", func := "retort/retortlaw22.VmSays", spec := "vmSays", unfollowed := true, recurses := true, named := ["retort/heap.kinds"], apart := false, laid := [("retort/heap.kinds", laid_retort_heap_kinds)] }
def VmSaysSaid : Prop := vmSaysRow.holds Tryz.pinned (OpenSpec.ofChange vmSaysSpec)

/-- ITS FALSE NEIGHBOUR: 'it returns false'. Refute it at one input. -/
def vmSaysWrong : ChangeSpec := { name := "vmSays", fn := fun _ => fun
  | [d1, d2, d3, d4] => { results := [.lit (.bool false)], args := [d1, d2, d3, d4] }
  | _ => none }
def VmSaysWrongFalsely : Prop := vmSaysRow.holds Tryz.pinned (OpenSpec.ofChange vmSaysWrong)

/-- 'retortlaw22.VmTight': WHATEVER THE INPUT: true; the input reads as it did. -/
def vmTightSpec : ChangeSpec := { name := "vmTight", fn := fun _ => fun
  | [d1, d2, d3] => { results := [.lit (.bool true)], args := [d1, d2, d3] }
  | _ => none }
def vmTightRow : OpenClaim := { program := "ytbggaljmollhmaagreatdoor", sum := "c619920004767c837c5b8c3ebfa829a78d06baa0aa5cfaad08db747d6e23c04e", func := "retort/retortlaw22.VmTight", spec := "vmTight", unfollowed := true, recurses := true, named := ["retort/heap.kinds"], apart := false, laid := [("retort/heap.kinds", laid_retort_heap_kinds)] }
def VmTightSaid : Prop := vmTightRow.holds Tryz.pinned (OpenSpec.ofChange vmTightSpec)

/-- ITS FALSE NEIGHBOUR: 'it returns false'. Refute it at one input. -/
def vmTightWrong : ChangeSpec := { name := "vmTight", fn := fun _ => fun
  | [d1, d2, d3] => { results := [.lit (.bool false)], args := [d1, d2, d3] }
  | _ => none }
def VmTightWrongFalsely : Prop := vmTightRow.holds Tryz.pinned (OpenSpec.ofChange vmTightWrong)

/-- 'retortlaw22.VmCounts': WHATEVER THE INPUT: true; the input reads as it did. -/
def vmCountsSpec : ChangeSpec := { name := "vmCounts", fn := fun _ => fun
  | [d1, d2, d3] => { results := [.lit (.bool true)], args := [d1, d2, d3] }
  | _ => none }
def vmCountsRow : OpenClaim := { program := "ytbggaljmollhmaagreatdoor", sum := "c619920004767c837c5b8c3ebfa829a78d06baa0aa5cfaad08db747d6e23c04e", func := "retort/retortlaw22.VmCounts", spec := "vmCounts", unfollowed := true, recurses := true, named := ["retort/heap.kinds"], apart := false, laid := [("retort/heap.kinds", laid_retort_heap_kinds)] }
def VmCountsSaid : Prop := vmCountsRow.holds Tryz.pinned (OpenSpec.ofChange vmCountsSpec)

/-- ITS FALSE NEIGHBOUR: 'it returns false'. Refute it at one input. -/
def vmCountsWrong : ChangeSpec := { name := "vmCounts", fn := fun _ => fun
  | [d1, d2, d3] => { results := [.lit (.bool false)], args := [d1, d2, d3] }
  | _ => none }
def VmCountsWrongFalsely : Prop := vmCountsRow.holds Tryz.pinned (OpenSpec.ofChange vmCountsWrong)

/-- 'retortlaw22.VmKeeps': WHATEVER THE INPUT: true; the input reads as it did. -/
def vmKeepsSpec : ChangeSpec := { name := "vmKeeps", fn := fun _ => fun
  | [d1, d2, d3] => { results := [.lit (.bool true)], args := [d1, d2, d3] }
  | _ => none }
def vmKeepsRow : OpenClaim := { program := "ytbggaljmollhmaagreatdoor", sum := "c619920004767c837c5b8c3ebfa829a78d06baa0aa5cfaad08db747d6e23c04e", func := "retort/retortlaw22.VmKeeps", spec := "vmKeeps", unfollowed := true, recurses := true, named := ["retort/heap.kinds"], apart := false, laid := [("retort/heap.kinds", laid_retort_heap_kinds)] }
def VmKeepsSaid : Prop := vmKeepsRow.holds Tryz.pinned (OpenSpec.ofChange vmKeepsSpec)

/-- ITS FALSE NEIGHBOUR: 'it returns false'. Refute it at one input. -/
def vmKeepsWrong : ChangeSpec := { name := "vmKeeps", fn := fun _ => fun
  | [d1, d2, d3] => { results := [.lit (.bool false)], args := [d1, d2, d3] }
  | _ => none }
def VmKeepsWrongFalsely : Prop := vmKeepsRow.holds Tryz.pinned (OpenSpec.ofChange vmKeepsWrong)

/-- 'retortlaw22.VmTotal': WHATEVER THE INPUT: true; the input reads as it did. -/
def vmTotalSpec : ChangeSpec := { name := "vmTotal", fn := fun _ => fun
  | [d1, d2, d3, d4, d5] => { results := [.lit (.bool true)], args := [d1, d2, d3, d4, d5] }
  | _ => none }
def vmTotalRow : OpenClaim := { program := "ytbggaljmollhmaagreatdoor", sum := "c619920004767c837c5b8c3ebfa829a78d06baa0aa5cfaad08db747d6e23c04e", func := "retort/retortlaw22.VmTotal", spec := "vmTotal", unfollowed := true, recurses := true, named := ["retort/heap.kinds"], apart := false, laid := [("retort/heap.kinds", laid_retort_heap_kinds)] }
def VmTotalSaid : Prop := vmTotalRow.holds Tryz.pinned (OpenSpec.ofChange vmTotalSpec)

/-- ITS FALSE NEIGHBOUR: 'it returns false'. Refute it at one input. -/
def vmTotalWrong : ChangeSpec := { name := "vmTotal", fn := fun _ => fun
  | [d1, d2, d3, d4, d5] => { results := [.lit (.bool false)], args := [d1, d2, d3, d4, d5] }
  | _ => none }
def VmTotalWrongFalsely : Prop := vmTotalRow.holds Tryz.pinned (OpenSpec.ofChange vmTotalWrong)

/- THE SECOND FORM. 'bulk': how many values and letters a reading holds, each counted each time it is reached (what is shared counts as often as it is met; a slice's spare places count too). A statement '..UptoSaid' is the law's where the arguments, and the package variables that the reading takes, are together of bulk at most 1048576: NARROWER than '..Said'. Prove '..Said' where nothing that the law and all that it calls make is longer than what came in: it says more and counts as full. Else prove '..UptoSaid'. A law counts once. -/
mutual
def uptoBulk {H : Type} : DataW H → Nat
  | .lit (.string bytes) => bytes.length + 1
  | .lit _ => 1
  | .nil => 1
  | .ptr d => uptoBulk d + 1
  | .slice elems spare => uptoBulkAll elems + uptoBulkAll spare + 1
  | .agg parts => uptoBulkAll parts + 1
  | .iface _ d => uptoBulk d + 1
  | .map entries => uptoBulkEntries entries + 1
  | .held _ => 1
def uptoBulkAll {H : Type} : List (DataW H) → Nat
  | [] => 0
  | d :: r => uptoBulk d + uptoBulkAll r
def uptoBulkEntries {H : Type} : List (Lit × DataW H) → Nat
  | [] => 0
  | x :: r => uptoBulkEntry x + uptoBulkEntries r
def uptoBulkEntry {H : Type} : Lit × DataW H → Nat
  | (.string bytes, d) => bytes.length + uptoBulk d + 1
  | (_, d) => uptoBulk d + 1
 end
def uptoSmall : (H : Type) → List (DataW H) → Bool := fun _ ds => decide (uptoBulkAll ds ≤ 1048576)
def OpenSpec.upto (s : _root_.Go.ChangeSpec) : _root_.Go.OpenSpec := { _root_.Go.OpenSpec.ofChange s with cond := some uptoSmall }

/-- 'retortlaw22.VmSays', WHERE WHAT IT READS IS OF BULK AT MOST 1048576: true; the input reads as it did. -/
def vmSaysUptoRow : OpenClaim := { program := "ytbggaljmollhmaagreatdoor", sum := "c619920004767c837c5b8c3ebfa829a78d06baa0aa5cfaad08db747d6e23c04e", func := "retort/retortlaw22.VmSays", spec := "vmSays", unfollowed := true, recurses := true, named := ["retort/heap.kinds"], apart := false, laid := [("retort/heap.kinds", laid_retort_heap_kinds)], narrowed := true }
def VmSaysUptoSaid : Prop := vmSaysUptoRow.holds Tryz.pinned (OpenSpec.upto vmSaysSpec)

/-- 'retortlaw22.VmTight', WHERE WHAT IT READS IS OF BULK AT MOST 1048576: true; the input reads as it did. -/
def vmTightUptoRow : OpenClaim := { program := "ytbggaljmollhmaagreatdoor", sum := "c619920004767c837c5b8c3ebfa829a78d06baa0aa5cfaad08db747d6e23c04e", func := "retort/retortlaw22.VmTight", spec := "vmTight", unfollowed := true, recurses := true, named := ["retort/heap.kinds"], apart := false, laid := [("retort/heap.kinds", laid_retort_heap_kinds)], narrowed := true }
def VmTightUptoSaid : Prop := vmTightUptoRow.holds Tryz.pinned (OpenSpec.upto vmTightSpec)

/-- 'retortlaw22.VmCounts', WHERE WHAT IT READS IS OF BULK AT MOST 1048576: true; the input reads as it did. -/
def vmCountsUptoRow : OpenClaim := { program := "ytbggaljmollhmaagreatdoor", sum := "c619920004767c837c5b8c3ebfa829a78d06baa0aa5cfaad08db747d6e23c04e", func := "retort/retortlaw22.VmCounts", spec := "vmCounts", unfollowed := true, recurses := true, named := ["retort/heap.kinds"], apart := false, laid := [("retort/heap.kinds", laid_retort_heap_kinds)], narrowed := true }
def VmCountsUptoSaid : Prop := vmCountsUptoRow.holds Tryz.pinned (OpenSpec.upto vmCountsSpec)

/-- 'retortlaw22.VmKeeps', WHERE WHAT IT READS IS OF BULK AT MOST 1048576: true; the input reads as it did. -/
def vmKeepsUptoRow : OpenClaim := { program := "ytbggaljmollhmaagreatdoor", sum := "c619920004767c837c5b8c3ebfa829a78d06baa0aa5cfaad08db747d6e23c04e", func := "retort/retortlaw22.VmKeeps", spec := "vmKeeps", unfollowed := true, recurses := true, named := ["retort/heap.kinds"], apart := false, laid := [("retort/heap.kinds", laid_retort_heap_kinds)], narrowed := true }
def VmKeepsUptoSaid : Prop := vmKeepsUptoRow.holds Tryz.pinned (OpenSpec.upto vmKeepsSpec)

/-- 'retortlaw22.VmTotal', WHERE WHAT IT READS IS OF BULK AT MOST 1048576: true; the input reads as it did. -/
def vmTotalUptoRow : OpenClaim := { program := "ytbggaljmollhmaagreatdoor", sum := "c619920004767c837c5b8c3ebfa829a78d06baa0aa5cfaad08db747d6e23c04e", func := "retort/retortlaw22.VmTotal", spec := "vmTotal", unfollowed := true, recurses := true, named := ["retort/heap.kinds"], apart := false, laid := [("retort/heap.kinds", laid_retort_heap_kinds)], narrowed := true }
def VmTotalUptoSaid : Prop := vmTotalUptoRow.holds Tryz.pinned (OpenSpec.upto vmTotalSpec)

end Rows
end Go.Proofs.YtbggaljmollhmaaGreatDoor
