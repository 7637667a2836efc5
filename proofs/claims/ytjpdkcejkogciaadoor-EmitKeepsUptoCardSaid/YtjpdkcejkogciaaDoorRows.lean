/-
  NARROWER THAN 'FOR EVERY INPUT', by the rows' own cells (each row's printed sentence says how): EmitMakes: laid · EmitLines: laid · EmitParts: laid · EmitKeeps: laid.
  DERIVED. THE GIVEN ROWS OF THIS SEAT. 4 by the template 'for every input the law returns true; each argument reads behind the call as it read before'; 0 by the template 'total and deterministic' (their statements: YtjpdkcejkogciaaDoorTotals.lean).
  GIVEN WITH THE SEED: the statements are not yours to turn. If you find one false, say at which input.
  Laid BY PROGRAM, IN A SANDBOX (cutbox-rows.mjs): the forced cells as the released guide's own fill.sh prints them over the translation 4e5cf4a18f1a41cc… (all of the seat's roots in one cut). By AI agents, Wed Nov 11 2026. No macro, syntax, notation, axiom, sorry.
-/
import Derived.Test.YtjpdkcejkogciaaDoorChecked
import GoSem.Claim
import GoSem.ClaimJoined
import GoSem.ClaimMapViews
import Derived.JoinedTies
import Derived.KernelRfl
namespace Go.Proofs.YtjpdkcejkogciaaDoor
/- THE CELL 'sum', in the pinned program and in every row, IS THE sha256 OF THE DUMP (.gsa) THAT YtjpdkcejkogciaaDoorProg.lean LOADS. Nothing in Lean hashes anything: it is a label: what it is worth is what the hold of that sum in a sandbox is worth. -/
noncomputable def Tryd.pinned : Pinned := { name := "ytjpdkcejkogciaadoor", sum := "4e5cf4a18f1a41cc53998219d02c88f9556a00516005e82fed4a52fa31c35c3b", checked := Tryd.checked }
namespace Rows
def none {H : Type} : Left H := { results := [], args := [] }

/- WHAT THE LISTED PACKAGE-LEVEL VARIABLES READ AS WHEN THE CALL BEGINS. Each datum BY PROGRAM (the guide's laid-datum.mjs) off the statement by which the dump's own 'gosem.cut.vars' lays the variable. In a bare row this is a premise. The card (YtjpdkcejkogciaaDoorCards.lean) ties it to the program's text. -/
def laid_retort_emit_done {H : Type} : DataW H := .agg [.lit (.int .i64 0), .lit (.int .i64 1), .lit (.int .i64 2), .lit (.int .i64 7), .lit (.int .i64 4), .lit (.int .i64 5), .lit (.int .i64 0), .lit (.int .i64 8), .lit (.int .i64 0), .lit (.int .i64 0), .lit (.int .i64 10), .lit (.int .i64 0), .lit (.int .i64 12)]

/-- 'retortlaw21.EmitMakes': WHATEVER THE INPUT: true; the input reads as it did. -/
def emitMakesSpec : ChangeSpec := { name := "emitMakes", fn := fun _ => fun
  | [d1, d2] => { results := [.lit (.bool true)], args := [d1, d2] }
  | _ => none }
def emitMakesRow : OpenClaim := { program := "ytjpdkcejkogciaadoor", sum := "4e5cf4a18f1a41cc53998219d02c88f9556a00516005e82fed4a52fa31c35c3b", func := "retort/retortlaw21.EmitMakes", spec := "emitMakes", unfollowed := true, recurses := true, named := ["retort/emit.done"], apart := false, laid := [("retort/emit.done", laid_retort_emit_done)] }
def EmitMakesSaid : Prop := emitMakesRow.holds Tryd.pinned (OpenSpec.ofChange emitMakesSpec)

/-- ITS FALSE NEIGHBOUR: 'it returns false'. Refute it at one input. -/
def emitMakesWrong : ChangeSpec := { name := "emitMakes", fn := fun _ => fun
  | [d1, d2] => { results := [.lit (.bool false)], args := [d1, d2] }
  | _ => none }
def EmitMakesWrongFalsely : Prop := emitMakesRow.holds Tryd.pinned (OpenSpec.ofChange emitMakesWrong)

/-- 'retortlaw21.EmitLines': WHATEVER THE INPUT: true; the input reads as it did. -/
def emitLinesSpec : ChangeSpec := { name := "emitLines", fn := fun _ => fun
  | [d1, d2] => { results := [.lit (.bool true)], args := [d1, d2] }
  | _ => none }
def emitLinesRow : OpenClaim := { program := "ytjpdkcejkogciaadoor", sum := "4e5cf4a18f1a41cc53998219d02c88f9556a00516005e82fed4a52fa31c35c3b", func := "retort/retortlaw21.EmitLines", spec := "emitLines", unfollowed := true, recurses := true, named := ["retort/emit.done"], apart := false, laid := [("retort/emit.done", laid_retort_emit_done)] }
def EmitLinesSaid : Prop := emitLinesRow.holds Tryd.pinned (OpenSpec.ofChange emitLinesSpec)

/-- ITS FALSE NEIGHBOUR: 'it returns false'. Refute it at one input. -/
def emitLinesWrong : ChangeSpec := { name := "emitLines", fn := fun _ => fun
  | [d1, d2] => { results := [.lit (.bool false)], args := [d1, d2] }
  | _ => none }
def EmitLinesWrongFalsely : Prop := emitLinesRow.holds Tryd.pinned (OpenSpec.ofChange emitLinesWrong)

/-- 'retortlaw21.EmitParts': WHATEVER THE INPUT: true; the input reads as it did. -/
def emitPartsSpec : ChangeSpec := { name := "emitParts", fn := fun _ => fun
  | [d1, d2] => { results := [.lit (.bool true)], args := [d1, d2] }
  | _ => none }
def emitPartsRow : OpenClaim := { program := "ytjpdkcejkogciaadoor", sum := "4e5cf4a18f1a41cc53998219d02c88f9556a00516005e82fed4a52fa31c35c3b", func := "retort/retortlaw21.EmitParts", spec := "emitParts", unfollowed := true, recurses := true, named := ["retort/emit.done"], apart := false, laid := [("retort/emit.done", laid_retort_emit_done)] }
def EmitPartsSaid : Prop := emitPartsRow.holds Tryd.pinned (OpenSpec.ofChange emitPartsSpec)

/-- ITS FALSE NEIGHBOUR: 'it returns false'. Refute it at one input. -/
def emitPartsWrong : ChangeSpec := { name := "emitParts", fn := fun _ => fun
  | [d1, d2] => { results := [.lit (.bool false)], args := [d1, d2] }
  | _ => none }
def EmitPartsWrongFalsely : Prop := emitPartsRow.holds Tryd.pinned (OpenSpec.ofChange emitPartsWrong)

/-- 'retortlaw21.EmitKeeps': WHATEVER THE INPUT: true; the input reads as it did. -/
def emitKeepsSpec : ChangeSpec := { name := "emitKeeps", fn := fun _ => fun
  | [d1, d2] => { results := [.lit (.bool true)], args := [d1, d2] }
  | _ => none }
def emitKeepsRow : OpenClaim := { program := "ytjpdkcejkogciaadoor", sum := "4e5cf4a18f1a41cc53998219d02c88f9556a00516005e82fed4a52fa31c35c3b", func := "retort/retortlaw21.EmitKeeps", spec := "emitKeeps", unfollowed := true, recurses := true, named := ["retort/emit.done"], apart := false, laid := [("retort/emit.done", laid_retort_emit_done)] }
def EmitKeepsSaid : Prop := emitKeepsRow.holds Tryd.pinned (OpenSpec.ofChange emitKeepsSpec)

/-- ITS FALSE NEIGHBOUR: 'it returns false'. Refute it at one input. -/
def emitKeepsWrong : ChangeSpec := { name := "emitKeeps", fn := fun _ => fun
  | [d1, d2] => { results := [.lit (.bool false)], args := [d1, d2] }
  | _ => none }
def EmitKeepsWrongFalsely : Prop := emitKeepsRow.holds Tryd.pinned (OpenSpec.ofChange emitKeepsWrong)

/- THE SECOND FORM. 'bulk': how many values and letters a reading holds, each counted each time it is reached (what is shared counts as often as it is met; a slice's spare places count too). A statement '..UptoSaid' is the law's where the arguments, and the package variables that the reading takes, are together of bulk at most 1048576: NARROWER than '..Said'. Prove '..Said' where nothing that the law and all that it calls make is longer than what came in: it says more and counts as full. Else prove '..UptoSaid'. A law counts once. -/
mutual
def uptoBulk {H : Type} : DataW H → Nat
  | .lit (.string bytes) => bytes.length + 1
  | .lit _ => 1
  | .nil => 1
  | .ptr d => uptoBulk d + 1
  | .slice elems spare => uptoBulkAll elems + uptoBulkAll spare + 1
  | .agg parts => uptoBulkAll parts + 1
  | .iface _ d => uptoBulk d + 1
  | .map entries => uptoBulkEntries entries + 1
  | .held _ => 1
def uptoBulkAll {H : Type} : List (DataW H) → Nat
  | [] => 0
  | d :: r => uptoBulk d + uptoBulkAll r
def uptoBulkEntries {H : Type} : List (Lit × DataW H) → Nat
  | [] => 0
  | x :: r => uptoBulkEntry x + uptoBulkEntries r
def uptoBulkEntry {H : Type} : Lit × DataW H → Nat
  | (.string bytes, d) => bytes.length + uptoBulk d + 1
  | (_, d) => uptoBulk d + 1
 end
def uptoSmall : (H : Type) → List (DataW H) → Bool := fun _ ds => decide (uptoBulkAll ds ≤ 1048576)
def OpenSpec.upto (s : _root_.Go.ChangeSpec) : _root_.Go.OpenSpec := { _root_.Go.OpenSpec.ofChange s with cond := some uptoSmall }

/-- 'retortlaw21.EmitMakes', WHERE WHAT IT READS IS OF BULK AT MOST 1048576: true; the input reads as it did. -/
def emitMakesUptoRow : OpenClaim := { program := "ytjpdkcejkogciaadoor", sum := "4e5cf4a18f1a41cc53998219d02c88f9556a00516005e82fed4a52fa31c35c3b", func := "retort/retortlaw21.EmitMakes", spec := "emitMakes", unfollowed := true, recurses := true, named := ["retort/emit.done"], apart := false, laid := [("retort/emit.done", laid_retort_emit_done)], narrowed := true }
def EmitMakesUptoSaid : Prop := emitMakesUptoRow.holds Tryd.pinned (OpenSpec.upto emitMakesSpec)

/-- 'retortlaw21.EmitLines', WHERE WHAT IT READS IS OF BULK AT MOST 1048576: true; the input reads as it did. -/
def emitLinesUptoRow : OpenClaim := { program := "ytjpdkcejkogciaadoor", sum := "4e5cf4a18f1a41cc53998219d02c88f9556a00516005e82fed4a52fa31c35c3b", func := "retort/retortlaw21.EmitLines", spec := "emitLines", unfollowed := true, recurses := true, named := ["retort/emit.done"], apart := false, laid := [("retort/emit.done", laid_retort_emit_done)], narrowed := true }
def EmitLinesUptoSaid : Prop := emitLinesUptoRow.holds Tryd.pinned (OpenSpec.upto emitLinesSpec)

/-- 'retortlaw21.EmitParts', WHERE WHAT IT READS IS OF BULK AT MOST 1048576: true; the input reads as it did. -/
def emitPartsUptoRow : OpenClaim := { program := "ytjpdkcejkogciaadoor", sum := "4e5cf4a18f1a41cc53998219d02c88f9556a00516005e82fed4a52fa31c35c3b", func := "retort/retortlaw21.EmitParts", spec := "emitParts", unfollowed := true, recurses := true, named := ["retort/emit.done"], apart := false, laid := [("retort/emit.done", laid_retort_emit_done)], narrowed := true }
def EmitPartsUptoSaid : Prop := emitPartsUptoRow.holds Tryd.pinned (OpenSpec.upto emitPartsSpec)

/-- 'retortlaw21.EmitKeeps', WHERE WHAT IT READS IS OF BULK AT MOST 1048576: true; the input reads as it did. -/
def emitKeepsUptoRow : OpenClaim := { program := "ytjpdkcejkogciaadoor", sum := "4e5cf4a18f1a41cc53998219d02c88f9556a00516005e82fed4a52fa31c35c3b", func := "retort/retortlaw21.EmitKeeps", spec := "emitKeeps", unfollowed := true, recurses := true, named := ["retort/emit.done"], apart := false, laid := [("retort/emit.done", laid_retort_emit_done)], narrowed := true }
def EmitKeepsUptoSaid : Prop := emitKeepsUptoRow.holds Tryd.pinned (OpenSpec.upto emitKeepsSpec)

end Rows
end Go.Proofs.YtjpdkcejkogciaaDoor
