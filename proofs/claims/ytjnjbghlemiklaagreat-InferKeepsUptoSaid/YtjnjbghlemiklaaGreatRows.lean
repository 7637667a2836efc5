/-
  No cell of these rows narrows 'for every input' (looked for: loops, veiled, ifaces, maps, wideKeys, modest, calm, conditions, laid).
  DERIVED. THE GIVEN ROWS OF THIS SEAT. 3 by the template 'for every input the law returns true; each argument reads behind the call as it read before'; 0 by the template 'total and deterministic' (their statements: YtjnjbghlemiklaaGreatTotals.lean).
  GIVEN WITH THE SEED: the statements are not yours to turn. If you find one false, say at which input.
  Laid BY PROGRAM, IN A SANDBOX (cutbox-rows.mjs): the forced cells as the released guide's own fill.sh prints them over the translation 8cd98571ec938e49… (all of the seat's roots in one cut). By AI agents, Wed Nov 11 2026. No macro, syntax, notation, axiom, sorry.
-/
import Derived.Test.YtjnjbghlemiklaaGreatChecked
import GoSem.Claim
import GoSem.ClaimJoined
import GoSem.ClaimMapViews
import Derived.JoinedTies
import Derived.KernelRfl
namespace Go.Proofs.YtjnjbghlemiklaaGreat
/- THE CELL 'sum', in the pinned program and in every row, IS THE sha256 OF THE DUMP (.gsa) THAT YtjnjbghlemiklaaGreatProg.lean LOADS. Nothing in Lean hashes anything: it is a label: what it is worth is what the hold of that sum in a sandbox is worth. -/
noncomputable def Tryz.pinned : Pinned := { name := "ytjnjbghlemiklaagreat", sum := "8cd98571ec938e49c94d47e168f561b99bf432d0a1f428b5b4f37b45ed0a220d", checked := Tryz.checked }
namespace Rows
def none {H : Type} : Left H := { results := [], args := [] }

/-- 'retortlaw10.InferSays': WHATEVER THE INPUT: true; the input reads as it did. -/
def inferSaysSpec : ChangeSpec := { name := "inferSays", fn := fun _ => fun
  | [d] => { results := [.lit (.bool true)], args := [d] }
  | _ => none }
def inferSaysRow : OpenClaim := { program := "ytjnjbghlemiklaagreat", sum := "8cd98571ec938e49c94d47e168f561b99bf432d0a1f428b5b4f37b45ed0a220d", func := "retort/retortlaw10.InferSays", spec := "inferSays", unfollowed := true, recurses := true, plainKeys := false, apart := false }
def InferSaysSaid : Prop := inferSaysRow.holds Tryz.pinned (OpenSpec.ofChange inferSaysSpec)

/-- ITS FALSE NEIGHBOUR: 'it returns false'. Refute it at one input. -/
def inferSaysWrong : ChangeSpec := { name := "inferSays", fn := fun _ => fun
  | [d] => { results := [.lit (.bool false)], args := [d] }
  | _ => none }
def InferSaysWrongFalsely : Prop := inferSaysRow.holds Tryz.pinned (OpenSpec.ofChange inferSaysWrong)

/-- 'retortlaw10.InferKeeps': WHATEVER THE INPUT: true; the input reads as it did. -/
def inferKeepsSpec : ChangeSpec := { name := "inferKeeps", fn := fun _ => fun
  | [d] => { results := [.lit (.bool true)], args := [d] }
  | _ => none }
def inferKeepsRow : OpenClaim := { program := "ytjnjbghlemiklaagreat", sum := "8cd98571ec938e49c94d47e168f561b99bf432d0a1f428b5b4f37b45ed0a220d", func := "retort/retortlaw10.InferKeeps", spec := "inferKeeps", unfollowed := true, recurses := true, plainKeys := false, apart := false }
def InferKeepsSaid : Prop := inferKeepsRow.holds Tryz.pinned (OpenSpec.ofChange inferKeepsSpec)

/-- ITS FALSE NEIGHBOUR: 'it returns false'. Refute it at one input. -/
def inferKeepsWrong : ChangeSpec := { name := "inferKeeps", fn := fun _ => fun
  | [d] => { results := [.lit (.bool false)], args := [d] }
  | _ => none }
def InferKeepsWrongFalsely : Prop := inferKeepsRow.holds Tryz.pinned (OpenSpec.ofChange inferKeepsWrong)

/-- 'retortlaw10.InferChecks': WHATEVER THE INPUT: true; the input reads as it did. -/
def inferChecksSpec : ChangeSpec := { name := "inferChecks", fn := fun _ => fun
  | [d1, d2] => { results := [.lit (.bool true)], args := [d1, d2] }
  | _ => none }
def inferChecksRow : OpenClaim := { program := "ytjnjbghlemiklaagreat", sum := "8cd98571ec938e49c94d47e168f561b99bf432d0a1f428b5b4f37b45ed0a220d", func := "retort/retortlaw10.InferChecks", spec := "inferChecks", unfollowed := true, recurses := true, plainKeys := false, apart := false }
def InferChecksSaid : Prop := inferChecksRow.holds Tryz.pinned (OpenSpec.ofChange inferChecksSpec)

/-- ITS FALSE NEIGHBOUR: 'it returns false'. Refute it at one input. -/
def inferChecksWrong : ChangeSpec := { name := "inferChecks", fn := fun _ => fun
  | [d1, d2] => { results := [.lit (.bool false)], args := [d1, d2] }
  | _ => none }
def InferChecksWrongFalsely : Prop := inferChecksRow.holds Tryz.pinned (OpenSpec.ofChange inferChecksWrong)

/- THE SECOND FORM. 'bulk': how many values and letters a reading holds, each counted each time it is reached (what is shared counts as often as it is met; a slice's spare places count too). A statement '..UptoSaid' is the law's where the arguments, and the package variables that the reading takes, are together of bulk at most 1048576: NARROWER than '..Said'. Prove '..Said' where nothing that the law and all that it calls make is longer than what came in: it says more and counts as full. Else prove '..UptoSaid'. A law counts once. -/
mutual
def uptoBulk {H : Type} : DataW H → Nat
  | .lit (.string bytes) => bytes.length + 1
  | .lit _ => 1
  | .nil => 1
  | .ptr d => uptoBulk d + 1
  | .slice elems spare => uptoBulkAll elems + uptoBulkAll spare + 1
  | .agg parts => uptoBulkAll parts + 1
  | .iface _ d => uptoBulk d + 1
  | .map entries => uptoBulkEntries entries + 1
  | .held _ => 1
def uptoBulkAll {H : Type} : List (DataW H) → Nat
  | [] => 0
  | d :: r => uptoBulk d + uptoBulkAll r
def uptoBulkEntries {H : Type} : List (Lit × DataW H) → Nat
  | [] => 0
  | x :: r => uptoBulkEntry x + uptoBulkEntries r
def uptoBulkEntry {H : Type} : Lit × DataW H → Nat
  | (.string bytes, d) => bytes.length + uptoBulk d + 1
  | (_, d) => uptoBulk d + 1
 end
def uptoSmall : (H : Type) → List (DataW H) → Bool := fun _ ds => decide (uptoBulkAll ds ≤ 1048576)
def OpenSpec.upto (s : _root_.Go.ChangeSpec) : _root_.Go.OpenSpec := { _root_.Go.OpenSpec.ofChange s with cond := some uptoSmall }

/-- 'retortlaw10.InferSays', WHERE WHAT IT READS IS OF BULK AT MOST 1048576: true; the input reads as it did. -/
def inferSaysUptoRow : OpenClaim := { program := "ytjnjbghlemiklaagreat", sum := "8cd98571ec938e49c94d47e168f561b99bf432d0a1f428b5b4f37b45ed0a220d", func := "retort/retortlaw10.InferSays", spec := "inferSays", unfollowed := true, recurses := true, plainKeys := false, apart := false, narrowed := true }
def InferSaysUptoSaid : Prop := inferSaysUptoRow.holds Tryz.pinned (OpenSpec.upto inferSaysSpec)

/-- 'retortlaw10.InferKeeps', WHERE WHAT IT READS IS OF BULK AT MOST 1048576: true; the input reads as it did. -/
def inferKeepsUptoRow : OpenClaim := { program := "ytjnjbghlemiklaagreat", sum := "8cd98571ec938e49c94d47e168f561b99bf432d0a1f428b5b4f37b45ed0a220d", func := "retort/retortlaw10.InferKeeps", spec := "inferKeeps", unfollowed := true, recurses := true, plainKeys := false, apart := false, narrowed := true }
def InferKeepsUptoSaid : Prop := inferKeepsUptoRow.holds Tryz.pinned (OpenSpec.upto inferKeepsSpec)

/-- 'retortlaw10.InferChecks', WHERE WHAT IT READS IS OF BULK AT MOST 1048576: true; the input reads as it did. -/
def inferChecksUptoRow : OpenClaim := { program := "ytjnjbghlemiklaagreat", sum := "8cd98571ec938e49c94d47e168f561b99bf432d0a1f428b5b4f37b45ed0a220d", func := "retort/retortlaw10.InferChecks", spec := "inferChecks", unfollowed := true, recurses := true, plainKeys := false, apart := false, narrowed := true }
def InferChecksUptoSaid : Prop := inferChecksUptoRow.holds Tryz.pinned (OpenSpec.upto inferChecksSpec)

end Rows
end Go.Proofs.YtjnjbghlemiklaaGreat
