/-
  No cell of these rows narrows 'for every input' (looked for: loops, veiled, ifaces, maps, wideKeys, modest, calm, conditions, laid).
  DERIVED. THE GIVEN ROWS OF THIS SEAT. 2 by the template 'for every input the law returns true; each argument reads behind the call as it read before'; 0 by the template 'total and deterministic' (their statements: YtdfeclpphaccnaaGreatTotals.lean).
  GIVEN WITH THE SEED: the statements are not yours to turn. If you find one false, say at which input.
  Laid BY PROGRAM, IN A SANDBOX (cutbox-rows.mjs): the forced cells as the released guide's own fill.sh prints them over the translation 508eeff6f4573843… (all of the seat's roots in one cut). By AI agents, Wed Nov 11 2026. No macro, syntax, notation, axiom, sorry.
-/
import Derived.Test.YtdfeclpphaccnaaGreatChecked
import GoSem.Claim
import GoSem.ClaimJoined
import GoSem.ClaimMapViews
import Derived.JoinedTies
import Derived.KernelRfl
namespace Go.Proofs.YtdfeclpphaccnaaGreat
/- THE CELL 'sum', in the pinned program and in every row, IS THE sha256 OF THE DUMP (.gsa) THAT YtdfeclpphaccnaaGreatProg.lean LOADS. Nothing in Lean hashes anything: it is a label: what it is worth is what the hold of that sum in a sandbox is worth. -/
noncomputable def Tryz.pinned : Pinned := { name := "ytdfeclpphaccnaagreat", sum := "508eeff6f45738437ca0fd87c2cdcdd882434cba1244a073bd1e271b40ad8eb7", checked := Tryz.checked }
namespace Rows
def none {H : Type} : Left H := { results := [], args := [] }

/-- 'retortlaw14.EraseSays': WHATEVER THE INPUT: true; the input reads as it did. -/
def eraseSaysSpec : ChangeSpec := { name := "eraseSays", fn := fun _ => fun
  | [d] => { results := [.lit (.bool true)], args := [d] }
  | _ => none }
def eraseSaysRow : OpenClaim := { program := "ytdfeclpphaccnaagreat", sum := "508eeff6f45738437ca0fd87c2cdcdd882434cba1244a073bd1e271b40ad8eb7", func := "retort/retortlaw14.EraseSays", spec := "eraseSays", unfollowed := true, recurses := true, plainKeys := false, apart := false }
def EraseSaysSaid : Prop := eraseSaysRow.holds Tryz.pinned (OpenSpec.ofChange eraseSaysSpec)

/-- ITS FALSE NEIGHBOUR: 'it returns false'. Refute it at one input. -/
def eraseSaysWrong : ChangeSpec := { name := "eraseSays", fn := fun _ => fun
  | [d] => { results := [.lit (.bool false)], args := [d] }
  | _ => none }
def EraseSaysWrongFalsely : Prop := eraseSaysRow.holds Tryz.pinned (OpenSpec.ofChange eraseSaysWrong)

/-- 'retortlaw14.EraseKept': WHATEVER THE INPUT: true; the input reads as it did. -/
def eraseKeptSpec : ChangeSpec := { name := "eraseKept", fn := fun _ => fun
  | [d1, d2, d3] => { results := [.lit (.bool true)], args := [d1, d2, d3] }
  | _ => none }
def eraseKeptRow : OpenClaim := { program := "ytdfeclpphaccnaagreat", sum := "508eeff6f45738437ca0fd87c2cdcdd882434cba1244a073bd1e271b40ad8eb7", func := "retort/retortlaw14.EraseKept", spec := "eraseKept", unfollowed := true, recurses := true, plainKeys := false, apart := false }
def EraseKeptSaid : Prop := eraseKeptRow.holds Tryz.pinned (OpenSpec.ofChange eraseKeptSpec)

/-- ITS FALSE NEIGHBOUR: 'it returns false'. Refute it at one input. -/
def eraseKeptWrong : ChangeSpec := { name := "eraseKept", fn := fun _ => fun
  | [d1, d2, d3] => { results := [.lit (.bool false)], args := [d1, d2, d3] }
  | _ => none }
def EraseKeptWrongFalsely : Prop := eraseKeptRow.holds Tryz.pinned (OpenSpec.ofChange eraseKeptWrong)

/- THE SECOND FORM. 'bulk': how many values and letters a reading holds, each counted each time it is reached (what is shared counts as often as it is met; a slice's spare places count too). A statement '..UptoSaid' is the law's where the arguments, and the package variables that the reading takes, are together of bulk at most 1048576: NARROWER than '..Said'. Prove '..Said' where nothing that the law and all that it calls make is longer than what came in: it says more and counts as full. Else prove '..UptoSaid'. A law counts once. -/
mutual
def uptoBulk {H : Type} : DataW H → Nat
  | .lit (.string bytes) => bytes.length + 1
  | .lit _ => 1
  | .nil => 1
  | .ptr d => uptoBulk d + 1
  | .slice elems spare => uptoBulkAll elems + uptoBulkAll spare + 1
  | .agg parts => uptoBulkAll parts + 1
  | .iface _ d => uptoBulk d + 1
  | .map entries => uptoBulkEntries entries + 1
  | .held _ => 1
def uptoBulkAll {H : Type} : List (DataW H) → Nat
  | [] => 0
  | d :: r => uptoBulk d + uptoBulkAll r
def uptoBulkEntries {H : Type} : List (Lit × DataW H) → Nat
  | [] => 0
  | x :: r => uptoBulkEntry x + uptoBulkEntries r
def uptoBulkEntry {H : Type} : Lit × DataW H → Nat
  | (.string bytes, d) => bytes.length + uptoBulk d + 1
  | (_, d) => uptoBulk d + 1
 end
def uptoSmall : (H : Type) → List (DataW H) → Bool := fun _ ds => decide (uptoBulkAll ds ≤ 1048576)
def OpenSpec.upto (s : _root_.Go.ChangeSpec) : _root_.Go.OpenSpec := { _root_.Go.OpenSpec.ofChange s with cond := some uptoSmall }

/-- 'retortlaw14.EraseSays', WHERE WHAT IT READS IS OF BULK AT MOST 1048576: true; the input reads as it did. -/
def eraseSaysUptoRow : OpenClaim := { program := "ytdfeclpphaccnaagreat", sum := "508eeff6f45738437ca0fd87c2cdcdd882434cba1244a073bd1e271b40ad8eb7", func := "retort/retortlaw14.EraseSays", spec := "eraseSays", unfollowed := true, recurses := true, plainKeys := false, apart := false, narrowed := true }
def EraseSaysUptoSaid : Prop := eraseSaysUptoRow.holds Tryz.pinned (OpenSpec.upto eraseSaysSpec)

/-- 'retortlaw14.EraseKept', WHERE WHAT IT READS IS OF BULK AT MOST 1048576: true; the input reads as it did. -/
def eraseKeptUptoRow : OpenClaim := { program := "ytdfeclpphaccnaagreat", sum := "508eeff6f45738437ca0fd87c2cdcdd882434cba1244a073bd1e271b40ad8eb7", func := "retort/retortlaw14.EraseKept", spec := "eraseKept", unfollowed := true, recurses := true, plainKeys := false, apart := false, narrowed := true }
def EraseKeptUptoSaid : Prop := eraseKeptUptoRow.holds Tryz.pinned (OpenSpec.upto eraseKeptSpec)

end Rows
end Go.Proofs.YtdfeclpphaccnaaGreat
