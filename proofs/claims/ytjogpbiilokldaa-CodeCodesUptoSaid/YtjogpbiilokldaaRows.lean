/-
  No cell of these rows narrows 'for every input' (looked for: loops, veiled, ifaces, maps, wideKeys, modest, calm, conditions, laid).
  DERIVED. THE GIVEN ROWS OF THIS SEAT. 6 by the template 'for every input the law returns true; each argument reads behind the call as it read before'; 0 by the template 'total and deterministic' (their statements: YtjogpbiilokldaaTotals.lean).
  GIVEN WITH THE SEED: the statements are not yours to turn. If you find one false, say at which input.
  Laid BY PROGRAM, IN A SANDBOX (cutbox-rows.mjs): the forced cells as the released guide's own fill.sh prints them over the translation 5e433481bbee32fd… (all of the seat's roots in one cut). By AI agents, Wed Nov 11 2026. No macro, syntax, notation, axiom, sorry.
-/
import Derived.Test.YtjogpbiilokldaaChecked
import GoSem.Claim
import GoSem.ClaimJoined
import GoSem.ClaimMapViews
import Derived.JoinedTies
import Derived.KernelRfl
namespace Go.Proofs.Ytjogpbiilokldaa
/- THE CELL 'sum', in the pinned program and in every row, IS THE sha256 OF THE DUMP (.gsa) THAT YtjogpbiilokldaaProg.lean LOADS. Nothing in Lean hashes anything: it is a label: what it is worth is what the hold of that sum in a sandbox is worth. -/
noncomputable def Try.pinned : Pinned := { name := "ytjogpbiilokldaa", sum := "5e433481bbee32fdd09fcf1e74dabb3980769ea63b9a7e3b369ede310d38455f", checked := Try.checked }
namespace Rows
def none {H : Type} : Left H := { results := [], args := [] }

/-- 'retortlaw20.CodeChecks': WHATEVER THE INPUT: true; the input reads as it did. -/
def codeChecksSpec : ChangeSpec := { name := "codeChecks", fn := fun _ => fun
  | [d] => { results := [.lit (.bool true)], args := [d] }
  | _ => none }
def codeChecksRow : OpenClaim := { program := "ytjogpbiilokldaa", sum := "5e433481bbee32fdd09fcf1e74dabb3980769ea63b9a7e3b369ede310d38455f", func := "retort/retortlaw20.CodeChecks", spec := "codeChecks", unfollowed := true, recurses := true, apart := false }
def CodeChecksSaid : Prop := codeChecksRow.holds Try.pinned (OpenSpec.ofChange codeChecksSpec)

/-- ITS FALSE NEIGHBOUR: 'it returns false'. Refute it at one input. -/
def codeChecksWrong : ChangeSpec := { name := "codeChecks", fn := fun _ => fun
  | [d] => { results := [.lit (.bool false)], args := [d] }
  | _ => none }
def CodeChecksWrongFalsely : Prop := codeChecksRow.holds Try.pinned (OpenSpec.ofChange codeChecksWrong)

/-- 'retortlaw20.CodeCodes': WHATEVER THE INPUT: true; the input reads as it did. -/
def codeCodesSpec : ChangeSpec := { name := "codeCodes", fn := fun _ => fun
  | [d1, d2] => { results := [.lit (.bool true)], args := [d1, d2] }
  | _ => none }
def codeCodesRow : OpenClaim := { program := "ytjogpbiilokldaa", sum := "5e433481bbee32fdd09fcf1e74dabb3980769ea63b9a7e3b369ede310d38455f", func := "retort/retortlaw20.CodeCodes", spec := "codeCodes", unfollowed := true, recurses := true, apart := false }
def CodeCodesSaid : Prop := codeCodesRow.holds Try.pinned (OpenSpec.ofChange codeCodesSpec)

/-- ITS FALSE NEIGHBOUR: 'it returns false'. Refute it at one input. -/
def codeCodesWrong : ChangeSpec := { name := "codeCodes", fn := fun _ => fun
  | [d1, d2] => { results := [.lit (.bool false)], args := [d1, d2] }
  | _ => none }
def CodeCodesWrongFalsely : Prop := codeCodesRow.holds Try.pinned (OpenSpec.ofChange codeCodesWrong)

/-- 'retortlaw20.CodeBack': WHATEVER THE INPUT: true; the input reads as it did. -/
def codeBackSpec : ChangeSpec := { name := "codeBack", fn := fun _ => fun
  | [d1, d2, d3] => { results := [.lit (.bool true)], args := [d1, d2, d3] }
  | _ => none }
def codeBackRow : OpenClaim := { program := "ytjogpbiilokldaa", sum := "5e433481bbee32fdd09fcf1e74dabb3980769ea63b9a7e3b369ede310d38455f", func := "retort/retortlaw20.CodeBack", spec := "codeBack", unfollowed := true, recurses := true, apart := false }
def CodeBackSaid : Prop := codeBackRow.holds Try.pinned (OpenSpec.ofChange codeBackSpec)

/-- ITS FALSE NEIGHBOUR: 'it returns false'. Refute it at one input. -/
def codeBackWrong : ChangeSpec := { name := "codeBack", fn := fun _ => fun
  | [d1, d2, d3] => { results := [.lit (.bool false)], args := [d1, d2, d3] }
  | _ => none }
def CodeBackWrongFalsely : Prop := codeBackRow.holds Try.pinned (OpenSpec.ofChange codeBackWrong)

/-- 'retortlaw20.CodeStraight': WHATEVER THE INPUT: true; the input reads as it did. -/
def codeStraightSpec : ChangeSpec := { name := "codeStraight", fn := fun _ => fun
  | [d] => { results := [.lit (.bool true)], args := [d] }
  | _ => none }
def codeStraightRow : OpenClaim := { program := "ytjogpbiilokldaa", sum := "5e433481bbee32fdd09fcf1e74dabb3980769ea63b9a7e3b369ede310d38455f", func := "retort/retortlaw20.CodeStraight", spec := "codeStraight", unfollowed := true, recurses := true, apart := false }
def CodeStraightSaid : Prop := codeStraightRow.holds Try.pinned (OpenSpec.ofChange codeStraightSpec)

/-- ITS FALSE NEIGHBOUR: 'it returns false'. Refute it at one input. -/
def codeStraightWrong : ChangeSpec := { name := "codeStraight", fn := fun _ => fun
  | [d] => { results := [.lit (.bool false)], args := [d] }
  | _ => none }
def CodeStraightWrongFalsely : Prop := codeStraightRow.holds Try.pinned (OpenSpec.ofChange codeStraightWrong)

/-- 'retortlaw20.CodeAlone': WHATEVER THE INPUT: true; the input reads as it did. -/
def codeAloneSpec : ChangeSpec := { name := "codeAlone", fn := fun _ => fun
  | [d1, d2] => { results := [.lit (.bool true)], args := [d1, d2] }
  | _ => none }
def codeAloneRow : OpenClaim := { program := "ytjogpbiilokldaa", sum := "5e433481bbee32fdd09fcf1e74dabb3980769ea63b9a7e3b369ede310d38455f", func := "retort/retortlaw20.CodeAlone", spec := "codeAlone", unfollowed := true, recurses := true, apart := false }
def CodeAloneSaid : Prop := codeAloneRow.holds Try.pinned (OpenSpec.ofChange codeAloneSpec)

/-- ITS FALSE NEIGHBOUR: 'it returns false'. Refute it at one input. -/
def codeAloneWrong : ChangeSpec := { name := "codeAlone", fn := fun _ => fun
  | [d1, d2] => { results := [.lit (.bool false)], args := [d1, d2] }
  | _ => none }
def CodeAloneWrongFalsely : Prop := codeAloneRow.holds Try.pinned (OpenSpec.ofChange codeAloneWrong)

/-- 'retortlaw20.CodeKeeps': WHATEVER THE INPUT: true; the input reads as it did. -/
def codeKeepsSpec : ChangeSpec := { name := "codeKeeps", fn := fun _ => fun
  | [d] => { results := [.lit (.bool true)], args := [d] }
  | _ => none }
def codeKeepsRow : OpenClaim := { program := "ytjogpbiilokldaa", sum := "5e433481bbee32fdd09fcf1e74dabb3980769ea63b9a7e3b369ede310d38455f", func := "retort/retortlaw20.CodeKeeps", spec := "codeKeeps", unfollowed := true, recurses := true, apart := false }
def CodeKeepsSaid : Prop := codeKeepsRow.holds Try.pinned (OpenSpec.ofChange codeKeepsSpec)

/-- ITS FALSE NEIGHBOUR: 'it returns false'. Refute it at one input. -/
def codeKeepsWrong : ChangeSpec := { name := "codeKeeps", fn := fun _ => fun
  | [d] => { results := [.lit (.bool false)], args := [d] }
  | _ => none }
def CodeKeepsWrongFalsely : Prop := codeKeepsRow.holds Try.pinned (OpenSpec.ofChange codeKeepsWrong)

/- THE SECOND FORM. 'bulk': how many values and letters a reading holds, each counted each time it is reached (what is shared counts as often as it is met; a slice's spare places count too). A statement '..UptoSaid' is the law's where the arguments, and the package variables that the reading takes, are together of bulk at most 1048576: NARROWER than '..Said'. Prove '..Said' where nothing that the law and all that it calls make is longer than what came in: it says more and counts as full. Else prove '..UptoSaid'. A law counts once. -/
mutual
def uptoBulk {H : Type} : DataW H → Nat
  | .lit (.string bytes) => bytes.length + 1
  | .lit _ => 1
  | .nil => 1
  | .ptr d => uptoBulk d + 1
  | .slice elems spare => uptoBulkAll elems + uptoBulkAll spare + 1
  | .agg parts => uptoBulkAll parts + 1
  | .iface _ d => uptoBulk d + 1
  | .map entries => uptoBulkEntries entries + 1
  | .held _ => 1
def uptoBulkAll {H : Type} : List (DataW H) → Nat
  | [] => 0
  | d :: r => uptoBulk d + uptoBulkAll r
def uptoBulkEntries {H : Type} : List (Lit × DataW H) → Nat
  | [] => 0
  | x :: r => uptoBulkEntry x + uptoBulkEntries r
def uptoBulkEntry {H : Type} : Lit × DataW H → Nat
  | (.string bytes, d) => bytes.length + uptoBulk d + 1
  | (_, d) => uptoBulk d + 1
 end
def uptoSmall : (H : Type) → List (DataW H) → Bool := fun _ ds => decide (uptoBulkAll ds ≤ 1048576)
def OpenSpec.upto (s : _root_.Go.ChangeSpec) : _root_.Go.OpenSpec := { _root_.Go.OpenSpec.ofChange s with cond := some uptoSmall }

/-- 'retortlaw20.CodeChecks', WHERE WHAT IT READS IS OF BULK AT MOST 1048576: true; the input reads as it did. -/
def codeChecksUptoRow : OpenClaim := { program := "ytjogpbiilokldaa", sum := "5e433481bbee32fdd09fcf1e74dabb3980769ea63b9a7e3b369ede310d38455f", func := "retort/retortlaw20.CodeChecks", spec := "codeChecks", unfollowed := true, recurses := true, apart := false, narrowed := true }
def CodeChecksUptoSaid : Prop := codeChecksUptoRow.holds Try.pinned (OpenSpec.upto codeChecksSpec)

/-- 'retortlaw20.CodeCodes', WHERE WHAT IT READS IS OF BULK AT MOST 1048576: true; the input reads as it did. -/
def codeCodesUptoRow : OpenClaim := { program := "ytjogpbiilokldaa", sum := "5e433481bbee32fdd09fcf1e74dabb3980769ea63b9a7e3b369ede310d38455f", func := "retort/retortlaw20.CodeCodes", spec := "codeCodes", unfollowed := true, recurses := true, apart := false, narrowed := true }
def CodeCodesUptoSaid : Prop := codeCodesUptoRow.holds Try.pinned (OpenSpec.upto codeCodesSpec)

/-- 'retortlaw20.CodeBack', WHERE WHAT IT READS IS OF BULK AT MOST 1048576: true; the input reads as it did. -/
def codeBackUptoRow : OpenClaim := { program := "ytjogpbiilokldaa", sum := "5e433481bbee32fdd09fcf1e74dabb3980769ea63b9a7e3b369ede310d38455f", func := "retort/retortlaw20.CodeBack", spec := "codeBack", unfollowed := true, recurses := true, apart := false, narrowed := true }
def CodeBackUptoSaid : Prop := codeBackUptoRow.holds Try.pinned (OpenSpec.upto codeBackSpec)

/-- 'retortlaw20.CodeStraight', WHERE WHAT IT READS IS OF BULK AT MOST 1048576: true; the input reads as it did. -/
def codeStraightUptoRow : OpenClaim := { program := "ytjogpbiilokldaa", sum := "5e433481bbee32fdd09fcf1e74dabb3980769ea63b9a7e3b369ede310d38455f", func := "retort/retortlaw20.CodeStraight", spec := "codeStraight", unfollowed := true, recurses := true, apart := false, narrowed := true }
def CodeStraightUptoSaid : Prop := codeStraightUptoRow.holds Try.pinned (OpenSpec.upto codeStraightSpec)

/-- 'retortlaw20.CodeAlone', WHERE WHAT IT READS IS OF BULK AT MOST 1048576: true; the input reads as it did. -/
def codeAloneUptoRow : OpenClaim := { program := "ytjogpbiilokldaa", sum := "5e433481bbee32fdd09fcf1e74dabb3980769ea63b9a7e3b369ede310d38455f", func := "retort/retortlaw20.CodeAlone", spec := "codeAlone", unfollowed := true, recurses := true, apart := false, narrowed := true }
def CodeAloneUptoSaid : Prop := codeAloneUptoRow.holds Try.pinned (OpenSpec.upto codeAloneSpec)

/-- 'retortlaw20.CodeKeeps', WHERE WHAT IT READS IS OF BULK AT MOST 1048576: true; the input reads as it did. -/
def codeKeepsUptoRow : OpenClaim := { program := "ytjogpbiilokldaa", sum := "5e433481bbee32fdd09fcf1e74dabb3980769ea63b9a7e3b369ede310d38455f", func := "retort/retortlaw20.CodeKeeps", spec := "codeKeeps", unfollowed := true, recurses := true, apart := false, narrowed := true }
def CodeKeepsUptoSaid : Prop := codeKeepsUptoRow.holds Try.pinned (OpenSpec.upto codeKeepsSpec)

end Rows
end Go.Proofs.Ytjogpbiilokldaa
