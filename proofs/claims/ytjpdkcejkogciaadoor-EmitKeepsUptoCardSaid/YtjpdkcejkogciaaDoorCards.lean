/-
  DERIVED. GIVEN WITH THE SEED: THE CARDS: each row of YtjpdkcejkogciaaDoorRows.lean that lists a variable, with what it lists TIED to the program's text (the seventh form; the later family's looks); each row that meets fmt, with fmt's text TOLD by the authors' own Lean function (tested against real Go, not proved from fmt's source: count such statements apart). THE CARD IS WHAT COUNTS. Prove the row's statement (the work); the ties are given (YtjpdkcejkogciaaDoorTie.lean); close each card by the builder's one call (the guide's Derived/Test/ToyasCard.lean, 'card_holds'). Laid BY PROGRAM, IN A SANDBOX (cutbox-door.mjs). By AI agents, Wed Nov 11 2026. No macro, syntax, notation, axiom, sorry.
-/
import Derived.Test.YtjpdkcejkogciaaDoorRows
import GoSem.ClaimSeven
namespace Go.Proofs.YtjpdkcejkogciaaDoor
namespace Rows

/-- THE TIED CARD OF 'retortlaw21.EmitMakes'. -/
def emitMakesCard : Claim7 := { stood := { row := emitMakesRow, standIns := [], harness := (true, "5e03f9957ffabdb5f873d738b1285e6e1a9dd30985cc8580db2358b25987408a"), looks := false }, kinds := [], alts := [], laidByText := true, laidKinds := [.data], laidTests := true, laidLooks := .later }
def EmitMakesCardSaid : Prop := Claim7.holds Tryd.pinned (.plain (OpenSpec.ofChange emitMakesSpec)) emitMakesCard

/-- THE TIED CARD OF 'retortlaw21.EmitLines'. -/
def emitLinesCard : Claim7 := { stood := { row := emitLinesRow, standIns := [], harness := (true, "5e03f9957ffabdb5f873d738b1285e6e1a9dd30985cc8580db2358b25987408a"), looks := false }, kinds := [], alts := [], laidByText := true, laidKinds := [.data], laidTests := true, laidLooks := .later }
def EmitLinesCardSaid : Prop := Claim7.holds Tryd.pinned (.plain (OpenSpec.ofChange emitLinesSpec)) emitLinesCard

/-- THE TIED CARD OF 'retortlaw21.EmitParts'. -/
def emitPartsCard : Claim7 := { stood := { row := emitPartsRow, standIns := [], harness := (true, "5e03f9957ffabdb5f873d738b1285e6e1a9dd30985cc8580db2358b25987408a"), looks := false }, kinds := [], alts := [], laidByText := true, laidKinds := [.data], laidTests := true, laidLooks := .later }
def EmitPartsCardSaid : Prop := Claim7.holds Tryd.pinned (.plain (OpenSpec.ofChange emitPartsSpec)) emitPartsCard

/-- THE TIED CARD OF 'retortlaw21.EmitKeeps'. -/
def emitKeepsCard : Claim7 := { stood := { row := emitKeepsRow, standIns := [], harness := (true, "5e03f9957ffabdb5f873d738b1285e6e1a9dd30985cc8580db2358b25987408a"), looks := false }, kinds := [], alts := [], laidByText := true, laidKinds := [.data], laidTests := true, laidLooks := .later }
def EmitKeepsCardSaid : Prop := Claim7.holds Tryd.pinned (.plain (OpenSpec.ofChange emitKeepsSpec)) emitKeepsCard

/-- THE SECOND FORM's CARD OF 'retortlaw21.EmitMakes'. -/
def emitMakesUptoCard : Claim7 := { stood := { row := emitMakesUptoRow, standIns := [], harness := (true, "5e03f9957ffabdb5f873d738b1285e6e1a9dd30985cc8580db2358b25987408a"), looks := false }, kinds := [], alts := [], laidByText := true, laidKinds := [.data], laidTests := true, laidLooks := .later }
def EmitMakesUptoCardSaid : Prop := Claim7.holds Tryd.pinned (.plain (OpenSpec.upto emitMakesSpec)) emitMakesUptoCard

/-- THE SECOND FORM's CARD OF 'retortlaw21.EmitLines'. -/
def emitLinesUptoCard : Claim7 := { stood := { row := emitLinesUptoRow, standIns := [], harness := (true, "5e03f9957ffabdb5f873d738b1285e6e1a9dd30985cc8580db2358b25987408a"), looks := false }, kinds := [], alts := [], laidByText := true, laidKinds := [.data], laidTests := true, laidLooks := .later }
def EmitLinesUptoCardSaid : Prop := Claim7.holds Tryd.pinned (.plain (OpenSpec.upto emitLinesSpec)) emitLinesUptoCard

/-- THE SECOND FORM's CARD OF 'retortlaw21.EmitParts'. -/
def emitPartsUptoCard : Claim7 := { stood := { row := emitPartsUptoRow, standIns := [], harness := (true, "5e03f9957ffabdb5f873d738b1285e6e1a9dd30985cc8580db2358b25987408a"), looks := false }, kinds := [], alts := [], laidByText := true, laidKinds := [.data], laidTests := true, laidLooks := .later }
def EmitPartsUptoCardSaid : Prop := Claim7.holds Tryd.pinned (.plain (OpenSpec.upto emitPartsSpec)) emitPartsUptoCard

/-- THE SECOND FORM's CARD OF 'retortlaw21.EmitKeeps'. -/
def emitKeepsUptoCard : Claim7 := { stood := { row := emitKeepsUptoRow, standIns := [], harness := (true, "5e03f9957ffabdb5f873d738b1285e6e1a9dd30985cc8580db2358b25987408a"), looks := false }, kinds := [], alts := [], laidByText := true, laidKinds := [.data], laidTests := true, laidLooks := .later }
def EmitKeepsUptoCardSaid : Prop := Claim7.holds Tryd.pinned (.plain (OpenSpec.upto emitKeepsSpec)) emitKeepsUptoCard
end Rows
end Go.Proofs.YtjpdkcejkogciaaDoor
