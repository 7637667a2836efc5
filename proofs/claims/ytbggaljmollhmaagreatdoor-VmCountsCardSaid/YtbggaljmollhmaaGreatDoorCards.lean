/-
  DERIVED. GIVEN WITH THE SEED: THE CARDS: each row of YtbggaljmollhmaaGreatDoorRows.lean that lists a variable, with what it lists TIED to the program's text (the seventh form; the later family's looks); each row that meets fmt, with fmt's text TOLD by the authors' own Lean function (tested against real Go, not proved from fmt's source: count such statements apart). THE CARD IS WHAT COUNTS. Prove the row's statement (the work); the ties are given (YtbggaljmollhmaaGreatDoorTie.lean); close each card by the builder's one call (the guide's Derived/Test/ToyasCard.lean, 'card_holds'). Laid BY PROGRAM, IN A SANDBOX (cutbox-door.mjs). By AI agents, Wed Nov 11 2026. No macro, syntax, notation, axiom, sorry.
-/
import Derived.Test.YtbggaljmollhmaaGreatDoorRows
import GoSem.ClaimSeven
namespace Go.Proofs.YtbggaljmollhmaaGreatDoor
namespace Rows

/-- THE TIED CARD OF 'retortlaw22.VmSays'. -/
def vmSaysCard : Claim7 := { stood := { row := vmSaysRow, standIns := [], harness := (true, "f67f79b8067e650cbbc35e6c62a9ac61ef2f5c1c797b6d4ee56a1db1f8b8b6a3"), looks := true }, kinds := [], alts := [], laidByText := true, laidKinds := [.data], laidTests := true, laidLooks := .later }
def VmSaysCardSaid : Prop := Claim7.holds Tryz.pinned (.plain (OpenSpec.ofChange vmSaysSpec)) vmSaysCard

/-- THE TIED CARD OF 'retortlaw22.VmTight'. -/
def vmTightCard : Claim7 := { stood := { row := vmTightRow, standIns := [], harness := (true, "f67f79b8067e650cbbc35e6c62a9ac61ef2f5c1c797b6d4ee56a1db1f8b8b6a3"), looks := true }, kinds := [], alts := [], laidByText := true, laidKinds := [.data], laidTests := true, laidLooks := .later }
def VmTightCardSaid : Prop := Claim7.holds Tryz.pinned (.plain (OpenSpec.ofChange vmTightSpec)) vmTightCard

/-- THE TIED CARD OF 'retortlaw22.VmCounts'. -/
def vmCountsCard : Claim7 := { stood := { row := vmCountsRow, standIns := [], harness := (true, "f67f79b8067e650cbbc35e6c62a9ac61ef2f5c1c797b6d4ee56a1db1f8b8b6a3"), looks := true }, kinds := [], alts := [], laidByText := true, laidKinds := [.data], laidTests := true, laidLooks := .later }
def VmCountsCardSaid : Prop := Claim7.holds Tryz.pinned (.plain (OpenSpec.ofChange vmCountsSpec)) vmCountsCard

/-- THE TIED CARD OF 'retortlaw22.VmKeeps'. -/
def vmKeepsCard : Claim7 := { stood := { row := vmKeepsRow, standIns := [], harness := (true, "f67f79b8067e650cbbc35e6c62a9ac61ef2f5c1c797b6d4ee56a1db1f8b8b6a3"), looks := true }, kinds := [], alts := [], laidByText := true, laidKinds := [.data], laidTests := true, laidLooks := .later }
def VmKeepsCardSaid : Prop := Claim7.holds Tryz.pinned (.plain (OpenSpec.ofChange vmKeepsSpec)) vmKeepsCard

/-- THE TIED CARD OF 'retortlaw22.VmTotal'. -/
def vmTotalCard : Claim7 := { stood := { row := vmTotalRow, standIns := [], harness := (true, "f67f79b8067e650cbbc35e6c62a9ac61ef2f5c1c797b6d4ee56a1db1f8b8b6a3"), looks := true }, kinds := [], alts := [], laidByText := true, laidKinds := [.data], laidTests := true, laidLooks := .later }
def VmTotalCardSaid : Prop := Claim7.holds Tryz.pinned (.plain (OpenSpec.ofChange vmTotalSpec)) vmTotalCard

/-- THE SECOND FORM's CARD OF 'retortlaw22.VmSays'. -/
def vmSaysUptoCard : Claim7 := { stood := { row := vmSaysUptoRow, standIns := [], harness := (true, "f67f79b8067e650cbbc35e6c62a9ac61ef2f5c1c797b6d4ee56a1db1f8b8b6a3"), looks := true }, kinds := [], alts := [], laidByText := true, laidKinds := [.data], laidTests := true, laidLooks := .later }
def VmSaysUptoCardSaid : Prop := Claim7.holds Tryz.pinned (.plain (OpenSpec.upto vmSaysSpec)) vmSaysUptoCard

/-- THE SECOND FORM's CARD OF 'retortlaw22.VmTight'. -/
def vmTightUptoCard : Claim7 := { stood := { row := vmTightUptoRow, standIns := [], harness := (true, "f67f79b8067e650cbbc35e6c62a9ac61ef2f5c1c797b6d4ee56a1db1f8b8b6a3"), looks := true }, kinds := [], alts := [], laidByText := true, laidKinds := [.data], laidTests := true, laidLooks := .later }
def VmTightUptoCardSaid : Prop := Claim7.holds Tryz.pinned (.plain (OpenSpec.upto vmTightSpec)) vmTightUptoCard

/-- THE SECOND FORM's CARD OF 'retortlaw22.VmCounts'. -/
def vmCountsUptoCard : Claim7 := { stood := { row := vmCountsUptoRow, standIns := [], harness := (true, "f67f79b8067e650cbbc35e6c62a9ac61ef2f5c1c797b6d4ee56a1db1f8b8b6a3"), looks := true }, kinds := [], alts := [], laidByText := true, laidKinds := [.data], laidTests := true, laidLooks := .later }
def VmCountsUptoCardSaid : Prop := Claim7.holds Tryz.pinned (.plain (OpenSpec.upto vmCountsSpec)) vmCountsUptoCard

/-- THE SECOND FORM's CARD OF 'retortlaw22.VmKeeps'. -/
def vmKeepsUptoCard : Claim7 := { stood := { row := vmKeepsUptoRow, standIns := [], harness := (true, "f67f79b8067e650cbbc35e6c62a9ac61ef2f5c1c797b6d4ee56a1db1f8b8b6a3"), looks := true }, kinds := [], alts := [], laidByText := true, laidKinds := [.data], laidTests := true, laidLooks := .later }
def VmKeepsUptoCardSaid : Prop := Claim7.holds Tryz.pinned (.plain (OpenSpec.upto vmKeepsSpec)) vmKeepsUptoCard

/-- THE SECOND FORM's CARD OF 'retortlaw22.VmTotal'. -/
def vmTotalUptoCard : Claim7 := { stood := { row := vmTotalUptoRow, standIns := [], harness := (true, "f67f79b8067e650cbbc35e6c62a9ac61ef2f5c1c797b6d4ee56a1db1f8b8b6a3"), looks := true }, kinds := [], alts := [], laidByText := true, laidKinds := [.data], laidTests := true, laidLooks := .later }
def VmTotalUptoCardSaid : Prop := Claim7.holds Tryz.pinned (.plain (OpenSpec.upto vmTotalSpec)) vmTotalUptoCard
end Rows
end Go.Proofs.YtbggaljmollhmaaGreatDoor
