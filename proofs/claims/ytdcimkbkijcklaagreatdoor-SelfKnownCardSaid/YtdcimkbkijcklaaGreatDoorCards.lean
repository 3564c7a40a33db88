/-
  DERIVED. GIVEN WITH THE SEED: THE CARDS: each row of YtdcimkbkijcklaaGreatDoorRows.lean that lists a variable, with what it lists TIED to the program's text (the seventh form; the later family's looks); each row that meets fmt, with fmt's text TOLD by the authors' own Lean function (tested against real Go, not proved from fmt's source: count such statements apart). THE CARD IS WHAT COUNTS. Prove the row's statement (the work); the ties are given (YtdcimkbkijcklaaGreatDoorTie.lean); close each card by the builder's one call (the guide's Derived/Test/ToyasCard.lean, 'card_holds'). Laid BY PROGRAM, IN A SANDBOX (cutbox-door.mjs). By AI agents, Wed Nov 11 2026. No macro, syntax, notation, axiom, sorry.
-/
import Derived.Test.YtdcimkbkijcklaaGreatDoorRows
import GoSem.ClaimSeven
namespace Go.Proofs.YtdcimkbkijcklaaGreatDoor
namespace Rows

/-- THE TIED CARD OF 'cartouchelaw15.VmKnown'. -/
def vmKnownCard : Claim7 := { stood := { row := vmKnownRow, standIns := [], harness := (true, "a3683c1af0135d6b08637f6abbb509d0ad28e8b9c3e19632097c127064657354"), looks := true }, kinds := [], alts := [], laidByText := true, laidKinds := [.data, .pinned], laidTests := true, laidLooks := .later }
def VmKnownCardSaid : Prop := Claim7.holds Tryz.pinned (.plain (OpenSpec.ofChange vmKnownSpec)) vmKnownCard

/-- THE TIED CARD OF 'cartouchelaw12.SelfKnown'. -/
def selfKnownCard : Claim7 := { stood := { row := selfKnownRow, standIns := [], harness := (true, "a3683c1af0135d6b08637f6abbb509d0ad28e8b9c3e19632097c127064657354"), looks := true }, kinds := [], alts := [], laidByText := true, laidKinds := [.data, .pinned], laidTests := true, laidLooks := .later }
def SelfKnownCardSaid : Prop := Claim7.holds Tryz.pinned (.plain (OpenSpec.ofChange selfKnownSpec)) selfKnownCard

/-- THE TIED CARD OF 'cartouchelaw12.SelfItself'. -/
def selfItselfCard : Claim7 := { stood := { row := selfItselfRow, standIns := [], harness := (true, "a3683c1af0135d6b08637f6abbb509d0ad28e8b9c3e19632097c127064657354"), looks := true }, kinds := [], alts := [], laidByText := true, laidKinds := [.data, .pinned], laidTests := true, laidLooks := .later }
def SelfItselfCardSaid : Prop := Claim7.holds Tryz.pinned (.plain (OpenSpec.ofChange selfItselfSpec)) selfItselfCard

/-- THE SECOND FORM's CARD OF 'cartouchelaw15.VmKnown'. -/
def vmKnownUptoCard : Claim7 := { stood := { row := vmKnownUptoRow, standIns := [], harness := (true, "a3683c1af0135d6b08637f6abbb509d0ad28e8b9c3e19632097c127064657354"), looks := true }, kinds := [], alts := [], laidByText := true, laidKinds := [.data, .pinned], laidTests := true, laidLooks := .later }
def VmKnownUptoCardSaid : Prop := Claim7.holds Tryz.pinned (.plain (OpenSpec.upto vmKnownSpec)) vmKnownUptoCard

/-- THE SECOND FORM's CARD OF 'cartouchelaw12.SelfKnown'. -/
def selfKnownUptoCard : Claim7 := { stood := { row := selfKnownUptoRow, standIns := [], harness := (true, "a3683c1af0135d6b08637f6abbb509d0ad28e8b9c3e19632097c127064657354"), looks := true }, kinds := [], alts := [], laidByText := true, laidKinds := [.data, .pinned], laidTests := true, laidLooks := .later }
def SelfKnownUptoCardSaid : Prop := Claim7.holds Tryz.pinned (.plain (OpenSpec.upto selfKnownSpec)) selfKnownUptoCard

/-- THE SECOND FORM's CARD OF 'cartouchelaw12.SelfItself'. -/
def selfItselfUptoCard : Claim7 := { stood := { row := selfItselfUptoRow, standIns := [], harness := (true, "a3683c1af0135d6b08637f6abbb509d0ad28e8b9c3e19632097c127064657354"), looks := true }, kinds := [], alts := [], laidByText := true, laidKinds := [.data, .pinned], laidTests := true, laidLooks := .later }
def SelfItselfUptoCardSaid : Prop := Claim7.holds Tryz.pinned (.plain (OpenSpec.upto selfItselfSpec)) selfItselfUptoCard
end Rows
end Go.Proofs.YtdcimkbkijcklaaGreatDoor
