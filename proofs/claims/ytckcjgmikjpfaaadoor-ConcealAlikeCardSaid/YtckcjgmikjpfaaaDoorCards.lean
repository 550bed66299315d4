/-
  DERIVED. GIVEN WITH THE SEED: THE CARDS: each row of YtckcjgmikjpfaaaDoorRows.lean that lists a variable, with what it lists TIED to the program's text (the seventh form; the later family's looks); each row that meets fmt, with fmt's text TOLD by the authors' own Lean function (tested against real Go, not proved from fmt's source: count such statements apart). THE CARD IS WHAT COUNTS. Prove the row's statement (the work); the ties are given (YtckcjgmikjpfaaaDoorTie.lean); close each card by the builder's one call (the guide's Derived/Test/ToyasCard.lean, 'card_holds'). Laid BY PROGRAM, IN A SANDBOX (cutbox-door.mjs). By AI agents, Wed Nov 11 2026. No macro, syntax, notation, axiom, sorry.
-/
import Derived.Test.YtckcjgmikjpfaaaDoorRows
import GoSem.ClaimSeven
namespace Go.Proofs.YtckcjgmikjpfaaaDoor
namespace Rows

/-- THE TIED CARD OF 'spinetlaw25.ConcealBounds'. -/
def concealBoundsCard : Claim7 := { stood := { row := concealBoundsRow, standIns := [], harness := (true, "97ea914b952f6853f6547c257185b9b1ab6b5a2f222e29772dcb0d8d1a94216c"), looks := false }, kinds := [], alts := [], laidByText := true, laidKinds := [.data], laidTests := true, laidLooks := .later }
def ConcealBoundsCardSaid : Prop := Claim7.holds Tryd.pinned (.plain (OpenSpec.ofChange concealBoundsSpec)) concealBoundsCard

/-- THE TIED CARD OF 'spinetlaw25.ConcealPeriods'. -/
def concealPeriodsCard : Claim7 := { stood := { row := concealPeriodsRow, standIns := [], harness := (true, "97ea914b952f6853f6547c257185b9b1ab6b5a2f222e29772dcb0d8d1a94216c"), looks := false }, kinds := [], alts := [], laidByText := true, laidKinds := [.data], laidTests := true, laidLooks := .later }
def ConcealPeriodsCardSaid : Prop := Claim7.holds Tryd.pinned (.plain (OpenSpec.ofChange concealPeriodsSpec)) concealPeriodsCard

/-- THE TIED CARD OF 'spinetlaw25.ConcealTells'. -/
def concealTellsCard : Claim7 := { stood := { row := concealTellsRow, standIns := [], harness := (true, "97ea914b952f6853f6547c257185b9b1ab6b5a2f222e29772dcb0d8d1a94216c"), looks := false }, kinds := [], alts := [], laidByText := true, laidKinds := [.data], laidTests := true, laidLooks := .later }
def ConcealTellsCardSaid : Prop := Claim7.holds Tryd.pinned (.plain (OpenSpec.ofChange concealTellsSpec)) concealTellsCard

/-- THE TIED CARD OF 'spinetlaw25.ConcealAlike'. -/
def concealAlikeCard : Claim7 := { stood := { row := concealAlikeRow, standIns := [], harness := (true, "97ea914b952f6853f6547c257185b9b1ab6b5a2f222e29772dcb0d8d1a94216c"), looks := false }, kinds := [], alts := [], laidByText := true, laidKinds := [.data], laidTests := true, laidLooks := .later }
def ConcealAlikeCardSaid : Prop := Claim7.holds Tryd.pinned (.plain (OpenSpec.ofChange concealAlikeSpec)) concealAlikeCard

/-- THE SECOND FORM's CARD OF 'spinetlaw25.ConcealBounds'. -/
def concealBoundsUptoCard : Claim7 := { stood := { row := concealBoundsUptoRow, standIns := [], harness := (true, "97ea914b952f6853f6547c257185b9b1ab6b5a2f222e29772dcb0d8d1a94216c"), looks := false }, kinds := [], alts := [], laidByText := true, laidKinds := [.data], laidTests := true, laidLooks := .later }
def ConcealBoundsUptoCardSaid : Prop := Claim7.holds Tryd.pinned (.plain (OpenSpec.upto concealBoundsSpec)) concealBoundsUptoCard

/-- THE SECOND FORM's CARD OF 'spinetlaw25.ConcealPeriods'. -/
def concealPeriodsUptoCard : Claim7 := { stood := { row := concealPeriodsUptoRow, standIns := [], harness := (true, "97ea914b952f6853f6547c257185b9b1ab6b5a2f222e29772dcb0d8d1a94216c"), looks := false }, kinds := [], alts := [], laidByText := true, laidKinds := [.data], laidTests := true, laidLooks := .later }
def ConcealPeriodsUptoCardSaid : Prop := Claim7.holds Tryd.pinned (.plain (OpenSpec.upto concealPeriodsSpec)) concealPeriodsUptoCard

/-- THE SECOND FORM's CARD OF 'spinetlaw25.ConcealTells'. -/
def concealTellsUptoCard : Claim7 := { stood := { row := concealTellsUptoRow, standIns := [], harness := (true, "97ea914b952f6853f6547c257185b9b1ab6b5a2f222e29772dcb0d8d1a94216c"), looks := false }, kinds := [], alts := [], laidByText := true, laidKinds := [.data], laidTests := true, laidLooks := .later }
def ConcealTellsUptoCardSaid : Prop := Claim7.holds Tryd.pinned (.plain (OpenSpec.upto concealTellsSpec)) concealTellsUptoCard

/-- THE SECOND FORM's CARD OF 'spinetlaw25.ConcealAlike'. -/
def concealAlikeUptoCard : Claim7 := { stood := { row := concealAlikeUptoRow, standIns := [], harness := (true, "97ea914b952f6853f6547c257185b9b1ab6b5a2f222e29772dcb0d8d1a94216c"), looks := false }, kinds := [], alts := [], laidByText := true, laidKinds := [.data], laidTests := true, laidLooks := .later }
def ConcealAlikeUptoCardSaid : Prop := Claim7.holds Tryd.pinned (.plain (OpenSpec.upto concealAlikeSpec)) concealAlikeUptoCard
end Rows
end Go.Proofs.YtckcjgmikjpfaaaDoor
