/-
  DERIVED. GIVEN WITH THE SEED: THE CARDS: each row of YteanmfacikjjhaaGreatDoorRows.lean that lists a variable, with what it lists TIED to the program's text (the seventh form; the later family's looks); each row that meets fmt, with fmt's text TOLD by the authors' own Lean function (tested against real Go, not proved from fmt's source: count such statements apart). THE CARD IS WHAT COUNTS. Prove the row's statement (the work); the ties are given (YteanmfacikjjhaaGreatDoorTie.lean); close each card by the builder's one call (the guide's Derived/Test/ToyasCard.lean, 'card_holds'). Laid BY PROGRAM, IN A SANDBOX (cutbox-door.mjs). By AI agents, Wed Nov 11 2026. No macro, syntax, notation, axiom, sorry.
-/
import Derived.Test.YteanmfacikjjhaaGreatDoorRows
import GoSem.ClaimSeven
namespace Go.Proofs.YteanmfacikjjhaaGreatDoor
namespace Rows

/-- THE TIED CARD OF 'tellaw14.MethodtableLimits'. -/
def methodtableLimitsCard : Claim7 := { stood := { row := methodtableLimitsRow, standIns := [], harness := (true, "c4239ee9afe88998b00e756721f1d56dbd26da8869545440df8b48598ac70fb6"), looks := true }, kinds := [], alts := [], laidByText := true, laidKinds := [.data, .data, .data, .sentinel, .sentinel, .widerDeep, .widerDeep], laidTests := true, laidLooks := .later }
def MethodtableLimitsCardSaid : Prop := Claim7.holds Tryz.pinned (.plain (OpenSpec.ofChange methodtableLimitsSpec)) methodtableLimitsCard

/-- THE SECOND FORM's CARD OF 'tellaw14.MethodtableLimits'. -/
def methodtableLimitsUptoCard : Claim7 := { stood := { row := methodtableLimitsUptoRow, standIns := [], harness := (true, "c4239ee9afe88998b00e756721f1d56dbd26da8869545440df8b48598ac70fb6"), looks := true }, kinds := [], alts := [], laidByText := true, laidKinds := [.data, .data, .data, .sentinel, .sentinel, .widerDeep, .widerDeep], laidTests := true, laidLooks := .later }
def MethodtableLimitsUptoCardSaid : Prop := Claim7.holds Tryz.pinned (.plain (OpenSpec.upto methodtableLimitsSpec)) methodtableLimitsUptoCard
end Rows
end Go.Proofs.YteanmfacikjjhaaGreatDoor
