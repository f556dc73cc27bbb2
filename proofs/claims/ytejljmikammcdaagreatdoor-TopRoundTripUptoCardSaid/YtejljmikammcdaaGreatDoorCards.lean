/-
  DERIVED. GIVEN WITH THE SEED: THE CARDS: each row of YtejljmikammcdaaGreatDoorRows.lean that lists a variable, with what it lists TIED to the program's text (the seventh form; the later family's looks); each row that meets fmt, with fmt's text TOLD by the authors' own Lean function (tested against real Go, not proved from fmt's source: count such statements apart). THE CARD IS WHAT COUNTS. Prove the row's statement (the work); the ties are given (YtejljmikammcdaaGreatDoorTie.lean); close each card by the builder's one call (the guide's Derived/Test/ToyasCard.lean, 'card_holds'). Laid BY PROGRAM, IN A SANDBOX (cutbox-door.mjs). By AI agents, Wed Nov 11 2026. No macro, syntax, notation, axiom, sorry.
-/
import Derived.Test.YtejljmikammcdaaGreatDoorRows
import GoSem.ClaimSeven
namespace Go.Proofs.YtejljmikammcdaaGreatDoor
namespace Rows

/-- THE TIED CARD OF 'stockyardtop.TopTwoClients'. -/
def topTwoClientsCard : Claim7 := { stood := { row := topTwoClientsRow, standIns := [], harness := (true, "efafd69b4bd512d192b1a9c8217d699ed3353ca592e6614b04d8c8337c7516e7"), looks := false }, kinds := [], alts := [], laidByText := true, laidKinds := [.data, .pinned], laidTests := true, laidLooks := .later }
def TopTwoClientsCardSaid : Prop := Claim7.holds Tryz.pinned (.plain (OpenSpec.ofChange topTwoClientsSpec)) topTwoClientsCard

/-- THE TIED CARD OF 'stockyardtop.TopRoundTrip'. -/
def topRoundTripCard : Claim7 := { stood := { row := topRoundTripRow, standIns := [], harness := (true, "efafd69b4bd512d192b1a9c8217d699ed3353ca592e6614b04d8c8337c7516e7"), looks := false }, kinds := [], alts := [], laidByText := true, laidKinds := [.data, .pinned], laidTests := true, laidLooks := .later }
def TopRoundTripCardSaid : Prop := Claim7.holds Tryz.pinned (.plain (OpenSpec.ofChange topRoundTripSpec)) topRoundTripCard

/-- THE SECOND FORM's CARD OF 'stockyardtop.TopTwoClients'. -/
def topTwoClientsUptoCard : Claim7 := { stood := { row := topTwoClientsUptoRow, standIns := [], harness := (true, "efafd69b4bd512d192b1a9c8217d699ed3353ca592e6614b04d8c8337c7516e7"), looks := false }, kinds := [], alts := [], laidByText := true, laidKinds := [.data, .pinned], laidTests := true, laidLooks := .later }
def TopTwoClientsUptoCardSaid : Prop := Claim7.holds Tryz.pinned (.plain (OpenSpec.upto topTwoClientsSpec)) topTwoClientsUptoCard

/-- THE SECOND FORM's CARD OF 'stockyardtop.TopRoundTrip'. -/
def topRoundTripUptoCard : Claim7 := { stood := { row := topRoundTripUptoRow, standIns := [], harness := (true, "efafd69b4bd512d192b1a9c8217d699ed3353ca592e6614b04d8c8337c7516e7"), looks := false }, kinds := [], alts := [], laidByText := true, laidKinds := [.data, .pinned], laidTests := true, laidLooks := .later }
def TopRoundTripUptoCardSaid : Prop := Claim7.holds Tryz.pinned (.plain (OpenSpec.upto topRoundTripSpec)) topRoundTripUptoCard
end Rows
end Go.Proofs.YtejljmikammcdaaGreatDoor
