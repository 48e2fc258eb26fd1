/-
  DERIVED. GIVEN WITH THE SEED: THE CARDS: each row of YtmmofgbjpmhgpaaDoorRows.lean that lists a variable, with what it lists TIED to the program's text (the seventh form; the later family's looks); each row that meets fmt, with fmt's text TOLD by the authors' own Lean function (tested against real Go, not proved from fmt's source: count such statements apart). THE CARD IS WHAT COUNTS. Prove the row's statement (the work); the ties are given (YtmmofgbjpmhgpaaDoorTie.lean); close each card by the builder's one call (the guide's Derived/Test/ToyasCard.lean, 'card_holds'). Laid BY PROGRAM, IN A SANDBOX (cutbox-door.mjs). By AI agents, Wed Nov 11 2026. No macro, syntax, notation, axiom, sorry.
-/
import Derived.Test.YtmmofgbjpmhgpaaDoorRows
import GoSem.ClaimSeven
namespace Go.Proofs.YtmmofgbjpmhgpaaDoor
namespace Rows

/-- THE TIED CARD OF 'skywavelaw02.EchoAmong'. -/
def echoAmongCard : Claim7 := { stood := { row := echoAmongRow, standIns := [], harness := (true, "db55cbe47a63d69eb8b6c684016044c38da1ad1b1ff40cc916261a971b95b9ba"), looks := false }, kinds := [], alts := [], laidByText := true, laidKinds := [.data, .data, .data], laidTests := true, laidLooks := .later }
def EchoAmongCardSaid : Prop := Claim7.holds Tryd.pinned (.plain (OpenSpec.ofChange echoAmongSpec)) echoAmongCard

/-- THE TIED CARD OF 'skywavelaw02.EchoDirections'. -/
def echoDirectionsCard : Claim7 := { stood := { row := echoDirectionsRow, standIns := [], harness := (true, "db55cbe47a63d69eb8b6c684016044c38da1ad1b1ff40cc916261a971b95b9ba"), looks := false }, kinds := [], alts := [], laidByText := true, laidKinds := [.data, .data, .data], laidTests := true, laidLooks := .later }
def EchoDirectionsCardSaid : Prop := Claim7.holds Tryd.pinned (.plain (OpenSpec.ofChange echoDirectionsSpec)) echoDirectionsCard

/-- THE SECOND FORM's CARD OF 'skywavelaw02.EchoAmong'. -/
def echoAmongUptoCard : Claim7 := { stood := { row := echoAmongUptoRow, standIns := [], harness := (true, "db55cbe47a63d69eb8b6c684016044c38da1ad1b1ff40cc916261a971b95b9ba"), looks := false }, kinds := [], alts := [], laidByText := true, laidKinds := [.data, .data, .data], laidTests := true, laidLooks := .later }
def EchoAmongUptoCardSaid : Prop := Claim7.holds Tryd.pinned (.plain (OpenSpec.upto echoAmongSpec)) echoAmongUptoCard

/-- THE SECOND FORM's CARD OF 'skywavelaw02.EchoDirections'. -/
def echoDirectionsUptoCard : Claim7 := { stood := { row := echoDirectionsUptoRow, standIns := [], harness := (true, "db55cbe47a63d69eb8b6c684016044c38da1ad1b1ff40cc916261a971b95b9ba"), looks := false }, kinds := [], alts := [], laidByText := true, laidKinds := [.data, .data, .data], laidTests := true, laidLooks := .later }
def EchoDirectionsUptoCardSaid : Prop := Claim7.holds Tryd.pinned (.plain (OpenSpec.upto echoDirectionsSpec)) echoDirectionsUptoCard
end Rows
end Go.Proofs.YtmmofgbjpmhgpaaDoor
