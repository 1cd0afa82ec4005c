/-
  DERIVED. GIVEN WITH THE SEED: THE CARDS: each row of YtemeepkahefbiaaDoorRows.lean that lists a variable, with what it lists TIED to the program's text (the seventh form; the later family's looks); each row that meets fmt, with fmt's text TOLD by the authors' own Lean function (tested against real Go, not proved from fmt's source: count such statements apart). THE CARD IS WHAT COUNTS. Prove the row's statement (the work); the ties are given (YtemeepkahefbiaaDoorTie.lean); close each card by the builder's one call (the guide's Derived/Test/ToyasCard.lean, 'card_holds'). Laid BY PROGRAM, IN A SANDBOX (cutbox-door.mjs). By AI agents, Wed Nov 11 2026. No macro, syntax, notation, axiom, sorry.
-/
import Derived.Test.YtemeepkahefbiaaDoorRows
import GoSem.ClaimSeven
namespace Go.Proofs.YtemeepkahefbiaaDoor
namespace Rows

/-- THE TIED CARD OF 'remitlaw20.BackoffWaits'. -/
def backoffWaitsCard : Claim7 := { stood := { row := backoffWaitsRow, standIns := [], harness := (true, "15fa705e1d299e57c92bfe64aec6562371c644636e188bf14574cfeeb64ed425"), looks := true }, kinds := [], alts := [], laidByText := true, laidKinds := [.sentinel, .sentinel, .sentinel, .sentinel, .sentinel, .sentinel, .sentinel, .sentinel, .sentinel, .sentinel, .sentinel, .sentinel, .sentinel, .sentinel, .sentinel, .sentinel, .sentinel, .sentinel, .sentinel, .sentinel, .sentinel, .sentinel, .sentinel, .sentinel, .sentinel, .sentinel, .sentinel, .sentinel, .sentinel, .sentinel, .sentinel, .sentinel, .sentinel, .sentinel, .sentinel, .sentinel, .sentinel], laidTests := true, laidLooks := .later }
def BackoffWaitsCardSaid : Prop := Claim7.holds Tryd.pinned (.plain (OpenSpec.ofChange backoffWaitsSpec)) backoffWaitsCard

/-- THE TIED CARD OF 'remitlaw20.BackoffSums'. -/
def backoffSumsCard : Claim7 := { stood := { row := backoffSumsRow, standIns := [], harness := (true, "15fa705e1d299e57c92bfe64aec6562371c644636e188bf14574cfeeb64ed425"), looks := true }, kinds := [], alts := [], laidByText := true, laidKinds := [.sentinel], laidTests := true, laidLooks := .later }
def BackoffSumsCardSaid : Prop := Claim7.holds Tryd.pinned (.plain (OpenSpec.ofChange backoffSumsSpec)) backoffSumsCard

/-- THE TIED CARD OF 'remitlaw20.BackoffBounds'. -/
def backoffBoundsCard : Claim7 := { stood := { row := backoffBoundsRow, standIns := [], harness := (true, "15fa705e1d299e57c92bfe64aec6562371c644636e188bf14574cfeeb64ed425"), looks := true }, kinds := [], alts := [], laidByText := true, laidKinds := [.sentinel], laidTests := true, laidLooks := .later }
def BackoffBoundsCardSaid : Prop := Claim7.holds Tryd.pinned (.plain (OpenSpec.ofChange backoffBoundsSpec)) backoffBoundsCard

/-- THE SECOND FORM's CARD OF 'remitlaw20.BackoffWaits'. -/
def backoffWaitsUptoCard : Claim7 := { stood := { row := backoffWaitsUptoRow, standIns := [], harness := (true, "15fa705e1d299e57c92bfe64aec6562371c644636e188bf14574cfeeb64ed425"), looks := true }, kinds := [], alts := [], laidByText := true, laidKinds := [.sentinel, .sentinel, .sentinel, .sentinel, .sentinel, .sentinel, .sentinel, .sentinel, .sentinel, .sentinel, .sentinel, .sentinel, .sentinel, .sentinel, .sentinel, .sentinel, .sentinel, .sentinel, .sentinel, .sentinel, .sentinel, .sentinel, .sentinel, .sentinel, .sentinel, .sentinel, .sentinel, .sentinel, .sentinel, .sentinel, .sentinel, .sentinel, .sentinel, .sentinel, .sentinel, .sentinel, .sentinel], laidTests := true, laidLooks := .later }
def BackoffWaitsUptoCardSaid : Prop := Claim7.holds Tryd.pinned (.plain (OpenSpec.upto backoffWaitsSpec)) backoffWaitsUptoCard

/-- THE SECOND FORM's CARD OF 'remitlaw20.BackoffSums'. -/
def backoffSumsUptoCard : Claim7 := { stood := { row := backoffSumsUptoRow, standIns := [], harness := (true, "15fa705e1d299e57c92bfe64aec6562371c644636e188bf14574cfeeb64ed425"), looks := true }, kinds := [], alts := [], laidByText := true, laidKinds := [.sentinel], laidTests := true, laidLooks := .later }
def BackoffSumsUptoCardSaid : Prop := Claim7.holds Tryd.pinned (.plain (OpenSpec.upto backoffSumsSpec)) backoffSumsUptoCard

/-- THE SECOND FORM's CARD OF 'remitlaw20.BackoffBounds'. -/
def backoffBoundsUptoCard : Claim7 := { stood := { row := backoffBoundsUptoRow, standIns := [], harness := (true, "15fa705e1d299e57c92bfe64aec6562371c644636e188bf14574cfeeb64ed425"), looks := true }, kinds := [], alts := [], laidByText := true, laidKinds := [.sentinel], laidTests := true, laidLooks := .later }
def BackoffBoundsUptoCardSaid : Prop := Claim7.holds Tryd.pinned (.plain (OpenSpec.upto backoffBoundsSpec)) backoffBoundsUptoCard
end Rows
end Go.Proofs.YtemeepkahefbiaaDoor
