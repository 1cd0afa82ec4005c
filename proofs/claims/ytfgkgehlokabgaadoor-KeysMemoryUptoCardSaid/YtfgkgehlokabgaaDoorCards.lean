/-
  DERIVED. GIVEN WITH THE SEED: THE CARDS: each row of YtfgkgehlokabgaaDoorRows.lean that lists a variable, with what it lists TIED to the program's text (the seventh form; the later family's looks); each row that meets fmt, with fmt's text TOLD by the authors' own Lean function (tested against real Go, not proved from fmt's source: count such statements apart). THE CARD IS WHAT COUNTS. Prove the row's statement (the work); the ties are given (YtfgkgehlokabgaaDoorTie.lean); close each card by the builder's one call (the guide's Derived/Test/ToyasCard.lean, 'card_holds'). Laid BY PROGRAM, IN A SANDBOX (cutbox-door.mjs). By AI agents, Wed Nov 11 2026. No macro, syntax, notation, axiom, sorry.
-/
import Derived.Test.YtfgkgehlokabgaaDoorRows
import GoSem.ClaimSeven
namespace Go.Proofs.YtfgkgehlokabgaaDoor
namespace Rows

/-- THE TIED CARD OF 'remitlaw02.KeysBack'. -/
def keysBackCard : Claim7 := { stood := { row := keysBackRow, standIns := [], harness := (true, "977037539afc7e3dabac7de17f0f2ef269891d5c8080a88eebd3a5a416060b12"), looks := true }, kinds := [], alts := [], laidByText := true, laidKinds := [.sentinel], laidTests := true, laidLooks := .later }
def KeysBackCardSaid : Prop := Claim7.holds Tryd.pinned (.plain (OpenSpec.ofChange keysBackSpec)) keysBackCard

/-- THE TIED CARD OF 'remitlaw02.KeysSplits'. -/
def keysSplitsCard : Claim7 := { stood := { row := keysSplitsRow, standIns := [], harness := (true, "977037539afc7e3dabac7de17f0f2ef269891d5c8080a88eebd3a5a416060b12"), looks := true }, kinds := [], alts := [], laidByText := true, laidKinds := [.sentinel, .sentinel, .sentinel, .sentinel, .sentinel, .sentinel, .sentinel, .sentinel, .sentinel, .sentinel, .sentinel, .sentinel, .sentinel, .sentinel, .sentinel, .sentinel, .sentinel, .sentinel, .sentinel, .sentinel, .sentinel, .sentinel, .sentinel, .sentinel, .sentinel, .sentinel, .sentinel, .sentinel, .sentinel, .sentinel, .sentinel, .sentinel, .sentinel, .sentinel, .sentinel, .sentinel, .sentinel], laidTests := true, laidLooks := .later }
def KeysSplitsCardSaid : Prop := Claim7.holds Tryd.pinned (.plain (OpenSpec.ofChange keysSplitsSpec)) keysSplitsCard

/-- THE TIED CARD OF 'remitlaw02.KeysMemory'. -/
def keysMemoryCard : Claim7 := { stood := { row := keysMemoryRow, standIns := [], harness := (true, "977037539afc7e3dabac7de17f0f2ef269891d5c8080a88eebd3a5a416060b12"), looks := true }, kinds := [], alts := [], laidByText := true, laidKinds := [.sentinel], laidTests := true, laidLooks := .later }
def KeysMemoryCardSaid : Prop := Claim7.holds Tryd.pinned (.plain (OpenSpec.ofChange keysMemorySpec)) keysMemoryCard

/-- THE SECOND FORM's CARD OF 'remitlaw02.KeysBack'. -/
def keysBackUptoCard : Claim7 := { stood := { row := keysBackUptoRow, standIns := [], harness := (true, "977037539afc7e3dabac7de17f0f2ef269891d5c8080a88eebd3a5a416060b12"), looks := true }, kinds := [], alts := [], laidByText := true, laidKinds := [.sentinel], laidTests := true, laidLooks := .later }
def KeysBackUptoCardSaid : Prop := Claim7.holds Tryd.pinned (.plain (OpenSpec.upto keysBackSpec)) keysBackUptoCard

/-- THE SECOND FORM's CARD OF 'remitlaw02.KeysSplits'. -/
def keysSplitsUptoCard : Claim7 := { stood := { row := keysSplitsUptoRow, standIns := [], harness := (true, "977037539afc7e3dabac7de17f0f2ef269891d5c8080a88eebd3a5a416060b12"), looks := true }, kinds := [], alts := [], laidByText := true, laidKinds := [.sentinel, .sentinel, .sentinel, .sentinel, .sentinel, .sentinel, .sentinel, .sentinel, .sentinel, .sentinel, .sentinel, .sentinel, .sentinel, .sentinel, .sentinel, .sentinel, .sentinel, .sentinel, .sentinel, .sentinel, .sentinel, .sentinel, .sentinel, .sentinel, .sentinel, .sentinel, .sentinel, .sentinel, .sentinel, .sentinel, .sentinel, .sentinel, .sentinel, .sentinel, .sentinel, .sentinel, .sentinel], laidTests := true, laidLooks := .later }
def KeysSplitsUptoCardSaid : Prop := Claim7.holds Tryd.pinned (.plain (OpenSpec.upto keysSplitsSpec)) keysSplitsUptoCard

/-- THE SECOND FORM's CARD OF 'remitlaw02.KeysMemory'. -/
def keysMemoryUptoCard : Claim7 := { stood := { row := keysMemoryUptoRow, standIns := [], harness := (true, "977037539afc7e3dabac7de17f0f2ef269891d5c8080a88eebd3a5a416060b12"), looks := true }, kinds := [], alts := [], laidByText := true, laidKinds := [.sentinel], laidTests := true, laidLooks := .later }
def KeysMemoryUptoCardSaid : Prop := Claim7.holds Tryd.pinned (.plain (OpenSpec.upto keysMemorySpec)) keysMemoryUptoCard
end Rows
end Go.Proofs.YtfgkgehlokabgaaDoor
