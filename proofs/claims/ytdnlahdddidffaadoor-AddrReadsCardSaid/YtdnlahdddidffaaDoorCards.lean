/-
  DERIVED. GIVEN WITH THE SEED: THE CARDS: each row of YtdnlahdddidffaaDoorRows.lean that lists a variable, with what it lists TIED to the program's text (the seventh form; the later family's looks); each row that meets fmt, with fmt's text TOLD by the authors' own Lean function (tested against real Go, not proved from fmt's source: count such statements apart). THE CARD IS WHAT COUNTS. Prove the row's statement (the work); the ties are given (YtdnlahdddidffaaDoorTie.lean); close each card by the builder's one call (the guide's Derived/Test/ToyasCard.lean, 'card_holds'). Laid BY PROGRAM, IN A SANDBOX (cutbox-door.mjs). By AI agents, Wed Nov 11 2026. No macro, syntax, notation, axiom, sorry.
-/
import Derived.Test.YtdnlahdddidffaaDoorRows
import GoSem.ClaimSeven
namespace Go.Proofs.YtdnlahdddidffaaDoor
namespace Rows

/-- THE TIED CARD OF 'plenumlaw1.AddrReads'. -/
def addrReadsCard : Claim7 := { stood := { row := addrReadsRow, standIns := [], harness := (true, "a129d59cebb745dd187e05d49d41c166ad481837a0a92477b9de7b4827d3387c"), looks := true }, kinds := [], alts := [], laidByText := true, laidKinds := [.data, .data, .data, .data, .sentinel, .sentinel, .pinned], laidTests := true, laidLooks := .later }
def AddrReadsCardSaid : Prop := Claim7.holds Tryd.pinned (.plain (OpenSpec.ofChange addrReadsSpec)) addrReadsCard

/-- THE TIED CARD OF 'plenumlaw1.AddrBack'. -/
def addrBackCard : Claim7 := { stood := { row := addrBackRow, standIns := [], harness := (true, "a129d59cebb745dd187e05d49d41c166ad481837a0a92477b9de7b4827d3387c"), looks := true }, kinds := [], alts := [], laidByText := true, laidKinds := [.data, .data, .data, .data, .sentinel, .sentinel, .pinned], laidTests := true, laidLooks := .later }
def AddrBackCardSaid : Prop := Claim7.holds Tryd.pinned (.plain (OpenSpec.ofChange addrBackSpec)) addrBackCard

/-- THE TIED CARD OF 'plenumlaw1.AddrStrict'. -/
def addrStrictCard : Claim7 := { stood := { row := addrStrictRow, standIns := [], harness := (true, "a129d59cebb745dd187e05d49d41c166ad481837a0a92477b9de7b4827d3387c"), looks := true }, kinds := [], alts := [], laidByText := true, laidKinds := [.data, .data, .data, .data, .sentinel, .sentinel, .pinned], laidTests := true, laidLooks := .later }
def AddrStrictCardSaid : Prop := Claim7.holds Tryd.pinned (.plain (OpenSpec.ofChange addrStrictSpec)) addrStrictCard

/-- THE TIED CARD OF 'plenumlaw1.AddrNests'. -/
def addrNestsCard : Claim7 := { stood := { row := addrNestsRow, standIns := [], harness := (true, "a129d59cebb745dd187e05d49d41c166ad481837a0a92477b9de7b4827d3387c"), looks := true }, kinds := [], alts := [], laidByText := true, laidKinds := [.data, .data, .data, .data, .sentinel, .sentinel, .pinned], laidTests := true, laidLooks := .later }
def AddrNestsCardSaid : Prop := Claim7.holds Tryd.pinned (.plain (OpenSpec.ofChange addrNestsSpec)) addrNestsCard

/-- THE TIED CARD OF 'plenumlaw1.AddrMasks'. -/
def addrMasksCard : Claim7 := { stood := { row := addrMasksRow, standIns := [], harness := (true, "a129d59cebb745dd187e05d49d41c166ad481837a0a92477b9de7b4827d3387c"), looks := true }, kinds := [], alts := [], laidByText := true, laidKinds := [.data, .data, .data, .data, .sentinel, .sentinel, .pinned], laidTests := true, laidLooks := .later }
def AddrMasksCardSaid : Prop := Claim7.holds Tryd.pinned (.plain (OpenSpec.ofChange addrMasksSpec)) addrMasksCard

/-- THE SECOND FORM's CARD OF 'plenumlaw1.AddrReads'. -/
def addrReadsUptoCard : Claim7 := { stood := { row := addrReadsUptoRow, standIns := [], harness := (true, "a129d59cebb745dd187e05d49d41c166ad481837a0a92477b9de7b4827d3387c"), looks := true }, kinds := [], alts := [], laidByText := true, laidKinds := [.data, .data, .data, .data, .sentinel, .sentinel, .pinned], laidTests := true, laidLooks := .later }
def AddrReadsUptoCardSaid : Prop := Claim7.holds Tryd.pinned (.plain (OpenSpec.upto addrReadsSpec)) addrReadsUptoCard

/-- THE SECOND FORM's CARD OF 'plenumlaw1.AddrBack'. -/
def addrBackUptoCard : Claim7 := { stood := { row := addrBackUptoRow, standIns := [], harness := (true, "a129d59cebb745dd187e05d49d41c166ad481837a0a92477b9de7b4827d3387c"), looks := true }, kinds := [], alts := [], laidByText := true, laidKinds := [.data, .data, .data, .data, .sentinel, .sentinel, .pinned], laidTests := true, laidLooks := .later }
def AddrBackUptoCardSaid : Prop := Claim7.holds Tryd.pinned (.plain (OpenSpec.upto addrBackSpec)) addrBackUptoCard

/-- THE SECOND FORM's CARD OF 'plenumlaw1.AddrStrict'. -/
def addrStrictUptoCard : Claim7 := { stood := { row := addrStrictUptoRow, standIns := [], harness := (true, "a129d59cebb745dd187e05d49d41c166ad481837a0a92477b9de7b4827d3387c"), looks := true }, kinds := [], alts := [], laidByText := true, laidKinds := [.data, .data, .data, .data, .sentinel, .sentinel, .pinned], laidTests := true, laidLooks := .later }
def AddrStrictUptoCardSaid : Prop := Claim7.holds Tryd.pinned (.plain (OpenSpec.upto addrStrictSpec)) addrStrictUptoCard

/-- THE SECOND FORM's CARD OF 'plenumlaw1.AddrNests'. -/
def addrNestsUptoCard : Claim7 := { stood := { row := addrNestsUptoRow, standIns := [], harness := (true, "a129d59cebb745dd187e05d49d41c166ad481837a0a92477b9de7b4827d3387c"), looks := true }, kinds := [], alts := [], laidByText := true, laidKinds := [.data, .data, .data, .data, .sentinel, .sentinel, .pinned], laidTests := true, laidLooks := .later }
def AddrNestsUptoCardSaid : Prop := Claim7.holds Tryd.pinned (.plain (OpenSpec.upto addrNestsSpec)) addrNestsUptoCard

/-- THE SECOND FORM's CARD OF 'plenumlaw1.AddrMasks'. -/
def addrMasksUptoCard : Claim7 := { stood := { row := addrMasksUptoRow, standIns := [], harness := (true, "a129d59cebb745dd187e05d49d41c166ad481837a0a92477b9de7b4827d3387c"), looks := true }, kinds := [], alts := [], laidByText := true, laidKinds := [.data, .data, .data, .data, .sentinel, .sentinel, .pinned], laidTests := true, laidLooks := .later }
def AddrMasksUptoCardSaid : Prop := Claim7.holds Tryd.pinned (.plain (OpenSpec.upto addrMasksSpec)) addrMasksUptoCard
end Rows
end Go.Proofs.YtdnlahdddidffaaDoor
