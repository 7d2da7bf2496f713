/-
  DERIVED. GIVEN WITH THE SEED: THE CARDS: each row of YtnpnfgnhgjmlbaaDoorRows.lean that lists a variable, with what it lists TIED to the program's text (the seventh form; the later family's looks); each row that meets fmt, with fmt's text TOLD by the authors' own Lean function (tested against real Go, not proved from fmt's source: count such statements apart). THE CARD IS WHAT COUNTS. Prove the row's statement (the work); the ties are given (YtnpnfgnhgjmlbaaDoorTie.lean); close each card by the builder's one call (the guide's Derived/Test/ToyasCard.lean, 'card_holds'). Laid BY PROGRAM, IN A SANDBOX (cutbox-door.mjs). By AI agents, Wed Nov 11 2026. No macro, syntax, notation, axiom, sorry.
-/
import Derived.Test.YtnpnfgnhgjmlbaaDoorRows
import GoSem.ClaimSeven
namespace Go.Proofs.YtnpnfgnhgjmlbaaDoor
namespace Rows

/-- THE TIED CARD OF 'barbicanlaw02.WheelPieces'. -/
def wheelPiecesCard : Claim7 := { stood := { row := wheelPiecesRow, standIns := [], harness := (true, "40df3e8f2ba6686518fb4eaa512537cd7d2a3ac61d895bb76893719f8a081137"), looks := false }, kinds := [], alts := [], laidByText := true, laidKinds := [.data], laidTests := true, laidLooks := .later }
def WheelPiecesCardSaid : Prop := Claim7.holds Tryd.pinned (.plain (OpenSpec.ofChange wheelPiecesSpec)) wheelPiecesCard

/-- THE TIED CARD OF 'barbicanlaw02.WheelAgain'. -/
def wheelAgainCard : Claim7 := { stood := { row := wheelAgainRow, standIns := [], harness := (true, "40df3e8f2ba6686518fb4eaa512537cd7d2a3ac61d895bb76893719f8a081137"), looks := false }, kinds := [], alts := [], laidByText := true, laidKinds := [.data], laidTests := true, laidLooks := .later }
def WheelAgainCardSaid : Prop := Claim7.holds Tryd.pinned (.plain (OpenSpec.ofChange wheelAgainSpec)) wheelAgainCard

/-- THE TIED CARD OF 'barbicanlaw02.WheelFull'. -/
def wheelFullCard : Claim7 := { stood := { row := wheelFullRow, standIns := [], harness := (true, "40df3e8f2ba6686518fb4eaa512537cd7d2a3ac61d895bb76893719f8a081137"), looks := false }, kinds := [], alts := [], laidByText := true, laidKinds := [.data], laidTests := true, laidLooks := .later }
def WheelFullCardSaid : Prop := Claim7.holds Tryd.pinned (.plain (OpenSpec.ofChange wheelFullSpec)) wheelFullCard

/-- THE TIED CARD OF 'barbicanlaw02.WheelMemory'. -/
def wheelMemoryCard : Claim7 := { stood := { row := wheelMemoryRow, standIns := [], harness := (true, "40df3e8f2ba6686518fb4eaa512537cd7d2a3ac61d895bb76893719f8a081137"), looks := false }, kinds := [], alts := [], laidByText := true, laidKinds := [.data], laidTests := true, laidLooks := .later }
def WheelMemoryCardSaid : Prop := Claim7.holds Tryd.pinned (.plain (OpenSpec.ofChange wheelMemorySpec)) wheelMemoryCard

/-- THE TIED CARD OF 'barbicanlaw02.WheelRefuses'. -/
def wheelRefusesCard : Claim7 := { stood := { row := wheelRefusesRow, standIns := [], harness := (true, "40df3e8f2ba6686518fb4eaa512537cd7d2a3ac61d895bb76893719f8a081137"), looks := false }, kinds := [], alts := [], laidByText := true, laidKinds := [.data], laidTests := true, laidLooks := .later }
def WheelRefusesCardSaid : Prop := Claim7.holds Tryd.pinned (.plain (OpenSpec.ofChange wheelRefusesSpec)) wheelRefusesCard

/-- THE TIED CARD OF 'barbicanlaw02.WheelPlays'. -/
def wheelPlaysCard : Claim7 := { stood := { row := wheelPlaysRow, standIns := [], harness := (true, "40df3e8f2ba6686518fb4eaa512537cd7d2a3ac61d895bb76893719f8a081137"), looks := false }, kinds := [], alts := [], laidByText := true, laidKinds := [.data], laidTests := true, laidLooks := .later }
def WheelPlaysCardSaid : Prop := Claim7.holds Tryd.pinned (.plain (OpenSpec.ofChange wheelPlaysSpec)) wheelPlaysCard

/-- THE TIED CARD OF 'barbicanlaw02.WheelNext'. -/
def wheelNextCard : Claim7 := { stood := { row := wheelNextRow, standIns := [], harness := (true, "40df3e8f2ba6686518fb4eaa512537cd7d2a3ac61d895bb76893719f8a081137"), looks := false }, kinds := [], alts := [], laidByText := true, laidKinds := [.data], laidTests := true, laidLooks := .later }
def WheelNextCardSaid : Prop := Claim7.holds Tryd.pinned (.plain (OpenSpec.ofChange wheelNextSpec)) wheelNextCard

/-- THE SECOND FORM's CARD OF 'barbicanlaw02.WheelPieces'. -/
def wheelPiecesUptoCard : Claim7 := { stood := { row := wheelPiecesUptoRow, standIns := [], harness := (true, "40df3e8f2ba6686518fb4eaa512537cd7d2a3ac61d895bb76893719f8a081137"), looks := false }, kinds := [], alts := [], laidByText := true, laidKinds := [.data], laidTests := true, laidLooks := .later }
def WheelPiecesUptoCardSaid : Prop := Claim7.holds Tryd.pinned (.plain (OpenSpec.upto wheelPiecesSpec)) wheelPiecesUptoCard

/-- THE SECOND FORM's CARD OF 'barbicanlaw02.WheelAgain'. -/
def wheelAgainUptoCard : Claim7 := { stood := { row := wheelAgainUptoRow, standIns := [], harness := (true, "40df3e8f2ba6686518fb4eaa512537cd7d2a3ac61d895bb76893719f8a081137"), looks := false }, kinds := [], alts := [], laidByText := true, laidKinds := [.data], laidTests := true, laidLooks := .later }
def WheelAgainUptoCardSaid : Prop := Claim7.holds Tryd.pinned (.plain (OpenSpec.upto wheelAgainSpec)) wheelAgainUptoCard

/-- THE SECOND FORM's CARD OF 'barbicanlaw02.WheelFull'. -/
def wheelFullUptoCard : Claim7 := { stood := { row := wheelFullUptoRow, standIns := [], harness := (true, "40df3e8f2ba6686518fb4eaa512537cd7d2a3ac61d895bb76893719f8a081137"), looks := false }, kinds := [], alts := [], laidByText := true, laidKinds := [.data], laidTests := true, laidLooks := .later }
def WheelFullUptoCardSaid : Prop := Claim7.holds Tryd.pinned (.plain (OpenSpec.upto wheelFullSpec)) wheelFullUptoCard

/-- THE SECOND FORM's CARD OF 'barbicanlaw02.WheelMemory'. -/
def wheelMemoryUptoCard : Claim7 := { stood := { row := wheelMemoryUptoRow, standIns := [], harness := (true, "40df3e8f2ba6686518fb4eaa512537cd7d2a3ac61d895bb76893719f8a081137"), looks := false }, kinds := [], alts := [], laidByText := true, laidKinds := [.data], laidTests := true, laidLooks := .later }
def WheelMemoryUptoCardSaid : Prop := Claim7.holds Tryd.pinned (.plain (OpenSpec.upto wheelMemorySpec)) wheelMemoryUptoCard

/-- THE SECOND FORM's CARD OF 'barbicanlaw02.WheelRefuses'. -/
def wheelRefusesUptoCard : Claim7 := { stood := { row := wheelRefusesUptoRow, standIns := [], harness := (true, "40df3e8f2ba6686518fb4eaa512537cd7d2a3ac61d895bb76893719f8a081137"), looks := false }, kinds := [], alts := [], laidByText := true, laidKinds := [.data], laidTests := true, laidLooks := .later }
def WheelRefusesUptoCardSaid : Prop := Claim7.holds Tryd.pinned (.plain (OpenSpec.upto wheelRefusesSpec)) wheelRefusesUptoCard

/-- THE SECOND FORM's CARD OF 'barbicanlaw02.WheelPlays'. -/
def wheelPlaysUptoCard : Claim7 := { stood := { row := wheelPlaysUptoRow, standIns := [], harness := (true, "40df3e8f2ba6686518fb4eaa512537cd7d2a3ac61d895bb76893719f8a081137"), looks := false }, kinds := [], alts := [], laidByText := true, laidKinds := [.data], laidTests := true, laidLooks := .later }
def WheelPlaysUptoCardSaid : Prop := Claim7.holds Tryd.pinned (.plain (OpenSpec.upto wheelPlaysSpec)) wheelPlaysUptoCard

/-- THE SECOND FORM's CARD OF 'barbicanlaw02.WheelNext'. -/
def wheelNextUptoCard : Claim7 := { stood := { row := wheelNextUptoRow, standIns := [], harness := (true, "40df3e8f2ba6686518fb4eaa512537cd7d2a3ac61d895bb76893719f8a081137"), looks := false }, kinds := [], alts := [], laidByText := true, laidKinds := [.data], laidTests := true, laidLooks := .later }
def WheelNextUptoCardSaid : Prop := Claim7.holds Tryd.pinned (.plain (OpenSpec.upto wheelNextSpec)) wheelNextUptoCard
end Rows
end Go.Proofs.YtnpnfgnhgjmlbaaDoor
