/-
  DERIVED. GIVEN WITH THE SEED: THE CARDS: each row of YtngicmoadobgpaaDoorRows.lean that lists a variable, with what it lists TIED to the program's text (the seventh form; the later family's looks); each row that meets fmt, with fmt's text TOLD by the authors' own Lean function (tested against real Go, not proved from fmt's source: count such statements apart). THE CARD IS WHAT COUNTS. Prove the row's statement (the work); the ties are given (YtngicmoadobgpaaDoorTie.lean); close each card by the builder's one call (the guide's Derived/Test/ToyasCard.lean, 'card_holds'). Laid BY PROGRAM, IN A SANDBOX (cutbox-door.mjs). By AI agents, Wed Nov 11 2026. No macro, syntax, notation, axiom, sorry.
-/
import Derived.Test.YtngicmoadobgpaaDoorRows
import GoSem.ClaimSeven
namespace Go.Proofs.YtngicmoadobgpaaDoor
namespace Rows

/-- THE TIED CARD OF 'barbicanlaw10.ChunkPieces'. -/
def chunkPiecesCard : Claim7 := { stood := { row := chunkPiecesRow, standIns := [], harness := (true, "d46235d9de69618c1e4aacbab866f5441e5ed20240eaa3f15966e210d189392a"), looks := false }, kinds := [], alts := [], laidByText := true, laidKinds := [.data, .pinned], laidTests := true, laidLooks := .later }
def ChunkPiecesCardSaid : Prop := Claim7.holds Tryd.pinned (.plain (OpenSpec.ofChange chunkPiecesSpec)) chunkPiecesCard

/-- THE TIED CARD OF 'barbicanlaw10.ChunkBound'. -/
def chunkBoundCard : Claim7 := { stood := { row := chunkBoundRow, standIns := [], harness := (true, "d46235d9de69618c1e4aacbab866f5441e5ed20240eaa3f15966e210d189392a"), looks := false }, kinds := [], alts := [], laidByText := true, laidKinds := [.data, .pinned], laidTests := true, laidLooks := .later }
def ChunkBoundCardSaid : Prop := Claim7.holds Tryd.pinned (.plain (OpenSpec.ofChange chunkBoundSpec)) chunkBoundCard

/-- THE TIED CARD OF 'barbicanlaw10.ChunkDressed'. -/
def chunkDressedCard : Claim7 := { stood := { row := chunkDressedRow, standIns := [], harness := (true, "d46235d9de69618c1e4aacbab866f5441e5ed20240eaa3f15966e210d189392a"), looks := false }, kinds := [], alts := [], laidByText := true, laidKinds := [.data, .pinned], laidTests := true, laidLooks := .later }
def ChunkDressedCardSaid : Prop := Claim7.holds Tryd.pinned (.plain (OpenSpec.ofChange chunkDressedSpec)) chunkDressedCard

/-- THE TIED CARD OF 'barbicanlaw10.ChunkBack'. -/
def chunkBackCard : Claim7 := { stood := { row := chunkBackRow, standIns := [], harness := (true, "d46235d9de69618c1e4aacbab866f5441e5ed20240eaa3f15966e210d189392a"), looks := false }, kinds := [], alts := [], laidByText := true, laidKinds := [.data, .data, .data, .data, .pinned], laidTests := true, laidLooks := .later }
def ChunkBackCardSaid : Prop := Claim7.holds Tryd.pinned (.plain (OpenSpec.ofChange chunkBackSpec)) chunkBackCard

/-- THE TIED CARD OF 'barbicanlaw13.EmitHeads'. -/
def emitHeadsCard : Claim7 := { stood := { row := emitHeadsRow, standIns := [], harness := (true, "d46235d9de69618c1e4aacbab866f5441e5ed20240eaa3f15966e210d189392a"), looks := false }, kinds := [], alts := [], laidByText := true, laidKinds := [.data, .data, .data, .data, .pinned], laidTests := true, laidLooks := .later }
def EmitHeadsCardSaid : Prop := Claim7.holds Tryd.pinned (.plain (OpenSpec.ofChange emitHeadsSpec)) emitHeadsCard

/-- THE TIED CARD OF 'barbicanlaw13.EmitRequests'. -/
def emitRequestsCard : Claim7 := { stood := { row := emitRequestsRow, standIns := [], harness := (true, "d46235d9de69618c1e4aacbab866f5441e5ed20240eaa3f15966e210d189392a"), looks := false }, kinds := [], alts := [], laidByText := true, laidKinds := [.data, .data, .data, .data, .pinned], laidTests := true, laidLooks := .later }
def EmitRequestsCardSaid : Prop := Claim7.holds Tryd.pinned (.plain (OpenSpec.ofChange emitRequestsSpec)) emitRequestsCard

/-- THE TIED CARD OF 'barbicanlaw13.EmitStrips'. -/
def emitStripsCard : Claim7 := { stood := { row := emitStripsRow, standIns := [], harness := (true, "d46235d9de69618c1e4aacbab866f5441e5ed20240eaa3f15966e210d189392a"), looks := false }, kinds := [], alts := [], laidByText := true, laidKinds := [.data, .data, .data, .data, .pinned], laidTests := true, laidLooks := .later }
def EmitStripsCardSaid : Prop := Claim7.holds Tryd.pinned (.plain (OpenSpec.ofChange emitStripsSpec)) emitStripsCard

/-- THE SECOND FORM's CARD OF 'barbicanlaw10.ChunkPieces'. -/
def chunkPiecesUptoCard : Claim7 := { stood := { row := chunkPiecesUptoRow, standIns := [], harness := (true, "d46235d9de69618c1e4aacbab866f5441e5ed20240eaa3f15966e210d189392a"), looks := false }, kinds := [], alts := [], laidByText := true, laidKinds := [.data, .pinned], laidTests := true, laidLooks := .later }
def ChunkPiecesUptoCardSaid : Prop := Claim7.holds Tryd.pinned (.plain (OpenSpec.upto chunkPiecesSpec)) chunkPiecesUptoCard

/-- THE SECOND FORM's CARD OF 'barbicanlaw10.ChunkBound'. -/
def chunkBoundUptoCard : Claim7 := { stood := { row := chunkBoundUptoRow, standIns := [], harness := (true, "d46235d9de69618c1e4aacbab866f5441e5ed20240eaa3f15966e210d189392a"), looks := false }, kinds := [], alts := [], laidByText := true, laidKinds := [.data, .pinned], laidTests := true, laidLooks := .later }
def ChunkBoundUptoCardSaid : Prop := Claim7.holds Tryd.pinned (.plain (OpenSpec.upto chunkBoundSpec)) chunkBoundUptoCard

/-- THE SECOND FORM's CARD OF 'barbicanlaw10.ChunkDressed'. -/
def chunkDressedUptoCard : Claim7 := { stood := { row := chunkDressedUptoRow, standIns := [], harness := (true, "d46235d9de69618c1e4aacbab866f5441e5ed20240eaa3f15966e210d189392a"), looks := false }, kinds := [], alts := [], laidByText := true, laidKinds := [.data, .pinned], laidTests := true, laidLooks := .later }
def ChunkDressedUptoCardSaid : Prop := Claim7.holds Tryd.pinned (.plain (OpenSpec.upto chunkDressedSpec)) chunkDressedUptoCard

/-- THE SECOND FORM's CARD OF 'barbicanlaw10.ChunkBack'. -/
def chunkBackUptoCard : Claim7 := { stood := { row := chunkBackUptoRow, standIns := [], harness := (true, "d46235d9de69618c1e4aacbab866f5441e5ed20240eaa3f15966e210d189392a"), looks := false }, kinds := [], alts := [], laidByText := true, laidKinds := [.data, .data, .data, .data, .pinned], laidTests := true, laidLooks := .later }
def ChunkBackUptoCardSaid : Prop := Claim7.holds Tryd.pinned (.plain (OpenSpec.upto chunkBackSpec)) chunkBackUptoCard

/-- THE SECOND FORM's CARD OF 'barbicanlaw13.EmitHeads'. -/
def emitHeadsUptoCard : Claim7 := { stood := { row := emitHeadsUptoRow, standIns := [], harness := (true, "d46235d9de69618c1e4aacbab866f5441e5ed20240eaa3f15966e210d189392a"), looks := false }, kinds := [], alts := [], laidByText := true, laidKinds := [.data, .data, .data, .data, .pinned], laidTests := true, laidLooks := .later }
def EmitHeadsUptoCardSaid : Prop := Claim7.holds Tryd.pinned (.plain (OpenSpec.upto emitHeadsSpec)) emitHeadsUptoCard

/-- THE SECOND FORM's CARD OF 'barbicanlaw13.EmitRequests'. -/
def emitRequestsUptoCard : Claim7 := { stood := { row := emitRequestsUptoRow, standIns := [], harness := (true, "d46235d9de69618c1e4aacbab866f5441e5ed20240eaa3f15966e210d189392a"), looks := false }, kinds := [], alts := [], laidByText := true, laidKinds := [.data, .data, .data, .data, .pinned], laidTests := true, laidLooks := .later }
def EmitRequestsUptoCardSaid : Prop := Claim7.holds Tryd.pinned (.plain (OpenSpec.upto emitRequestsSpec)) emitRequestsUptoCard

/-- THE SECOND FORM's CARD OF 'barbicanlaw13.EmitStrips'. -/
def emitStripsUptoCard : Claim7 := { stood := { row := emitStripsUptoRow, standIns := [], harness := (true, "d46235d9de69618c1e4aacbab866f5441e5ed20240eaa3f15966e210d189392a"), looks := false }, kinds := [], alts := [], laidByText := true, laidKinds := [.data, .data, .data, .data, .pinned], laidTests := true, laidLooks := .later }
def EmitStripsUptoCardSaid : Prop := Claim7.holds Tryd.pinned (.plain (OpenSpec.upto emitStripsSpec)) emitStripsUptoCard
end Rows
end Go.Proofs.YtngicmoadobgpaaDoor
