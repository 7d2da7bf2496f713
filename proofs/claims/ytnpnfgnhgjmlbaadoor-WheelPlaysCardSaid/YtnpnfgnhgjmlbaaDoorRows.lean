/-
  NARROWER THAN 'FOR EVERY INPUT', by the rows' own cells (each row's printed sentence says how): WheelPieces: laid · WheelAgain: laid · WheelFull: laid · WheelMemory: laid · WheelRefuses: laid · WheelPlays: laid · WheelNext: laid.
  DERIVED. THE GIVEN ROWS OF THIS SEAT. 7 by the template 'for every input the law returns true; each argument reads behind the call as it read before'; 0 by the template 'total and deterministic' (their statements: YtnpnfgnhgjmlbaaDoorTotals.lean).
  GIVEN WITH THE SEED: the statements are not yours to turn. If you find one false, say at which input.
  Laid BY PROGRAM, IN A SANDBOX (cutbox-rows.mjs): the forced cells as the released guide's own fill.sh prints them over the translation 5066c8027b8a7875… (all of the seat's roots in one cut). By AI agents, Wed Nov 11 2026. No macro, syntax, notation, axiom, sorry.
-/
import Derived.Test.YtnpnfgnhgjmlbaaDoorChecked
import GoSem.Claim
import GoSem.ClaimJoined
import GoSem.ClaimMapViews
import Derived.JoinedTies
import Derived.KernelRfl
namespace Go.Proofs.YtnpnfgnhgjmlbaaDoor
/- THE CELL 'sum', in the pinned program and in every row, IS THE sha256 OF THE DUMP (.gsa) THAT YtnpnfgnhgjmlbaaDoorProg.lean LOADS. Nothing in Lean hashes anything: it is a label: what it is worth is what the hold of that sum in a sandbox is worth. -/
noncomputable def Tryd.pinned : Pinned := { name := "ytnpnfgnhgjmlbaadoor", sum := "5066c8027b8a787502567aa6d9c581fd52fa56a0a3de8d6103a12201b7a4791d", checked := Tryd.checked }
namespace Rows
def none {H : Type} : Left H := { results := [], args := [] }

/- WHAT THE LISTED PACKAGE-LEVEL VARIABLES READ AS WHEN THE CALL BEGINS. Each datum BY PROGRAM (the guide's laid-datum.mjs) off the statement by which the dump's own 'gosem.cut.vars' lays the variable. In a bare row this is a premise. The card (YtnpnfgnhgjmlbaaDoorCards.lean) ties it to the program's text. -/
def laid_math_bits_deBruijn64tab {H : Type} : DataW H := .agg [.lit (.int .u8 0), .lit (.int .u8 1), .lit (.int .u8 56), .lit (.int .u8 2), .lit (.int .u8 57), .lit (.int .u8 49), .lit (.int .u8 28), .lit (.int .u8 3), .lit (.int .u8 61), .lit (.int .u8 58), .lit (.int .u8 42), .lit (.int .u8 50), .lit (.int .u8 38), .lit (.int .u8 29), .lit (.int .u8 17), .lit (.int .u8 4), .lit (.int .u8 62), .lit (.int .u8 47), .lit (.int .u8 59), .lit (.int .u8 36), .lit (.int .u8 45), .lit (.int .u8 43), .lit (.int .u8 51), .lit (.int .u8 22), .lit (.int .u8 53), .lit (.int .u8 39), .lit (.int .u8 33), .lit (.int .u8 30), .lit (.int .u8 24), .lit (.int .u8 18), .lit (.int .u8 12), .lit (.int .u8 5), .lit (.int .u8 63), .lit (.int .u8 55), .lit (.int .u8 48), .lit (.int .u8 27), .lit (.int .u8 60), .lit (.int .u8 41), .lit (.int .u8 37), .lit (.int .u8 16), .lit (.int .u8 46), .lit (.int .u8 35), .lit (.int .u8 44), .lit (.int .u8 21), .lit (.int .u8 52), .lit (.int .u8 32), .lit (.int .u8 23), .lit (.int .u8 11), .lit (.int .u8 54), .lit (.int .u8 26), .lit (.int .u8 40), .lit (.int .u8 15), .lit (.int .u8 34), .lit (.int .u8 20), .lit (.int .u8 31), .lit (.int .u8 10), .lit (.int .u8 25), .lit (.int .u8 14), .lit (.int .u8 19), .lit (.int .u8 9), .lit (.int .u8 13), .lit (.int .u8 8), .lit (.int .u8 7), .lit (.int .u8 6)]

/-- 'barbicanlaw02.WheelPieces': WHATEVER THE INPUT: true; the input reads as it did. -/
def wheelPiecesSpec : ChangeSpec := { name := "wheelPieces", fn := fun _ => fun
  | [d1, d2] => { results := [.lit (.bool true)], args := [d1, d2] }
  | _ => none }
def wheelPiecesRow : OpenClaim := { program := "ytnpnfgnhgjmlbaadoor", sum := "5066c8027b8a787502567aa6d9c581fd52fa56a0a3de8d6103a12201b7a4791d", func := "barbican/barbicanlaw02.WheelPieces", spec := "wheelPieces", unfollowed := true, recurses := true, named := ["math/bits.deBruijn64tab"], apart := false, laid := [("math/bits.deBruijn64tab", laid_math_bits_deBruijn64tab)] }
def WheelPiecesSaid : Prop := wheelPiecesRow.holds Tryd.pinned (OpenSpec.ofChange wheelPiecesSpec)

/-- ITS FALSE NEIGHBOUR: 'it returns false'. Refute it at one input. -/
def wheelPiecesWrong : ChangeSpec := { name := "wheelPieces", fn := fun _ => fun
  | [d1, d2] => { results := [.lit (.bool false)], args := [d1, d2] }
  | _ => none }
def WheelPiecesWrongFalsely : Prop := wheelPiecesRow.holds Tryd.pinned (OpenSpec.ofChange wheelPiecesWrong)

/-- 'barbicanlaw02.WheelAgain': WHATEVER THE INPUT: true; the input reads as it did. -/
def wheelAgainSpec : ChangeSpec := { name := "wheelAgain", fn := fun _ => fun
  | [d1, d2, d3, d4] => { results := [.lit (.bool true)], args := [d1, d2, d3, d4] }
  | _ => none }
def wheelAgainRow : OpenClaim := { program := "ytnpnfgnhgjmlbaadoor", sum := "5066c8027b8a787502567aa6d9c581fd52fa56a0a3de8d6103a12201b7a4791d", func := "barbican/barbicanlaw02.WheelAgain", spec := "wheelAgain", unfollowed := true, recurses := true, named := ["math/bits.deBruijn64tab"], apart := false, laid := [("math/bits.deBruijn64tab", laid_math_bits_deBruijn64tab)] }
def WheelAgainSaid : Prop := wheelAgainRow.holds Tryd.pinned (OpenSpec.ofChange wheelAgainSpec)

/-- ITS FALSE NEIGHBOUR: 'it returns false'. Refute it at one input. -/
def wheelAgainWrong : ChangeSpec := { name := "wheelAgain", fn := fun _ => fun
  | [d1, d2, d3, d4] => { results := [.lit (.bool false)], args := [d1, d2, d3, d4] }
  | _ => none }
def WheelAgainWrongFalsely : Prop := wheelAgainRow.holds Tryd.pinned (OpenSpec.ofChange wheelAgainWrong)

/-- 'barbicanlaw02.WheelFull': WHATEVER THE INPUT: true; the input reads as it did. -/
def wheelFullSpec : ChangeSpec := { name := "wheelFull", fn := fun _ => fun
  | [d] => { results := [.lit (.bool true)], args := [d] }
  | _ => none }
def wheelFullRow : OpenClaim := { program := "ytnpnfgnhgjmlbaadoor", sum := "5066c8027b8a787502567aa6d9c581fd52fa56a0a3de8d6103a12201b7a4791d", func := "barbican/barbicanlaw02.WheelFull", spec := "wheelFull", unfollowed := true, recurses := true, named := ["math/bits.deBruijn64tab"], apart := false, laid := [("math/bits.deBruijn64tab", laid_math_bits_deBruijn64tab)] }
def WheelFullSaid : Prop := wheelFullRow.holds Tryd.pinned (OpenSpec.ofChange wheelFullSpec)

/-- ITS FALSE NEIGHBOUR: 'it returns false'. Refute it at one input. -/
def wheelFullWrong : ChangeSpec := { name := "wheelFull", fn := fun _ => fun
  | [d] => { results := [.lit (.bool false)], args := [d] }
  | _ => none }
def WheelFullWrongFalsely : Prop := wheelFullRow.holds Tryd.pinned (OpenSpec.ofChange wheelFullWrong)

/-- 'barbicanlaw02.WheelMemory': WHATEVER THE INPUT: true; the input reads as it did. -/
def wheelMemorySpec : ChangeSpec := { name := "wheelMemory", fn := fun _ => fun
  | [d] => { results := [.lit (.bool true)], args := [d] }
  | _ => none }
def wheelMemoryRow : OpenClaim := { program := "ytnpnfgnhgjmlbaadoor", sum := "5066c8027b8a787502567aa6d9c581fd52fa56a0a3de8d6103a12201b7a4791d", func := "barbican/barbicanlaw02.WheelMemory", spec := "wheelMemory", unfollowed := true, recurses := true, named := ["math/bits.deBruijn64tab"], apart := false, laid := [("math/bits.deBruijn64tab", laid_math_bits_deBruijn64tab)] }
def WheelMemorySaid : Prop := wheelMemoryRow.holds Tryd.pinned (OpenSpec.ofChange wheelMemorySpec)

/-- ITS FALSE NEIGHBOUR: 'it returns false'. Refute it at one input. -/
def wheelMemoryWrong : ChangeSpec := { name := "wheelMemory", fn := fun _ => fun
  | [d] => { results := [.lit (.bool false)], args := [d] }
  | _ => none }
def WheelMemoryWrongFalsely : Prop := wheelMemoryRow.holds Tryd.pinned (OpenSpec.ofChange wheelMemoryWrong)

/-- 'barbicanlaw02.WheelRefuses': WHATEVER THE INPUT: true; the input reads as it did. -/
def wheelRefusesSpec : ChangeSpec := { name := "wheelRefuses", fn := fun _ => fun
  | [d1, d2, d3] => { results := [.lit (.bool true)], args := [d1, d2, d3] }
  | _ => none }
def wheelRefusesRow : OpenClaim := { program := "ytnpnfgnhgjmlbaadoor", sum := "5066c8027b8a787502567aa6d9c581fd52fa56a0a3de8d6103a12201b7a4791d", func := "barbican/barbicanlaw02.WheelRefuses", spec := "wheelRefuses", unfollowed := true, recurses := true, named := ["math/bits.deBruijn64tab"], apart := false, laid := [("math/bits.deBruijn64tab", laid_math_bits_deBruijn64tab)] }
def WheelRefusesSaid : Prop := wheelRefusesRow.holds Tryd.pinned (OpenSpec.ofChange wheelRefusesSpec)

/-- ITS FALSE NEIGHBOUR: 'it returns false'. Refute it at one input. -/
def wheelRefusesWrong : ChangeSpec := { name := "wheelRefuses", fn := fun _ => fun
  | [d1, d2, d3] => { results := [.lit (.bool false)], args := [d1, d2, d3] }
  | _ => none }
def WheelRefusesWrongFalsely : Prop := wheelRefusesRow.holds Tryd.pinned (OpenSpec.ofChange wheelRefusesWrong)

/-- 'barbicanlaw02.WheelPlays': WHATEVER THE INPUT: true; the input reads as it did. -/
def wheelPlaysSpec : ChangeSpec := { name := "wheelPlays", fn := fun _ => fun
  | [d] => { results := [.lit (.bool true)], args := [d] }
  | _ => none }
def wheelPlaysRow : OpenClaim := { program := "ytnpnfgnhgjmlbaadoor", sum := "5066c8027b8a787502567aa6d9c581fd52fa56a0a3de8d6103a12201b7a4791d", func := "barbican/barbicanlaw02.WheelPlays", spec := "wheelPlays", unfollowed := true, recurses := true, named := ["math/bits.deBruijn64tab"], apart := false, laid := [("math/bits.deBruijn64tab", laid_math_bits_deBruijn64tab)] }
def WheelPlaysSaid : Prop := wheelPlaysRow.holds Tryd.pinned (OpenSpec.ofChange wheelPlaysSpec)

/-- ITS FALSE NEIGHBOUR: 'it returns false'. Refute it at one input. -/
def wheelPlaysWrong : ChangeSpec := { name := "wheelPlays", fn := fun _ => fun
  | [d] => { results := [.lit (.bool false)], args := [d] }
  | _ => none }
def WheelPlaysWrongFalsely : Prop := wheelPlaysRow.holds Tryd.pinned (OpenSpec.ofChange wheelPlaysWrong)

/-- 'barbicanlaw02.WheelNext': WHATEVER THE INPUT: true; the input reads as it did. -/
def wheelNextSpec : ChangeSpec := { name := "wheelNext", fn := fun _ => fun
  | [d] => { results := [.lit (.bool true)], args := [d] }
  | _ => none }
def wheelNextRow : OpenClaim := { program := "ytnpnfgnhgjmlbaadoor", sum := "5066c8027b8a787502567aa6d9c581fd52fa56a0a3de8d6103a12201b7a4791d", func := "barbican/barbicanlaw02.WheelNext", spec := "wheelNext", unfollowed := true, recurses := true, named := ["math/bits.deBruijn64tab"], apart := false, laid := [("math/bits.deBruijn64tab", laid_math_bits_deBruijn64tab)] }
def WheelNextSaid : Prop := wheelNextRow.holds Tryd.pinned (OpenSpec.ofChange wheelNextSpec)

/-- ITS FALSE NEIGHBOUR: 'it returns false'. Refute it at one input. -/
def wheelNextWrong : ChangeSpec := { name := "wheelNext", fn := fun _ => fun
  | [d] => { results := [.lit (.bool false)], args := [d] }
  | _ => none }
def WheelNextWrongFalsely : Prop := wheelNextRow.holds Tryd.pinned (OpenSpec.ofChange wheelNextWrong)

/- THE SECOND FORM. 'bulk': how many values and letters a reading holds, each counted each time it is reached (what is shared counts as often as it is met; a slice's spare places count too). A statement '..UptoSaid' is the law's where the arguments, and the package variables that the reading takes, are together of bulk at most 1048576: NARROWER than '..Said'. Prove '..Said' where nothing that the law and all that it calls make is longer than what came in: it says more and counts as full. Else prove '..UptoSaid'. A law counts once. -/
mutual
def uptoBulk {H : Type} : DataW H → Nat
  | .lit (.string bytes) => bytes.length + 1
  | .lit _ => 1
  | .nil => 1
  | .ptr d => uptoBulk d + 1
  | .slice elems spare => uptoBulkAll elems + uptoBulkAll spare + 1
  | .agg parts => uptoBulkAll parts + 1
  | .iface _ d => uptoBulk d + 1
  | .map entries => uptoBulkEntries entries + 1
  | .held _ => 1
def uptoBulkAll {H : Type} : List (DataW H) → Nat
  | [] => 0
  | d :: r => uptoBulk d + uptoBulkAll r
def uptoBulkEntries {H : Type} : List (Lit × DataW H) → Nat
  | [] => 0
  | x :: r => uptoBulkEntry x + uptoBulkEntries r
def uptoBulkEntry {H : Type} : Lit × DataW H → Nat
  | (.string bytes, d) => bytes.length + uptoBulk d + 1
  | (_, d) => uptoBulk d + 1
 end
def uptoSmall : (H : Type) → List (DataW H) → Bool := fun _ ds => decide (uptoBulkAll ds ≤ 1048576)
def OpenSpec.upto (s : _root_.Go.ChangeSpec) : _root_.Go.OpenSpec := { _root_.Go.OpenSpec.ofChange s with cond := some uptoSmall }

/-- 'barbicanlaw02.WheelPieces', WHERE WHAT IT READS IS OF BULK AT MOST 1048576: true; the input reads as it did. -/
def wheelPiecesUptoRow : OpenClaim := { program := "ytnpnfgnhgjmlbaadoor", sum := "5066c8027b8a787502567aa6d9c581fd52fa56a0a3de8d6103a12201b7a4791d", func := "barbican/barbicanlaw02.WheelPieces", spec := "wheelPieces", unfollowed := true, recurses := true, named := ["math/bits.deBruijn64tab"], apart := false, laid := [("math/bits.deBruijn64tab", laid_math_bits_deBruijn64tab)], narrowed := true }
def WheelPiecesUptoSaid : Prop := wheelPiecesUptoRow.holds Tryd.pinned (OpenSpec.upto wheelPiecesSpec)

/-- 'barbicanlaw02.WheelAgain', WHERE WHAT IT READS IS OF BULK AT MOST 1048576: true; the input reads as it did. -/
def wheelAgainUptoRow : OpenClaim := { program := "ytnpnfgnhgjmlbaadoor", sum := "5066c8027b8a787502567aa6d9c581fd52fa56a0a3de8d6103a12201b7a4791d", func := "barbican/barbicanlaw02.WheelAgain", spec := "wheelAgain", unfollowed := true, recurses := true, named := ["math/bits.deBruijn64tab"], apart := false, laid := [("math/bits.deBruijn64tab", laid_math_bits_deBruijn64tab)], narrowed := true }
def WheelAgainUptoSaid : Prop := wheelAgainUptoRow.holds Tryd.pinned (OpenSpec.upto wheelAgainSpec)

/-- 'barbicanlaw02.WheelFull', WHERE WHAT IT READS IS OF BULK AT MOST 1048576: true; the input reads as it did. -/
def wheelFullUptoRow : OpenClaim := { program := "ytnpnfgnhgjmlbaadoor", sum := "5066c8027b8a787502567aa6d9c581fd52fa56a0a3de8d6103a12201b7a4791d", func := "barbican/barbicanlaw02.WheelFull", spec := "wheelFull", unfollowed := true, recurses := true, named := ["math/bits.deBruijn64tab"], apart := false, laid := [("math/bits.deBruijn64tab", laid_math_bits_deBruijn64tab)], narrowed := true }
def WheelFullUptoSaid : Prop := wheelFullUptoRow.holds Tryd.pinned (OpenSpec.upto wheelFullSpec)

/-- 'barbicanlaw02.WheelMemory', WHERE WHAT IT READS IS OF BULK AT MOST 1048576: true; the input reads as it did. -/
def wheelMemoryUptoRow : OpenClaim := { program := "ytnpnfgnhgjmlbaadoor", sum := "5066c8027b8a787502567aa6d9c581fd52fa56a0a3de8d6103a12201b7a4791d", func := "barbican/barbicanlaw02.WheelMemory", spec := "wheelMemory", unfollowed := true, recurses := true, named := ["math/bits.deBruijn64tab"], apart := false, laid := [("math/bits.deBruijn64tab", laid_math_bits_deBruijn64tab)], narrowed := true }
def WheelMemoryUptoSaid : Prop := wheelMemoryUptoRow.holds Tryd.pinned (OpenSpec.upto wheelMemorySpec)

/-- 'barbicanlaw02.WheelRefuses', WHERE WHAT IT READS IS OF BULK AT MOST 1048576: true; the input reads as it did. -/
def wheelRefusesUptoRow : OpenClaim := { program := "ytnpnfgnhgjmlbaadoor", sum := "5066c8027b8a787502567aa6d9c581fd52fa56a0a3de8d6103a12201b7a4791d", func := "barbican/barbicanlaw02.WheelRefuses", spec := "wheelRefuses", unfollowed := true, recurses := true, named := ["math/bits.deBruijn64tab"], apart := false, laid := [("math/bits.deBruijn64tab", laid_math_bits_deBruijn64tab)], narrowed := true }
def WheelRefusesUptoSaid : Prop := wheelRefusesUptoRow.holds Tryd.pinned (OpenSpec.upto wheelRefusesSpec)

/-- 'barbicanlaw02.WheelPlays', WHERE WHAT IT READS IS OF BULK AT MOST 1048576: true; the input reads as it did. -/
def wheelPlaysUptoRow : OpenClaim := { program := "ytnpnfgnhgjmlbaadoor", sum := "5066c8027b8a787502567aa6d9c581fd52fa56a0a3de8d6103a12201b7a4791d", func := "barbican/barbicanlaw02.WheelPlays", spec := "wheelPlays", unfollowed := true, recurses := true, named := ["math/bits.deBruijn64tab"], apart := false, laid := [("math/bits.deBruijn64tab", laid_math_bits_deBruijn64tab)], narrowed := true }
def WheelPlaysUptoSaid : Prop := wheelPlaysUptoRow.holds Tryd.pinned (OpenSpec.upto wheelPlaysSpec)

/-- 'barbicanlaw02.WheelNext', WHERE WHAT IT READS IS OF BULK AT MOST 1048576: true; the input reads as it did. -/
def wheelNextUptoRow : OpenClaim := { program := "ytnpnfgnhgjmlbaadoor", sum := "5066c8027b8a787502567aa6d9c581fd52fa56a0a3de8d6103a12201b7a4791d", func := "barbican/barbicanlaw02.WheelNext", spec := "wheelNext", unfollowed := true, recurses := true, named := ["math/bits.deBruijn64tab"], apart := false, laid := [("math/bits.deBruijn64tab", laid_math_bits_deBruijn64tab)], narrowed := true }
def WheelNextUptoSaid : Prop := wheelNextUptoRow.holds Tryd.pinned (OpenSpec.upto wheelNextSpec)

end Rows
end Go.Proofs.YtnpnfgnhgjmlbaaDoor
