/-
  No cell of these rows narrows 'for every input' (looked for: loops, veiled, ifaces, maps, wideKeys, modest, calm, conditions, laid).
  DERIVED. THE GIVEN ROWS OF THIS SEAT. 13 by the template 'for every input the law returns true; each argument reads behind the call as it read before'; 0 by the template 'total and deterministic' (their statements: YtbpkoehgjhofaaaTotals.lean).
  GIVEN WITH THE SEED: the statements are not yours to turn. If you find one false, say at which input.
  Laid BY PROGRAM, IN A SANDBOX (cutbox-rows.mjs): the forced cells as the released guide's own fill.sh prints them over the translation 87986ea68c824dcd… (all of the seat's roots in one cut). By AI agents, Wed Nov 11 2026. No macro, syntax, notation, axiom, sorry.
-/
import Derived.Test.YtbpkoehgjhofaaaChecked
import GoSem.Claim
import GoSem.ClaimJoined
import GoSem.ClaimMapViews
import Derived.JoinedTies
import Derived.KernelRfl
namespace Go.Proofs.Ytbpkoehgjhofaaa
/- THE CELL 'sum', in the pinned program and in every row, IS THE sha256 OF THE DUMP (.gsa) THAT YtbpkoehgjhofaaaProg.lean LOADS. Nothing in Lean hashes anything: it is a label: what it is worth is what the hold of that sum in a sandbox is worth. -/
noncomputable def Try.pinned : Pinned := { name := "ytbpkoehgjhofaaa", sum := "87986ea68c824dcd63cb055e73e7c21a5ba4d250233b72798302aabe74e19233", checked := Try.checked }
namespace Rows
def none {H : Type} : Left H := { results := [], args := [] }

/-- 'barbicanlaw01.DiceMixes': WHATEVER THE INPUT: true; the input reads as it did. -/
def diceMixesSpec : ChangeSpec := { name := "diceMixes", fn := fun _ => fun
  | [d] => { results := [.lit (.bool true)], args := [d] }
  | _ => none }
def diceMixesRow : OpenClaim := { program := "ytbpkoehgjhofaaa", sum := "87986ea68c824dcd63cb055e73e7c21a5ba4d250233b72798302aabe74e19233", func := "barbican/barbicanlaw01.DiceMixes", spec := "diceMixes", apart := false }
def DiceMixesSaid : Prop := diceMixesRow.holds Try.pinned (OpenSpec.ofChange diceMixesSpec)

/-- ITS FALSE NEIGHBOUR: 'it returns false'. Refute it at one input. -/
def diceMixesWrong : ChangeSpec := { name := "diceMixes", fn := fun _ => fun
  | [d] => { results := [.lit (.bool false)], args := [d] }
  | _ => none }
def DiceMixesWrongFalsely : Prop := diceMixesRow.holds Try.pinned (OpenSpec.ofChange diceMixesWrong)

/-- 'barbicanlaw01.DiceHashes': WHATEVER THE INPUT: true; the input reads as it did. -/
def diceHashesSpec : ChangeSpec := { name := "diceHashes", fn := fun _ => fun
  | [d1, d2] => { results := [.lit (.bool true)], args := [d1, d2] }
  | _ => none }
def diceHashesRow : OpenClaim := { program := "ytbpkoehgjhofaaa", sum := "87986ea68c824dcd63cb055e73e7c21a5ba4d250233b72798302aabe74e19233", func := "barbican/barbicanlaw01.DiceHashes", spec := "diceHashes", apart := false }
def DiceHashesSaid : Prop := diceHashesRow.holds Try.pinned (OpenSpec.ofChange diceHashesSpec)

/-- ITS FALSE NEIGHBOUR: 'it returns false'. Refute it at one input. -/
def diceHashesWrong : ChangeSpec := { name := "diceHashes", fn := fun _ => fun
  | [d1, d2] => { results := [.lit (.bool false)], args := [d1, d2] }
  | _ => none }
def DiceHashesWrongFalsely : Prop := diceHashesRow.holds Try.pinned (OpenSpec.ofChange diceHashesWrong)

/-- 'barbicanlaw01.DiceChains': WHATEVER THE INPUT: true; the input reads as it did. -/
def diceChainsSpec : ChangeSpec := { name := "diceChains", fn := fun _ => fun
  | [d1, d2] => { results := [.lit (.bool true)], args := [d1, d2] }
  | _ => none }
def diceChainsRow : OpenClaim := { program := "ytbpkoehgjhofaaa", sum := "87986ea68c824dcd63cb055e73e7c21a5ba4d250233b72798302aabe74e19233", func := "barbican/barbicanlaw01.DiceChains", spec := "diceChains", apart := false }
def DiceChainsSaid : Prop := diceChainsRow.holds Try.pinned (OpenSpec.ofChange diceChainsSpec)

/-- ITS FALSE NEIGHBOUR: 'it returns false'. Refute it at one input. -/
def diceChainsWrong : ChangeSpec := { name := "diceChains", fn := fun _ => fun
  | [d1, d2] => { results := [.lit (.bool false)], args := [d1, d2] }
  | _ => none }
def DiceChainsWrongFalsely : Prop := diceChainsRow.holds Try.pinned (OpenSpec.ofChange diceChainsWrong)

/-- 'barbicanlaw01.DiceSeeds': WHATEVER THE INPUT: true; the input reads as it did. -/
def diceSeedsSpec : ChangeSpec := { name := "diceSeeds", fn := fun _ => fun
  | [d1, d2] => { results := [.lit (.bool true)], args := [d1, d2] }
  | _ => none }
def diceSeedsRow : OpenClaim := { program := "ytbpkoehgjhofaaa", sum := "87986ea68c824dcd63cb055e73e7c21a5ba4d250233b72798302aabe74e19233", func := "barbican/barbicanlaw01.DiceSeeds", spec := "diceSeeds", apart := false }
def DiceSeedsSaid : Prop := diceSeedsRow.holds Try.pinned (OpenSpec.ofChange diceSeedsSpec)

/-- ITS FALSE NEIGHBOUR: 'it returns false'. Refute it at one input. -/
def diceSeedsWrong : ChangeSpec := { name := "diceSeeds", fn := fun _ => fun
  | [d1, d2] => { results := [.lit (.bool false)], args := [d1, d2] }
  | _ => none }
def DiceSeedsWrongFalsely : Prop := diceSeedsRow.holds Try.pinned (OpenSpec.ofChange diceSeedsWrong)

/-- 'barbicanlaw01.DicePlays': WHATEVER THE INPUT: true; the input reads as it did. -/
def dicePlaysSpec : ChangeSpec := { name := "dicePlays", fn := fun _ => fun
  | [d1, d2] => { results := [.lit (.bool true)], args := [d1, d2] }
  | _ => none }
def dicePlaysRow : OpenClaim := { program := "ytbpkoehgjhofaaa", sum := "87986ea68c824dcd63cb055e73e7c21a5ba4d250233b72798302aabe74e19233", func := "barbican/barbicanlaw01.DicePlays", spec := "dicePlays", apart := false }
def DicePlaysSaid : Prop := dicePlaysRow.holds Try.pinned (OpenSpec.ofChange dicePlaysSpec)

/-- ITS FALSE NEIGHBOUR: 'it returns false'. Refute it at one input. -/
def dicePlaysWrong : ChangeSpec := { name := "dicePlays", fn := fun _ => fun
  | [d1, d2] => { results := [.lit (.bool false)], args := [d1, d2] }
  | _ => none }
def DicePlaysWrongFalsely : Prop := dicePlaysRow.holds Try.pinned (OpenSpec.ofChange dicePlaysWrong)

/-- 'barbicanlaw01.DiceBelow': WHATEVER THE INPUT: true; the input reads as it did. -/
def diceBelowSpec : ChangeSpec := { name := "diceBelow", fn := fun _ => fun
  | [d1, d2, d3] => { results := [.lit (.bool true)], args := [d1, d2, d3] }
  | _ => none }
def diceBelowRow : OpenClaim := { program := "ytbpkoehgjhofaaa", sum := "87986ea68c824dcd63cb055e73e7c21a5ba4d250233b72798302aabe74e19233", func := "barbican/barbicanlaw01.DiceBelow", spec := "diceBelow", apart := false }
def DiceBelowSaid : Prop := diceBelowRow.holds Try.pinned (OpenSpec.ofChange diceBelowSpec)

/-- ITS FALSE NEIGHBOUR: 'it returns false'. Refute it at one input. -/
def diceBelowWrong : ChangeSpec := { name := "diceBelow", fn := fun _ => fun
  | [d1, d2, d3] => { results := [.lit (.bool false)], args := [d1, d2, d3] }
  | _ => none }
def DiceBelowWrongFalsely : Prop := diceBelowRow.holds Try.pinned (OpenSpec.ofChange diceBelowWrong)

/-- 'barbicanlaw18.HealthPlays': WHATEVER THE INPUT: true; the input reads as it did. -/
def healthPlaysSpec : ChangeSpec := { name := "healthPlays", fn := fun _ => fun
  | [d1, d2, d3, d4, d5] => { results := [.lit (.bool true)], args := [d1, d2, d3, d4, d5] }
  | _ => none }
def healthPlaysRow : OpenClaim := { program := "ytbpkoehgjhofaaa", sum := "87986ea68c824dcd63cb055e73e7c21a5ba4d250233b72798302aabe74e19233", func := "barbican/barbicanlaw18.HealthPlays", spec := "healthPlays", apart := false }
def HealthPlaysSaid : Prop := healthPlaysRow.holds Try.pinned (OpenSpec.ofChange healthPlaysSpec)

/-- ITS FALSE NEIGHBOUR: 'it returns false'. Refute it at one input. -/
def healthPlaysWrong : ChangeSpec := { name := "healthPlays", fn := fun _ => fun
  | [d1, d2, d3, d4, d5] => { results := [.lit (.bool false)], args := [d1, d2, d3, d4, d5] }
  | _ => none }
def HealthPlaysWrongFalsely : Prop := healthPlaysRow.holds Try.pinned (OpenSpec.ofChange healthPlaysWrong)

/-- 'barbicanlaw18.HealthBack': WHATEVER THE INPUT: true; the input reads as it did. -/
def healthBackSpec : ChangeSpec := { name := "healthBack", fn := fun _ => fun
  | [d1, d2, d3, d4] => { results := [.lit (.bool true)], args := [d1, d2, d3, d4] }
  | _ => none }
def healthBackRow : OpenClaim := { program := "ytbpkoehgjhofaaa", sum := "87986ea68c824dcd63cb055e73e7c21a5ba4d250233b72798302aabe74e19233", func := "barbican/barbicanlaw18.HealthBack", spec := "healthBack", apart := false }
def HealthBackSaid : Prop := healthBackRow.holds Try.pinned (OpenSpec.ofChange healthBackSpec)

/-- ITS FALSE NEIGHBOUR: 'it returns false'. Refute it at one input. -/
def healthBackWrong : ChangeSpec := { name := "healthBack", fn := fun _ => fun
  | [d1, d2, d3, d4] => { results := [.lit (.bool false)], args := [d1, d2, d3, d4] }
  | _ => none }
def HealthBackWrongFalsely : Prop := healthBackRow.holds Try.pinned (OpenSpec.ofChange healthBackWrong)

/-- 'barbicanlaw18.HealthPanics': WHATEVER THE INPUT: true; the input reads as it did. -/
def healthPanicsSpec : ChangeSpec := { name := "healthPanics", fn := fun _ => fun
  | [d1, d2, d3] => { results := [.lit (.bool true)], args := [d1, d2, d3] }
  | _ => none }
def healthPanicsRow : OpenClaim := { program := "ytbpkoehgjhofaaa", sum := "87986ea68c824dcd63cb055e73e7c21a5ba4d250233b72798302aabe74e19233", func := "barbican/barbicanlaw18.HealthPanics", spec := "healthPanics", apart := false }
def HealthPanicsSaid : Prop := healthPanicsRow.holds Try.pinned (OpenSpec.ofChange healthPanicsSpec)

/-- ITS FALSE NEIGHBOUR: 'it returns false'. Refute it at one input. -/
def healthPanicsWrong : ChangeSpec := { name := "healthPanics", fn := fun _ => fun
  | [d1, d2, d3] => { results := [.lit (.bool false)], args := [d1, d2, d3] }
  | _ => none }
def HealthPanicsWrongFalsely : Prop := healthPanicsRow.holds Try.pinned (OpenSpec.ofChange healthPanicsWrong)

/-- 'barbicanlaw18.HealthApart': WHATEVER THE INPUT: true; the input reads as it did. -/
def healthApartSpec : ChangeSpec := { name := "healthApart", fn := fun _ => fun
  | [d1, d2, d3, d4] => { results := [.lit (.bool true)], args := [d1, d2, d3, d4] }
  | _ => none }
def healthApartRow : OpenClaim := { program := "ytbpkoehgjhofaaa", sum := "87986ea68c824dcd63cb055e73e7c21a5ba4d250233b72798302aabe74e19233", func := "barbican/barbicanlaw18.HealthApart", spec := "healthApart", apart := false }
def HealthApartSaid : Prop := healthApartRow.holds Try.pinned (OpenSpec.ofChange healthApartSpec)

/-- ITS FALSE NEIGHBOUR: 'it returns false'. Refute it at one input. -/
def healthApartWrong : ChangeSpec := { name := "healthApart", fn := fun _ => fun
  | [d1, d2, d3, d4] => { results := [.lit (.bool false)], args := [d1, d2, d3, d4] }
  | _ => none }
def HealthApartWrongFalsely : Prop := healthApartRow.holds Try.pinned (OpenSpec.ofChange healthApartWrong)

/-- 'barbicanlaw20.RetryPlays': WHATEVER THE INPUT: true; the input reads as it did. -/
def retryPlaysSpec : ChangeSpec := { name := "retryPlays", fn := fun _ => fun
  | [d1, d2, d3] => { results := [.lit (.bool true)], args := [d1, d2, d3] }
  | _ => none }
def retryPlaysRow : OpenClaim := { program := "ytbpkoehgjhofaaa", sum := "87986ea68c824dcd63cb055e73e7c21a5ba4d250233b72798302aabe74e19233", func := "barbican/barbicanlaw20.RetryPlays", spec := "retryPlays", apart := false }
def RetryPlaysSaid : Prop := retryPlaysRow.holds Try.pinned (OpenSpec.ofChange retryPlaysSpec)

/-- ITS FALSE NEIGHBOUR: 'it returns false'. Refute it at one input. -/
def retryPlaysWrong : ChangeSpec := { name := "retryPlays", fn := fun _ => fun
  | [d1, d2, d3] => { results := [.lit (.bool false)], args := [d1, d2, d3] }
  | _ => none }
def RetryPlaysWrongFalsely : Prop := retryPlaysRow.holds Try.pinned (OpenSpec.ofChange retryPlaysWrong)

/-- 'barbicanlaw20.RetryBudget': WHATEVER THE INPUT: true; the input reads as it did. -/
def retryBudgetSpec : ChangeSpec := { name := "retryBudget", fn := fun _ => fun
  | [d1, d2, d3] => { results := [.lit (.bool true)], args := [d1, d2, d3] }
  | _ => none }
def retryBudgetRow : OpenClaim := { program := "ytbpkoehgjhofaaa", sum := "87986ea68c824dcd63cb055e73e7c21a5ba4d250233b72798302aabe74e19233", func := "barbican/barbicanlaw20.RetryBudget", spec := "retryBudget", apart := false }
def RetryBudgetSaid : Prop := retryBudgetRow.holds Try.pinned (OpenSpec.ofChange retryBudgetSpec)

/-- ITS FALSE NEIGHBOUR: 'it returns false'. Refute it at one input. -/
def retryBudgetWrong : ChangeSpec := { name := "retryBudget", fn := fun _ => fun
  | [d1, d2, d3] => { results := [.lit (.bool false)], args := [d1, d2, d3] }
  | _ => none }
def RetryBudgetWrongFalsely : Prop := retryBudgetRow.holds Try.pinned (OpenSpec.ofChange retryBudgetWrong)

/-- 'barbicanlaw20.RetryOnce': WHATEVER THE INPUT: true; the input reads as it did. -/
def retryOnceSpec : ChangeSpec := { name := "retryOnce", fn := fun _ => fun
  | [d1, d2, d3] => { results := [.lit (.bool true)], args := [d1, d2, d3] }
  | _ => none }
def retryOnceRow : OpenClaim := { program := "ytbpkoehgjhofaaa", sum := "87986ea68c824dcd63cb055e73e7c21a5ba4d250233b72798302aabe74e19233", func := "barbican/barbicanlaw20.RetryOnce", spec := "retryOnce", apart := false }
def RetryOnceSaid : Prop := retryOnceRow.holds Try.pinned (OpenSpec.ofChange retryOnceSpec)

/-- ITS FALSE NEIGHBOUR: 'it returns false'. Refute it at one input. -/
def retryOnceWrong : ChangeSpec := { name := "retryOnce", fn := fun _ => fun
  | [d1, d2, d3] => { results := [.lit (.bool false)], args := [d1, d2, d3] }
  | _ => none }
def RetryOnceWrongFalsely : Prop := retryOnceRow.holds Try.pinned (OpenSpec.ofChange retryOnceWrong)

/- THE SECOND FORM. 'bulk': how many values and letters a reading holds, each counted each time it is reached (what is shared counts as often as it is met; a slice's spare places count too). A statement '..UptoSaid' is the law's where the arguments, and the package variables that the reading takes, are together of bulk at most 1048576: NARROWER than '..Said'. Prove '..Said' where nothing that the law and all that it calls make is longer than what came in: it says more and counts as full. Else prove '..UptoSaid'. A law counts once. -/
mutual
def uptoBulk {H : Type} : DataW H → Nat
  | .lit (.string bytes) => bytes.length + 1
  | .lit _ => 1
  | .nil => 1
  | .ptr d => uptoBulk d + 1
  | .slice elems spare => uptoBulkAll elems + uptoBulkAll spare + 1
  | .agg parts => uptoBulkAll parts + 1
  | .iface _ d => uptoBulk d + 1
  | .map entries => uptoBulkEntries entries + 1
  | .held _ => 1
def uptoBulkAll {H : Type} : List (DataW H) → Nat
  | [] => 0
  | d :: r => uptoBulk d + uptoBulkAll r
def uptoBulkEntries {H : Type} : List (Lit × DataW H) → Nat
  | [] => 0
  | x :: r => uptoBulkEntry x + uptoBulkEntries r
def uptoBulkEntry {H : Type} : Lit × DataW H → Nat
  | (.string bytes, d) => bytes.length + uptoBulk d + 1
  | (_, d) => uptoBulk d + 1
 end
def uptoSmall : (H : Type) → List (DataW H) → Bool := fun _ ds => decide (uptoBulkAll ds ≤ 1048576)
def OpenSpec.upto (s : _root_.Go.ChangeSpec) : _root_.Go.OpenSpec := { _root_.Go.OpenSpec.ofChange s with cond := some uptoSmall }

/-- 'barbicanlaw01.DiceMixes', WHERE WHAT IT READS IS OF BULK AT MOST 1048576: true; the input reads as it did. -/
def diceMixesUptoRow : OpenClaim := { program := "ytbpkoehgjhofaaa", sum := "87986ea68c824dcd63cb055e73e7c21a5ba4d250233b72798302aabe74e19233", func := "barbican/barbicanlaw01.DiceMixes", spec := "diceMixes", apart := false, narrowed := true }
def DiceMixesUptoSaid : Prop := diceMixesUptoRow.holds Try.pinned (OpenSpec.upto diceMixesSpec)

/-- 'barbicanlaw01.DiceHashes', WHERE WHAT IT READS IS OF BULK AT MOST 1048576: true; the input reads as it did. -/
def diceHashesUptoRow : OpenClaim := { program := "ytbpkoehgjhofaaa", sum := "87986ea68c824dcd63cb055e73e7c21a5ba4d250233b72798302aabe74e19233", func := "barbican/barbicanlaw01.DiceHashes", spec := "diceHashes", apart := false, narrowed := true }
def DiceHashesUptoSaid : Prop := diceHashesUptoRow.holds Try.pinned (OpenSpec.upto diceHashesSpec)

/-- 'barbicanlaw01.DiceChains', WHERE WHAT IT READS IS OF BULK AT MOST 1048576: true; the input reads as it did. -/
def diceChainsUptoRow : OpenClaim := { program := "ytbpkoehgjhofaaa", sum := "87986ea68c824dcd63cb055e73e7c21a5ba4d250233b72798302aabe74e19233", func := "barbican/barbicanlaw01.DiceChains", spec := "diceChains", apart := false, narrowed := true }
def DiceChainsUptoSaid : Prop := diceChainsUptoRow.holds Try.pinned (OpenSpec.upto diceChainsSpec)

/-- 'barbicanlaw01.DiceSeeds', WHERE WHAT IT READS IS OF BULK AT MOST 1048576: true; the input reads as it did. -/
def diceSeedsUptoRow : OpenClaim := { program := "ytbpkoehgjhofaaa", sum := "87986ea68c824dcd63cb055e73e7c21a5ba4d250233b72798302aabe74e19233", func := "barbican/barbicanlaw01.DiceSeeds", spec := "diceSeeds", apart := false, narrowed := true }
def DiceSeedsUptoSaid : Prop := diceSeedsUptoRow.holds Try.pinned (OpenSpec.upto diceSeedsSpec)

/-- 'barbicanlaw01.DicePlays', WHERE WHAT IT READS IS OF BULK AT MOST 1048576: true; the input reads as it did. -/
def dicePlaysUptoRow : OpenClaim := { program := "ytbpkoehgjhofaaa", sum := "87986ea68c824dcd63cb055e73e7c21a5ba4d250233b72798302aabe74e19233", func := "barbican/barbicanlaw01.DicePlays", spec := "dicePlays", apart := false, narrowed := true }
def DicePlaysUptoSaid : Prop := dicePlaysUptoRow.holds Try.pinned (OpenSpec.upto dicePlaysSpec)

/-- 'barbicanlaw01.DiceBelow', WHERE WHAT IT READS IS OF BULK AT MOST 1048576: true; the input reads as it did. -/
def diceBelowUptoRow : OpenClaim := { program := "ytbpkoehgjhofaaa", sum := "87986ea68c824dcd63cb055e73e7c21a5ba4d250233b72798302aabe74e19233", func := "barbican/barbicanlaw01.DiceBelow", spec := "diceBelow", apart := false, narrowed := true }
def DiceBelowUptoSaid : Prop := diceBelowUptoRow.holds Try.pinned (OpenSpec.upto diceBelowSpec)

/-- 'barbicanlaw18.HealthPlays', WHERE WHAT IT READS IS OF BULK AT MOST 1048576: true; the input reads as it did. -/
def healthPlaysUptoRow : OpenClaim := { program := "ytbpkoehgjhofaaa", sum := "87986ea68c824dcd63cb055e73e7c21a5ba4d250233b72798302aabe74e19233", func := "barbican/barbicanlaw18.HealthPlays", spec := "healthPlays", apart := false, narrowed := true }
def HealthPlaysUptoSaid : Prop := healthPlaysUptoRow.holds Try.pinned (OpenSpec.upto healthPlaysSpec)

/-- 'barbicanlaw18.HealthBack', WHERE WHAT IT READS IS OF BULK AT MOST 1048576: true; the input reads as it did. -/
def healthBackUptoRow : OpenClaim := { program := "ytbpkoehgjhofaaa", sum := "87986ea68c824dcd63cb055e73e7c21a5ba4d250233b72798302aabe74e19233", func := "barbican/barbicanlaw18.HealthBack", spec := "healthBack", apart := false, narrowed := true }
def HealthBackUptoSaid : Prop := healthBackUptoRow.holds Try.pinned (OpenSpec.upto healthBackSpec)

/-- 'barbicanlaw18.HealthPanics', WHERE WHAT IT READS IS OF BULK AT MOST 1048576: true; the input reads as it did. -/
def healthPanicsUptoRow : OpenClaim := { program := "ytbpkoehgjhofaaa", sum := "87986ea68c824dcd63cb055e73e7c21a5ba4d250233b72798302aabe74e19233", func := "barbican/barbicanlaw18.HealthPanics", spec := "healthPanics", apart := false, narrowed := true }
def HealthPanicsUptoSaid : Prop := healthPanicsUptoRow.holds Try.pinned (OpenSpec.upto healthPanicsSpec)

/-- 'barbicanlaw18.HealthApart', WHERE WHAT IT READS IS OF BULK AT MOST 1048576: true; the input reads as it did. -/
def healthApartUptoRow : OpenClaim := { program := "ytbpkoehgjhofaaa", sum := "87986ea68c824dcd63cb055e73e7c21a5ba4d250233b72798302aabe74e19233", func := "barbican/barbicanlaw18.HealthApart", spec := "healthApart", apart := false, narrowed := true }
def HealthApartUptoSaid : Prop := healthApartUptoRow.holds Try.pinned (OpenSpec.upto healthApartSpec)

/-- 'barbicanlaw20.RetryPlays', WHERE WHAT IT READS IS OF BULK AT MOST 1048576: true; the input reads as it did. -/
def retryPlaysUptoRow : OpenClaim := { program := "ytbpkoehgjhofaaa", sum := "87986ea68c824dcd63cb055e73e7c21a5ba4d250233b72798302aabe74e19233", func := "barbican/barbicanlaw20.RetryPlays", spec := "retryPlays", apart := false, narrowed := true }
def RetryPlaysUptoSaid : Prop := retryPlaysUptoRow.holds Try.pinned (OpenSpec.upto retryPlaysSpec)

/-- 'barbicanlaw20.RetryBudget', WHERE WHAT IT READS IS OF BULK AT MOST 1048576: true; the input reads as it did. -/
def retryBudgetUptoRow : OpenClaim := { program := "ytbpkoehgjhofaaa", sum := "87986ea68c824dcd63cb055e73e7c21a5ba4d250233b72798302aabe74e19233", func := "barbican/barbicanlaw20.RetryBudget", spec := "retryBudget", apart := false, narrowed := true }
def RetryBudgetUptoSaid : Prop := retryBudgetUptoRow.holds Try.pinned (OpenSpec.upto retryBudgetSpec)

/-- 'barbicanlaw20.RetryOnce', WHERE WHAT IT READS IS OF BULK AT MOST 1048576: true; the input reads as it did. -/
def retryOnceUptoRow : OpenClaim := { program := "ytbpkoehgjhofaaa", sum := "87986ea68c824dcd63cb055e73e7c21a5ba4d250233b72798302aabe74e19233", func := "barbican/barbicanlaw20.RetryOnce", spec := "retryOnce", apart := false, narrowed := true }
def RetryOnceUptoSaid : Prop := retryOnceUptoRow.holds Try.pinned (OpenSpec.upto retryOnceSpec)

end Rows
end Go.Proofs.Ytbpkoehgjhofaaa
