/-
  No cell of these rows narrows 'for every input' (looked for: loops, veiled, ifaces, maps, wideKeys, modest, calm, conditions, laid).
  DERIVED. THE GIVEN ROWS OF THIS SEAT. 10 by the template 'for every input the law returns true; each argument reads behind the call as it read before'; 0 by the template 'total and deterministic' (their statements: YtpfnhkdhcjclpaaTotals.lean).
  GIVEN WITH THE SEED: the statements are not yours to turn. If you find one false, say at which input.
  Laid BY PROGRAM, IN A SANDBOX (cutbox-rows.mjs): the forced cells as the released guide's own fill.sh prints them over the translation 36e2d0e65efecdf4… (all of the seat's roots in one cut). By AI agents, Wed Nov 11 2026. No macro, syntax, notation, axiom, sorry.
-/
import Derived.Test.YtpfnhkdhcjclpaaChecked
import GoSem.Claim
import GoSem.ClaimJoined
import GoSem.ClaimMapViews
import Derived.JoinedTies
import Derived.KernelRfl
namespace Go.Proofs.Ytpfnhkdhcjclpaa
/- THE CELL 'sum', in the pinned program and in every row, IS THE sha256 OF THE DUMP (.gsa) THAT YtpfnhkdhcjclpaaProg.lean LOADS. Nothing in Lean hashes anything: it is a label: what it is worth is what the hold of that sum in a sandbox is worth. -/
noncomputable def Try.pinned : Pinned := { name := "ytpfnhkdhcjclpaa", sum := "36e2d0e65efecdf4978a272574f8f2b45f9f303167871f20d4cdd327c570d88c", checked := Try.checked }
namespace Rows
def none {H : Type} : Left H := { results := [], args := [] }

/-- 'barbicanlaw19.PoolSticky': WHATEVER THE INPUT: true; the input reads as it did. -/
def poolStickySpec : ChangeSpec := { name := "poolSticky", fn := fun _ => fun
  | [d1, d2] => { results := [.lit (.bool true)], args := [d1, d2] }
  | _ => none }
def poolStickyRow : OpenClaim := { program := "ytpfnhkdhcjclpaa", sum := "36e2d0e65efecdf4978a272574f8f2b45f9f303167871f20d4cdd327c570d88c", func := "barbican/barbicanlaw19.PoolSticky", spec := "poolSticky", unfollowed := true, recurses := true, apart := false }
def PoolStickySaid : Prop := poolStickyRow.holds Try.pinned (OpenSpec.ofChange poolStickySpec)

/-- ITS FALSE NEIGHBOUR: 'it returns false'. Refute it at one input. -/
def poolStickyWrong : ChangeSpec := { name := "poolSticky", fn := fun _ => fun
  | [d1, d2] => { results := [.lit (.bool false)], args := [d1, d2] }
  | _ => none }
def PoolStickyWrongFalsely : Prop := poolStickyRow.holds Try.pinned (OpenSpec.ofChange poolStickyWrong)

/-- 'barbicanlaw19.PoolOrder': WHATEVER THE INPUT: true; the input reads as it did. -/
def poolOrderSpec : ChangeSpec := { name := "poolOrder", fn := fun _ => fun
  | [d1, d2] => { results := [.lit (.bool true)], args := [d1, d2] }
  | _ => none }
def poolOrderRow : OpenClaim := { program := "ytpfnhkdhcjclpaa", sum := "36e2d0e65efecdf4978a272574f8f2b45f9f303167871f20d4cdd327c570d88c", func := "barbican/barbicanlaw19.PoolOrder", spec := "poolOrder", unfollowed := true, recurses := true, apart := false }
def PoolOrderSaid : Prop := poolOrderRow.holds Try.pinned (OpenSpec.ofChange poolOrderSpec)

/-- ITS FALSE NEIGHBOUR: 'it returns false'. Refute it at one input. -/
def poolOrderWrong : ChangeSpec := { name := "poolOrder", fn := fun _ => fun
  | [d1, d2] => { results := [.lit (.bool false)], args := [d1, d2] }
  | _ => none }
def PoolOrderWrongFalsely : Prop := poolOrderRow.holds Try.pinned (OpenSpec.ofChange poolOrderWrong)

/-- 'barbicanlaw19.PoolBounds': WHATEVER THE INPUT: true; the input reads as it did. -/
def poolBoundsSpec : ChangeSpec := { name := "poolBounds", fn := fun _ => fun
  | [d1, d2, d3] => { results := [.lit (.bool true)], args := [d1, d2, d3] }
  | _ => none }
def poolBoundsRow : OpenClaim := { program := "ytpfnhkdhcjclpaa", sum := "36e2d0e65efecdf4978a272574f8f2b45f9f303167871f20d4cdd327c570d88c", func := "barbican/barbicanlaw19.PoolBounds", spec := "poolBounds", unfollowed := true, recurses := true, apart := false }
def PoolBoundsSaid : Prop := poolBoundsRow.holds Try.pinned (OpenSpec.ofChange poolBoundsSpec)

/-- ITS FALSE NEIGHBOUR: 'it returns false'. Refute it at one input. -/
def poolBoundsWrong : ChangeSpec := { name := "poolBounds", fn := fun _ => fun
  | [d1, d2, d3] => { results := [.lit (.bool false)], args := [d1, d2, d3] }
  | _ => none }
def PoolBoundsWrongFalsely : Prop := poolBoundsRow.holds Try.pinned (OpenSpec.ofChange poolBoundsWrong)

/-- 'barbicanlaw17.BalancePlays': WHATEVER THE INPUT: true; the input reads as it did. -/
def balancePlaysSpec : ChangeSpec := { name := "balancePlays", fn := fun _ => fun
  | [d1, d2, d3, d4] => { results := [.lit (.bool true)], args := [d1, d2, d3, d4] }
  | _ => none }
def balancePlaysRow : OpenClaim := { program := "ytpfnhkdhcjclpaa", sum := "36e2d0e65efecdf4978a272574f8f2b45f9f303167871f20d4cdd327c570d88c", func := "barbican/barbicanlaw17.BalancePlays", spec := "balancePlays", unfollowed := true, recurses := true, apart := false }
def BalancePlaysSaid : Prop := balancePlaysRow.holds Try.pinned (OpenSpec.ofChange balancePlaysSpec)

/-- ITS FALSE NEIGHBOUR: 'it returns false'. Refute it at one input. -/
def balancePlaysWrong : ChangeSpec := { name := "balancePlays", fn := fun _ => fun
  | [d1, d2, d3, d4] => { results := [.lit (.bool false)], args := [d1, d2, d3, d4] }
  | _ => none }
def BalancePlaysWrongFalsely : Prop := balancePlaysRow.holds Try.pinned (OpenSpec.ofChange balancePlaysWrong)

/-- 'barbicanlaw17.BalanceOpen': WHATEVER THE INPUT: true; the input reads as it did. -/
def balanceOpenSpec : ChangeSpec := { name := "balanceOpen", fn := fun _ => fun
  | [d1, d2, d3, d4] => { results := [.lit (.bool true)], args := [d1, d2, d3, d4] }
  | _ => none }
def balanceOpenRow : OpenClaim := { program := "ytpfnhkdhcjclpaa", sum := "36e2d0e65efecdf4978a272574f8f2b45f9f303167871f20d4cdd327c570d88c", func := "barbican/barbicanlaw17.BalanceOpen", spec := "balanceOpen", unfollowed := true, recurses := true, apart := false }
def BalanceOpenSaid : Prop := balanceOpenRow.holds Try.pinned (OpenSpec.ofChange balanceOpenSpec)

/-- ITS FALSE NEIGHBOUR: 'it returns false'. Refute it at one input. -/
def balanceOpenWrong : ChangeSpec := { name := "balanceOpen", fn := fun _ => fun
  | [d1, d2, d3, d4] => { results := [.lit (.bool false)], args := [d1, d2, d3, d4] }
  | _ => none }
def BalanceOpenWrongFalsely : Prop := balanceOpenRow.holds Try.pinned (OpenSpec.ofChange balanceOpenWrong)

/-- 'barbicanlaw17.BalanceFair': WHATEVER THE INPUT: true; the input reads as it did. -/
def balanceFairSpec : ChangeSpec := { name := "balanceFair", fn := fun _ => fun
  | [d1, d2, d3] => { results := [.lit (.bool true)], args := [d1, d2, d3] }
  | _ => none }
def balanceFairRow : OpenClaim := { program := "ytpfnhkdhcjclpaa", sum := "36e2d0e65efecdf4978a272574f8f2b45f9f303167871f20d4cdd327c570d88c", func := "barbican/barbicanlaw17.BalanceFair", spec := "balanceFair", unfollowed := true, recurses := true, apart := false }
def BalanceFairSaid : Prop := balanceFairRow.holds Try.pinned (OpenSpec.ofChange balanceFairSpec)

/-- ITS FALSE NEIGHBOUR: 'it returns false'. Refute it at one input. -/
def balanceFairWrong : ChangeSpec := { name := "balanceFair", fn := fun _ => fun
  | [d1, d2, d3] => { results := [.lit (.bool false)], args := [d1, d2, d3] }
  | _ => none }
def BalanceFairWrongFalsely : Prop := balanceFairRow.holds Try.pinned (OpenSpec.ofChange balanceFairWrong)

/-- 'barbicanlaw17.BalanceStays': WHATEVER THE INPUT: true; the input reads as it did. -/
def balanceStaysSpec : ChangeSpec := { name := "balanceStays", fn := fun _ => fun
  | [d1, d2, d3] => { results := [.lit (.bool true)], args := [d1, d2, d3] }
  | _ => none }
def balanceStaysRow : OpenClaim := { program := "ytpfnhkdhcjclpaa", sum := "36e2d0e65efecdf4978a272574f8f2b45f9f303167871f20d4cdd327c570d88c", func := "barbican/barbicanlaw17.BalanceStays", spec := "balanceStays", unfollowed := true, recurses := true, apart := false }
def BalanceStaysSaid : Prop := balanceStaysRow.holds Try.pinned (OpenSpec.ofChange balanceStaysSpec)

/-- ITS FALSE NEIGHBOUR: 'it returns false'. Refute it at one input. -/
def balanceStaysWrong : ChangeSpec := { name := "balanceStays", fn := fun _ => fun
  | [d1, d2, d3] => { results := [.lit (.bool false)], args := [d1, d2, d3] }
  | _ => none }
def BalanceStaysWrongFalsely : Prop := balanceStaysRow.holds Try.pinned (OpenSpec.ofChange balanceStaysWrong)

/-- 'barbicanlaw17.BalanceEven': WHATEVER THE INPUT: true; the input reads as it did. -/
def balanceEvenSpec : ChangeSpec := { name := "balanceEven", fn := fun _ => fun
  | [d1, d2, d3] => { results := [.lit (.bool true)], args := [d1, d2, d3] }
  | _ => none }
def balanceEvenRow : OpenClaim := { program := "ytpfnhkdhcjclpaa", sum := "36e2d0e65efecdf4978a272574f8f2b45f9f303167871f20d4cdd327c570d88c", func := "barbican/barbicanlaw17.BalanceEven", spec := "balanceEven", unfollowed := true, recurses := true, apart := false }
def BalanceEvenSaid : Prop := balanceEvenRow.holds Try.pinned (OpenSpec.ofChange balanceEvenSpec)

/-- ITS FALSE NEIGHBOUR: 'it returns false'. Refute it at one input. -/
def balanceEvenWrong : ChangeSpec := { name := "balanceEven", fn := fun _ => fun
  | [d1, d2, d3] => { results := [.lit (.bool false)], args := [d1, d2, d3] }
  | _ => none }
def BalanceEvenWrongFalsely : Prop := balanceEvenRow.holds Try.pinned (OpenSpec.ofChange balanceEvenWrong)

/-- 'barbicanlaw19.PoolLoads': WHATEVER THE INPUT: true; the input reads as it did. -/
def poolLoadsSpec : ChangeSpec := { name := "poolLoads", fn := fun _ => fun
  | [d1, d2, d3] => { results := [.lit (.bool true)], args := [d1, d2, d3] }
  | _ => none }
def poolLoadsRow : OpenClaim := { program := "ytpfnhkdhcjclpaa", sum := "36e2d0e65efecdf4978a272574f8f2b45f9f303167871f20d4cdd327c570d88c", func := "barbican/barbicanlaw19.PoolLoads", spec := "poolLoads", unfollowed := true, recurses := true, apart := false }
def PoolLoadsSaid : Prop := poolLoadsRow.holds Try.pinned (OpenSpec.ofChange poolLoadsSpec)

/-- ITS FALSE NEIGHBOUR: 'it returns false'. Refute it at one input. -/
def poolLoadsWrong : ChangeSpec := { name := "poolLoads", fn := fun _ => fun
  | [d1, d2, d3] => { results := [.lit (.bool false)], args := [d1, d2, d3] }
  | _ => none }
def PoolLoadsWrongFalsely : Prop := poolLoadsRow.holds Try.pinned (OpenSpec.ofChange poolLoadsWrong)

/-- 'barbicanlaw19.PoolPlays': WHATEVER THE INPUT: true; the input reads as it did. -/
def poolPlaysSpec : ChangeSpec := { name := "poolPlays", fn := fun _ => fun
  | [d1, d2, d3] => { results := [.lit (.bool true)], args := [d1, d2, d3] }
  | _ => none }
def poolPlaysRow : OpenClaim := { program := "ytpfnhkdhcjclpaa", sum := "36e2d0e65efecdf4978a272574f8f2b45f9f303167871f20d4cdd327c570d88c", func := "barbican/barbicanlaw19.PoolPlays", spec := "poolPlays", unfollowed := true, recurses := true, apart := false }
def PoolPlaysSaid : Prop := poolPlaysRow.holds Try.pinned (OpenSpec.ofChange poolPlaysSpec)

/-- ITS FALSE NEIGHBOUR: 'it returns false'. Refute it at one input. -/
def poolPlaysWrong : ChangeSpec := { name := "poolPlays", fn := fun _ => fun
  | [d1, d2, d3] => { results := [.lit (.bool false)], args := [d1, d2, d3] }
  | _ => none }
def PoolPlaysWrongFalsely : Prop := poolPlaysRow.holds Try.pinned (OpenSpec.ofChange poolPlaysWrong)

/- THE SECOND FORM. 'bulk': how many values and letters a reading holds, each counted each time it is reached (what is shared counts as often as it is met; a slice's spare places count too). A statement '..UptoSaid' is the law's where the arguments, and the package variables that the reading takes, are together of bulk at most 1048576: NARROWER than '..Said'. Prove '..Said' where nothing that the law and all that it calls make is longer than what came in: it says more and counts as full. Else prove '..UptoSaid'. A law counts once. -/
mutual
def uptoBulk {H : Type} : DataW H → Nat
  | .lit (.string bytes) => bytes.length + 1
  | .lit _ => 1
  | .nil => 1
  | .ptr d => uptoBulk d + 1
  | .slice elems spare => uptoBulkAll elems + uptoBulkAll spare + 1
  | .agg parts => uptoBulkAll parts + 1
  | .iface _ d => uptoBulk d + 1
  | .map entries => uptoBulkEntries entries + 1
  | .held _ => 1
def uptoBulkAll {H : Type} : List (DataW H) → Nat
  | [] => 0
  | d :: r => uptoBulk d + uptoBulkAll r
def uptoBulkEntries {H : Type} : List (Lit × DataW H) → Nat
  | [] => 0
  | x :: r => uptoBulkEntry x + uptoBulkEntries r
def uptoBulkEntry {H : Type} : Lit × DataW H → Nat
  | (.string bytes, d) => bytes.length + uptoBulk d + 1
  | (_, d) => uptoBulk d + 1
 end
def uptoSmall : (H : Type) → List (DataW H) → Bool := fun _ ds => decide (uptoBulkAll ds ≤ 1048576)
def OpenSpec.upto (s : _root_.Go.ChangeSpec) : _root_.Go.OpenSpec := { _root_.Go.OpenSpec.ofChange s with cond := some uptoSmall }

/-- 'barbicanlaw19.PoolSticky', WHERE WHAT IT READS IS OF BULK AT MOST 1048576: true; the input reads as it did. -/
def poolStickyUptoRow : OpenClaim := { program := "ytpfnhkdhcjclpaa", sum := "36e2d0e65efecdf4978a272574f8f2b45f9f303167871f20d4cdd327c570d88c", func := "barbican/barbicanlaw19.PoolSticky", spec := "poolSticky", unfollowed := true, recurses := true, apart := false, narrowed := true }
def PoolStickyUptoSaid : Prop := poolStickyUptoRow.holds Try.pinned (OpenSpec.upto poolStickySpec)

/-- 'barbicanlaw19.PoolOrder', WHERE WHAT IT READS IS OF BULK AT MOST 1048576: true; the input reads as it did. -/
def poolOrderUptoRow : OpenClaim := { program := "ytpfnhkdhcjclpaa", sum := "36e2d0e65efecdf4978a272574f8f2b45f9f303167871f20d4cdd327c570d88c", func := "barbican/barbicanlaw19.PoolOrder", spec := "poolOrder", unfollowed := true, recurses := true, apart := false, narrowed := true }
def PoolOrderUptoSaid : Prop := poolOrderUptoRow.holds Try.pinned (OpenSpec.upto poolOrderSpec)

/-- 'barbicanlaw19.PoolBounds', WHERE WHAT IT READS IS OF BULK AT MOST 1048576: true; the input reads as it did. -/
def poolBoundsUptoRow : OpenClaim := { program := "ytpfnhkdhcjclpaa", sum := "36e2d0e65efecdf4978a272574f8f2b45f9f303167871f20d4cdd327c570d88c", func := "barbican/barbicanlaw19.PoolBounds", spec := "poolBounds", unfollowed := true, recurses := true, apart := false, narrowed := true }
def PoolBoundsUptoSaid : Prop := poolBoundsUptoRow.holds Try.pinned (OpenSpec.upto poolBoundsSpec)

/-- 'barbicanlaw17.BalancePlays', WHERE WHAT IT READS IS OF BULK AT MOST 1048576: true; the input reads as it did. -/
def balancePlaysUptoRow : OpenClaim := { program := "ytpfnhkdhcjclpaa", sum := "36e2d0e65efecdf4978a272574f8f2b45f9f303167871f20d4cdd327c570d88c", func := "barbican/barbicanlaw17.BalancePlays", spec := "balancePlays", unfollowed := true, recurses := true, apart := false, narrowed := true }
def BalancePlaysUptoSaid : Prop := balancePlaysUptoRow.holds Try.pinned (OpenSpec.upto balancePlaysSpec)

/-- 'barbicanlaw17.BalanceOpen', WHERE WHAT IT READS IS OF BULK AT MOST 1048576: true; the input reads as it did. -/
def balanceOpenUptoRow : OpenClaim := { program := "ytpfnhkdhcjclpaa", sum := "36e2d0e65efecdf4978a272574f8f2b45f9f303167871f20d4cdd327c570d88c", func := "barbican/barbicanlaw17.BalanceOpen", spec := "balanceOpen", unfollowed := true, recurses := true, apart := false, narrowed := true }
def BalanceOpenUptoSaid : Prop := balanceOpenUptoRow.holds Try.pinned (OpenSpec.upto balanceOpenSpec)

/-- 'barbicanlaw17.BalanceFair', WHERE WHAT IT READS IS OF BULK AT MOST 1048576: true; the input reads as it did. -/
def balanceFairUptoRow : OpenClaim := { program := "ytpfnhkdhcjclpaa", sum := "36e2d0e65efecdf4978a272574f8f2b45f9f303167871f20d4cdd327c570d88c", func := "barbican/barbicanlaw17.BalanceFair", spec := "balanceFair", unfollowed := true, recurses := true, apart := false, narrowed := true }
def BalanceFairUptoSaid : Prop := balanceFairUptoRow.holds Try.pinned (OpenSpec.upto balanceFairSpec)

/-- 'barbicanlaw17.BalanceStays', WHERE WHAT IT READS IS OF BULK AT MOST 1048576: true; the input reads as it did. -/
def balanceStaysUptoRow : OpenClaim := { program := "ytpfnhkdhcjclpaa", sum := "36e2d0e65efecdf4978a272574f8f2b45f9f303167871f20d4cdd327c570d88c", func := "barbican/barbicanlaw17.BalanceStays", spec := "balanceStays", unfollowed := true, recurses := true, apart := false, narrowed := true }
def BalanceStaysUptoSaid : Prop := balanceStaysUptoRow.holds Try.pinned (OpenSpec.upto balanceStaysSpec)

/-- 'barbicanlaw17.BalanceEven', WHERE WHAT IT READS IS OF BULK AT MOST 1048576: true; the input reads as it did. -/
def balanceEvenUptoRow : OpenClaim := { program := "ytpfnhkdhcjclpaa", sum := "36e2d0e65efecdf4978a272574f8f2b45f9f303167871f20d4cdd327c570d88c", func := "barbican/barbicanlaw17.BalanceEven", spec := "balanceEven", unfollowed := true, recurses := true, apart := false, narrowed := true }
def BalanceEvenUptoSaid : Prop := balanceEvenUptoRow.holds Try.pinned (OpenSpec.upto balanceEvenSpec)

/-- 'barbicanlaw19.PoolLoads', WHERE WHAT IT READS IS OF BULK AT MOST 1048576: true; the input reads as it did. -/
def poolLoadsUptoRow : OpenClaim := { program := "ytpfnhkdhcjclpaa", sum := "36e2d0e65efecdf4978a272574f8f2b45f9f303167871f20d4cdd327c570d88c", func := "barbican/barbicanlaw19.PoolLoads", spec := "poolLoads", unfollowed := true, recurses := true, apart := false, narrowed := true }
def PoolLoadsUptoSaid : Prop := poolLoadsUptoRow.holds Try.pinned (OpenSpec.upto poolLoadsSpec)

/-- 'barbicanlaw19.PoolPlays', WHERE WHAT IT READS IS OF BULK AT MOST 1048576: true; the input reads as it did. -/
def poolPlaysUptoRow : OpenClaim := { program := "ytpfnhkdhcjclpaa", sum := "36e2d0e65efecdf4978a272574f8f2b45f9f303167871f20d4cdd327c570d88c", func := "barbican/barbicanlaw19.PoolPlays", spec := "poolPlays", unfollowed := true, recurses := true, apart := false, narrowed := true }
def PoolPlaysUptoSaid : Prop := poolPlaysUptoRow.holds Try.pinned (OpenSpec.upto poolPlaysSpec)

end Rows
end Go.Proofs.Ytpfnhkdhcjclpaa
