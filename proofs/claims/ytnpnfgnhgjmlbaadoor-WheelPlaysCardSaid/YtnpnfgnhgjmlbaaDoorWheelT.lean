/- What the listed table gives the walks. Conditions: the table reads as the row lists it. -/
import Derived.Test.YtnpnfgnhgjmlbaaDoorRows
import Derived.Test.YtnpnfgnhgjmlbaaDoorWheelB
import Derived.ProofKit
import Derived.LaidMore
import Derived.OpenShut
import Derived.Stop.Joined
namespace Go.Proofs.YtnpnfgnhgjmlbaaDoor
open Go.ChangeShapes Go.WideShapes Go.ChangeAt Go.RowKit
def laidL : List (String × DataW Unit) := [("math/bits.deBruijn64tab", Rows.laid_math_bits_deBruijn64tab)]
theorem door_met (os : Os) (args : Array Value) : laidMetH Tryd.prog laidL ((World.doorLaid Tryd.prog 400 os).forCall (fun _ _ => 0) ⟨#[], args, []⟩).memory :=
  laidMetH_of_parts3 (fuel := 8) (laidMet_of_run' 8 (by kernel_rfl) (by kernel_rfl)) (by kernel_rfl) (by kernel_rfl)
theorem gTab : Tryd.prog.globalNamed "math/bits.deBruijn64tab" = some 0 := by kernel_rfl
theorem tTab : (Tryd.prog.globals[0]?).map (·.type) = some 75 := by kernel_rfl
theorem laid_db : (Rows.laid_math_bits_deBruijn64tab : DataW Unit) = .agg (dbTab.map fun v => .lit (.int .u8 ((v : Nat) : Int))) := by kernel_rfl
theorem of_laid {W : World} (h : laidMetH Tryd.prog laidL W) : DB W := by
  rw [MakeChecks.laidMetH_plain _ _ _ (by kernel_rfl)] at h
  obtain ⟨ps, ⟨g0, t0, cs0, f0, p0, q0, hg0, ht0, hv0, hd0, _, _⟩, _, _⟩ := h
  obtain rfl := Option.some.inj (gTab.symm.trans hg0)
  obtain rfl := Option.some.inj (tTab.symm.trans ht0)
  obtain ⟨xs, m1, rfl, hx1, hlen, hn, hel⟩ := DataW.trod_array Tryd.underlying75 hd0
  simp only [Prod.mk.injEq] at hx1
  have hx := hx1.1
  rw [laid_db] at hx
  injection hx with hx
  have c5 : Tryd.prog.cellsOf 5 = 1 := by kernel_rfl
  intro i v hv
  have hi : i < 64 := by
    have := (List.getElem?_eq_some_iff.1 hv).1
    have e : dbTab.length = 64 := by decide +kernel
    omega
  have h0 := hel i hi
  obtain ⟨y, hy⟩ : ∃ y, xs[i]? = some y := ⟨_, List.getElem?_eq_getElem (by omega)⟩
  rw [hy, c5, Nat.mul_one] at h0
  obtain ⟨k, e1, e2, _⟩ := DataW.trod_int Tryd.underlying5 h0
  have h1 := congrArg (fun l => l[i]?) hx
  simp only [List.getElem?_map, hv, hy, Option.map_some] at h1
  rw [e2] at h1
  injection h1 with h1
  injection h1 with h1
  injection h1 with _ h1
  subst h1
  rw [World.var?_cell hg0 hv0 i]
  have h2 := congrArg (fun l => l[0]?) e1
  simpa using h2
end Go.Proofs.YtnpnfgnhgjmlbaaDoor
