/- What the listed tables give the walks. Conditions: the tables read as the row lists them. -/
import Derived.Test.YtngicmoadobgpaaDoorRows
import Derived.Test.YtngicmoadobgpaaDoorChunkF
import Derived.ProofKit
import Derived.LaidMore
import Derived.OpenShut
namespace Go.Proofs.YtngicmoadobgpaaDoor
open Go Go.Sx Go.ChangeShapes Go.WideShapes Go.ChangeAt Go.RowKit
def laidB : List (String × DataW Unit) := [("math/bits.deBruijn32tab", Rows.laid_math_bits_deBruijn32tab), ("math/bits.deBruijn64tab", Rows.laid_math_bits_deBruijn64tab), ("internal/strconv.uint64pow10", Rows.laid_internal_strconv_uint64pow10), ("unicode/utf8.acceptRanges", Rows.laid_unicode_utf8_acceptRanges), ("unicode/utf8.first", Rows.laid_unicode_utf8_first)]
def tabOf : DataW Unit → List (DataW Unit)
  | .agg l => l
  | _ => []
set_option maxRecDepth 20000 in
theorem tz_of {W : World} (h : laidMetH Tryd.prog laidB W) : TZ W := by
  rw [MakeChecks.laidMetH_plain _ _ _ (by kernel_rfl)] at h
  obtain ⟨ps, ⟨_, _, _, _, _, _, _, _, _, _, ⟨g0, t0, cs0, f0, p0, q0, hg0, ht0, hv0, hd0, _, _⟩, _⟩, _, _⟩ := h
  obtain rfl := Option.some.inj ((show Tryd.prog.globalNamed "math/bits.deBruijn64tab" = some 2 by kernel_rfl).symm.trans hg0)
  obtain rfl := Option.some.inj ((show (Tryd.prog.globals[2]?).map (·.type) = some 154 by kernel_rfl).symm.trans ht0)
  obtain ⟨xs, m1, rfl, hx1, hlen, hn, hel⟩ := DataW.trod_array Tryd.underlying154 hd0
  simp only [Prod.mk.injEq] at hx1
  have hx := congrArg tabOf hx1.1
  have c5 : Tryd.prog.cellsOf 5 = 1 := by kernel_rfl
  have h0 := hel 15 (by decide)
  obtain ⟨y, hy⟩ : ∃ y, xs[15]? = some y := ⟨_, List.getElem?_eq_getElem (by omega)⟩
  rw [hy, c5, Nat.mul_one] at h0
  obtain ⟨k, e1, e2, _⟩ := DataW.trod_int Tryd.underlying5 h0
  have h2 : (tabOf (Rows.laid_math_bits_deBruijn64tab : DataW Unit))[15]? = some (.lit (.int .u8 4)) := by kernel_rfl
  have h1 := h2.symm.trans (congrArg (fun l : List (DataW Unit) => l[15]?) hx)
  clear h2 hx hx1
  simp only [tabOf, List.getElem?_map, hy, Option.map_some] at h1
  rw [e2] at h1
  injection h1 with h1
  injection h1 with h1
  injection h1 with _ h1
  subst h1
  have hc : W.cell? ⟨2, 15, none⟩ = some (.int .u8 4) := by
    rw [World.var?_cell hg0 hv0 15]
    have h2 := congrArg (fun l => l[0]?) e1
    simpa using h2
  exact ⟨fun _ => Reads.base hc⟩
end Go.Proofs.YtngicmoadobgpaaDoor
