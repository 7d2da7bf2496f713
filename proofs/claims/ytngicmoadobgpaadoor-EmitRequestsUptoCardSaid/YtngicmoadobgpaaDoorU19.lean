/- Some texts put together: lemmas and contracts for the law. Conditions: as each text says. -/
import Derived.Test.YtngicmoadobgpaaDoorRows
import Derived.Test.YtngicmoadobgpaaDoorU18
import Derived.Lib.LaidTab
/- What the listed tables give the walks: the powers of ten; the row's measure of data. Conditions: the tables read as the row lists them. -/
namespace Go.Proofs.YtngicmoadobgpaaDoor
open Go Go.Sx Go.ChangeShapes Go.WideShapes Go.ChangeAt Go.RowKit
set_option maxRecDepth 20000 in
theorem t10_of {W : World} (h : laidMetH Tryd.prog laidB W) : T10 W := by
  rw [MakeChecks.laidMetH_plain _ _ _ (by kernel_rfl)] at h
  obtain ⟨ps, ⟨_, _, _, _, _, _, _, _, _, _, ⟨_, _, _, _, _, _, _, _, _, _, ⟨g0, t0, cs0, f0, p0, q0, hg0, ht0, hv0, hd0, _, _⟩, _⟩, _⟩, _, _⟩ := h
  obtain rfl := Option.some.inj ((show Tryd.prog.globalNamed "internal/strconv.uint64pow10" = some 0 by kernel_rfl).symm.trans hg0)
  obtain rfl := Option.some.inj ((show (Tryd.prog.globals[0]?).map (·.type) = some 132 by kernel_rfl).symm.trans ht0)
  have e1 : (Rows.laid_internal_strconv_uint64pow10 : DataW Unit) = Lib.tabData .u64 Lib.pow10Tab := by kernel_rfl
  rw [e1] at hd0
  have hc := Lib.cells_of_tab Tryd.underlying132 Tryd.underlying119 (by kernel_rfl) (by kernel_rfl) hd0
  refine ⟨?_, 0, hg0, ?_⟩
  · unfold Lib.TabIs
    rw [hv0, ← hc]
  · have h1 := hv0
    unfold World.var? at h1
    rw [hg0] at h1
    simp only [Option.bind_some] at h1
    rcases Nat.lt_or_ge 0 W.heap.size with h2 | h2
    · exact h2
    · rw [Array.getElem?_eq_none h2] at h1; cases h1
theorem one_bulk {H : Type} (d : DataW H) : 1 ≤ Rows.uptoBulk d := by
  cases d with
  | lit l => cases l <;> simp [Rows.uptoBulk]
  | nil => simp [Rows.uptoBulk]
  | ptr d => simp [Rows.uptoBulk]
  | slice elems spare => simp [Rows.uptoBulk]
  | agg parts => simp [Rows.uptoBulk]
  | iface t d => simp [Rows.uptoBulk]
  | map entries => simp [Rows.uptoBulk]
  | held h => simp [Rows.uptoBulk]
theorem sum_len {H : Type} : ∀ es : List (DataW H), es.length + sumL (fun d => Rows.uptoBulk d - 1) es = Rows.uptoBulkAll es
  | [] => by simp [sumL, Rows.uptoBulkAll]
  | e :: es => by
    have ih := sum_len es
    have := one_bulk e
    rw [sumL, Rows.uptoBulkAll, List.length_cons]; omega
/-- The row's measure counts the bytes and the elements. -/
theorem bulkR {H : Type} : Bulk (fun d : DataW H => Rows.uptoBulk d - 1) where
  str b := by simp [Rows.uptoBulk]
  slice es sp := by
    rw [sum_len]
    simp only [Rows.uptoBulk]; omega
  agg ps := by
    have := sum_len ps
    simp only [Rows.uptoBulk]; omega
end Go.Proofs.YtngicmoadobgpaaDoor
