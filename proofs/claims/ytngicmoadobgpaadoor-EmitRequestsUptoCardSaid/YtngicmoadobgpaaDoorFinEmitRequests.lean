/- The law EmitRequests: whatever its arguments, the call returns true, and they read behind it as before. Conditions: none but the row's own. -/
import Derived.Test.YtngicmoadobgpaaDoorRows
import Derived.Test.YtngicmoadobgpaaDoorTie
import Derived.Test.YtngicmoadobgpaaDoorCards
import Derived.Lay
import Derived.SevenTiedAt
import Derived.ProofKit
import Derived.LaidMore
import Derived.Stop.Joined
import Derived.Deep.DeepHandedRow
import Derived.Test.YtngicmoadobgpaaDoorU18
import Derived.Test.YtngicmoadobgpaaDoorU19
import Derived.Test.YtngicmoadobgpaaDoorU13
import Derived.Test.YtngicmoadobgpaaDoorU12
import Derived.OpenShut
namespace Go.Proofs.YtngicmoadobgpaaDoor.emitRequests
open Go Go.Sx Go.ChangeShapes Go.WideShapes Go.ChangeAt Go.RowKit
open Go.ChangeMaps (open_string)
set_option linter.unusedVariables false
def laidL : List (String × DataW Unit) := [("math/bits.deBruijn32tab", Rows.laid_math_bits_deBruijn32tab), ("math/bits.deBruijn64tab", Rows.laid_math_bits_deBruijn64tab), ("internal/strconv.uint64pow10", Rows.laid_internal_strconv_uint64pow10), ("unicode/utf8.acceptRanges", Rows.laid_unicode_utf8_acceptRanges), ("unicode/utf8.first", Rows.laid_unicode_utf8_first)]
theorem own : ownKnob Tryd.prog.godebug = none := by kernel_rfl
theorem laidOut : laidOutB Tryd.prog = true := by kernel_rfl
set_option maxRecDepth 100000 in
theorem lifted (os : Os) (started : os.Started) (H : Type) (enc : TypeId × Value → H) (F : Stop.Interp) :
    ReturnsInHanded {} Tryd.checked os 8 .any ((Rows.OpenSpec.upto Rows.emitRequestsSpec).preRow enc Tryd.prog Tryd.f8 Rows.emitRequestsUptoRow.domain false Rows.emitRequestsUptoRow.laid) (((Rows.OpenSpec.upto Rows.emitRequestsSpec).at F).post enc Tryd.prog Tryd.f8 false true false false) := by
  refine returnsInHanded_of_row (C := Tryd.checked) (s := (Rows.OpenSpec.upto Rows.emitRequestsSpec)) own started (by kernel_rfl) Tryd.func8
    ⟨World.laidAll Tryd.prog os laidL, fun _ _ => 0, ⟨#[], #[.agg #[.string ⟨#[]⟩, .string ⟨#[]⟩, .string ⟨#[]⟩, .int .i64 0, .slice none 0 0, .string ⟨#[]⟩, .bool false, .string ⟨#[]⟩, .string ⟨#[]⟩]], []⟩, World.laidAll_os _ _ _, World.shaped_of_ZipB (by kernel_rfl) (by kernel_rfl), rfl, (Input.okWide_of_okWideB (by kernel_rfl)).2,
      OpenSpec.preRow_of_cond (x := ([.agg [.lit (.string []), .lit (.string []), .lit (.string []), .lit (.int .i64 0), .nil, .lit (.string []), .lit (.bool false), .lit (.string []), .lit (.string [])]], [], [])) 8 (by kernel_rfl) (by kernel_rfl) (fun k hk => by cases hk; kernel_rfl) (by kernel_rfl) (laidMet_laidAll _ (by kernel_rfl) (by kernel_rfl)),
      by simp only [Assume.holds]; exact ⟨by simp, by simp, fun _ => Modest.zero, by simp, by simp⟩⟩ ?_
  intro W base args ds gs before hval0 hW _ hcond hsz0 hL _ _
  have hsz : (DataW.weightsEach Tryd.prog (Tryd.f8.params.toList ++ Rows.emitRequestsSpec.plain.varTypes Tryd.prog) (ds ++ gs)).all (· ≤ reachBytes) = true := hsz0
  clear hsz0
  have hval : ∀ (j : Nat) t v, Tryd.f8.params[j]? = some t → args[j]? = some v → Value.okWide Tryd.prog W .any base t v := hval0
  have hW' := hW
  obtain ⟨p, q, hA0, hV, rfl, hfz, hnd⟩ := hW
  have hA : DataW.TrodAll enc Tryd.prog W 0 (fun _ => true) true Tryd.f8.params.toList args.toList ds p := hA0
  rw [Tryd.params8] at hA hval hsz
  obtain ⟨v0, vs0, d0, ds0, p0, q0, hargs, rfl, rfl, h0, r0⟩ := trodAll_cons hA
  obtain ⟨rfl, rfl, rfl⟩ := trodAll_nil r0
  obtain rfl : args = #[v0] := by cases args; simp_all
  obtain ⟨rfl, rfl⟩ := trodVars_none hV
  have hlt : ∀ x ∈ p0 ++ [], x.block < W.heap.size := fun x hx => hW'.lt x (by simpa using hx)
  have hup : Rows.uptoBulkAll _ ≤ 1048576 := of_decide_eq_true (hcond _ rfl)
  simp only [List.append_nil, Rows.uptoBulkAll] at hup
  have g0 := h0
  obtain ⟨cs0, hv0⟩ : ∃ cs, v0 = .agg cs := by
    have := hval 0 51 v0 rfl rfl
    simp only [Value.okWide, Tryd.underlying51] at this
    exact ⟨_, this.choose_spec.1⟩
  subst hv0
  obtain ⟨dv0, hd0, hk0⟩ : ∃ dv, Sh.rd W (.agg [.str, .str, .str, .int .i64, .slice 32 (.agg [.str, .str]), .str, .bool, .str, .str]) cs0.toList dv ∧ dv.bulk ≤ Rows.uptoBulk d0 - 1 := by
    obtain ⟨fuel, hf⟩ := h0
    exact Sh.rdB_of bulkR (.agg [.str, .str, .str, .int .i64, .slice 32 (.agg [.str, .str]), .str, .bool, .str, .str]) (t := 51) (by kernel_rfl) hf (fun y hy => by have := List.all_eq_true.1 hsz y (DataW.weights_mem_each (j := 0) (t := 51) rfl rfl y hy); simpa using this)
  refine (Tri.calls (R := fun v _ => v = .bool true) (emit_requests (t10_of hL) hd0 (by omega))).mono fun e W' ⟨_, _, he, hv, hb⟩ => ?_
  subst hv; subst he
  exact ⟨_, rfl, _, _, _, [], _, [], hW', trodAll_cons_mk (shut_bool Tryd.underlying4 _) trodAll_mk0, trodAll_cons_mk (trod_below laidOut (by kernel_rfl) (of_decide_eq_true (by kernel_rfl)) g0 hb hlt (fun x hx => by simp [hx])) (trodAll_mk0), rfl, hb.frame _, fun h => by cases h⟩
theorem over : Rows.emitRequestsUptoRow.holds Tryd.pinned (Rows.OpenSpec.upto Rows.emitRequestsSpec) :=
  OpenClaim.holds_of_cond 8 Tryd.f8 rfl rfl rfl rfl rfl rfl rfl ⟨rfl, rfl, rfl, rfl, rfl⟩ rfl rfl rfl rfl rfl (by kernel_rfl) Tryd.func8 (by kernel_rfl)
    (of_decide_eq_true (by kernel_rfl)) (by unfold Func.isWrapper; first | (rw [if_pos (by decide +kernel)]; kernel_rfl) | (rw [if_neg (by decide +kernel)]; exact ⟨rfl, rfl⟩))
    (fun os started H enc _ F => by rw [OpenClaim.pre_eq_preRow]; exact lifted os started H enc F)
end Go.Proofs.YtngicmoadobgpaaDoor.emitRequests
namespace Go.Proofs.YtngicmoadobgpaaDoor
theorem emitRequests_holds : Rows.EmitRequestsUptoCardSaid :=
  Claim7.holds_tied_plain_at .later [] _ _ _ _
    emitRequests.over (fun _ h => by cases h) (by kernel_rfl) (fun _ h => by cases h) emitRequestsUpto_row_tie rfl ⟨rfl, rfl⟩ (by kernel_rfl) rfl
    (fun f fn hf hfn => by
      obtain rfl : f = 8 := Option.some.inj ((show Tryd.prog.funcNamed "barbican/barbicanlaw13.EmitRequests" = some 8 by kernel_rfl).symm.trans hf) |>.symm
      obtain rfl : fn = Tryd.f8 := (Option.some.inj (Tryd.func8.symm.trans hfn)).symm
      exact ⟨by kernel_rfl, fun j t ht => by
        rw [Tryd.params8] at ht
        have hm : t ∈ [51] := by simpa using Array.mem_of_getElem? ht
        have hall : ([51].all fun u => !Tryd.prog.wantsStandIn u) = true := by kernel_rfl
        exact (show Tryd.prog.wantsStandIn t = false by simpa using List.all_eq_true.1 hall t hm)⟩)
    (by kernel_rfl)
#print axioms emitRequests_holds
end Go.Proofs.YtngicmoadobgpaaDoor
