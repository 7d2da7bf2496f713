/- The law EmitStrips: whatever its arguments, the call returns true, and they read behind it as before. Conditions: none but the row's own. -/
import Derived.Test.YtngicmoadobgpaaDoorRows
import Derived.Test.YtngicmoadobgpaaDoorTie
import Derived.Test.YtngicmoadobgpaaDoorCards
import Derived.Lay
import Derived.SevenTiedAt
import Derived.ProofKit
import Derived.LaidMore
import Derived.Stop.Joined
import Derived.Deep.DeepHandedRow
import Derived.Test.YtngicmoadobgpaaDoorU22
import Derived.Test.YtngicmoadobgpaaDoorU14
import Derived.Test.YtngicmoadobgpaaDoorU13
import Derived.OpenShut
namespace Go.Proofs.YtngicmoadobgpaaDoor.emitStrips
open Go Go.Sx Go.ChangeShapes Go.WideShapes Go.ChangeAt Go.RowKit
open Go.ChangeMaps (open_string)
set_option linter.unusedVariables false
def laidL : List (String × DataW Unit) := [("math/bits.deBruijn32tab", Rows.laid_math_bits_deBruijn32tab), ("math/bits.deBruijn64tab", Rows.laid_math_bits_deBruijn64tab), ("internal/strconv.uint64pow10", Rows.laid_internal_strconv_uint64pow10), ("unicode/utf8.acceptRanges", Rows.laid_unicode_utf8_acceptRanges), ("unicode/utf8.first", Rows.laid_unicode_utf8_first)]
theorem own : ownKnob Tryd.prog.godebug = none := by kernel_rfl
theorem laidOut : laidOutB Tryd.prog = true := by kernel_rfl
set_option maxRecDepth 100000 in
theorem lifted (os : Os) (started : os.Started) (H : Type) (enc : TypeId × Value → H) (F : Stop.Interp) :
    ReturnsInHanded {} Tryd.checked os 9 .any ((Rows.OpenSpec.upto Rows.emitStripsSpec).preRow enc Tryd.prog Tryd.f9 Rows.emitStripsUptoRow.domain false Rows.emitStripsUptoRow.laid) (((Rows.OpenSpec.upto Rows.emitStripsSpec).at F).post enc Tryd.prog Tryd.f9 false true false false) := by
  refine returnsInHanded_of_row (C := Tryd.checked) (s := (Rows.OpenSpec.upto Rows.emitStripsSpec)) own started (by kernel_rfl) Tryd.func9
    ⟨World.laidAll Tryd.prog os laidL, fun _ _ => 0, ⟨#[], #[.slice none 0 0, .bool false], []⟩, World.laidAll_os _ _ _, World.shaped_of_ZipB (by kernel_rfl) (by kernel_rfl), rfl, (Input.okWide_of_okWideB (by kernel_rfl)).2,
      OpenSpec.preRow_of_cond (x := ([.nil, .lit (.bool false)], [], [])) 8 (by kernel_rfl) (by kernel_rfl) (fun k hk => by cases hk; kernel_rfl) (by kernel_rfl) (laidMet_laidAll _ (by kernel_rfl) (by kernel_rfl)),
      by simp only [Assume.holds]; exact ⟨by simp, by simp, fun _ => Modest.zero, by simp, by simp⟩⟩ ?_
  intro W base args ds gs before hval0 hW _ hcond hsz0 hL _ _
  have hsz : (DataW.weightsEach Tryd.prog (Tryd.f9.params.toList ++ Rows.emitStripsSpec.plain.varTypes Tryd.prog) (ds ++ gs)).all (· ≤ reachBytes) = true := hsz0
  clear hsz0
  have hval : ∀ (j : Nat) t v, Tryd.f9.params[j]? = some t → args[j]? = some v → Value.okWide Tryd.prog W .any base t v := hval0
  have hW' := hW
  obtain ⟨p, q, hA0, hV, rfl, hfz, hnd⟩ := hW
  have hA : DataW.TrodAll enc Tryd.prog W 0 (fun _ => true) true Tryd.f9.params.toList args.toList ds p := hA0
  rw [Tryd.params9] at hA hval hsz
  obtain ⟨v0, vs0, d0, ds0, p0, q0, hargs, rfl, rfl, h0, r0⟩ := trodAll_cons hA
  obtain ⟨v1, vs1, d1, ds1, p1, q1, rfl, rfl, rfl, h1, r1⟩ := trodAll_cons r0
  obtain ⟨rfl, rfl, rfl⟩ := trodAll_nil r1
  obtain rfl : args = #[v0, v1] := by cases args; simp_all
  obtain ⟨rfl, rfl⟩ := trodVars_none hV
  have hlt : ∀ x ∈ p0 ++ (p1 ++ []), x.block < W.heap.size := fun x hx => hW'.lt x (by simpa using hx)
  have hup : Rows.uptoBulkAll _ ≤ 1048576 := of_decide_eq_true (hcond _ rfl)
  simp only [List.append_nil, Rows.uptoBulkAll] at hup
  have g0 := h0
  obtain ⟨A0, len0, cap0, hv0⟩ := okWide_slice Tryd.underlying38 (hval 0 38 v0 rfl rfl)
  subst hv0
  obtain ⟨dv0, hd0, hk0⟩ : ∃ dv, Sh.rd W (.slice 32 (.agg [.str, .str])) [.slice A0 len0 cap0] dv ∧ dv.bulk ≤ Rows.uptoBulk d0 - 1 := by
    obtain ⟨fuel, hf⟩ := h0
    exact Sh.rdB_of bulkR (.slice 32 (.agg [.str, .str])) (t := 38) (by kernel_rfl) hf (fun y hy => by have := List.all_eq_true.1 hsz y (DataW.weights_mem_each (j := 0) (t := 38) rfl rfl y hy); simpa using this)
  have g1 := h1
  obtain ⟨a1, hv1, _, _⟩ := open_bool Tryd.underlying4 (hval 1 4 v1 rfl rfl) h1
  subst hv1
  refine (Tri.calls (R := fun v _ => v = .bool true) (emit_strips (t10_of hL) hd0 (by omega))).mono fun e W' ⟨_, _, he, hv, hb⟩ => ?_
  subst hv; subst he
  exact ⟨_, rfl, _, _, _, [], _, [], hW', trodAll_cons_mk (shut_bool Tryd.underlying4 _) trodAll_mk0, trodAll_cons_mk (trod_below laidOut (by kernel_rfl) (of_decide_eq_true (by kernel_rfl)) g0 hb hlt (fun x hx => by simp [hx])) (trodAll_cons_mk (trod_below laidOut (by kernel_rfl) (of_decide_eq_true (by kernel_rfl)) g1 hb hlt (fun x hx => by simp [hx])) (trodAll_mk0)), rfl, hb.frame _, fun h => by cases h⟩
theorem over : Rows.emitStripsUptoRow.holds Tryd.pinned (Rows.OpenSpec.upto Rows.emitStripsSpec) :=
  OpenClaim.holds_of_cond 9 Tryd.f9 rfl rfl rfl rfl rfl rfl rfl ⟨rfl, rfl, rfl, rfl, rfl⟩ rfl rfl rfl rfl rfl (by kernel_rfl) Tryd.func9 (by kernel_rfl)
    (of_decide_eq_true (by kernel_rfl)) (by unfold Func.isWrapper; first | (rw [if_pos (by decide +kernel)]; kernel_rfl) | (rw [if_neg (by decide +kernel)]; exact ⟨rfl, rfl⟩))
    (fun os started H enc _ F => by rw [OpenClaim.pre_eq_preRow]; exact lifted os started H enc F)
end Go.Proofs.YtngicmoadobgpaaDoor.emitStrips
namespace Go.Proofs.YtngicmoadobgpaaDoor
theorem emitStrips_holds : Rows.EmitStripsUptoCardSaid :=
  Claim7.holds_tied_plain_at .later [] _ _ _ _
    emitStrips.over (fun _ h => by cases h) (by kernel_rfl) (fun _ h => by cases h) emitStripsUpto_row_tie rfl ⟨rfl, rfl⟩ (by kernel_rfl) rfl
    (fun f fn hf hfn => by
      obtain rfl : f = 9 := Option.some.inj ((show Tryd.prog.funcNamed "barbican/barbicanlaw13.EmitStrips" = some 9 by kernel_rfl).symm.trans hf) |>.symm
      obtain rfl : fn = Tryd.f9 := (Option.some.inj (Tryd.func9.symm.trans hfn)).symm
      exact ⟨by kernel_rfl, fun j t ht => by
        rw [Tryd.params9] at ht
        have hm : t ∈ [38, 4] := by simpa using Array.mem_of_getElem? ht
        have hall : ([38, 4].all fun u => !Tryd.prog.wantsStandIn u) = true := by kernel_rfl
        exact (show Tryd.prog.wantsStandIn t = false by simpa using List.all_eq_true.1 hall t hm)⟩)
    (by kernel_rfl)
#print axioms emitStrips_holds
end Go.Proofs.YtngicmoadobgpaaDoor
