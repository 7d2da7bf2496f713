/- The law ChunkDressed: whatever its arguments, the call returns true, and they read behind it as before. Conditions: none but the row's own. -/
import Derived.Test.YtngicmoadobgpaaDoorRows
import Derived.Test.YtngicmoadobgpaaDoorTie
import Derived.Test.YtngicmoadobgpaaDoorCards
import Derived.Lay
import Derived.SevenTiedAt
import Derived.ProofKit
import Derived.LaidMore
import Derived.Stop.Joined
import Derived.Deep.DeepHandedRow
import Derived.Test.YtngicmoadobgpaaDoorChunkK
import Derived.Test.YtngicmoadobgpaaDoorSxBase
import Derived.Test.YtngicmoadobgpaaDoorSxL
import Derived.OpenShut
namespace Go.Proofs.YtngicmoadobgpaaDoor.chunkDressed
open Go Go.Sx Go.ChangeShapes Go.WideShapes Go.ChangeAt Go.RowKit
open Go.ChangeMaps (open_string)
set_option linter.unusedVariables false
def laidL : List (String × DataW Unit) := [("unicode/utf8.acceptRanges", Rows.laid_unicode_utf8_acceptRanges), ("unicode/utf8.first", Rows.laid_unicode_utf8_first)]
theorem own : ownKnob Tryd.prog.godebug = none := by kernel_rfl
theorem laidOut : laidOutB Tryd.prog = true := by kernel_rfl
set_option maxRecDepth 100000 in
theorem lifted (os : Os) (started : os.Started) (H : Type) (enc : TypeId × Value → H) (F : Stop.Interp) :
    ReturnsInHanded {} Tryd.checked os 5 .any ((Rows.OpenSpec.upto Rows.chunkDressedSpec).preRow enc Tryd.prog Tryd.f5 Rows.chunkDressedUptoRow.domain false Rows.chunkDressedUptoRow.laid) (((Rows.OpenSpec.upto Rows.chunkDressedSpec).at F).post enc Tryd.prog Tryd.f5 false true false false) := by
  refine returnsInHanded_of_row (C := Tryd.checked) (s := (Rows.OpenSpec.upto Rows.chunkDressedSpec)) own started (by kernel_rfl) Tryd.func5
    ⟨World.laidAll Tryd.prog os laidL, fun _ _ => 0, ⟨#[], #[.slice none 0 0, .int .i64 0, .string ⟨#[]⟩, .int .i64 0], []⟩, World.laidAll_os _ _ _, World.shaped_of_ZipB (by kernel_rfl) (by kernel_rfl), rfl, (Input.okWide_of_okWideB (by kernel_rfl)).2,
      OpenSpec.preRow_of_cond (x := ([.nil, .lit (.int .i64 0), .lit (.string []), .lit (.int .i64 0)], [], [])) 8 (by kernel_rfl) (by kernel_rfl) (fun k hk => by cases hk; kernel_rfl) (by kernel_rfl) (laidMet_laidAll _ (by kernel_rfl) (by kernel_rfl)),
      by simp only [Assume.holds]; exact ⟨by simp, by simp, fun _ => Modest.zero, by simp, by simp⟩⟩ ?_
  intro W base args ds gs before hval0 hW _ hcond hsz0 hL _ _
  have hsz : (DataW.weightsEach Tryd.prog (Tryd.f5.params.toList ++ Rows.chunkDressedSpec.plain.varTypes Tryd.prog) (ds ++ gs)).all (· ≤ reachBytes) = true := hsz0
  clear hsz0
  have hval : ∀ (j : Nat) t v, Tryd.f5.params[j]? = some t → args[j]? = some v → Value.okWide Tryd.prog W .any base t v := hval0
  have hW' := hW
  obtain ⟨p, q, hA0, hV, rfl, hfz, hnd⟩ := hW
  have hA : DataW.TrodAll enc Tryd.prog W 0 (fun _ => true) true Tryd.f5.params.toList args.toList ds p := hA0
  rw [Tryd.params5] at hA hval hsz
  obtain ⟨v0, vs0, d0, ds0, p0, q0, hargs, rfl, rfl, h0, r0⟩ := trodAll_cons hA
  obtain ⟨v1, vs1, d1, ds1, p1, q1, rfl, rfl, rfl, h1, r1⟩ := trodAll_cons r0
  obtain ⟨v2, vs2, d2, ds2, p2, q2, rfl, rfl, rfl, h2, r2⟩ := trodAll_cons r1
  obtain ⟨v3, vs3, d3, ds3, p3, q3, rfl, rfl, rfl, h3, r3⟩ := trodAll_cons r2
  obtain ⟨rfl, rfl, rfl⟩ := trodAll_nil r3
  obtain rfl : args = #[v0, v1, v2, v3] := by cases args; simp_all
  obtain ⟨rfl, rfl⟩ := trodVars_none hV
  have hlt : ∀ x ∈ p0 ++ (p1 ++ (p2 ++ (p3 ++ []))), x.block < W.heap.size := fun x hx => hW'.lt x (by simpa using hx)
  have g0 := h0
  obtain ⟨A0, len0, cap0, hv0⟩ := okWide_slice Tryd.underlying29 (hval 0 29 v0 rfl rfl)
  subst hv0
  obtain ⟨dv0, hd0⟩ : ∃ dv, Sh.rd W (.slice 16 (.str)) [.slice A0 len0 cap0] dv := by
    obtain ⟨fuel, hf⟩ := h0
    exact Sh.rd_of (.slice 16 (.str)) (t := 29) (by kernel_rfl) hf (fun y hy => by have := List.all_eq_true.1 hsz y (DataW.weights_mem_each (j := 0) (t := 29) rfl rfl y hy); simpa using this)
  have g1 := h1
  obtain ⟨a1, hv1, _, _, w1⟩ := open_int Tryd.underlying3 (hval 1 3 v1 rfl rfl) h1
  subst hv1
  have g2 := h2
  obtain ⟨a2, hv2, hd2, _, w2⟩ := open_string Tryd.underlying9 (hval 2 9 v2 rfl rfl) h2
  subst hv2
  have hr2 : a2.size ≤ 140737488351232 := by
    subst hd2
    have := sized_string hsz (j := 2) (t := 9) rfl rfl
    simp only [reachBytes] at this; exact this
  have g3 := h3
  obtain ⟨a3, hv3, _, _, w3⟩ := open_int Tryd.underlying3 (hval 3 3 v3 rfl rfl) h3
  subst hv3
  refine (Tri.calls (R := fun v _ => v = .bool true) (chunk_dressed hd0 (wf_i64 w1) hr2 (wf_i64 w3))).mono fun e W' ⟨_, _, he, hv, hb⟩ => ?_
  subst hv; subst he
  exact ⟨_, rfl, _, _, _, [], _, [], hW', trodAll_cons_mk (shut_bool Tryd.underlying4 _) trodAll_mk0, trodAll_cons_mk (trod_below laidOut (by kernel_rfl) (of_decide_eq_true (by kernel_rfl)) g0 hb hlt (fun x hx => by simp [hx])) (trodAll_cons_mk (trod_below laidOut (by kernel_rfl) (of_decide_eq_true (by kernel_rfl)) g1 hb hlt (fun x hx => by simp [hx])) (trodAll_cons_mk (trod_below laidOut (by kernel_rfl) (of_decide_eq_true (by kernel_rfl)) g2 hb hlt (fun x hx => by simp [hx])) (trodAll_cons_mk (trod_below laidOut (by kernel_rfl) (of_decide_eq_true (by kernel_rfl)) g3 hb hlt (fun x hx => by simp [hx])) (trodAll_mk0)))), rfl, hb.frame _, fun h => by cases h⟩
theorem over : Rows.chunkDressedUptoRow.holds Tryd.pinned (Rows.OpenSpec.upto Rows.chunkDressedSpec) :=
  OpenClaim.holds_of_cond 5 Tryd.f5 rfl rfl rfl rfl rfl rfl rfl ⟨rfl, rfl, rfl, rfl, rfl⟩ rfl rfl rfl rfl rfl (by kernel_rfl) Tryd.func5 (by kernel_rfl)
    (of_decide_eq_true (by kernel_rfl)) (by unfold Func.isWrapper; first | (rw [if_pos (by decide +kernel)]; kernel_rfl) | (rw [if_neg (by decide +kernel)]; exact ⟨rfl, rfl⟩))
    (fun os started H enc _ F => by rw [OpenClaim.pre_eq_preRow]; exact lifted os started H enc F)
end Go.Proofs.YtngicmoadobgpaaDoor.chunkDressed
namespace Go.Proofs.YtngicmoadobgpaaDoor
theorem chunkDressed_holds : Rows.ChunkDressedUptoCardSaid :=
  Claim7.holds_tied_plain_at .later [] _ _ _ _
    chunkDressed.over (fun _ h => by cases h) (by kernel_rfl) (fun _ h => by cases h) chunkDressedUpto_row_tie rfl ⟨rfl, rfl⟩ (by kernel_rfl) rfl
    (fun f fn hf hfn => by
      obtain rfl : f = 5 := Option.some.inj ((show Tryd.prog.funcNamed "barbican/barbicanlaw10.ChunkDressed" = some 5 by kernel_rfl).symm.trans hf) |>.symm
      obtain rfl : fn = Tryd.f5 := (Option.some.inj (Tryd.func5.symm.trans hfn)).symm
      exact ⟨by kernel_rfl, fun j t ht => by
        rw [Tryd.params5] at ht
        have hm : t ∈ [29, 3, 9, 3] := by simpa using Array.mem_of_getElem? ht
        have hall : ([29, 3, 9, 3].all fun u => !Tryd.prog.wantsStandIn u) = true := by kernel_rfl
        exact (show Tryd.prog.wantsStandIn t = false by simpa using List.all_eq_true.1 hall t hm)⟩)
    (by kernel_rfl)
#print axioms chunkDressed_holds
end Go.Proofs.YtngicmoadobgpaaDoor
