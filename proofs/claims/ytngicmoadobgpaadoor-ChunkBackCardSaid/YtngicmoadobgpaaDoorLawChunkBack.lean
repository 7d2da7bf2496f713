/- The law ChunkBack: whatever its arguments, the call returns true, and they read behind it as before. Conditions: none but the row's own. -/
import Derived.Test.YtngicmoadobgpaaDoorRows
import Derived.Test.YtngicmoadobgpaaDoorTie
import Derived.Test.YtngicmoadobgpaaDoorCards
import Derived.Lay
import Derived.SevenTiedAt
import Derived.ProofKit
import Derived.LaidMore
import Derived.Stop.Joined
import Derived.Test.YtngicmoadobgpaaDoorChunkI
import Derived.Test.YtngicmoadobgpaaDoorChunkT
import Derived.Test.YtngicmoadobgpaaDoorSxBase
import Derived.Test.YtngicmoadobgpaaDoorSxL
import Derived.OpenShut
namespace Go.Proofs.YtngicmoadobgpaaDoor.chunkBack
open Go Go.Sx Go.ChangeShapes Go.WideShapes Go.ChangeAt Go.RowKit
open Go.ChangeMaps (open_string)
set_option linter.unusedVariables false
def laidL : List (String × DataW Unit) := [("math/bits.deBruijn32tab", Rows.laid_math_bits_deBruijn32tab), ("math/bits.deBruijn64tab", Rows.laid_math_bits_deBruijn64tab), ("internal/strconv.uint64pow10", Rows.laid_internal_strconv_uint64pow10), ("unicode/utf8.acceptRanges", Rows.laid_unicode_utf8_acceptRanges), ("unicode/utf8.first", Rows.laid_unicode_utf8_first)]
theorem own : ownKnob Tryd.prog.godebug = none := by kernel_rfl
theorem laidOut : laidOutB Tryd.prog = true := by kernel_rfl
set_option maxRecDepth 100000 in
theorem lifted (os : Os) (started : os.Started) (H : Type) (enc : TypeId × Value → H) :
    ReturnsInHanded {} Tryd.checked os 6 .any (fun w args => (Rows.chunkBackSpec.pre enc Tryd.prog Tryd.f6 Rows.chunkBackRow.domain false w args ∧ laidMetH Tryd.prog laidL w) ∧ sizedMet enc Tryd.prog Tryd.f6 (OpenSpec.ofChange Rows.chunkBackSpec) false w args) (Rows.chunkBackSpec.post enc Tryd.prog Tryd.f6 false true false false) := by
  refine returnsInHanded_of_change_and (C := Tryd.checked) (X := fun w _ => laidMetH Tryd.prog laidL w) (fun _ _ _ hh h => h.of_heap hh) own started (by kernel_rfl) Tryd.func6
    (ChangeSpec.witness_shaped (enc := enc) (C := Tryd.checked) (os := os) (X := fun w _ => laidMetH Tryd.prog laidL w) false (World.laidAll Tryd.prog os laidL) #[.slice none 0 0, .string ⟨#[]⟩] 8 (World.laidAll_os _ _ _) (World.shaped_of_ZipB (by kernel_rfl) (by kernel_rfl)) (by kernel_rfl) (by kernel_rfl) (by kernel_rfl) (by rw [MakeChecks.laidMetH_plain _ _ _ (by kernel_rfl)]; exact laidMet_laidAll _ (by kernel_rfl) (by kernel_rfl))) ?_
  intro W base args ds gs before hval0 hW hcnd hsz0 hL _
  have hsz : (DataW.weightsEach Tryd.prog (Tryd.f6.params.toList ++ Rows.chunkBackSpec.plain.varTypes Tryd.prog) (ds ++ gs)).all (· ≤ reachBytes) = true := hsz0
  clear hsz0
  have hval : ∀ (j : Nat) t v, Tryd.f6.params[j]? = some t → args[j]? = some v → Value.okWide Tryd.prog W .any base t v := hval0
  have hW' := hW
  obtain ⟨p, q, hA0, hV, rfl, hfz, hnd⟩ := hW
  have hA : DataW.TrodAll enc Tryd.prog W 0 (fun _ => true) true Tryd.f6.params.toList args.toList ds p := hA0
  rw [Tryd.params6] at hA hval hsz
  obtain ⟨v0, vs0, d0, ds0, p0, q0, hargs, rfl, rfl, h0, r0⟩ := trodAll_cons hA
  obtain ⟨v1, vs1, d1, ds1, p1, q1, rfl, rfl, rfl, h1, r1⟩ := trodAll_cons r0
  obtain ⟨rfl, rfl, rfl⟩ := trodAll_nil r1
  obtain rfl : args = #[v0, v1] := by cases args; simp_all
  obtain ⟨rfl, rfl⟩ := trodVars_none hV
  have hlt : ∀ x ∈ p0 ++ (p1 ++ []), x.block < W.heap.size := fun x hx => hW'.lt x (by simpa using hx)
  have g0 := h0
  obtain ⟨A0, len0, cap0, hv0⟩ := okWide_slice Tryd.underlying29 (hval 0 29 v0 rfl rfl)
  subst hv0
  obtain ⟨dv0, hd0⟩ : ∃ dv, Sh.rd W (.slice 16 (.str)) [.slice A0 len0 cap0] dv := by
    obtain ⟨fuel, hf⟩ := h0
    exact Sh.rd_of (.slice 16 (.str)) (t := 29) (by kernel_rfl) hf (fun y hy => by have := List.all_eq_true.1 hsz y (DataW.weights_mem_each (j := 0) (t := 29) rfl rfl y hy); simpa using this)
  have g1 := h1
  obtain ⟨a1, hv1, hd1, _, w1⟩ := open_string Tryd.underlying9 (hval 1 9 v1 rfl rfl) h1
  subst hv1
  have hr1 : a1.size ≤ 140737488351232 := by
    subst hd1
    have := sized_string hsz (j := 1) (t := 9) rfl rfl
    simp only [reachBytes] at this; exact this
  refine (Tri.calls (R := fun v _ => v = .bool true) (chunk_back (tail := a1.data.toList) (tz_of hL) hd0 hr1)).mono fun e W' ⟨_, _, he, hv, hb⟩ => ?_
  subst hv; subst he
  exact ⟨_, rfl, _, _, _, [], _, [], hW', trodAll_cons_mk (shut_bool Tryd.underlying4 _) trodAll_mk0, trodAll_cons_mk (trod_below laidOut (by kernel_rfl) (of_decide_eq_true (by kernel_rfl)) g0 hb hlt (fun x hx => by simp [hx])) (trodAll_cons_mk (trod_below laidOut (by kernel_rfl) (of_decide_eq_true (by kernel_rfl)) g1 hb hlt (fun x hx => by simp [hx])) (trodAll_mk0)), rfl, hb.frame _, fun h => by cases h⟩
theorem over : Rows.chunkBackRow.holds Tryd.pinned (OpenSpec.ofChange Rows.chunkBackSpec) :=
  OpenClaim.holds_of_wide 6 Tryd.f6 rfl rfl rfl rfl rfl rfl rfl ⟨rfl, rfl, rfl, rfl, rfl⟩ rfl rfl rfl rfl rfl (by kernel_rfl) Tryd.func6 (by kernel_rfl)
    (of_decide_eq_true (by kernel_rfl)) (by unfold Func.isWrapper; first | (rw [if_pos (by decide +kernel)]; kernel_rfl) | (rw [if_neg (by decide +kernel)]; exact ⟨rfl, rfl⟩))
    (fun os started H enc _ => lifted os started H enc)
end Go.Proofs.YtngicmoadobgpaaDoor.chunkBack
namespace Go.Proofs.YtngicmoadobgpaaDoor
theorem chunkBack_holds : Rows.ChunkBackCardSaid :=
  Claim7.holds_tied_plain_at .later [] [.data, .data, .data, .data, .pinned] true (true, "d46235d9de69618c1e4aacbab866f5441e5ed20240eaa3f15966e210d189392a") false
    chunkBack.over (fun _ h => by cases h) (by kernel_rfl) (fun _ h => by cases h) chunkBack_row_tie rfl ⟨rfl, rfl⟩ (by kernel_rfl) rfl
    (fun f fn hf hfn => by
      obtain rfl : f = 6 := Option.some.inj ((show Tryd.prog.funcNamed "barbican/barbicanlaw10.ChunkBack" = some 6 by kernel_rfl).symm.trans hf) |>.symm
      obtain rfl : fn = Tryd.f6 := (Option.some.inj (Tryd.func6.symm.trans hfn)).symm
      exact ⟨by kernel_rfl, fun j t ht => by
        rw [Tryd.params6] at ht
        have hm : t ∈ [29, 9] := by simpa using Array.mem_of_getElem? ht
        have hall : ([29, 9].all fun u => !Tryd.prog.wantsStandIn u) = true := by kernel_rfl
        exact (show Tryd.prog.wantsStandIn t = false by simpa using List.all_eq_true.1 hall t hm)⟩)
    (by kernel_rfl)
#print axioms chunkBack_holds
end Go.Proofs.YtngicmoadobgpaaDoor
