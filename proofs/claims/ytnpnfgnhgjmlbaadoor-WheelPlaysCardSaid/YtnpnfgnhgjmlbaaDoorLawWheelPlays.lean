/- The law WheelPlays: whatever its arguments, the call returns true, and they read behind it as before. Conditions: none but the row's own. -/
import Derived.Test.YtnpnfgnhgjmlbaaDoorRows
import Derived.Test.YtnpnfgnhgjmlbaaDoorTie
import Derived.Test.YtnpnfgnhgjmlbaaDoorCards
import Derived.Test.YtnpnfgnhgjmlbaaDoorWheelT
import Derived.SevenTiedAt
import Derived.ProofKit
import Derived.LaidMore
import Derived.Stop.Joined
import Derived.Test.YtnpnfgnhgjmlbaaDoorWheelLZ
import Derived.Test.YtnpnfgnhgjmlbaaDoorSxL
import Derived.OpenShut
namespace Go.Proofs.YtnpnfgnhgjmlbaaDoor.wheelPlays
open Go Go.Sx Go.ChangeShapes Go.WideShapes Go.ChangeAt Go.RowKit
open Go.ChangeMaps (open_string)
set_option linter.unusedVariables false
theorem own : ownKnob Tryd.prog.godebug = none := by kernel_rfl
theorem laidOut : laidOutB Tryd.prog = true := by kernel_rfl
set_option maxRecDepth 100000 in
theorem lifted (os : Os) (started : os.Started) (H : Type) (enc : TypeId × Value → H) :
    ReturnsInHanded {} Tryd.checked os 8 .any (fun w args => (Rows.wheelPlaysSpec.pre enc Tryd.prog Tryd.f8 Rows.wheelPlaysRow.domain false w args ∧ laidMetH Tryd.prog laidL w) ∧ sizedMet enc Tryd.prog Tryd.f8 (OpenSpec.ofChange Rows.wheelPlaysSpec) false w args) (Rows.wheelPlaysSpec.post enc Tryd.prog Tryd.f8 false true false false) := by
  refine returnsInHanded_of_change_and (C := Tryd.checked) (X := fun w _ => laidMetH Tryd.prog laidL w) (fun _ _ _ hh h => h.of_heap hh) own started (by kernel_rfl) Tryd.func8
    (ChangeSpec.witness_shaped (enc := enc) (C := Tryd.checked) (os := os) (X := fun w _ => laidMetH Tryd.prog laidL w) false (World.doorLaid Tryd.prog 400 os) #[.slice none 0 0] 8 rfl (World.shaped_of_RefB (by kernel_rfl) (by kernel_rfl)) (by kernel_rfl) (by kernel_rfl) (by kernel_rfl) (door_met os _)) ?_
  intro W base args ds gs before hval0 hW hcnd hsz0 hL _
  have db := of_laid hL
  have hsz : (DataW.weightsEach Tryd.prog (Tryd.f8.params.toList ++ Rows.wheelPlaysSpec.plain.varTypes Tryd.prog) (ds ++ gs)).all (· ≤ reachBytes) = true := hsz0
  clear hsz0
  have hval : ∀ (j : Nat) t v, Tryd.f8.params[j]? = some t → args[j]? = some v → Value.okWide Tryd.prog W .any base t v := hval0
  have hW' := hW
  obtain ⟨p, q, hA0, hV, rfl, hfz, hnd⟩ := hW
  have hA : DataW.TrodAll enc Tryd.prog W 0 (fun _ => true) true Tryd.f8.params.toList args.toList ds p := hA0
  rw [Tryd.params8] at hA hval hsz
  obtain ⟨v0, vs0, d0, ds0, p0, q0, hargs, rfl, rfl, h0, r0⟩ := trodAll_cons hA
  obtain ⟨rfl, rfl, rfl⟩ := trodAll_nil r0
  obtain rfl : args = #[v0] := by cases args; simp_all
  obtain ⟨rfl, rfl⟩ := trodVars_none hV
  have hlt : ∀ x ∈ p0 ++ [], x.block < W.heap.size := fun x hx => hW'.lt x (by simpa using hx)
  have g0 := h0
  obtain ⟨A0, len0, cap0, hv0⟩ := okWide_slice Tryd.underlying40 (hval 0 40 v0 rfl rfl)
  obtain ⟨ys0, hb0, hk0, hz0⟩ := base_struct (ks := [.int .i64, .int .i64, .int .i64]) Tryd.underlying40 Tryd.underlying46 (by decide) (by kernel_rfl) (by kernel_rfl) ⟨Tryd.underlying3, Tryd.underlying3, Tryd.underlying3, trivial⟩ ⟨_, _, _, hv0⟩ h0
  have hr0 : ys0.length * 24 ≤ 140737488351232 := by
    rcases hz0 with rfl | ⟨el, sp, hd, hl⟩
    · simp
    · subst hd
      have := sized_slice hsz (j := 0) (t := 40) (e := 46) rfl rfl Tryd.underlying40
      rw [show Tryd.prog.bytesOf 46 = 24 from by kernel_rfl] at this
      simp only [reachBytes] at this; rw [← hl]; omega
  refine (Tri.calls (R := fun v _ => v = .bool true) (wplays db hb0 hk0 hr0)).mono fun e W' ⟨_, _, he, hv, hb⟩ => ?_
  subst hv; subst he
  exact ⟨_, rfl, _, _, _, [], _, [], hW', trodAll_cons_mk (shut_bool Tryd.underlying4 _) trodAll_mk0, trodAll_cons_mk (trod_below laidOut (by kernel_rfl) (of_decide_eq_true (by kernel_rfl)) g0 hb hlt (fun x hx => by simp [hx])) (trodAll_mk0), rfl, hb.frame _, fun h => by cases h⟩
theorem over : Rows.wheelPlaysRow.holds Tryd.pinned (OpenSpec.ofChange Rows.wheelPlaysSpec) :=
  OpenClaim.holds_of_wide 8 Tryd.f8 rfl rfl rfl rfl rfl rfl rfl ⟨rfl, rfl, rfl, rfl, rfl⟩ rfl rfl rfl rfl rfl (by kernel_rfl) Tryd.func8 (by kernel_rfl)
    (of_decide_eq_true (by kernel_rfl)) (by unfold Func.isWrapper; first | (rw [if_pos (by decide +kernel)]; kernel_rfl) | (rw [if_neg (by decide +kernel)]; exact ⟨rfl, rfl⟩))
    (fun os started H enc _ => lifted os started H enc)
end Go.Proofs.YtnpnfgnhgjmlbaaDoor.wheelPlays
namespace Go.Proofs.YtnpnfgnhgjmlbaaDoor
theorem wheelPlays_holds : Rows.WheelPlaysCardSaid :=
  Claim7.holds_tied_plain_at .later [] [.data] true (true, "40df3e8f2ba6686518fb4eaa512537cd7d2a3ac61d895bb76893719f8a081137") false
    wheelPlays.over (fun _ h => by cases h) (by kernel_rfl) (fun _ h => by cases h) wheelPlays_row_tie rfl ⟨rfl, rfl⟩ (by kernel_rfl) rfl
    (fun f fn hf hfn => by
      obtain rfl : f = 8 := Option.some.inj ((show Tryd.prog.funcNamed "barbican/barbicanlaw02.WheelPlays" = some 8 by kernel_rfl).symm.trans hf) |>.symm
      obtain rfl : fn = Tryd.f8 := (Option.some.inj (Tryd.func8.symm.trans hfn)).symm
      exact ⟨by kernel_rfl, fun j t ht => by
        rw [Tryd.params8] at ht
        have hm : t ∈ [40] := by simpa using Array.mem_of_getElem? ht
        have hall : ([40].all fun u => !Tryd.prog.wantsStandIn u) = true := by kernel_rfl
        exact (show Tryd.prog.wantsStandIn t = false by simpa using List.all_eq_true.1 hall t hm)⟩)
    (by kernel_rfl)
#print axioms wheelPlays_holds
end Go.Proofs.YtnpnfgnhgjmlbaaDoor
