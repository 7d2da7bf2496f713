/- The law PoolOrder: whatever its arguments, the call returns true, and they read behind it as before. Conditions: none but the row's own. -/
import Derived.Test.YtpfnhkdhcjclpaaRows
import Derived.Test.YtpfnhkdhcjclpaaPoolI
import Derived.Test.YtpfnhkdhcjclpaaSxL
import Derived.OpenShut
namespace Go.Proofs.Ytpfnhkdhcjclpaa.poolOrder
open Go Go.Sx Go.ChangeShapes Go.WideShapes Go.ChangeAt Go.RowKit
open Go.ChangeMaps (open_string)
set_option linter.unusedVariables false
theorem own : ownKnob Try.prog.godebug = none := by kernel_rfl
theorem laidOut : laidOutB Try.prog = true := by kernel_rfl
set_option maxRecDepth 100000 in
theorem lifted (os : Os) (started : os.Started) (H : Type) (enc : TypeId × Value → H) :
    ReturnsInHanded {} Try.checked os 4 .any (Rows.poolOrderSpec.pre6 enc Try.prog Try.f4 Rows.poolOrderRow.domain false) (Rows.poolOrderSpec.post enc Try.prog Try.f4 false true false false) := by
  refine returnsInHanded_of_change_sized (C := Try.checked) own started (by kernel_rfl) Try.func4
    (ChangeSpec.witness6 (enc := enc) (C := Try.checked) false ⟨#[], #[.int .i64 0, .slice none 0 0], []⟩ 8 (by kernel_rfl) (by kernel_rfl) (by kernel_rfl) (by kernel_rfl)) ?_
  intro W base args ds gs before hval0 hW hcnd hsz0 _
  have hsz : (DataW.weightsEach Try.prog (Try.f4.params.toList ++ Rows.poolOrderSpec.plain.varTypes Try.prog) (ds ++ gs)).all (· ≤ reachBytes) = true := hsz0
  clear hsz0
  have hval : ∀ (j : Nat) t v, Try.f4.params[j]? = some t → args[j]? = some v → Value.okWide Try.prog W .any base t v := hval0
  have hW' := hW
  obtain ⟨p, q, hA0, hV, rfl, hfz, hnd⟩ := hW
  have hA : DataW.TrodAll enc Try.prog W 0 (fun _ => true) true Try.f4.params.toList args.toList ds p := hA0
  rw [Try.params4] at hA hval hsz
  obtain ⟨v0, vs0, d0, ds0, p0, q0, hargs, rfl, rfl, h0, r0⟩ := trodAll_cons hA
  obtain ⟨v1, vs1, d1, ds1, p1, q1, rfl, rfl, rfl, h1, r1⟩ := trodAll_cons r0
  obtain ⟨rfl, rfl, rfl⟩ := trodAll_nil r1
  obtain rfl : args = #[v0, v1] := by cases args; simp_all
  obtain ⟨rfl, rfl⟩ := trodVars_none hV
  have hlt : ∀ x ∈ p0 ++ (p1 ++ []), x.block < W.heap.size := fun x hx => hW'.lt x (by simpa using hx)
  have g0 := h0
  obtain ⟨a0, hv0, _, _, w0⟩ := open_int Try.underlying3 (hval 0 3 v0 rfl rfl) h0
  subst hv0
  have g1 := h1
  obtain ⟨A1, len1, cap1, hv1⟩ := okWide_slice Try.underlying32 (hval 1 32 v1 rfl rfl)
  obtain ⟨ys1, hb1, hk1, hz1⟩ := base_ints Try.underlying32 Try.underlying3 (by kernel_rfl) ⟨_, _, _, hv1⟩ h1
  have hr1 : ys1.length * 8 ≤ 140737488351232 := by
    rcases hz1 with rfl | ⟨el, sp, hd, hl⟩
    · simp
    · subst hd
      have := sized_slice hsz (j := 1) (t := 32) (e := 3) rfl rfl Try.underlying32
      rw [show Try.prog.bytesOf 3 = 8 from by kernel_rfl] at this
      simp only [reachBytes] at this; rw [← hl]; omega
  refine (Tri.calls (R := fun v _ => v = .bool true) (order_spec (wf_i64 w0) hb1 hr1)).mono fun e W' ⟨_, _, he, hv, hb⟩ => ?_
  subst hv; subst he
  exact ⟨_, rfl, _, _, _, [], _, [], hW', trodAll_cons_mk (shut_bool Try.underlying4 _) trodAll_mk0, trodAll_cons_mk (trod_below laidOut (by kernel_rfl) (of_decide_eq_true (by kernel_rfl)) g0 hb hlt (fun x hx => by simp [hx])) (trodAll_cons_mk (trod_below laidOut (by kernel_rfl) (of_decide_eq_true (by kernel_rfl)) g1 hb hlt (fun x hx => by simp [hx])) (trodAll_mk0)), rfl, hb.frame _, fun h => by cases h⟩
theorem over : Rows.poolOrderRow.holds Try.pinned (OpenSpec.ofChange Rows.poolOrderSpec) :=
  OpenClaim.holds_of_wide 4 Try.f4 rfl rfl rfl rfl rfl rfl rfl ⟨rfl, rfl, rfl, rfl, rfl⟩ rfl rfl rfl rfl rfl (by kernel_rfl) Try.func4 (by kernel_rfl)
    (of_decide_eq_true (by kernel_rfl)) (by unfold Func.isWrapper; first | (rw [if_pos (by decide +kernel)]; kernel_rfl) | (rw [if_neg (by decide +kernel)]; exact ⟨rfl, rfl⟩))
    (fun os started H enc _ => lifted os started H enc)
end Go.Proofs.Ytpfnhkdhcjclpaa.poolOrder
namespace Go.Proofs.Ytpfnhkdhcjclpaa
theorem poolOrder_holds : Rows.PoolOrderSaid := poolOrder.over
#print axioms poolOrder_holds
end Go.Proofs.Ytpfnhkdhcjclpaa
