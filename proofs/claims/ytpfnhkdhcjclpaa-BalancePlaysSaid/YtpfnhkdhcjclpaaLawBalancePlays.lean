/- The law BalancePlays: whatever its arguments, the call returns true, and they read behind it as before. Conditions: none but the row's own. -/
import Derived.Test.YtpfnhkdhcjclpaaRows
import Derived.Test.YtpfnhkdhcjclpaaBalS
import Derived.Test.YtpfnhkdhcjclpaaSxBase
import Derived.Test.YtpfnhkdhcjclpaaSxL
import Derived.OpenShut
namespace Go.Proofs.Ytpfnhkdhcjclpaa.balancePlays
open Go Go.Sx Go.ChangeShapes Go.WideShapes Go.ChangeAt Go.RowKit
open Go.ChangeMaps (open_string)
set_option linter.unusedVariables false
theorem own : ownKnob Try.prog.godebug = none := by kernel_rfl
theorem laidOut : laidOutB Try.prog = true := by kernel_rfl
set_option maxRecDepth 100000 in
theorem lifted (os : Os) (started : os.Started) (H : Type) (enc : TypeId × Value → H) :
    ReturnsInHanded {} Try.checked os 6 .any (Rows.balancePlaysSpec.pre6 enc Try.prog Try.f6 Rows.balancePlaysRow.domain false) (Rows.balancePlaysSpec.post enc Try.prog Try.f6 false true false false) := by
  refine returnsInHanded_of_change_sized (C := Try.checked) own started (by kernel_rfl) Try.func6
    (ChangeSpec.witness6 (enc := enc) (C := Try.checked) false ⟨#[], #[.int .i64 0, .slice none 0 0, .int .i64 0, .slice none 0 0], []⟩ 8 (by kernel_rfl) (by kernel_rfl) (by kernel_rfl) (by kernel_rfl)) ?_
  intro W base args ds gs before hval0 hW hcnd hsz0 _
  have hsz : (DataW.weightsEach Try.prog (Try.f6.params.toList ++ Rows.balancePlaysSpec.plain.varTypes Try.prog) (ds ++ gs)).all (· ≤ reachBytes) = true := hsz0
  clear hsz0
  have hval : ∀ (j : Nat) t v, Try.f6.params[j]? = some t → args[j]? = some v → Value.okWide Try.prog W .any base t v := hval0
  have hW' := hW
  obtain ⟨p, q, hA0, hV, rfl, hfz, hnd⟩ := hW
  have hA : DataW.TrodAll enc Try.prog W 0 (fun _ => true) true Try.f6.params.toList args.toList ds p := hA0
  rw [Try.params6] at hA hval hsz
  obtain ⟨v0, vs0, d0, ds0, p0, q0, hargs, rfl, rfl, h0, r0⟩ := trodAll_cons hA
  obtain ⟨v1, vs1, d1, ds1, p1, q1, rfl, rfl, rfl, h1, r1⟩ := trodAll_cons r0
  obtain ⟨v2, vs2, d2, ds2, p2, q2, rfl, rfl, rfl, h2, r2⟩ := trodAll_cons r1
  obtain ⟨v3, vs3, d3, ds3, p3, q3, rfl, rfl, rfl, h3, r3⟩ := trodAll_cons r2
  obtain ⟨rfl, rfl, rfl⟩ := trodAll_nil r3
  obtain rfl : args = #[v0, v1, v2, v3] := by cases args; simp_all
  obtain ⟨rfl, rfl⟩ := trodVars_none hV
  have hlt : ∀ x ∈ p0 ++ (p1 ++ (p2 ++ (p3 ++ []))), x.block < W.heap.size := fun x hx => hW'.lt x (by simpa using hx)
  have g0 := h0
  obtain ⟨a0, hv0, _, _, w0⟩ := open_int Try.underlying3 (hval 0 3 v0 rfl rfl) h0
  subst hv0
  have g1 := h1
  obtain ⟨A1, len1, cap1, hv1⟩ := okWide_slice Try.underlying46 (hval 1 46 v1 rfl rfl)
  subst hv1
  obtain ⟨dv1, hd1⟩ : ∃ dv, Sh.rd W (.slice 16 (.str)) [.slice A1 len1 cap1] dv := by
    obtain ⟨fuel, hf⟩ := h1
    exact Sh.rd_of (.slice 16 (.str)) (t := 46) (by kernel_rfl) hf (fun y hy => by have := List.all_eq_true.1 hsz y (DataW.weights_mem_each (j := 1) (t := 46) rfl rfl y hy); simpa using this)
  have g2 := h2
  obtain ⟨a2, hv2, _, _, w2⟩ := open_int Try.underlying3 (hval 2 3 v2 rfl rfl) h2
  subst hv2
  have g3 := h3
  obtain ⟨A3, len3, cap3, hv3⟩ := okWide_slice Try.underlying47 (hval 3 47 v3 rfl rfl)
  subst hv3
  obtain ⟨dv3, hd3⟩ : ∃ dv, Sh.rd W (.slice 64 (.agg [.slice 1 (.bool), .slice 8 (.int .i64), .str])) [.slice A3 len3 cap3] dv := by
    obtain ⟨fuel, hf⟩ := h3
    exact Sh.rd_of (.slice 64 (.agg [.slice 1 (.bool), .slice 8 (.int .i64), .str])) (t := 47) (by kernel_rfl) hf (fun y hy => by have := List.all_eq_true.1 hsz y (DataW.weights_mem_each (j := 3) (t := 47) rfl rfl y hy); simpa using this)
  refine (Tri.calls (R := fun v _ => v = .bool true) (balance_plays (wf_i64 w0) hd1 (wf_i64 w2) hd3)).mono fun e W' ⟨_, _, he, hv, hb⟩ => ?_
  subst hv; subst he
  exact ⟨_, rfl, _, _, _, [], _, [], hW', trodAll_cons_mk (shut_bool Try.underlying4 _) trodAll_mk0, trodAll_cons_mk (trod_below laidOut (by kernel_rfl) (of_decide_eq_true (by kernel_rfl)) g0 hb hlt (fun x hx => by simp [hx])) (trodAll_cons_mk (trod_below laidOut (by kernel_rfl) (of_decide_eq_true (by kernel_rfl)) g1 hb hlt (fun x hx => by simp [hx])) (trodAll_cons_mk (trod_below laidOut (by kernel_rfl) (of_decide_eq_true (by kernel_rfl)) g2 hb hlt (fun x hx => by simp [hx])) (trodAll_cons_mk (trod_below laidOut (by kernel_rfl) (of_decide_eq_true (by kernel_rfl)) g3 hb hlt (fun x hx => by simp [hx])) (trodAll_mk0)))), rfl, hb.frame _, fun h => by cases h⟩
theorem over : Rows.balancePlaysRow.holds Try.pinned (OpenSpec.ofChange Rows.balancePlaysSpec) :=
  OpenClaim.holds_of_wide 6 Try.f6 rfl rfl rfl rfl rfl rfl rfl ⟨rfl, rfl, rfl, rfl, rfl⟩ rfl rfl rfl rfl rfl (by kernel_rfl) Try.func6 (by kernel_rfl)
    (of_decide_eq_true (by kernel_rfl)) (by unfold Func.isWrapper; first | (rw [if_pos (by decide +kernel)]; kernel_rfl) | (rw [if_neg (by decide +kernel)]; exact ⟨rfl, rfl⟩))
    (fun os started H enc _ => lifted os started H enc)
end Go.Proofs.Ytpfnhkdhcjclpaa.balancePlays
namespace Go.Proofs.Ytpfnhkdhcjclpaa
theorem balancePlays_holds : Rows.BalancePlaysSaid := balancePlays.over
#print axioms balancePlays_holds
end Go.Proofs.Ytpfnhkdhcjclpaa
