/- What the laws' helpers of the health come to. Conditions: none. -/
import Derived.Test.YtbpkoehgjhofaaaHealth
namespace Go.Proofs.Ytbpkoehgjhofaaa.He
open Go Go.Sx
variable {w0 : World} {F H : List HProp} {K : Value → List HProp → Prop}
def Right (h f e p : Int) : Prop := 1 ≤ h ∧ h ≤ 16 ∧ 1 ≤ f ∧ f ≤ 1000 ∧ 1 ≤ e ∧ e ≤ 1048576 ∧ 0 ≤ p ∧ p ≤ 100
set_option maxHeartbeats 1000000 in
theorem right_spec {a b c d : Int} (h1 : Right a b c d → K (.bool true) H) (h2 : ¬ Right a b c d → K (.bool false) H) : Tri Try.prog 30 #[.int .i64 a, .int .i64 b, .int .i64 c, .int .i64 d] w0 H K := by
  unfold Right at h1 h2
  refine Tri.enter Try.func30 rfl Try.ntmps30 rfl ?_
  repeat' (first
    | refine XO.q TT_ok rfl rfl rfl rfl rfl ?_
    | refine XO.nil ?_
    | refine XS.seq ?_
    | refine XS.region (T := TT) ?_
    | refine XS.draw (T := TT) follows_ok (by decide +kernel) ?_
    | refine XS.block ?_
    | refine XS.inBlock ?_
    | refine XS.exit rfl ?_
    | refine XS.condT rfl ?_
    | refine XS.condF rfl ?_
    | refine XS.skip ?_
    | refine XS.label ?_
    | refine XO.load TT_ok rfl rfl rfl rfl rfl rfl (Reads.here rfl) ?_
    | refine XO.load TT_ok rfl rfl rfl rfl rfl rfl (Reads.skip (Reads.here rfl)) ?_
    | refine XO.load TT_ok rfl rfl rfl rfl rfl rfl (Reads.skip (Reads.skip (Reads.here rfl))) ?_
    | refine XO.load TT_ok rfl rfl rfl rfl rfl rfl (Reads.skip (Reads.skip (Reads.skip (Reads.here rfl)))) ?_
    | refine XO.load TT_ok rfl rfl rfl rfl rfl rfl (Reads.skip (Reads.skip (Reads.skip (Reads.skip (Reads.here rfl))))) ?_
    | refine XO.load TT_ok rfl rfl rfl rfl rfl rfl (Reads.skip (Reads.skip (Reads.skip (Reads.skip (Reads.skip (Reads.here rfl)))))) ?_
    | refine XO.no rfl rfl ?_
    | (refine XO.cmpI TT_ok rfl rfl rfl rfl rfl rfl rfl (fun hc => ?_) (fun hc => ?_) <;> (try (exfalso; omega)))
    | refine XO.pT TT_ok rfl rfl rfl rfl rfl ?_
    | refine XO.pF TT_ok rfl rfl rfl rfl rfl ?_
    | refine XO.cmp TT_ok rfl rfl rfl rfl rfl (fun hc => ?_) (fun hc => ?_)
    | refine XO.add64 TT_ok rfl rfl rfl rfl rfl rfl (by omega) (by omega) ?_
    | refine XO.sub64 TT_ok rfl rfl rfl rfl rfl rfl (by omega) (by omega) ?_
    | refine XO.mul64 TT_ok rfl rfl rfl rfl rfl rfl (by omega) (by omega) ?_
    | refine XO.quo64 rfl rfl rfl rfl rfl (by omega) (by omega) (by omega) ?_
    | refine XO.rem64 rfl rfl rfl rfl rfl (by omega) (by omega) ?_
    | refine XO.p TT_ok rfl rfl rfl rfl ?_
    | refine XO.storeL TT_ok trivial rfl rfl rfl rfl rfl rfl rfl rfl rfl rfl trivial ?_
    | refine XO.ent Ent.front1 (XO.storeL TT_ok trivial rfl rfl rfl rfl rfl rfl rfl rfl rfl rfl trivial ?_)
    | refine XO.ent Ent.front2 (XO.storeL TT_ok trivial rfl rfl rfl rfl rfl rfl rfl rfl rfl rfl trivial ?_)
    | refine XO.ent Ent.front3 (XO.storeL TT_ok trivial rfl rfl rfl rfl rfl rfl rfl rfl rfl rfl trivial ?_)
    | refine XO.ent Ent.front4 (XO.storeL TT_ok trivial rfl rfl rfl rfl rfl rfl rfl rfl rfl rfl trivial ?_)
    | refine XO.ent Ent.front5 (XO.storeL TT_ok trivial rfl rfl rfl rfl rfl rfl rfl rfl rfl rfl trivial ?_)
    | refine XO.box trivial rfl rfl rfl rfl rfl (fun _ => trivial) (fun bb => ?_)
    | refine XO.alloc TT_ok trivial rfl rfl rfl rfl rfl (fun _ => trivial) (fun bb => ?_)
    | refine XO.build TT_ok rfl rfl rfl rfl rfl ?_
    | refine XO.lenSlice TT_ok rfl rfl rfl rfl rfl rfl ?_
    | refine XO.lenString TT_ok rfl rfl rfl rfl rfl rfl ?_
    | refine XO.indexStr TT_ok rfl rfl rfl rfl rfl rfl (by omega) (by omega) ?_
    | refine XO.indexAddr TT_ok rfl rfl rfl rfl rfl rfl rfl (by omega) (by omega) ?_
    | refine XO.addStr rfl rfl rfl rfl rfl (by omega) ?_
    | refine XO.buildSlice TT_ok trivial rfl rfl rfl rfl rfl rfl rfl rfl rfl rfl rfl rfl (fun _ => trivial) (fun bb => ?_)
    | refine XO.callF rfl rfl rfl (by kernel_rfl) rfl ?_)
  all_goals first
    | exact XS.ret1 Try.func30 rfl Try.results30 rfl (Ent.refl _) (h1 (by omega))
    | exact XS.ret1 Try.func30 rfl Try.results30 rfl (Ent.refl _) (h2 (by omega))
def A0 : HS := ⟨2, 10, 50, [(0, 0), (0, 0)], 0, 0⟩
def A1 : HS := ⟨2, 10, 50, [(1, 0), (0, 0)], 0, 0⟩
def A2 : HS := ⟨2, 10, 50, [(0, 11), (0, 0)], 1, 1⟩
theorem fitA0 : A0.Fit := ⟨by decide, by decide, by decide, by decide, by decide, by decide, by decide⟩
theorem fitA1 : A1.Fit := ⟨by decide, by decide, by decide, by decide, by decide, by decide, by decide⟩
theorem fitA2 : A2.Fit := ⟨by decide, by decide, by decide, by decide, by decide, by decide, by decide⟩
theorem fitA3 : HS.Fit { A2 with seen := 10 } := ⟨by decide, by decide, by decide, by decide, by decide, by decide, by decide⟩
theorem eA1 : repS A0 0 0 (0, 0) false = A1 := rfl
theorem eA2 : repS A1 1 0 (1, 0) false = A2 := rfl
theorem oA2 : openL A2 10 = [false, true] := by decide
theorem oA3 : openL { A2 with seen := 10 } 11 = [true, true] := by decide
theorem lenA2 : A2.rows.length = 2 := rfl
theorem lenA3 : ({ A2 with seen := 10 } : HS).rows.length = 2 := rfl
set_option maxHeartbeats 2000000 in
theorem anchor_spec (h : ∀ H', K (.bool true) H') : Tri Try.prog 29 #[] w0 H K := by
  refine Tri.enter Try.func29 rfl Try.ntmps29 rfl ?_
  repeat' (first
    | refine XO.q TT_ok rfl rfl rfl rfl rfl ?_
    | refine XO.nil ?_
    | (refine new_spec (k := 2) (by decide) (fun bb => ?_); change XO _ _ _ _ _ _ _ _ _ _ (health bb A0 :: _))
    | (refine report_false (i := 0) fitA0 rfl (fun h => absurd h (by decide)) (fun _ _ => ?_); rw [eA1])
    | (refine report_false (i := 0) fitA1 rfl (fun h => absurd h (by decide)) (fun _ _ => ?_); rw [eA2])
    | (refine open_spec fitA2 (fun h => absurd h (by decide)) (fun _ _ g => ?_); rw [oA2, lenA2])
    | (refine Tri.ent Ent.front1 (open_spec fitA3 (fun h => absurd h (by decide)) (fun _ _ g' => ?_)); rw [oA3, lenA3])
    | refine ejs_spec ?_
    | refine Tri.ent Ent.front1 (ejs_spec ?_)
    | refine Tri.ent Ent.front2 (ejs_spec ?_)
    | refine Tri.ent Ent.front3 (ejs_spec ?_)
    | refine Tri.ent Ent.front4 (ejs_spec ?_)
    | refine XS.seq ?_
    | refine XS.region (T := TT) ?_
    | refine XS.draw (T := TT) follows_ok (by decide +kernel) ?_
    | refine XS.block ?_
    | refine XS.inBlock ?_
    | refine XS.exit rfl ?_
    | refine XS.condT rfl ?_
    | refine XS.condF rfl ?_
    | refine XS.skip ?_
    | refine XS.label ?_
    | refine XO.load TT_ok rfl rfl rfl rfl rfl rfl (Reads.here rfl) ?_
    | refine XO.load TT_ok rfl rfl rfl rfl rfl rfl (Reads.skip (Reads.here rfl)) ?_
    | refine XO.load TT_ok rfl rfl rfl rfl rfl rfl (Reads.skip (Reads.skip (Reads.here rfl))) ?_
    | refine XO.load TT_ok rfl rfl rfl rfl rfl rfl (Reads.skip (Reads.skip (Reads.skip (Reads.here rfl)))) ?_
    | refine XO.load TT_ok rfl rfl rfl rfl rfl rfl (Reads.skip (Reads.skip (Reads.skip (Reads.skip (Reads.here rfl))))) ?_
    | refine XO.load TT_ok rfl rfl rfl rfl rfl rfl (Reads.skip (Reads.skip (Reads.skip (Reads.skip (Reads.skip (Reads.here rfl)))))) ?_
    | refine XO.no rfl rfl ?_
    | (refine XO.cmpI TT_ok rfl rfl rfl rfl rfl rfl rfl (fun hc => ?_) (fun hc => ?_) <;> (try (exfalso; omega)))
    | refine XO.pT TT_ok rfl rfl rfl rfl rfl ?_
    | refine XO.pF TT_ok rfl rfl rfl rfl rfl ?_
    | refine XO.cmp TT_ok rfl rfl rfl rfl rfl (fun hc => ?_) (fun hc => ?_)
    | refine XO.add64 TT_ok rfl rfl rfl rfl rfl rfl (by omega) (by omega) ?_
    | refine XO.sub64 TT_ok rfl rfl rfl rfl rfl rfl (by omega) (by omega) ?_
    | refine XO.mul64 TT_ok rfl rfl rfl rfl rfl rfl (by omega) (by omega) ?_
    | refine XO.quo64 rfl rfl rfl rfl rfl (by omega) (by omega) (by omega) ?_
    | refine XO.rem64 rfl rfl rfl rfl rfl (by omega) (by omega) ?_
    | refine XO.p TT_ok rfl rfl rfl rfl ?_
    | refine XO.storeL TT_ok trivial rfl rfl rfl rfl rfl rfl rfl rfl rfl rfl trivial ?_
    | refine XO.ent Ent.front1 (XO.storeL TT_ok trivial rfl rfl rfl rfl rfl rfl rfl rfl rfl rfl trivial ?_)
    | refine XO.ent Ent.front2 (XO.storeL TT_ok trivial rfl rfl rfl rfl rfl rfl rfl rfl rfl rfl trivial ?_)
    | refine XO.ent Ent.front3 (XO.storeL TT_ok trivial rfl rfl rfl rfl rfl rfl rfl rfl rfl rfl trivial ?_)
    | refine XO.ent Ent.front4 (XO.storeL TT_ok trivial rfl rfl rfl rfl rfl rfl rfl rfl rfl rfl trivial ?_)
    | refine XO.ent Ent.front5 (XO.storeL TT_ok trivial rfl rfl rfl rfl rfl rfl rfl rfl rfl rfl trivial ?_)
    | refine XO.box trivial rfl rfl rfl rfl rfl (fun _ => trivial) (fun bb => ?_)
    | refine XO.alloc TT_ok trivial rfl rfl rfl rfl rfl (fun _ => trivial) (fun bb => ?_)
    | refine XO.build TT_ok rfl rfl rfl rfl rfl ?_
    | refine XO.lenSlice TT_ok rfl rfl rfl rfl rfl rfl ?_
    | refine XO.lenString TT_ok rfl rfl rfl rfl rfl rfl ?_
    | refine XO.indexStr TT_ok rfl rfl rfl rfl rfl rfl (by omega) (by omega) ?_
    | refine XO.indexAddr TT_ok rfl rfl rfl rfl rfl rfl rfl (by omega) (by omega) ?_
    | refine XO.addStr rfl rfl rfl rfl rfl (by omega) ?_
    | refine XO.buildSlice TT_ok trivial rfl rfl rfl rfl rfl rfl rfl rfl rfl rfl rfl rfl (fun _ => trivial) (fun bb => ?_)
    | refine XO.callF rfl rfl rfl (by kernel_rfl) rfl ?_)
  · exact XS.ret1 Try.func29 rfl Try.results29 rfl (Ent.refl _) (h _)
  · exact absurd rfl hc
end Go.Proofs.Ytbpkoehgjhofaaa.He
