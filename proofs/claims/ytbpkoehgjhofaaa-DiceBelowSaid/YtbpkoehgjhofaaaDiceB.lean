/- DiceBelow comes to true. Conditions: numbers are of their kinds. -/
import Derived.Test.YtbpkoehgjhofaaaDice
namespace Go.Proofs.Ytbpkoehgjhofaaa
open Go Go.Sx Go.DiceM
variable {w0 : World} {H : List HProp}
theorem belowD_le' (d n : Int) : d ≤ belowD d n ∧ belowD d n ≤ d + 1 := by unfold belowD; split <;> omega
theorem jitterD_le' (d n p : Int) : d ≤ jitterD d n p ∧ jitterD d n p ≤ d + 1 := by unfold jitterD; split <;> omega
theorem belowI_zero (s : Int) {n : Int} (hn : n < 1) : belowI s n = 0 := by unfold belowI; rw [if_pos hn]
theorem jitterI_off (s : Int) {n p : Int} (h : ¬ jit n p) : jitterI s n p = n := by unfold jitterI; rw [if_neg h]
theorem jitterI_le (s : Int) {n p : Int} (h : jit n p) : n - n * p / 100 ≤ jitterI s n p ∧ jitterI s n p ≤ n := by
  have hm := jit_mul h
  unfold jitterI; rw [if_pos h]
  have := belowI_lt s (n := n * p / 100 + 1) (by omega)
  omega
set_option maxHeartbeats 4000000 in
theorem below_ok {s n p : Int} (hn : -9223372036854775808 ≤ n ∧ n ≤ 9223372036854775807) : Tri Try.prog 8 #[.int .i64 s, .int .i64 n, .int .i64 p] w0 H (fun v _ => v = .bool true) := by
  have jm : 1 ≤ n → n ≤ 1099511627776 → 1 ≤ p → p ≤ 100 → 0 ≤ n * p ∧ n * p ≤ 109951162777600 := fun a b c d => jit_mul ⟨a, b, c, d⟩
  refine Tri.enter Try.func8 rfl Try.ntmps8 rfl ?_
  repeat' (first
    | refine anchor_spec (fun H' => ?_)
    | refine new_spec _ (fun bb => ?_)
    | refine XO.q TT_ok rfl rfl rfl rfl rfl ?_
    | refine XO.nil ?_
    | refine XS.seq ?_
    | refine XS.region (T := TT) ?_
    | refine XS.draw (T := TT) follows_ok (by decide +kernel) ?_
    | refine XS.block ?_
    | refine XS.inBlock ?_
    | refine XS.exit rfl ?_
    | refine XS.condT rfl ?_
    | refine XS.condF rfl ?_
    | refine XS.skip ?_
    | refine XS.label ?_
    | refine XO.load TT_ok rfl rfl rfl rfl rfl rfl (Reads.here rfl) ?_
    | refine XO.load TT_ok rfl rfl rfl rfl rfl rfl (Reads.skip (Reads.here rfl)) ?_
    | refine XO.load TT_ok rfl rfl rfl rfl rfl rfl (Reads.skip (Reads.skip (Reads.here rfl))) ?_
    | refine XO.load TT_ok rfl rfl rfl rfl rfl rfl (Reads.skip (Reads.skip (Reads.skip (Reads.here rfl)))) ?_
    | refine XO.load TT_ok rfl rfl rfl rfl rfl rfl (Reads.skip (Reads.skip (Reads.skip (Reads.skip (Reads.here rfl))))) ?_
    | refine XO.load TT_ok rfl rfl rfl rfl rfl rfl (Reads.skip (Reads.skip (Reads.skip (Reads.skip (Reads.skip (Reads.here rfl)))))) ?_
    | refine XO.no rfl rfl ?_
    | (refine XO.cmpI TT_ok rfl rfl rfl rfl rfl rfl rfl (fun hc => ?_) (fun hc => ?_) <;> (try (exfalso; omega)))
    | refine XO.pT TT_ok rfl rfl rfl rfl rfl ?_
    | refine XO.pF TT_ok rfl rfl rfl rfl rfl ?_
    | refine XO.cmp TT_ok rfl rfl rfl rfl rfl (fun hc => ?_) (fun hc => ?_)
    | refine XO.add64 TT_ok rfl rfl rfl rfl rfl rfl (by omega) (by omega) ?_
    | refine XO.sub64 TT_ok rfl rfl rfl rfl rfl rfl (by omega) (by omega) ?_
    | refine XO.mul64 TT_ok rfl rfl rfl rfl rfl rfl (by omega) (by omega) ?_
    | refine XO.quo64 rfl rfl rfl rfl rfl (by omega) (by omega) (by omega) ?_
    | refine XO.rem64 rfl rfl rfl rfl rfl (by omega) (by omega) ?_
    | refine XO.p TT_ok rfl rfl rfl rfl ?_
    | refine XO.storeL TT_ok trivial rfl rfl rfl rfl rfl rfl rfl rfl rfl rfl trivial ?_
    | refine XO.ent Ent.front1 (XO.storeL TT_ok trivial rfl rfl rfl rfl rfl rfl rfl rfl rfl rfl trivial ?_)
    | refine XO.ent Ent.front2 (XO.storeL TT_ok trivial rfl rfl rfl rfl rfl rfl rfl rfl rfl rfl trivial ?_)
    | refine XO.ent Ent.front3 (XO.storeL TT_ok trivial rfl rfl rfl rfl rfl rfl rfl rfl rfl rfl trivial ?_)
    | refine XO.ent Ent.front4 (XO.storeL TT_ok trivial rfl rfl rfl rfl rfl rfl rfl rfl rfl rfl trivial ?_)
    | refine XO.ent Ent.front5 (XO.storeL TT_ok trivial rfl rfl rfl rfl rfl rfl rfl rfl rfl rfl trivial ?_)
    | refine XO.box trivial rfl rfl rfl rfl rfl (fun _ => trivial) (fun bb => ?_)
    | refine XO.alloc TT_ok trivial rfl rfl rfl rfl rfl (fun _ => trivial) (fun bb => ?_)
    | refine XO.build TT_ok rfl rfl rfl rfl rfl ?_
    | refine XO.lenSlice TT_ok rfl rfl rfl rfl rfl rfl ?_
    | refine XO.lenString TT_ok rfl rfl rfl rfl rfl rfl ?_
    | refine XO.indexStr TT_ok rfl rfl rfl rfl rfl rfl (by omega) (by omega) ?_
    | refine XO.indexAddr TT_ok rfl rfl rfl rfl rfl rfl rfl (by omega) (by omega) ?_
    | refine XO.addStr rfl rfl rfl rfl rfl (by omega) ?_
    | refine XO.buildSlice TT_ok trivial rfl rfl rfl rfl rfl rfl rfl rfl rfl rfl rfl rfl (fun _ => trivial) (fun bb => ?_)
    | refine XO.callF rfl rfl rfl (by kernel_rfl) rfl ?_)
  rename_i b1
  rename Nat => b2
  refine XS.loopI (ι := Nat × Int × Int) (fun x => [(1, .int .i64 n), (2, .int .i64 p), (7, ptr b1), (8, ptr b2), (9, .int .i64 x.1)]) (fun x => dice b1 x.2.1 x.2.2 :: dice b2 x.2.1 x.2.2 :: H') (fun x => x.1 ≤ 20 ∧ 0 ≤ x.2.2 ∧ x.2.2 ≤ 2 * x.1) (fun x => 20 - x.1) (0, IntKind.u64.wrap s, 0) ⟨Nat.zero_le _, Int.le_refl _, Int.le_refl _⟩ ⟨rfl, rfl, rfl, rfl, rfl, trivial⟩ (by repeat' (first | exact Ent.refl _ | exact Ent.dropAll _ | refine Ent.cons _ ?_ | refine Ent.trans Ent.front1 (Ent.cons _ ?_) | refine Ent.trans Ent.front2 (Ent.cons _ ?_) | refine Ent.trans Ent.front3 (Ent.cons _ ?_) | refine Ent.trans Ent.front4 (Ent.cons _ ?_) | refine Ent.trans Ent.front5 (Ent.cons _ ?_) | refine Ent.trans (Ent.drop _ _) ?_)) ?_
  rintro ⟨k, S, D⟩ e ⟨hk, h0, h1⟩ ih
  have hb2 := belowD_le' D n
  have hb3 := jitterD_le' (belowD D n) n p
  have g1 : 1 ≤ n → 0 ≤ belowI S n ∧ belowI S n < n := belowI_lt S
  have g2 : n < 1 → belowI S n = 0 := belowI_zero S
  have g3 : ¬ (1 ≤ n ∧ n ≤ 1099511627776 ∧ 1 ≤ p ∧ p ≤ 100) → jitterI (belowS S n) n p = n := jitterI_off _
  have g4 : (1 ≤ n ∧ n ≤ 1099511627776 ∧ 1 ≤ p ∧ p ≤ 100) → n - n * p / 100 ≤ jitterI (belowS S n) n p ∧ jitterI (belowS S n) n p ≤ n := jitterI_le _
  generalize hbi : belowI S n = x at *
  generalize hji : jitterI (belowS S n) n p = y at *
  simp only at *
  repeat' (first
    | (refine Tri.ent Ent.front1 (below_spec (by omega) hn ?_); rw [hbi])
    | (refine below_spec (by omega) hn ?_; rw [hbi])
    | (refine Tri.ent Ent.front1 (jitter_spec (by omega) hn ?_); rw [hji])
    | (refine jitter_spec (by omega) hn ?_; rw [hji])
    | refine drawn_spec ?_
    | refine Tri.ent Ent.front1 (drawn_spec ?_)
    | refine Tri.ent Ent.front2 (drawn_spec ?_)
    | refine Tri.ent Ent.front3 (drawn_spec ?_)
    | refine Tri.ent Ent.front4 (drawn_spec ?_)
    | refine XO.q TT_ok rfl rfl rfl rfl rfl ?_
    | refine XO.nil ?_
    | refine XS.seq ?_
    | refine XS.region (T := TT) ?_
    | refine XS.draw (T := TT) follows_ok (by decide +kernel) ?_
    | refine XS.block ?_
    | refine XS.inBlock ?_
    | refine XS.exit rfl ?_
    | refine XS.condT rfl ?_
    | refine XS.condF rfl ?_
    | refine XS.skip ?_
    | refine XS.label ?_
    | refine XO.load TT_ok rfl rfl rfl rfl rfl rfl (Reads.here rfl) ?_
    | refine XO.load TT_ok rfl rfl rfl rfl rfl rfl (Reads.skip (Reads.here rfl)) ?_
    | refine XO.load TT_ok rfl rfl rfl rfl rfl rfl (Reads.skip (Reads.skip (Reads.here rfl))) ?_
    | refine XO.load TT_ok rfl rfl rfl rfl rfl rfl (Reads.skip (Reads.skip (Reads.skip (Reads.here rfl)))) ?_
    | refine XO.load TT_ok rfl rfl rfl rfl rfl rfl (Reads.skip (Reads.skip (Reads.skip (Reads.skip (Reads.here rfl))))) ?_
    | refine XO.load TT_ok rfl rfl rfl rfl rfl rfl (Reads.skip (Reads.skip (Reads.skip (Reads.skip (Reads.skip (Reads.here rfl)))))) ?_
    | refine XO.no rfl rfl ?_
    | (refine XO.cmpI TT_ok rfl rfl rfl rfl rfl rfl rfl (fun hc => ?_) (fun hc => ?_) <;> (try (exfalso; omega)))
    | refine XO.pT TT_ok rfl rfl rfl rfl rfl ?_
    | refine XO.pF TT_ok rfl rfl rfl rfl rfl ?_
    | refine XO.cmp TT_ok rfl rfl rfl rfl rfl (fun hc => ?_) (fun hc => ?_)
    | refine XO.add64 TT_ok rfl rfl rfl rfl rfl rfl (by omega) (by omega) ?_
    | refine XO.sub64 TT_ok rfl rfl rfl rfl rfl rfl (by omega) (by omega) ?_
    | refine XO.mul64 TT_ok rfl rfl rfl rfl rfl rfl (by omega) (by omega) ?_
    | refine XO.quo64 rfl rfl rfl rfl rfl (by omega) (by omega) (by omega) ?_
    | refine XO.rem64 rfl rfl rfl rfl rfl (by omega) (by omega) ?_
    | refine XO.p TT_ok rfl rfl rfl rfl ?_
    | refine XO.storeL TT_ok trivial rfl rfl rfl rfl rfl rfl rfl rfl rfl rfl trivial ?_
    | refine XO.ent Ent.front1 (XO.storeL TT_ok trivial rfl rfl rfl rfl rfl rfl rfl rfl rfl rfl trivial ?_)
    | refine XO.ent Ent.front2 (XO.storeL TT_ok trivial rfl rfl rfl rfl rfl rfl rfl rfl rfl rfl trivial ?_)
    | refine XO.ent Ent.front3 (XO.storeL TT_ok trivial rfl rfl rfl rfl rfl rfl rfl rfl rfl rfl trivial ?_)
    | refine XO.ent Ent.front4 (XO.storeL TT_ok trivial rfl rfl rfl rfl rfl rfl rfl rfl rfl rfl trivial ?_)
    | refine XO.ent Ent.front5 (XO.storeL TT_ok trivial rfl rfl rfl rfl rfl rfl rfl rfl rfl rfl trivial ?_)
    | refine XO.box trivial rfl rfl rfl rfl rfl (fun _ => trivial) (fun bb => ?_)
    | refine XO.alloc TT_ok trivial rfl rfl rfl rfl rfl (fun _ => trivial) (fun bb => ?_)
    | refine XO.build TT_ok rfl rfl rfl rfl rfl ?_
    | refine XO.lenSlice TT_ok rfl rfl rfl rfl rfl rfl ?_
    | refine XO.lenString TT_ok rfl rfl rfl rfl rfl rfl ?_
    | refine XO.indexStr TT_ok rfl rfl rfl rfl rfl rfl (by omega) (by omega) ?_
    | refine XO.indexAddr TT_ok rfl rfl rfl rfl rfl rfl rfl (by omega) (by omega) ?_
    | refine XO.addStr rfl rfl rfl rfl rfl (by omega) ?_
    | refine XO.buildSlice TT_ok trivial rfl rfl rfl rfl rfl rfl rfl rfl rfl rfl rfl rfl (fun _ => trivial) (fun bb => ?_)
    | refine XO.callF rfl rfl rfl (by kernel_rfl) rfl ?_)
  all_goals first
    | exact XS.ret1 Try.func8 rfl Try.results8 rfl (Ent.refl _) rfl
    | exact ih (k+1, jitterS (belowS S n) n p, jitterD (belowD D n) n p) _ _ ⟨by dsimp only; omega, by dsimp only; omega, by dsimp only; omega⟩ (by dsimp only; omega) ⟨rfl,rfl,rfl,rfl,rfl,trivial⟩ (by repeat' (first | exact Ent.refl _ | exact Ent.dropAll _ | refine Ent.cons _ ?_ | refine Ent.trans Ent.front1 (Ent.cons _ ?_) | refine Ent.trans Ent.front2 (Ent.cons _ ?_) | refine Ent.trans Ent.front3 (Ent.cons _ ?_) | refine Ent.trans Ent.front4 (Ent.cons _ ?_) | refine Ent.trans Ent.front5 (Ent.cons _ ?_) | refine Ent.trans (Ent.drop _ _) ?_))
end Go.Proofs.Ytbpkoehgjhofaaa
