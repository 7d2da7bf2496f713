/- WheelRefuses comes to true. Conditions: the table of the lowest bits lies in memory. -/
import Derived.Test.YtnpnfgnhgjmlbaaDoorWheelL
namespace Go.Proofs.YtnpnfgnhgjmlbaaDoor
open Go Go.Sx Go.WheelM
variable {w0 : World} {F H : List HProp} {K : Value → List HProp → Prop}
set_option maxHeartbeats 4000000 in
theorem wrefuses (db : DB w0) {now id at' : Int} : Tri Tryd.prog 7 #[kI now, kI id, kI at'] w0 H (fun v _ => v = .bool true) := by
  refine Tri.enter Tryd.func7 rfl Tryd.ntmps7 rfl ?_
  by_cases hnow : 0 ≤ now ∧ now ≤ 1099511627776
  · obtain ⟨t, rfl⟩ := Int.eq_ofNat_of_zero_le hnow.1
    have ht : t ≤ 1099511627776 := by omega
    have hb : ¬ OkAt t ((t : Int) - 1) := by unfold OkAt; omega
    by_cases g1 : OkId id
    · by_cases g2 : OkAt t at'
      · obtain ⟨a, rfl⟩ := Int.eq_ofNat_of_zero_le (show 0 ≤ at' by unfold OkAt at g2; omega)
        have g1' := g1
        have g2' := g2
        unfold OkId at g1'
        unfold OkAt at g2'
        repeat' (first
          | refine XO.q TT_ok rfl rfl rfl rfl rfl ?_
          | refine XO.nil ?_
          | refine wanchor_spec db (fun H' => ?_)
          | refine wnew_spec (fun b => ?_)
          | refine adv_nil db (Nat.zero_le _) ht (fun x cap => ?_)
          | refine set_nil g1 g2 ?_
          | refine Tri.ent Ent.front1 (set_nil g1 g2 ?_)
          | refine Tri.ent Ent.front2 (set_nil g1 g2 ?_)
          | refine Tri.ent Ent.front3 (set_nil g1 g2 ?_)
          | refine Tri.ent Ent.front4 (set_nil g1 g2 ?_)
          | refine next_one db ?_
          | refine Tri.ent Ent.front1 (next_one db ?_)
          | refine Tri.ent Ent.front2 (next_one db ?_)
          | refine Tri.ent Ent.front3 (next_one db ?_)
          | refine Tri.ent Ent.front4 (next_one db ?_)
          | refine len_at 1 rfl ?_
          | refine Tri.ent Ent.front1 (len_at 1 rfl ?_)
          | refine Tri.ent Ent.front2 (len_at 1 rfl ?_)
          | refine Tri.ent Ent.front3 (len_at 1 rfl ?_)
          | refine Tri.ent Ent.front4 (len_at 1 rfl ?_)
          | refine len_at 0 rfl ?_
          | refine Tri.ent Ent.front1 (len_at 0 rfl ?_)
          | refine Tri.ent Ent.front2 (len_at 0 rfl ?_)
          | refine Tri.ent Ent.front3 (len_at 0 rfl ?_)
          | refine Tri.ent Ent.front4 (len_at 0 rfl ?_)
          | refine XS.seq ?_
          | refine XS.region (T := TT) ?_
          | refine XS.draw (T := TT) follows_ok (by decide +kernel) ?_
          | refine XS.block ?_
          | refine XS.inBlock ?_
          | refine XS.exit rfl ?_
          | refine XS.condT rfl ?_
          | refine XS.condF rfl ?_
          | refine XS.skip ?_
          | refine XS.label ?_
          | refine XO.load TT_ok rfl rfl rfl rfl rfl rfl (Reads.here rfl) ?_
          | refine XO.load TT_ok rfl rfl rfl rfl rfl rfl (Reads.skip (Reads.here rfl)) ?_
          | refine XO.load TT_ok rfl rfl rfl rfl rfl rfl (Reads.skip (Reads.skip (Reads.here rfl))) ?_
          | refine XO.load TT_ok rfl rfl rfl rfl rfl rfl (Reads.skip (Reads.skip (Reads.skip (Reads.here rfl)))) ?_
          | refine XO.load TT_ok rfl rfl rfl rfl rfl rfl (Reads.skip (Reads.skip (Reads.skip (Reads.skip (Reads.here rfl))))) ?_
          | refine XO.load TT_ok rfl rfl rfl rfl rfl rfl (Reads.skip (Reads.skip (Reads.skip (Reads.skip (Reads.skip (Reads.here rfl)))))) ?_
          | refine XO.no rfl rfl ?_
          | (refine XO.cmpI TT_ok rfl rfl rfl rfl rfl rfl rfl (fun hc => ?_) (fun hc => ?_) <;> (try (exfalso; omega)))
          | refine XO.pT TT_ok rfl rfl rfl rfl rfl ?_
          | refine XO.pF TT_ok rfl rfl rfl rfl rfl ?_
          | refine XO.cmp TT_ok rfl rfl rfl rfl rfl (fun hc => ?_) (fun hc => ?_)
          | refine XO.add64 TT_ok rfl rfl rfl rfl rfl rfl (by omega) (by omega) ?_
          | refine XO.sub64 TT_ok rfl rfl rfl rfl rfl rfl (by omega) (by omega) ?_
          | refine XO.mul64 TT_ok rfl rfl rfl rfl rfl rfl (by omega) (by omega) ?_
          | refine XO.quo64 rfl rfl rfl rfl rfl (by omega) (by omega) (by omega) ?_
          | refine XO.rem64 rfl rfl rfl rfl rfl (by omega) (by omega) ?_
          | refine XO.p TT_ok rfl rfl rfl rfl ?_
          | refine XO.storeL TT_ok trivial rfl rfl rfl rfl rfl rfl rfl rfl rfl rfl trivial ?_
          | refine XO.ent Ent.front1 (XO.storeL TT_ok trivial rfl rfl rfl rfl rfl rfl rfl rfl rfl rfl trivial ?_)
          | refine XO.ent Ent.front2 (XO.storeL TT_ok trivial rfl rfl rfl rfl rfl rfl rfl rfl rfl rfl trivial ?_)
          | refine XO.ent Ent.front3 (XO.storeL TT_ok trivial rfl rfl rfl rfl rfl rfl rfl rfl rfl rfl trivial ?_)
          | refine XO.ent Ent.front4 (XO.storeL TT_ok trivial rfl rfl rfl rfl rfl rfl rfl rfl rfl rfl trivial ?_)
          | refine XO.ent Ent.front5 (XO.storeL TT_ok trivial rfl rfl rfl rfl rfl rfl rfl rfl rfl rfl trivial ?_)
          | refine XO.box trivial rfl rfl rfl rfl rfl (fun _ => trivial) (fun bb => ?_)
          | refine XO.alloc TT_ok trivial rfl rfl rfl rfl rfl (fun _ => trivial) (fun bb => ?_)
          | refine XO.build TT_ok rfl rfl rfl rfl rfl ?_
          | refine XO.lenSlice TT_ok rfl rfl rfl rfl rfl rfl ?_
          | refine XO.lenString TT_ok rfl rfl rfl rfl rfl rfl ?_
          | refine XO.indexStr TT_ok rfl rfl rfl rfl rfl rfl (by omega) (by omega) ?_
          | refine XO.indexAddr TT_ok rfl rfl rfl rfl rfl rfl rfl (by omega) (by omega) ?_
          | refine XO.addStr rfl rfl rfl rfl rfl (by omega) ?_
          | refine XO.buildSlice TT_ok trivial rfl rfl rfl rfl rfl rfl rfl rfl rfl rfl rfl rfl (fun _ => trivial) (fun bb => ?_)
          | refine XO.callF rfl rfl rfl (by kernel_rfl) rfl ?_)
        all_goals exact XS.ret1 Tryd.func7 rfl Tryd.results7 rfl (Ent.refl _) rfl
      · have g1' := g1
        have g2' := g2
        unfold OkId at g1'
        unfold OkAt at g2'
        repeat' (first
          | refine XO.q TT_ok rfl rfl rfl rfl rfl ?_
          | refine XO.nil ?_
          | refine wanchor_spec db (fun H' => ?_)
          | refine wnew_spec (fun b => ?_)
          | refine adv_nil db (Nat.zero_le _) ht (fun x cap => ?_)
          | refine set_bad (by decide) (fun h => absurd g1 h) (fun _ _ => ?_) (fun _ h => absurd h g2) (fun h => g2 h.2.1)
          | refine Tri.ent Ent.front1 (set_bad (by decide) (fun h => absurd g1 h) (fun _ _ => ?_) (fun _ h => absurd h g2) (fun h => g2 h.2.1))
          | refine Tri.ent Ent.front2 (set_bad (by decide) (fun h => absurd g1 h) (fun _ _ => ?_) (fun _ h => absurd h g2) (fun h => g2 h.2.1))
          | refine Tri.ent Ent.front3 (set_bad (by decide) (fun h => absurd g1 h) (fun _ _ => ?_) (fun _ h => absurd h g2) (fun h => g2 h.2.1))
          | refine Tri.ent Ent.front4 (set_bad (by decide) (fun h => absurd g1 h) (fun _ _ => ?_) (fun _ h => absurd h g2) (fun h => g2 h.2.1))
          | refine next_nil db ?_
          | refine Tri.ent Ent.front1 (next_nil db ?_)
          | refine Tri.ent Ent.front2 (next_nil db ?_)
          | refine Tri.ent Ent.front3 (next_nil db ?_)
          | refine Tri.ent Ent.front4 (next_nil db ?_)
          | refine len_at 1 rfl ?_
          | refine Tri.ent Ent.front1 (len_at 1 rfl ?_)
          | refine Tri.ent Ent.front2 (len_at 1 rfl ?_)
          | refine Tri.ent Ent.front3 (len_at 1 rfl ?_)
          | refine Tri.ent Ent.front4 (len_at 1 rfl ?_)
          | refine len_at 0 rfl ?_
          | refine Tri.ent Ent.front1 (len_at 0 rfl ?_)
          | refine Tri.ent Ent.front2 (len_at 0 rfl ?_)
          | refine Tri.ent Ent.front3 (len_at 0 rfl ?_)
          | refine Tri.ent Ent.front4 (len_at 0 rfl ?_)
          | refine adv_bad hb ?_
          | refine Tri.ent Ent.front1 (adv_bad hb ?_)
          | refine Tri.ent Ent.front2 (adv_bad hb ?_)
          | refine Tri.ent Ent.front3 (adv_bad hb ?_)
          | refine Tri.ent Ent.front4 (adv_bad hb ?_)
          | refine now_spec ?_
          | refine Tri.ent Ent.front1 (now_spec ?_)
          | refine Tri.ent Ent.front2 (now_spec ?_)
          | refine Tri.ent Ent.front3 (now_spec ?_)
          | refine Tri.ent Ent.front4 (now_spec ?_)
          | refine cancel_nil ?_
          | refine Tri.ent Ent.front1 (cancel_nil ?_)
          | refine Tri.ent Ent.front2 (cancel_nil ?_)
          | refine Tri.ent Ent.front3 (cancel_nil ?_)
          | refine Tri.ent Ent.front4 (cancel_nil ?_)
          | refine XS.seq ?_
          | refine XS.region (T := TT) ?_
          | refine XS.draw (T := TT) follows_ok (by decide +kernel) ?_
          | refine XS.block ?_
          | refine XS.inBlock ?_
          | refine XS.exit rfl ?_
          | refine XS.condT rfl ?_
          | refine XS.condF rfl ?_
          | refine XS.skip ?_
          | refine XS.label ?_
          | refine XO.load TT_ok rfl rfl rfl rfl rfl rfl (Reads.here rfl) ?_
          | refine XO.load TT_ok rfl rfl rfl rfl rfl rfl (Reads.skip (Reads.here rfl)) ?_
          | refine XO.load TT_ok rfl rfl rfl rfl rfl rfl (Reads.skip (Reads.skip (Reads.here rfl))) ?_
          | refine XO.load TT_ok rfl rfl rfl rfl rfl rfl (Reads.skip (Reads.skip (Reads.skip (Reads.here rfl)))) ?_
          | refine XO.load TT_ok rfl rfl rfl rfl rfl rfl (Reads.skip (Reads.skip (Reads.skip (Reads.skip (Reads.here rfl))))) ?_
          | refine XO.load TT_ok rfl rfl rfl rfl rfl rfl (Reads.skip (Reads.skip (Reads.skip (Reads.skip (Reads.skip (Reads.here rfl)))))) ?_
          | refine XO.no rfl rfl ?_
          | (refine XO.cmpI TT_ok rfl rfl rfl rfl rfl rfl rfl (fun hc => ?_) (fun hc => ?_) <;> (try (exfalso; omega)))
          | refine XO.pT TT_ok rfl rfl rfl rfl rfl ?_
          | refine XO.pF TT_ok rfl rfl rfl rfl rfl ?_
          | refine XO.cmp TT_ok rfl rfl rfl rfl rfl (fun hc => ?_) (fun hc => ?_)
          | refine XO.add64 TT_ok rfl rfl rfl rfl rfl rfl (by omega) (by omega) ?_
          | refine XO.sub64 TT_ok rfl rfl rfl rfl rfl rfl (by omega) (by omega) ?_
          | refine XO.mul64 TT_ok rfl rfl rfl rfl rfl rfl (by omega) (by omega) ?_
          | refine XO.quo64 rfl rfl rfl rfl rfl (by omega) (by omega) (by omega) ?_
          | refine XO.rem64 rfl rfl rfl rfl rfl (by omega) (by omega) ?_
          | refine XO.p TT_ok rfl rfl rfl rfl ?_
          | refine XO.storeL TT_ok trivial rfl rfl rfl rfl rfl rfl rfl rfl rfl rfl trivial ?_
          | refine XO.ent Ent.front1 (XO.storeL TT_ok trivial rfl rfl rfl rfl rfl rfl rfl rfl rfl rfl trivial ?_)
          | refine XO.ent Ent.front2 (XO.storeL TT_ok trivial rfl rfl rfl rfl rfl rfl rfl rfl rfl rfl trivial ?_)
          | refine XO.ent Ent.front3 (XO.storeL TT_ok trivial rfl rfl rfl rfl rfl rfl rfl rfl rfl rfl trivial ?_)
          | refine XO.ent Ent.front4 (XO.storeL TT_ok trivial rfl rfl rfl rfl rfl rfl rfl rfl rfl rfl trivial ?_)
          | refine XO.ent Ent.front5 (XO.storeL TT_ok trivial rfl rfl rfl rfl rfl rfl rfl rfl rfl rfl trivial ?_)
          | refine XO.box trivial rfl rfl rfl rfl rfl (fun _ => trivial) (fun bb => ?_)
          | refine XO.alloc TT_ok trivial rfl rfl rfl rfl rfl (fun _ => trivial) (fun bb => ?_)
          | refine XO.build TT_ok rfl rfl rfl rfl rfl ?_
          | refine XO.lenSlice TT_ok rfl rfl rfl rfl rfl rfl ?_
          | refine XO.lenString TT_ok rfl rfl rfl rfl rfl rfl ?_
          | refine XO.indexStr TT_ok rfl rfl rfl rfl rfl rfl (by omega) (by omega) ?_
          | refine XO.indexAddr TT_ok rfl rfl rfl rfl rfl rfl rfl (by omega) (by omega) ?_
          | refine XO.addStr rfl rfl rfl rfl rfl (by omega) ?_
          | refine XO.buildSlice TT_ok trivial rfl rfl rfl rfl rfl rfl rfl rfl rfl rfl rfl rfl (fun _ => trivial) (fun bb => ?_)
          | refine XO.callF rfl rfl rfl (by kernel_rfl) rfl ?_)
        all_goals exact XS.ret1 Tryd.func7 rfl Tryd.results7 rfl (Ent.refl _) rfl
    · have g1' := g1
      unfold OkId at g1'
      repeat' (first
        | refine XO.q TT_ok rfl rfl rfl rfl rfl ?_
        | refine XO.nil ?_
        | refine wanchor_spec db (fun H' => ?_)
        | refine wnew_spec (fun b => ?_)
        | refine adv_nil db (Nat.zero_le _) ht (fun x cap => ?_)
        | refine set_bad (by decide) (fun _ => ?_) (fun h => absurd h g1) (fun h => absurd h g1) (fun h => g1 h.1)
        | refine Tri.ent Ent.front1 (set_bad (by decide) (fun _ => ?_) (fun h => absurd h g1) (fun h => absurd h g1) (fun h => g1 h.1))
        | refine Tri.ent Ent.front2 (set_bad (by decide) (fun _ => ?_) (fun h => absurd h g1) (fun h => absurd h g1) (fun h => g1 h.1))
        | refine Tri.ent Ent.front3 (set_bad (by decide) (fun _ => ?_) (fun h => absurd h g1) (fun h => absurd h g1) (fun h => g1 h.1))
        | refine Tri.ent Ent.front4 (set_bad (by decide) (fun _ => ?_) (fun h => absurd h g1) (fun h => absurd h g1) (fun h => g1 h.1))
        | refine next_nil db ?_
        | refine Tri.ent Ent.front1 (next_nil db ?_)
        | refine Tri.ent Ent.front2 (next_nil db ?_)
        | refine Tri.ent Ent.front3 (next_nil db ?_)
        | refine Tri.ent Ent.front4 (next_nil db ?_)
        | refine len_at 1 rfl ?_
        | refine Tri.ent Ent.front1 (len_at 1 rfl ?_)
        | refine Tri.ent Ent.front2 (len_at 1 rfl ?_)
        | refine Tri.ent Ent.front3 (len_at 1 rfl ?_)
        | refine Tri.ent Ent.front4 (len_at 1 rfl ?_)
        | refine len_at 0 rfl ?_
        | refine Tri.ent Ent.front1 (len_at 0 rfl ?_)
        | refine Tri.ent Ent.front2 (len_at 0 rfl ?_)
        | refine Tri.ent Ent.front3 (len_at 0 rfl ?_)
        | refine Tri.ent Ent.front4 (len_at 0 rfl ?_)
        | refine adv_bad hb ?_
        | refine Tri.ent Ent.front1 (adv_bad hb ?_)
        | refine Tri.ent Ent.front2 (adv_bad hb ?_)
        | refine Tri.ent Ent.front3 (adv_bad hb ?_)
        | refine Tri.ent Ent.front4 (adv_bad hb ?_)
        | refine now_spec ?_
        | refine Tri.ent Ent.front1 (now_spec ?_)
        | refine Tri.ent Ent.front2 (now_spec ?_)
        | refine Tri.ent Ent.front3 (now_spec ?_)
        | refine Tri.ent Ent.front4 (now_spec ?_)
        | refine cancel_nil ?_
        | refine Tri.ent Ent.front1 (cancel_nil ?_)
        | refine Tri.ent Ent.front2 (cancel_nil ?_)
        | refine Tri.ent Ent.front3 (cancel_nil ?_)
        | refine Tri.ent Ent.front4 (cancel_nil ?_)
        | refine XS.seq ?_
        | refine XS.region (T := TT) ?_
        | refine XS.draw (T := TT) follows_ok (by decide +kernel) ?_
        | refine XS.block ?_
        | refine XS.inBlock ?_
        | refine XS.exit rfl ?_
        | refine XS.condT rfl ?_
        | refine XS.condF rfl ?_
        | refine XS.skip ?_
        | refine XS.label ?_
        | refine XO.load TT_ok rfl rfl rfl rfl rfl rfl (Reads.here rfl) ?_
        | refine XO.load TT_ok rfl rfl rfl rfl rfl rfl (Reads.skip (Reads.here rfl)) ?_
        | refine XO.load TT_ok rfl rfl rfl rfl rfl rfl (Reads.skip (Reads.skip (Reads.here rfl))) ?_
        | refine XO.load TT_ok rfl rfl rfl rfl rfl rfl (Reads.skip (Reads.skip (Reads.skip (Reads.here rfl)))) ?_
        | refine XO.load TT_ok rfl rfl rfl rfl rfl rfl (Reads.skip (Reads.skip (Reads.skip (Reads.skip (Reads.here rfl))))) ?_
        | refine XO.load TT_ok rfl rfl rfl rfl rfl rfl (Reads.skip (Reads.skip (Reads.skip (Reads.skip (Reads.skip (Reads.here rfl)))))) ?_
        | refine XO.no rfl rfl ?_
        | (refine XO.cmpI TT_ok rfl rfl rfl rfl rfl rfl rfl (fun hc => ?_) (fun hc => ?_) <;> (try (exfalso; omega)))
        | refine XO.pT TT_ok rfl rfl rfl rfl rfl ?_
        | refine XO.pF TT_ok rfl rfl rfl rfl rfl ?_
        | refine XO.cmp TT_ok rfl rfl rfl rfl rfl (fun hc => ?_) (fun hc => ?_)
        | refine XO.add64 TT_ok rfl rfl rfl rfl rfl rfl (by omega) (by omega) ?_
        | refine XO.sub64 TT_ok rfl rfl rfl rfl rfl rfl (by omega) (by omega) ?_
        | refine XO.mul64 TT_ok rfl rfl rfl rfl rfl rfl (by omega) (by omega) ?_
        | refine XO.quo64 rfl rfl rfl rfl rfl (by omega) (by omega) (by omega) ?_
        | refine XO.rem64 rfl rfl rfl rfl rfl (by omega) (by omega) ?_
        | refine XO.p TT_ok rfl rfl rfl rfl ?_
        | refine XO.storeL TT_ok trivial rfl rfl rfl rfl rfl rfl rfl rfl rfl rfl trivial ?_
        | refine XO.ent Ent.front1 (XO.storeL TT_ok trivial rfl rfl rfl rfl rfl rfl rfl rfl rfl rfl trivial ?_)
        | refine XO.ent Ent.front2 (XO.storeL TT_ok trivial rfl rfl rfl rfl rfl rfl rfl rfl rfl rfl trivial ?_)
        | refine XO.ent Ent.front3 (XO.storeL TT_ok trivial rfl rfl rfl rfl rfl rfl rfl rfl rfl rfl trivial ?_)
        | refine XO.ent Ent.front4 (XO.storeL TT_ok trivial rfl rfl rfl rfl rfl rfl rfl rfl rfl rfl trivial ?_)
        | refine XO.ent Ent.front5 (XO.storeL TT_ok trivial rfl rfl rfl rfl rfl rfl rfl rfl rfl rfl trivial ?_)
        | refine XO.box trivial rfl rfl rfl rfl rfl (fun _ => trivial) (fun bb => ?_)
        | refine XO.alloc TT_ok trivial rfl rfl rfl rfl rfl (fun _ => trivial) (fun bb => ?_)
        | refine XO.build TT_ok rfl rfl rfl rfl rfl ?_
        | refine XO.lenSlice TT_ok rfl rfl rfl rfl rfl rfl ?_
        | refine XO.lenString TT_ok rfl rfl rfl rfl rfl rfl ?_
        | refine XO.indexStr TT_ok rfl rfl rfl rfl rfl rfl (by omega) (by omega) ?_
        | refine XO.indexAddr TT_ok rfl rfl rfl rfl rfl rfl rfl (by omega) (by omega) ?_
        | refine XO.addStr rfl rfl rfl rfl rfl (by omega) ?_
        | refine XO.buildSlice TT_ok trivial rfl rfl rfl rfl rfl rfl rfl rfl rfl rfl rfl rfl (fun _ => trivial) (fun bb => ?_)
        | refine XO.callF rfl rfl rfl (by kernel_rfl) rfl ?_)
      all_goals exact XS.ret1 Tryd.func7 rfl Tryd.results7 rfl (Ent.refl _) rfl
  · have hb : ¬ OkAt 0 now := by unfold OkAt; omega
    repeat' (first
      | refine XO.q TT_ok rfl rfl rfl rfl rfl ?_
      | refine XO.nil ?_
      | refine wanchor_spec db (fun H' => ?_)
      | refine wnew_spec (fun b => ?_)
      | refine adv_bad hb ?_
      | refine Tri.ent Ent.front1 (adv_bad hb ?_)
      | refine Tri.ent Ent.front2 (adv_bad hb ?_)
      | refine Tri.ent Ent.front3 (adv_bad hb ?_)
      | refine Tri.ent Ent.front4 (adv_bad hb ?_)
      | refine now_spec ?_
      | refine Tri.ent Ent.front1 (now_spec ?_)
      | refine Tri.ent Ent.front2 (now_spec ?_)
      | refine Tri.ent Ent.front3 (now_spec ?_)
      | refine Tri.ent Ent.front4 (now_spec ?_)
      | refine XS.seq ?_
      | refine XS.region (T := TT) ?_
      | refine XS.draw (T := TT) follows_ok (by decide +kernel) ?_
      | refine XS.block ?_
      | refine XS.inBlock ?_
      | refine XS.exit rfl ?_
      | refine XS.condT rfl ?_
      | refine XS.condF rfl ?_
      | refine XS.skip ?_
      | refine XS.label ?_
      | refine XO.load TT_ok rfl rfl rfl rfl rfl rfl (Reads.here rfl) ?_
      | refine XO.load TT_ok rfl rfl rfl rfl rfl rfl (Reads.skip (Reads.here rfl)) ?_
      | refine XO.load TT_ok rfl rfl rfl rfl rfl rfl (Reads.skip (Reads.skip (Reads.here rfl))) ?_
      | refine XO.load TT_ok rfl rfl rfl rfl rfl rfl (Reads.skip (Reads.skip (Reads.skip (Reads.here rfl)))) ?_
      | refine XO.load TT_ok rfl rfl rfl rfl rfl rfl (Reads.skip (Reads.skip (Reads.skip (Reads.skip (Reads.here rfl))))) ?_
      | refine XO.load TT_ok rfl rfl rfl rfl rfl rfl (Reads.skip (Reads.skip (Reads.skip (Reads.skip (Reads.skip (Reads.here rfl)))))) ?_
      | refine XO.no rfl rfl ?_
      | (refine XO.cmpI TT_ok rfl rfl rfl rfl rfl rfl rfl (fun hc => ?_) (fun hc => ?_) <;> (try (exfalso; omega)))
      | refine XO.pT TT_ok rfl rfl rfl rfl rfl ?_
      | refine XO.pF TT_ok rfl rfl rfl rfl rfl ?_
      | refine XO.cmp TT_ok rfl rfl rfl rfl rfl (fun hc => ?_) (fun hc => ?_)
      | refine XO.add64 TT_ok rfl rfl rfl rfl rfl rfl (by omega) (by omega) ?_
      | refine XO.sub64 TT_ok rfl rfl rfl rfl rfl rfl (by omega) (by omega) ?_
      | refine XO.mul64 TT_ok rfl rfl rfl rfl rfl rfl (by omega) (by omega) ?_
      | refine XO.quo64 rfl rfl rfl rfl rfl (by omega) (by omega) (by omega) ?_
      | refine XO.rem64 rfl rfl rfl rfl rfl (by omega) (by omega) ?_
      | refine XO.p TT_ok rfl rfl rfl rfl ?_
      | refine XO.storeL TT_ok trivial rfl rfl rfl rfl rfl rfl rfl rfl rfl rfl trivial ?_
      | refine XO.ent Ent.front1 (XO.storeL TT_ok trivial rfl rfl rfl rfl rfl rfl rfl rfl rfl rfl trivial ?_)
      | refine XO.ent Ent.front2 (XO.storeL TT_ok trivial rfl rfl rfl rfl rfl rfl rfl rfl rfl rfl trivial ?_)
      | refine XO.ent Ent.front3 (XO.storeL TT_ok trivial rfl rfl rfl rfl rfl rfl rfl rfl rfl rfl trivial ?_)
      | refine XO.ent Ent.front4 (XO.storeL TT_ok trivial rfl rfl rfl rfl rfl rfl rfl rfl rfl rfl trivial ?_)
      | refine XO.ent Ent.front5 (XO.storeL TT_ok trivial rfl rfl rfl rfl rfl rfl rfl rfl rfl rfl trivial ?_)
      | refine XO.box trivial rfl rfl rfl rfl rfl (fun _ => trivial) (fun bb => ?_)
      | refine XO.alloc TT_ok trivial rfl rfl rfl rfl rfl (fun _ => trivial) (fun bb => ?_)
      | refine XO.build TT_ok rfl rfl rfl rfl rfl ?_
      | refine XO.lenSlice TT_ok rfl rfl rfl rfl rfl rfl ?_
      | refine XO.lenString TT_ok rfl rfl rfl rfl rfl rfl ?_
      | refine XO.indexStr TT_ok rfl rfl rfl rfl rfl rfl (by omega) (by omega) ?_
      | refine XO.indexAddr TT_ok rfl rfl rfl rfl rfl rfl rfl (by omega) (by omega) ?_
      | refine XO.addStr rfl rfl rfl rfl rfl (by omega) ?_
      | refine XO.buildSlice TT_ok trivial rfl rfl rfl rfl rfl rfl rfl rfl rfl rfl rfl rfl (fun _ => trivial) (fun bb => ?_)
      | refine XO.callF rfl rfl rfl (by kernel_rfl) rfl ?_)
    all_goals exact XS.ret1 Tryd.func7 rfl Tryd.results7 rfl (Ent.refl _) rfl
end Go.Proofs.YtnpnfgnhgjmlbaaDoor
