/- WheelAgain comes to true. Conditions: the table of the lowest bits lies in memory. -/
import Derived.Test.YtnpnfgnhgjmlbaaDoorWheelL
namespace Go.Proofs.YtnpnfgnhgjmlbaaDoor
open Go Go.Sx Go.WheelM
variable {w0 : World} {F H : List HProp} {K : Value → List HProp → Prop}
set_option maxHeartbeats 8000000 in
theorem wagain (db : DB w0) {id first last : Int} {strike : Bool} : Tri Tryd.prog 4 #[kI id, kI first, kI last, .bool strike] w0 H (fun v _ => v = .bool true) := by
  refine Tri.enter Tryd.func4 rfl Tryd.ntmps4 rfl ?_
  by_cases hg : (0 ≤ id ∧ id ≤ 1099511627776) ∧ (0 ≤ first ∧ first ≤ 1099511627776) ∧ (0 ≤ last ∧ last ≤ 1099511627776)
  · obtain ⟨hid, hf, hl⟩ := hg
    obtain ⟨f, rfl⟩ := Int.eq_ofNat_of_zero_le hf.1
    obtain ⟨l, rfl⟩ := Int.eq_ofNat_of_zero_le hl.1
    have g1 : OkId id := hid
    have gf : OkAt 0 f := ⟨by omega, hf.2⟩
    have gl : OkAt 0 l := ⟨by omega, hl.2⟩
    have hl2 : l ≤ 1099511627776 := by omega
    have hs : 0 < l → ((l : Int) - 1) = ((l - 1 : Nat) : Int) := fun _ => by omega
    cases strike
    · repeat' (first
        | refine XO.q TT_ok rfl rfl rfl rfl rfl ?_
        | refine XO.nil ?_
        | refine wanchor_spec db (fun H' => ?_)
        | refine wnew_spec (fun b => ?_)
        | refine set_nil g1 gf ?_
        | refine Tri.ent Ent.front1 (set_nil g1 gf ?_)
        | refine Tri.ent Ent.front2 (set_nil g1 gf ?_)
        | refine Tri.ent Ent.front3 (set_nil g1 gf ?_)
        | refine Tri.ent Ent.front4 (set_nil g1 gf ?_)
        | refine set_one g1 gl ?_
        | refine Tri.ent Ent.front1 (set_one g1 gl ?_)
        | refine Tri.ent Ent.front2 (set_one g1 gl ?_)
        | refine Tri.ent Ent.front3 (set_one g1 gl ?_)
        | refine Tri.ent Ent.front4 (set_one g1 gl ?_)
        | refine len_at 1 rfl ?_
        | refine Tri.ent Ent.front1 (len_at 1 rfl ?_)
        | refine Tri.ent Ent.front2 (len_at 1 rfl ?_)
        | refine Tri.ent Ent.front3 (len_at 1 rfl ?_)
        | refine Tri.ent Ent.front4 (len_at 1 rfl ?_)
        | refine len_at 0 rfl ?_
        | refine Tri.ent Ent.front1 (len_at 0 rfl ?_)
        | refine Tri.ent Ent.front2 (len_at 0 rfl ?_)
        | refine Tri.ent Ent.front3 (len_at 0 rfl ?_)
        | refine Tri.ent Ent.front4 (len_at 0 rfl ?_)
        | refine cancel_one ?_
        | refine Tri.ent Ent.front1 (cancel_one ?_)
        | refine Tri.ent Ent.front2 (cancel_one ?_)
        | refine Tri.ent Ent.front3 (cancel_one ?_)
        | refine Tri.ent Ent.front4 (cancel_one ?_)
        | refine cancel_nil ?_
        | refine Tri.ent Ent.front1 (cancel_nil ?_)
        | refine Tri.ent Ent.front2 (cancel_nil ?_)
        | refine Tri.ent Ent.front3 (cancel_nil ?_)
        | refine Tri.ent Ent.front4 (cancel_nil ?_)
        | refine XS.loop ?_
        | refine XS.inLoop ?_
        | refine XO.ent Ent.front1 (XO.rowOpen (by decide) (fun g hg => ?_))
        | (rw [hs (by omega)]; refine adv_late db (Nat.zero_le _) (by omega) (by omega) (fun x cap => ?_))
        | refine adv_one db (to := l) (by omega) hl2 (Nat.le_refl _) (fun x cap => ?_)
        | refine Tri.ent Ent.front1 (adv_one db (to := l) (by omega) hl2 (Nat.le_refl _) (fun x cap => ?_))
        | refine Tri.ent Ent.front2 (adv_one db (to := l) (by omega) hl2 (Nat.le_refl _) (fun x cap => ?_))
        | refine Tri.ent Ent.front3 (adv_one db (to := l) (by omega) hl2 (Nat.le_refl _) (fun x cap => ?_))
        | refine Tri.ent Ent.front4 (adv_one db (to := l) (by omega) hl2 (Nat.le_refl _) (fun x cap => ?_))
        | refine XO.loadAgg TT_ok rfl rfl rfl rfl rfl rfl rfl (ReadsL.rowFlat tenc_len (i := 0) rfl) ?_
        | refine XO.indexOwn (i := 0) TT_ok rfl rfl rfl rfl rfl rfl rfl (by decide) ?_
        | (refine XO.rowOpen (by decide) (fun g hg => ?_); subst hg)
        | refine XS.seq ?_
        | refine XS.region (T := TT) ?_
        | refine XS.draw (T := TT) follows_ok (by decide +kernel) ?_
        | refine XS.block ?_
        | refine XS.inBlock ?_
        | refine XS.exit rfl ?_
        | refine XS.condT rfl ?_
        | refine XS.condF rfl ?_
        | refine XS.skip ?_
        | refine XS.label ?_
        | refine XO.load TT_ok rfl rfl rfl rfl rfl rfl (Reads.here rfl) ?_
        | refine XO.load TT_ok rfl rfl rfl rfl rfl rfl (Reads.skip (Reads.here rfl)) ?_
        | refine XO.load TT_ok rfl rfl rfl rfl rfl rfl (Reads.skip (Reads.skip (Reads.here rfl))) ?_
        | refine XO.load TT_ok rfl rfl rfl rfl rfl rfl (Reads.skip (Reads.skip (Reads.skip (Reads.here rfl)))) ?_
        | refine XO.load TT_ok rfl rfl rfl rfl rfl rfl (Reads.skip (Reads.skip (Reads.skip (Reads.skip (Reads.here rfl))))) ?_
        | refine XO.load TT_ok rfl rfl rfl rfl rfl rfl (Reads.skip (Reads.skip (Reads.skip (Reads.skip (Reads.skip (Reads.here rfl)))))) ?_
        | refine XO.no rfl rfl ?_
        | (refine XO.cmpI TT_ok rfl rfl rfl rfl rfl rfl rfl (fun hc => ?_) (fun hc => ?_) <;> (try (exfalso; omega)))
        | refine XO.pT TT_ok rfl rfl rfl rfl rfl ?_
        | refine XO.pF TT_ok rfl rfl rfl rfl rfl ?_
        | refine XO.cmp TT_ok rfl rfl rfl rfl rfl (fun hc => ?_) (fun hc => ?_)
        | refine XO.add64 TT_ok rfl rfl rfl rfl rfl rfl (by omega) (by omega) ?_
        | refine XO.sub64 TT_ok rfl rfl rfl rfl rfl rfl (by omega) (by omega) ?_
        | refine XO.mul64 TT_ok rfl rfl rfl rfl rfl rfl (by omega) (by omega) ?_
        | refine XO.quo64 rfl rfl rfl rfl rfl (by omega) (by omega) (by omega) ?_
        | refine XO.rem64 rfl rfl rfl rfl rfl (by omega) (by omega) ?_
        | refine XO.p TT_ok rfl rfl rfl rfl ?_
        | refine XO.storeL TT_ok trivial rfl rfl rfl rfl rfl rfl rfl rfl rfl rfl trivial ?_
        | refine XO.ent Ent.front1 (XO.storeL TT_ok trivial rfl rfl rfl rfl rfl rfl rfl rfl rfl rfl trivial ?_)
        | refine XO.ent Ent.front2 (XO.storeL TT_ok trivial rfl rfl rfl rfl rfl rfl rfl rfl rfl rfl trivial ?_)
        | refine XO.ent Ent.front3 (XO.storeL TT_ok trivial rfl rfl rfl rfl rfl rfl rfl rfl rfl rfl trivial ?_)
        | refine XO.ent Ent.front4 (XO.storeL TT_ok trivial rfl rfl rfl rfl rfl rfl rfl rfl rfl rfl trivial ?_)
        | refine XO.ent Ent.front5 (XO.storeL TT_ok trivial rfl rfl rfl rfl rfl rfl rfl rfl rfl rfl trivial ?_)
        | refine XO.box trivial rfl rfl rfl rfl rfl (fun _ => trivial) (fun bb => ?_)
        | refine XO.alloc TT_ok trivial rfl rfl rfl rfl rfl (fun _ => trivial) (fun bb => ?_)
        | refine XO.build TT_ok rfl rfl rfl rfl rfl ?_
        | refine XO.lenSlice TT_ok rfl rfl rfl rfl rfl rfl ?_
        | refine XO.lenString TT_ok rfl rfl rfl rfl rfl rfl ?_
        | refine XO.indexStr TT_ok rfl rfl rfl rfl rfl rfl (by omega) (by omega) ?_
        | refine XO.indexAddr TT_ok rfl rfl rfl rfl rfl rfl rfl (by omega) (by omega) ?_
        | refine XO.addStr rfl rfl rfl rfl rfl (by omega) ?_
        | refine XO.buildSlice TT_ok trivial rfl rfl rfl rfl rfl rfl rfl rfl rfl rfl rfl rfl (fun _ => trivial) (fun bb => ?_)
        | refine XO.callF rfl rfl rfl (by kernel_rfl) rfl ?_)
      all_goals exact XS.ret1 Tryd.func4 rfl Tryd.results4 rfl (Ent.refl _) rfl
    · repeat' (first
        | refine XO.q TT_ok rfl rfl rfl rfl rfl ?_
        | refine XO.nil ?_
        | refine wanchor_spec db (fun H' => ?_)
        | refine wnew_spec (fun b => ?_)
        | refine set_nil g1 gf ?_
        | refine Tri.ent Ent.front1 (set_nil g1 gf ?_)
        | refine Tri.ent Ent.front2 (set_nil g1 gf ?_)
        | refine Tri.ent Ent.front3 (set_nil g1 gf ?_)
        | refine Tri.ent Ent.front4 (set_nil g1 gf ?_)
        | refine set_one g1 gl ?_
        | refine Tri.ent Ent.front1 (set_one g1 gl ?_)
        | refine Tri.ent Ent.front2 (set_one g1 gl ?_)
        | refine Tri.ent Ent.front3 (set_one g1 gl ?_)
        | refine Tri.ent Ent.front4 (set_one g1 gl ?_)
        | refine len_at 1 rfl ?_
        | refine Tri.ent Ent.front1 (len_at 1 rfl ?_)
        | refine Tri.ent Ent.front2 (len_at 1 rfl ?_)
        | refine Tri.ent Ent.front3 (len_at 1 rfl ?_)
        | refine Tri.ent Ent.front4 (len_at 1 rfl ?_)
        | refine len_at 0 rfl ?_
        | refine Tri.ent Ent.front1 (len_at 0 rfl ?_)
        | refine Tri.ent Ent.front2 (len_at 0 rfl ?_)
        | refine Tri.ent Ent.front3 (len_at 0 rfl ?_)
        | refine Tri.ent Ent.front4 (len_at 0 rfl ?_)
        | refine cancel_one ?_
        | refine Tri.ent Ent.front1 (cancel_one ?_)
        | refine Tri.ent Ent.front2 (cancel_one ?_)
        | refine Tri.ent Ent.front3 (cancel_one ?_)
        | refine Tri.ent Ent.front4 (cancel_one ?_)
        | refine cancel_nil ?_
        | refine Tri.ent Ent.front1 (cancel_nil ?_)
        | refine Tri.ent Ent.front2 (cancel_nil ?_)
        | refine Tri.ent Ent.front3 (cancel_nil ?_)
        | refine Tri.ent Ent.front4 (cancel_nil ?_)
        | refine XS.loop ?_
        | refine XS.inLoop ?_
        | refine XO.ent Ent.front1 (XO.rowOpen (by decide) (fun g hg => ?_))
        | refine adv_nil db (to := l) (by omega) hl2 (fun x cap => ?_)
        | refine Tri.ent Ent.front1 (adv_nil db (to := l) (by omega) hl2 (fun x cap => ?_))
        | refine Tri.ent Ent.front2 (adv_nil db (to := l) (by omega) hl2 (fun x cap => ?_))
        | refine Tri.ent Ent.front3 (adv_nil db (to := l) (by omega) hl2 (fun x cap => ?_))
        | refine Tri.ent Ent.front4 (adv_nil db (to := l) (by omega) hl2 (fun x cap => ?_))
        | (rw [hs (by omega)]; refine adv_nil db (Nat.zero_le _) (by omega) (fun x cap => ?_))
        | refine XS.seq ?_
        | refine XS.region (T := TT) ?_
        | refine XS.draw (T := TT) follows_ok (by decide +kernel) ?_
        | refine XS.block ?_
        | refine XS.inBlock ?_
        | refine XS.exit rfl ?_
        | refine XS.condT rfl ?_
        | refine XS.condF rfl ?_
        | refine XS.skip ?_
        | refine XS.label ?_
        | refine XO.load TT_ok rfl rfl rfl rfl rfl rfl (Reads.here rfl) ?_
        | refine XO.load TT_ok rfl rfl rfl rfl rfl rfl (Reads.skip (Reads.here rfl)) ?_
        | refine XO.load TT_ok rfl rfl rfl rfl rfl rfl (Reads.skip (Reads.skip (Reads.here rfl))) ?_
        | refine XO.load TT_ok rfl rfl rfl rfl rfl rfl (Reads.skip (Reads.skip (Reads.skip (Reads.here rfl)))) ?_
        | refine XO.load TT_ok rfl rfl rfl rfl rfl rfl (Reads.skip (Reads.skip (Reads.skip (Reads.skip (Reads.here rfl))))) ?_
        | refine XO.load TT_ok rfl rfl rfl rfl rfl rfl (Reads.skip (Reads.skip (Reads.skip (Reads.skip (Reads.skip (Reads.here rfl)))))) ?_
        | refine XO.no rfl rfl ?_
        | (refine XO.cmpI TT_ok rfl rfl rfl rfl rfl rfl rfl (fun hc => ?_) (fun hc => ?_) <;> (try (exfalso; omega)))
        | refine XO.pT TT_ok rfl rfl rfl rfl rfl ?_
        | refine XO.pF TT_ok rfl rfl rfl rfl rfl ?_
        | refine XO.cmp TT_ok rfl rfl rfl rfl rfl (fun hc => ?_) (fun hc => ?_)
        | refine XO.add64 TT_ok rfl rfl rfl rfl rfl rfl (by omega) (by omega) ?_
        | refine XO.sub64 TT_ok rfl rfl rfl rfl rfl rfl (by omega) (by omega) ?_
        | refine XO.mul64 TT_ok rfl rfl rfl rfl rfl rfl (by omega) (by omega) ?_
        | refine XO.quo64 rfl rfl rfl rfl rfl (by omega) (by omega) (by omega) ?_
        | refine XO.rem64 rfl rfl rfl rfl rfl (by omega) (by omega) ?_
        | refine XO.p TT_ok rfl rfl rfl rfl ?_
        | refine XO.storeL TT_ok trivial rfl rfl rfl rfl rfl rfl rfl rfl rfl rfl trivial ?_
        | refine XO.ent Ent.front1 (XO.storeL TT_ok trivial rfl rfl rfl rfl rfl rfl rfl rfl rfl rfl trivial ?_)
        | refine XO.ent Ent.front2 (XO.storeL TT_ok trivial rfl rfl rfl rfl rfl rfl rfl rfl rfl rfl trivial ?_)
        | refine XO.ent Ent.front3 (XO.storeL TT_ok trivial rfl rfl rfl rfl rfl rfl rfl rfl rfl rfl trivial ?_)
        | refine XO.ent Ent.front4 (XO.storeL TT_ok trivial rfl rfl rfl rfl rfl rfl rfl rfl rfl rfl trivial ?_)
        | refine XO.ent Ent.front5 (XO.storeL TT_ok trivial rfl rfl rfl rfl rfl rfl rfl rfl rfl rfl trivial ?_)
        | refine XO.box trivial rfl rfl rfl rfl rfl (fun _ => trivial) (fun bb => ?_)
        | refine XO.alloc TT_ok trivial rfl rfl rfl rfl rfl (fun _ => trivial) (fun bb => ?_)
        | refine XO.build TT_ok rfl rfl rfl rfl rfl ?_
        | refine XO.lenSlice TT_ok rfl rfl rfl rfl rfl rfl ?_
        | refine XO.lenString TT_ok rfl rfl rfl rfl rfl rfl ?_
        | refine XO.indexStr TT_ok rfl rfl rfl rfl rfl rfl (by omega) (by omega) ?_
        | refine XO.indexAddr TT_ok rfl rfl rfl rfl rfl rfl rfl (by omega) (by omega) ?_
        | refine XO.addStr rfl rfl rfl rfl rfl (by omega) ?_
        | refine XO.buildSlice TT_ok trivial rfl rfl rfl rfl rfl rfl rfl rfl rfl rfl rfl rfl (fun _ => trivial) (fun bb => ?_)
        | refine XO.callF rfl rfl rfl (by kernel_rfl) rfl ?_)
      all_goals exact XS.ret1 Tryd.func4 rfl Tryd.results4 rfl (Ent.refl _) rfl
  · repeat' (first
      | refine XO.q TT_ok rfl rfl rfl rfl rfl ?_
      | refine XO.nil ?_
      | refine wanchor_spec db (fun H' => ?_)
      | refine XS.seq ?_
      | refine XS.region (T := TT) ?_
      | refine XS.draw (T := TT) follows_ok (by decide +kernel) ?_
      | refine XS.block ?_
      | refine XS.inBlock ?_
      | refine XS.exit rfl ?_
      | refine XS.condT rfl ?_
      | refine XS.condF rfl ?_
      | refine XS.skip ?_
      | refine XS.label ?_
      | refine XO.load TT_ok rfl rfl rfl rfl rfl rfl (Reads.here rfl) ?_
      | refine XO.load TT_ok rfl rfl rfl rfl rfl rfl (Reads.skip (Reads.here rfl)) ?_
      | refine XO.load TT_ok rfl rfl rfl rfl rfl rfl (Reads.skip (Reads.skip (Reads.here rfl))) ?_
      | refine XO.load TT_ok rfl rfl rfl rfl rfl rfl (Reads.skip (Reads.skip (Reads.skip (Reads.here rfl)))) ?_
      | refine XO.load TT_ok rfl rfl rfl rfl rfl rfl (Reads.skip (Reads.skip (Reads.skip (Reads.skip (Reads.here rfl))))) ?_
      | refine XO.load TT_ok rfl rfl rfl rfl rfl rfl (Reads.skip (Reads.skip (Reads.skip (Reads.skip (Reads.skip (Reads.here rfl)))))) ?_
      | refine XO.no rfl rfl ?_
      | (refine XO.cmpI TT_ok rfl rfl rfl rfl rfl rfl rfl (fun hc => ?_) (fun hc => ?_) <;> (try (exfalso; omega)))
      | refine XO.pT TT_ok rfl rfl rfl rfl rfl ?_
      | refine XO.pF TT_ok rfl rfl rfl rfl rfl ?_
      | refine XO.cmp TT_ok rfl rfl rfl rfl rfl (fun hc => ?_) (fun hc => ?_)
      | refine XO.add64 TT_ok rfl rfl rfl rfl rfl rfl (by omega) (by omega) ?_
      | refine XO.sub64 TT_ok rfl rfl rfl rfl rfl rfl (by omega) (by omega) ?_
      | refine XO.mul64 TT_ok rfl rfl rfl rfl rfl rfl (by omega) (by omega) ?_
      | refine XO.quo64 rfl rfl rfl rfl rfl (by omega) (by omega) (by omega) ?_
      | refine XO.rem64 rfl rfl rfl rfl rfl (by omega) (by omega) ?_
      | refine XO.p TT_ok rfl rfl rfl rfl ?_
      | refine XO.storeL TT_ok trivial rfl rfl rfl rfl rfl rfl rfl rfl rfl rfl trivial ?_
      | refine XO.ent Ent.front1 (XO.storeL TT_ok trivial rfl rfl rfl rfl rfl rfl rfl rfl rfl rfl trivial ?_)
      | refine XO.ent Ent.front2 (XO.storeL TT_ok trivial rfl rfl rfl rfl rfl rfl rfl rfl rfl rfl trivial ?_)
      | refine XO.ent Ent.front3 (XO.storeL TT_ok trivial rfl rfl rfl rfl rfl rfl rfl rfl rfl rfl trivial ?_)
      | refine XO.ent Ent.front4 (XO.storeL TT_ok trivial rfl rfl rfl rfl rfl rfl rfl rfl rfl rfl trivial ?_)
      | refine XO.ent Ent.front5 (XO.storeL TT_ok trivial rfl rfl rfl rfl rfl rfl rfl rfl rfl rfl trivial ?_)
      | refine XO.box trivial rfl rfl rfl rfl rfl (fun _ => trivial) (fun bb => ?_)
      | refine XO.alloc TT_ok trivial rfl rfl rfl rfl rfl (fun _ => trivial) (fun bb => ?_)
      | refine XO.build TT_ok rfl rfl rfl rfl rfl ?_
      | refine XO.lenSlice TT_ok rfl rfl rfl rfl rfl rfl ?_
      | refine XO.lenString TT_ok rfl rfl rfl rfl rfl rfl ?_
      | refine XO.indexStr TT_ok rfl rfl rfl rfl rfl rfl (by omega) (by omega) ?_
      | refine XO.indexAddr TT_ok rfl rfl rfl rfl rfl rfl rfl (by omega) (by omega) ?_
      | refine XO.addStr rfl rfl rfl rfl rfl (by omega) ?_
      | refine XO.buildSlice TT_ok trivial rfl rfl rfl rfl rfl rfl rfl rfl rfl rfl rfl rfl (fun _ => trivial) (fun bb => ?_)
      | refine XO.callF rfl rfl rfl (by kernel_rfl) rfl ?_)
    all_goals exact XS.ret1 Tryd.func4 rfl Tryd.results4 rfl (Ent.refl _) rfl
end Go.Proofs.YtnpnfgnhgjmlbaaDoor
