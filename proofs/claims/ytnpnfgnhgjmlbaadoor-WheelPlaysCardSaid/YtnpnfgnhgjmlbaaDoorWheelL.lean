/- WheelRefuses and WheelAgain come to true. Conditions: the table of the lowest bits lies in memory. -/
import Derived.Test.YtnpnfgnhgjmlbaaDoorWheelF
import Derived.Test.YtnpnfgnhgjmlbaaDoorWheelV
namespace Go.Proofs.YtnpnfgnhgjmlbaaDoor
open Go Go.Sx Go.WheelM
variable {w0 : World} {F H : List HProp} {K : Value → List HProp → Prop}
theorem len_at {b t : Nat} {tm : Tm} (n : Nat) (hn : tm.length = n) (h : K (kI n) (wheelP b t tm [] :: F)) : Tri Tryd.prog 13 #[ptr b] w0 (wheelP b t tm [] :: F) K := len_spec (by rw [hn]; exact h)
theorem set_nil {b t a : Nat} {id : Int} (g1 : OkId id) (g2 : OkAt t a) (h : K (kI 0) (wheelP b t [(id, a)] [] :: F)) : Tri Tryd.prog 12 #[ptr b, kI id, kI a] w0 (wheelP b t [] [] :: F) K :=
  set_good (by simp) g1 g2 (fun _ => by simp) h
theorem set_one {b t a c : Nat} {id : Int} (g1 : OkId id) (g2 : OkAt t a) (h : K (kI 0) (wheelP b t [(id, a)] [] :: F)) : Tri Tryd.prog 12 #[ptr b, kI id, kI a] w0 (wheelP b t [(id, c)] [] :: F) K :=
  set_good (by simp) g1 g2 (fun _ => by simp) (by rw [show adel [(id, c)] id = [] by simp [adel]]; exact h)
theorem cancel_nil {b t : Nat} {id : Int} (h : K (.bool false) (wheelP b t [] [] :: F)) : Tri Tryd.prog 15 #[ptr b, kI id] w0 (wheelP b t [] [] :: F) K :=
  cancel_spec (by simp) (fun _ => h) (fun _ h => by cases h)
theorem cancel_one {b t a : Nat} {id : Int} (h : K (.bool true) (wheelP b t [] [] :: F)) : Tri Tryd.prog 15 #[ptr b, kI id] w0 (wheelP b t [(id, a)] [] :: F) K :=
  cancel_spec (by simp) (fun hn => absurd hn (by simp [aget])) (fun _ _ => by rw [show adel [(id, a)] id = [] by simp [adel]]; exact h)
theorem adv_nil (db : DB w0) {b t to : Nat} (g1 : t ≤ to) (g2 : to ≤ 1099511627776) (h : ∀ a cap, K (.tuple #[.slice a 0 cap, kI 0]) (Row a cap 33 2 0 [] :: wheelP b to [] [] :: F)) : Tri Tryd.prog 14 #[ptr b, kI to] w0 (wheelP b t [] [] :: F) K :=
  adv_good db (by simp) g1 g2 (fun a cap out rest hA => by obtain ⟨rfl, rfl⟩ := hA.nil; exact h a cap)
theorem adv_one (db : DB w0) {b t to a : Nat} {id : Int} (g1 : t ≤ to) (g2 : to ≤ 1099511627776) (hle : a ≤ to) (h : ∀ x cap, K (.tuple #[.slice x 1 cap, kI 0]) (Row x cap 33 2 1 (flat tenc [(id, a)]) :: wheelP b to [] [] :: F)) : Tri Tryd.prog 14 #[ptr b, kI to] w0 (wheelP b t [(id, a)] [] :: F) K :=
  adv_good db (by simp) g1 g2 (fun x cap out rest hA => by obtain ⟨rfl, rfl⟩ := hA.one hle; exact h x cap)
theorem adv_late (db : DB w0) {b t to a : Nat} {id : Int} (g1 : t ≤ to) (g2 : to ≤ 1099511627776) (hlt : to < a) (h : ∀ x cap, K (.tuple #[.slice x 0 cap, kI 0]) (Row x cap 33 2 0 [] :: wheelP b to [(id, a)] [] :: F)) : Tri Tryd.prog 14 #[ptr b, kI to] w0 (wheelP b t [(id, a)] [] :: F) K :=
  adv_good db (by simp) g1 g2 (fun x cap out rest hA => by obtain ⟨rfl, rfl⟩ := hA.late hlt; exact h x cap)
theorem next_nil (db : DB w0) {b t : Nat} (h : K (.tuple #[.agg #[kI 0, kI 0], .bool false]) (wheelP b t [] [] :: F)) : Tri Tryd.prog 17 #[ptr b] w0 (wheelP b t [] [] :: F) K :=
  next_spec db (by simp) (fun _ => h) (fun _ _ hF => absurd rfl hF.not_nil)
theorem next_one (db : DB w0) {b t a : Nat} {id : Int} (h : K (.tuple #[.agg #[kI id, kI (a : Nat)], .bool true]) (wheelP b t [(id, a)] [] :: F)) : Tri Tryd.prog 17 #[ptr b] w0 (wheelP b t [(id, a)] [] :: F) K :=
  next_spec db (by simp) (fun h => by cases h) (fun _ _ hF => by obtain ⟨rfl, rfl⟩ := hF.unique First.one; exact h)
theorem wanchor_spec (db : DB w0) (h : ∀ H', K (.bool true) H') : Tri Tryd.prog 10 #[] w0 H K := by
  refine Tri.enter Tryd.func10 rfl Tryd.ntmps10 rfl ?_
  repeat' (first
    | refine XO.q TT_ok rfl rfl rfl rfl rfl ?_
    | refine XO.nil ?_
    | refine wnew_spec (fun b => ?_)
    | refine set_nil (a := 70) (by unfold OkId; omega) (by unfold OkAt; omega) ?_
    | refine len_at 1 rfl ?_
    | refine Tri.ent Ent.front1 (len_at 1 rfl ?_)
    | refine Tri.ent Ent.front2 (len_at 1 rfl ?_)
    | refine Tri.ent Ent.front3 (len_at 1 rfl ?_)
    | refine Tri.ent Ent.front4 (len_at 1 rfl ?_)
    | refine len_at 0 rfl ?_
    | refine Tri.ent Ent.front1 (len_at 0 rfl ?_)
    | refine Tri.ent Ent.front2 (len_at 0 rfl ?_)
    | refine Tri.ent Ent.front3 (len_at 0 rfl ?_)
    | refine Tri.ent Ent.front4 (len_at 0 rfl ?_)
    | refine adv_one db (to := 70) (by omega) (by omega) (by omega) (fun x cap => ?_)
    | refine XO.load TT_ok rfl rfl rfl rfl rfl rfl (Reads.rowFlat tenc_len (i := 0) (j := 0) rfl rfl) ?_
    | refine XO.load TT_ok rfl rfl rfl rfl rfl rfl (Reads.rowFlat tenc_len (i := 0) (j := 1) rfl rfl) ?_
    | refine XO.indexOwn (i := 0) TT_ok rfl rfl rfl rfl rfl rfl rfl (by decide) ?_
    | (refine XO.rowOpen (by decide) (fun g hg => ?_); subst hg)
    | refine now_spec ?_
    | refine Tri.ent Ent.front1 (now_spec ?_)
    | refine Tri.ent Ent.front2 (now_spec ?_)
    | refine Tri.ent Ent.front3 (now_spec ?_)
    | refine Tri.ent Ent.front4 (now_spec ?_)
    | refine XS.seq ?_
    | refine XS.region (T := TT) ?_
    | refine XS.draw (T := TT) follows_ok (by decide +kernel) ?_
    | refine XS.block ?_
    | refine XS.inBlock ?_
    | refine XS.exit rfl ?_
    | refine XS.condT rfl ?_
    | refine XS.condF rfl ?_
    | refine XS.skip ?_
    | refine XS.label ?_
    | refine XO.load TT_ok rfl rfl rfl rfl rfl rfl (Reads.here rfl) ?_
    | refine XO.load TT_ok rfl rfl rfl rfl rfl rfl (Reads.skip (Reads.here rfl)) ?_
    | refine XO.load TT_ok rfl rfl rfl rfl rfl rfl (Reads.skip (Reads.skip (Reads.here rfl))) ?_
    | refine XO.load TT_ok rfl rfl rfl rfl rfl rfl (Reads.skip (Reads.skip (Reads.skip (Reads.here rfl)))) ?_
    | refine XO.load TT_ok rfl rfl rfl rfl rfl rfl (Reads.skip (Reads.skip (Reads.skip (Reads.skip (Reads.here rfl))))) ?_
    | refine XO.load TT_ok rfl rfl rfl rfl rfl rfl (Reads.skip (Reads.skip (Reads.skip (Reads.skip (Reads.skip (Reads.here rfl)))))) ?_
    | refine XO.no rfl rfl ?_
    | (refine XO.cmpI TT_ok rfl rfl rfl rfl rfl rfl rfl (fun hc => ?_) (fun hc => ?_) <;> (try (exfalso; omega)))
    | refine XO.pT TT_ok rfl rfl rfl rfl rfl ?_
    | refine XO.pF TT_ok rfl rfl rfl rfl rfl ?_
    | refine XO.cmp TT_ok rfl rfl rfl rfl rfl (fun hc => ?_) (fun hc => ?_)
    | refine XO.add64 TT_ok rfl rfl rfl rfl rfl rfl (by omega) (by omega) ?_
    | refine XO.sub64 TT_ok rfl rfl rfl rfl rfl rfl (by omega) (by omega) ?_
    | refine XO.mul64 TT_ok rfl rfl rfl rfl rfl rfl (by omega) (by omega) ?_
    | refine XO.quo64 rfl rfl rfl rfl rfl (by omega) (by omega) (by omega) ?_
    | refine XO.rem64 rfl rfl rfl rfl rfl (by omega) (by omega) ?_
    | refine XO.p TT_ok rfl rfl rfl rfl ?_
    | refine XO.storeL TT_ok trivial rfl rfl rfl rfl rfl rfl rfl rfl rfl rfl trivial ?_
    | refine XO.ent Ent.front1 (XO.storeL TT_ok trivial rfl rfl rfl rfl rfl rfl rfl rfl rfl rfl trivial ?_)
    | refine XO.ent Ent.front2 (XO.storeL TT_ok trivial rfl rfl rfl rfl rfl rfl rfl rfl rfl rfl trivial ?_)
    | refine XO.ent Ent.front3 (XO.storeL TT_ok trivial rfl rfl rfl rfl rfl rfl rfl rfl rfl rfl trivial ?_)
    | refine XO.ent Ent.front4 (XO.storeL TT_ok trivial rfl rfl rfl rfl rfl rfl rfl rfl rfl rfl trivial ?_)
    | refine XO.ent Ent.front5 (XO.storeL TT_ok trivial rfl rfl rfl rfl rfl rfl rfl rfl rfl rfl trivial ?_)
    | refine XO.box trivial rfl rfl rfl rfl rfl (fun _ => trivial) (fun bb => ?_)
    | refine XO.alloc TT_ok trivial rfl rfl rfl rfl rfl (fun _ => trivial) (fun bb => ?_)
    | refine XO.build TT_ok rfl rfl rfl rfl rfl ?_
    | refine XO.lenSlice TT_ok rfl rfl rfl rfl rfl rfl ?_
    | refine XO.lenString TT_ok rfl rfl rfl rfl rfl rfl ?_
    | refine XO.indexStr TT_ok rfl rfl rfl rfl rfl rfl (by omega) (by omega) ?_
    | refine XO.indexAddr TT_ok rfl rfl rfl rfl rfl rfl rfl (by omega) (by omega) ?_
    | refine XO.addStr rfl rfl rfl rfl rfl (by omega) ?_
    | refine XO.buildSlice TT_ok trivial rfl rfl rfl rfl rfl rfl rfl rfl rfl rfl rfl rfl (fun _ => trivial) (fun bb => ?_)
    | refine XO.callF rfl rfl rfl (by kernel_rfl) rfl ?_)
  all_goals exact XS.ret1 Tryd.func10 rfl Tryd.results10 rfl (Ent.refl _) (h _)
end Go.Proofs.YtnpnfgnhgjmlbaaDoor
