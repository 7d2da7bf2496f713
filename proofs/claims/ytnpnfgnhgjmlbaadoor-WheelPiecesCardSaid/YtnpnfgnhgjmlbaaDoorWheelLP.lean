/- WheelPieces comes to true. Conditions: the table of the lowest bits lies in memory. -/
import Derived.Test.YtnpnfgnhgjmlbaaDoorWheelQ
import Derived.Test.YtnpnfgnhgjmlbaaDoorWheelLN
namespace Go.Proofs.YtnpnfgnhgjmlbaaDoor
open Go Go.Sx Go.WheelM
variable {w0 : World} {F H : List HProp} {K : Value → List HProp → Prop}
set_option maxHeartbeats 16000000 in
theorem wpieces (db : DB w0) {v1 v2 : Value} {zs cs : List Int} (hb1 : BaseRow w0 v1 1 (zs.map fun z => [.int .i64 z])) (hr1 : zs.length * 8 ≤ 140737488351232) (hb2 : BaseRow w0 v2 1 (cs.map fun z => [.int .i64 z])) (hr2 : cs.length * 8 ≤ 140737488351232) :
    Tri Tryd.prog 3 #[v1, v2] w0 H (fun v _ => v = .bool true) := by
  obtain ⟨a, n, cap, rfl, hn, hop⟩ := hb1.opened
  obtain ⟨a2, n2, cap2, rfl, hn2, hop2⟩ := hb2.opened
  rw [List.length_map] at hn hn2
  refine Tri.enter Tryd.func3 rfl Tryd.ntmps3 rfl ?_
  repeat' (first
    | refine XO.q TT_ok rfl rfl rfl rfl rfl ?_
    | refine XO.nil ?_
    | refine wanchor_spec db (fun H' => ?_)
    | refine wnew_spec (fun b => ?_)
    | refine XS.seq ?_
    | refine XS.region (T := TT) ?_
    | refine XS.draw (T := TT) follows_ok (by decide +kernel) ?_
    | refine XS.block ?_
    | refine XS.inBlock ?_
    | refine XS.exit rfl ?_
    | refine XS.condT rfl ?_
    | refine XS.condF rfl ?_
    | refine XS.skip ?_
    | refine XS.label ?_
    | refine XO.load TT_ok rfl rfl rfl rfl rfl rfl (Reads.here rfl) ?_
    | refine XO.load TT_ok rfl rfl rfl rfl rfl rfl (Reads.skip (Reads.here rfl)) ?_
    | refine XO.load TT_ok rfl rfl rfl rfl rfl rfl (Reads.skip (Reads.skip (Reads.here rfl))) ?_
    | refine XO.load TT_ok rfl rfl rfl rfl rfl rfl (Reads.skip (Reads.skip (Reads.skip (Reads.here rfl)))) ?_
    | refine XO.load TT_ok rfl rfl rfl rfl rfl rfl (Reads.skip (Reads.skip (Reads.skip (Reads.skip (Reads.here rfl))))) ?_
    | refine XO.load TT_ok rfl rfl rfl rfl rfl rfl (Reads.skip (Reads.skip (Reads.skip (Reads.skip (Reads.skip (Reads.here rfl)))))) ?_
    | refine XO.no rfl rfl ?_
    | (refine XO.cmpI TT_ok rfl rfl rfl rfl rfl rfl rfl (fun hc => ?_) (fun hc => ?_) <;> (try (exfalso; omega)))
    | refine XO.pT TT_ok rfl rfl rfl rfl rfl ?_
    | refine XO.pF TT_ok rfl rfl rfl rfl rfl ?_
    | refine XO.cmp TT_ok rfl rfl rfl rfl rfl (fun hc => ?_) (fun hc => ?_)
    | refine XO.add64 TT_ok rfl rfl rfl rfl rfl rfl (by omega) (by omega) ?_
    | refine XO.sub64 TT_ok rfl rfl rfl rfl rfl rfl (by omega) (by omega) ?_
    | refine XO.mul64 TT_ok rfl rfl rfl rfl rfl rfl (by omega) (by omega) ?_
    | refine XO.quo64 rfl rfl rfl rfl rfl (by omega) (by omega) (by omega) ?_
    | refine XO.rem64 rfl rfl rfl rfl rfl (by omega) (by omega) ?_
    | refine XO.p TT_ok rfl rfl rfl rfl ?_
    | refine XO.storeL TT_ok trivial rfl rfl rfl rfl rfl rfl rfl rfl rfl rfl trivial ?_
    | refine XO.ent Ent.front1 (XO.storeL TT_ok trivial rfl rfl rfl rfl rfl rfl rfl rfl rfl rfl trivial ?_)
    | refine XO.ent Ent.front2 (XO.storeL TT_ok trivial rfl rfl rfl rfl rfl rfl rfl rfl rfl rfl trivial ?_)
    | refine XO.ent Ent.front3 (XO.storeL TT_ok trivial rfl rfl rfl rfl rfl rfl rfl rfl rfl rfl trivial ?_)
    | refine XO.ent Ent.front4 (XO.storeL TT_ok trivial rfl rfl rfl rfl rfl rfl rfl rfl rfl rfl trivial ?_)
    | refine XO.ent Ent.front5 (XO.storeL TT_ok trivial rfl rfl rfl rfl rfl rfl rfl rfl rfl rfl trivial ?_)
    | refine XO.box trivial rfl rfl rfl rfl rfl (fun _ => trivial) (fun bb => ?_)
    | refine XO.alloc TT_ok trivial rfl rfl rfl rfl rfl (fun _ => trivial) (fun bb => ?_)
    | refine XO.build TT_ok rfl rfl rfl rfl rfl ?_
    | refine XO.lenSlice TT_ok rfl rfl rfl rfl rfl rfl ?_
    | refine XO.lenString TT_ok rfl rfl rfl rfl rfl rfl ?_
    | refine XO.indexStr TT_ok rfl rfl rfl rfl rfl rfl (by omega) (by omega) ?_
    | refine XO.indexAddr TT_ok rfl rfl rfl rfl rfl rfl rfl (by omega) (by omega) ?_
    | refine XO.addStr rfl rfl rfl rfl rfl (by omega) ?_
    | refine XO.buildSlice TT_ok trivial rfl rfl rfl rfl rfl rfl rfl rfl rfl rfl rfl rfl (fun _ => trivial) (fun bb => ?_)
    | refine XO.callF rfl rfl rfl (by kernel_rfl) rfl ?_)
  rename_i b1
  obtain ⟨b2, hb2'⟩ : ∃ x, x = b := ⟨b, rfl⟩
  subst hb2'
  refine XS.loopI (ι := Nat × Tm) (fun x => [(1, .slice a2 n2 cap2), (5, ptr b1), (6, ptr b2), (31, .slice a n cap), (32, kI n), (33, kI x.1)]) (fun x => wheelP b1 0 x.2 [] :: wheelP b2 0 x.2 [] :: H') (fun x => x.1 ≤ n ∧ x.2.length ≤ 4096) (fun x => n - x.1) (0, [])
    ⟨Nat.zero_le _, Nat.zero_le _⟩ ⟨rfl, rfl, rfl, rfl, rfl, rfl, trivial⟩ Ent.front1 ?_
  rintro ⟨k, tm⟩ e ⟨f1, f2⟩ ih
  simp only at f1 f2 ⊢
  refine XS.winv (fun fc => ?_)
  by_cases hlt : k < n
  · obtain ⟨z, bz, off, hz, rfl, hrd⟩ := int_at hop hn hlt
    have hsl := setR_len (t := 0) (id := (k : Int)) (at' := z) f2 fc.keys
    by_cases h4096 : k < 4096
    · repeat' (first
        | refine XO.q TT_ok rfl rfl rfl rfl rfl ?_
        | refine XO.nil ?_
        | refine XO.load TT_ok rfl rfl rfl rfl rfl rfl (hrd _) ?_
        | refine set_any f2 ?_
        | refine Tri.ent Ent.front1 (set_any f2 ?_)
        | refine Tri.ent Ent.front2 (set_any f2 ?_)
        | refine Tri.ent Ent.front3 (set_any f2 ?_)
        | refine Tri.ent Ent.front4 (set_any f2 ?_)
        | refine XS.seq ?_
        | refine XS.region (T := TT) ?_
        | refine XS.draw (T := TT) follows_ok (by decide +kernel) ?_
        | refine XS.block ?_
        | refine XS.inBlock ?_
        | refine XS.exit rfl ?_
        | refine XS.condT rfl ?_
        | refine XS.condF rfl ?_
        | refine XS.skip ?_
        | refine XS.label ?_
        | refine XO.load TT_ok rfl rfl rfl rfl rfl rfl (Reads.here rfl) ?_
        | refine XO.load TT_ok rfl rfl rfl rfl rfl rfl (Reads.skip (Reads.here rfl)) ?_
        | refine XO.load TT_ok rfl rfl rfl rfl rfl rfl (Reads.skip (Reads.skip (Reads.here rfl))) ?_
        | refine XO.load TT_ok rfl rfl rfl rfl rfl rfl (Reads.skip (Reads.skip (Reads.skip (Reads.here rfl)))) ?_
        | refine XO.load TT_ok rfl rfl rfl rfl rfl rfl (Reads.skip (Reads.skip (Reads.skip (Reads.skip (Reads.here rfl))))) ?_
        | refine XO.load TT_ok rfl rfl rfl rfl rfl rfl (Reads.skip (Reads.skip (Reads.skip (Reads.skip (Reads.skip (Reads.here rfl)))))) ?_
        | refine XO.no rfl rfl ?_
        | (refine XO.cmpI TT_ok rfl rfl rfl rfl rfl rfl rfl (fun hc => ?_) (fun hc => ?_) <;> (try (exfalso; omega)))
        | refine XO.pT TT_ok rfl rfl rfl rfl rfl ?_
        | refine XO.pF TT_ok rfl rfl rfl rfl rfl ?_
        | refine XO.cmp TT_ok rfl rfl rfl rfl rfl (fun hc => ?_) (fun hc => ?_)
        | refine XO.add64 TT_ok rfl rfl rfl rfl rfl rfl (by omega) (by omega) ?_
        | refine XO.sub64 TT_ok rfl rfl rfl rfl rfl rfl (by omega) (by omega) ?_
        | refine XO.mul64 TT_ok rfl rfl rfl rfl rfl rfl (by omega) (by omega) ?_
        | refine XO.quo64 rfl rfl rfl rfl rfl (by omega) (by omega) (by omega) ?_
        | refine XO.rem64 rfl rfl rfl rfl rfl (by omega) (by omega) ?_
        | refine XO.p TT_ok rfl rfl rfl rfl ?_
        | refine XO.storeL TT_ok trivial rfl rfl rfl rfl rfl rfl rfl rfl rfl rfl trivial ?_
        | refine XO.ent Ent.front1 (XO.storeL TT_ok trivial rfl rfl rfl rfl rfl rfl rfl rfl rfl rfl trivial ?_)
        | refine XO.ent Ent.front2 (XO.storeL TT_ok trivial rfl rfl rfl rfl rfl rfl rfl rfl rfl rfl trivial ?_)
        | refine XO.ent Ent.front3 (XO.storeL TT_ok trivial rfl rfl rfl rfl rfl rfl rfl rfl rfl rfl trivial ?_)
        | refine XO.ent Ent.front4 (XO.storeL TT_ok trivial rfl rfl rfl rfl rfl rfl rfl rfl rfl rfl trivial ?_)
        | refine XO.ent Ent.front5 (XO.storeL TT_ok trivial rfl rfl rfl rfl rfl rfl rfl rfl rfl rfl trivial ?_)
        | refine XO.box trivial rfl rfl rfl rfl rfl (fun _ => trivial) (fun bb => ?_)
        | refine XO.alloc TT_ok trivial rfl rfl rfl rfl rfl (fun _ => trivial) (fun bb => ?_)
        | refine XO.build TT_ok rfl rfl rfl rfl rfl ?_
        | refine XO.lenSlice TT_ok rfl rfl rfl rfl rfl rfl ?_
        | refine XO.lenString TT_ok rfl rfl rfl rfl rfl rfl ?_
        | refine XO.indexStr TT_ok rfl rfl rfl rfl rfl rfl (by omega) (by omega) ?_
        | refine XO.indexAddr TT_ok rfl rfl rfl rfl rfl rfl rfl (by omega) (by omega) ?_
        | refine XO.addStr rfl rfl rfl rfl rfl (by omega) ?_
        | refine XO.buildSlice TT_ok trivial rfl rfl rfl rfl rfl rfl rfl rfl rfl rfl rfl rfl (fun _ => trivial) (fun bb => ?_)
        | refine XO.callF rfl rfl rfl (by kernel_rfl) rfl ?_)
      exact ih (k + 1, (setR 0 tm k z).2) _ _ ⟨by dsimp only; omega, hsl.1⟩ (by dsimp only; omega) ⟨rfl, rfl, rfl, rfl, rfl, rfl, trivial⟩ (by repeat' (first | exact Ent.refl _ | exact Ent.dropAll _ | refine Ent.cons _ ?_ | refine Ent.trans Ent.front1 (Ent.cons _ ?_) | refine Ent.trans Ent.front2 (Ent.cons _ ?_) | refine Ent.trans Ent.front3 (Ent.cons _ ?_) | refine Ent.trans Ent.front4 (Ent.cons _ ?_) | refine Ent.trans Ent.front5 (Ent.cons _ ?_) | refine Ent.trans Row.of_at (Ent.cons _ ?_) | refine Ent.trans Ent.front1 (Ent.trans Row.of_at (Ent.cons _ ?_)) | refine Ent.trans Ent.front2 (Ent.trans Row.of_at (Ent.cons _ ?_)) | refine Ent.trans Ent.front3 (Ent.trans Row.of_at (Ent.cons _ ?_)) | refine Ent.trans Ent.front4 (Ent.trans Row.of_at (Ent.cons _ ?_)) | refine Ent.trans (Ent.drop _ _) ?_))
    · repeat' (first
        | refine XO.q TT_ok rfl rfl rfl rfl rfl ?_
        | refine XO.nil ?_
        | refine XO.load TT_ok rfl rfl rfl rfl rfl rfl (hrd _) ?_
        | refine XS.seq ?_
        | refine XS.region (T := TT) ?_
        | refine XS.draw (T := TT) follows_ok (by decide +kernel) ?_
        | refine XS.block ?_
        | refine XS.inBlock ?_
        | refine XS.exit rfl ?_
        | refine XS.condT rfl ?_
        | refine XS.condF rfl ?_
        | refine XS.skip ?_
        | refine XS.label ?_
        | refine XO.load TT_ok rfl rfl rfl rfl rfl rfl (Reads.here rfl) ?_
        | refine XO.load TT_ok rfl rfl rfl rfl rfl rfl (Reads.skip (Reads.here rfl)) ?_
        | refine XO.load TT_ok rfl rfl rfl rfl rfl rfl (Reads.skip (Reads.skip (Reads.here rfl))) ?_
        | refine XO.load TT_ok rfl rfl rfl rfl rfl rfl (Reads.skip (Reads.skip (Reads.skip (Reads.here rfl)))) ?_
        | refine XO.load TT_ok rfl rfl rfl rfl rfl rfl (Reads.skip (Reads.skip (Reads.skip (Reads.skip (Reads.here rfl))))) ?_
        | refine XO.load TT_ok rfl rfl rfl rfl rfl rfl (Reads.skip (Reads.skip (Reads.skip (Reads.skip (Reads.skip (Reads.here rfl)))))) ?_
        | refine XO.no rfl rfl ?_
        | (refine XO.cmpI TT_ok rfl rfl rfl rfl rfl rfl rfl (fun hc => ?_) (fun hc => ?_) <;> (try (exfalso; omega)))
        | refine XO.pT TT_ok rfl rfl rfl rfl rfl ?_
        | refine XO.pF TT_ok rfl rfl rfl rfl rfl ?_
        | refine XO.cmp TT_ok rfl rfl rfl rfl rfl (fun hc => ?_) (fun hc => ?_)
        | refine XO.add64 TT_ok rfl rfl rfl rfl rfl rfl (by omega) (by omega) ?_
        | refine XO.sub64 TT_ok rfl rfl rfl rfl rfl rfl (by omega) (by omega) ?_
        | refine XO.mul64 TT_ok rfl rfl rfl rfl rfl rfl (by omega) (by omega) ?_
        | refine XO.quo64 rfl rfl rfl rfl rfl (by omega) (by omega) (by omega) ?_
        | refine XO.rem64 rfl rfl rfl rfl rfl (by omega) (by omega) ?_
        | refine XO.p TT_ok rfl rfl rfl rfl ?_
        | refine XO.storeL TT_ok trivial rfl rfl rfl rfl rfl rfl rfl rfl rfl rfl trivial ?_
        | refine XO.ent Ent.front1 (XO.storeL TT_ok trivial rfl rfl rfl rfl rfl rfl rfl rfl rfl rfl trivial ?_)
        | refine XO.ent Ent.front2 (XO.storeL TT_ok trivial rfl rfl rfl rfl rfl rfl rfl rfl rfl rfl trivial ?_)
        | refine XO.ent Ent.front3 (XO.storeL TT_ok trivial rfl rfl rfl rfl rfl rfl rfl rfl rfl rfl trivial ?_)
        | refine XO.ent Ent.front4 (XO.storeL TT_ok trivial rfl rfl rfl rfl rfl rfl rfl rfl rfl rfl trivial ?_)
        | refine XO.ent Ent.front5 (XO.storeL TT_ok trivial rfl rfl rfl rfl rfl rfl rfl rfl rfl rfl trivial ?_)
        | refine XO.box trivial rfl rfl rfl rfl rfl (fun _ => trivial) (fun bb => ?_)
        | refine XO.alloc TT_ok trivial rfl rfl rfl rfl rfl (fun _ => trivial) (fun bb => ?_)
        | refine XO.build TT_ok rfl rfl rfl rfl rfl ?_
        | refine XO.lenSlice TT_ok rfl rfl rfl rfl rfl rfl ?_
        | refine XO.lenString TT_ok rfl rfl rfl rfl rfl rfl ?_
        | refine XO.indexStr TT_ok rfl rfl rfl rfl rfl rfl (by omega) (by omega) ?_
        | refine XO.indexAddr TT_ok rfl rfl rfl rfl rfl rfl rfl (by omega) (by omega) ?_
        | refine XO.addStr rfl rfl rfl rfl rfl (by omega) ?_
        | refine XO.buildSlice TT_ok trivial rfl rfl rfl rfl rfl rfl rfl rfl rfl rfl rfl rfl (fun _ => trivial) (fun bb => ?_)
        | refine XO.callF rfl rfl rfl (by kernel_rfl) rfl ?_)
      exact ih (k + 1, tm) _ _ ⟨by dsimp only; omega, f2⟩ (by dsimp only; omega) ⟨rfl, rfl, rfl, rfl, rfl, rfl, trivial⟩ (by repeat' (first | exact Ent.refl _ | exact Ent.dropAll _ | refine Ent.cons _ ?_ | refine Ent.trans Ent.front1 (Ent.cons _ ?_) | refine Ent.trans Ent.front2 (Ent.cons _ ?_) | refine Ent.trans Ent.front3 (Ent.cons _ ?_) | refine Ent.trans Ent.front4 (Ent.cons _ ?_) | refine Ent.trans Ent.front5 (Ent.cons _ ?_) | refine Ent.trans Row.of_at (Ent.cons _ ?_) | refine Ent.trans Ent.front1 (Ent.trans Row.of_at (Ent.cons _ ?_)) | refine Ent.trans Ent.front2 (Ent.trans Row.of_at (Ent.cons _ ?_)) | refine Ent.trans Ent.front3 (Ent.trans Row.of_at (Ent.cons _ ?_)) | refine Ent.trans Ent.front4 (Ent.trans Row.of_at (Ent.cons _ ?_)) | refine Ent.trans (Ent.drop _ _) ?_))
  · clear ih
    repeat' (first
      | refine XO.q TT_ok rfl rfl rfl rfl rfl ?_
      | refine XO.nil ?_
      | refine len_spec ?_
      | refine Tri.ent Ent.front1 (len_spec ?_)
      | refine Tri.ent Ent.front2 (len_spec ?_)
      | refine Tri.ent Ent.front3 (len_spec ?_)
      | refine Tri.ent Ent.front4 (len_spec ?_)
      | refine adv_good db (to := 1099511627776) f2 (Nat.zero_le _) (Nat.le_refl _) (fun xa ca out1 rest1 hA1 => ?_)
      | refine XS.seq ?_
      | refine XS.region (T := TT) ?_
      | refine XS.draw (T := TT) follows_ok (by decide +kernel) ?_
      | refine XS.block ?_
      | refine XS.inBlock ?_
      | refine XS.exit rfl ?_
      | refine XS.condT rfl ?_
      | refine XS.condF rfl ?_
      | refine XS.skip ?_
      | refine XS.label ?_
      | refine XO.load TT_ok rfl rfl rfl rfl rfl rfl (Reads.here rfl) ?_
      | refine XO.load TT_ok rfl rfl rfl rfl rfl rfl (Reads.skip (Reads.here rfl)) ?_
      | refine XO.load TT_ok rfl rfl rfl rfl rfl rfl (Reads.skip (Reads.skip (Reads.here rfl))) ?_
      | refine XO.load TT_ok rfl rfl rfl rfl rfl rfl (Reads.skip (Reads.skip (Reads.skip (Reads.here rfl)))) ?_
      | refine XO.load TT_ok rfl rfl rfl rfl rfl rfl (Reads.skip (Reads.skip (Reads.skip (Reads.skip (Reads.here rfl))))) ?_
      | refine XO.load TT_ok rfl rfl rfl rfl rfl rfl (Reads.skip (Reads.skip (Reads.skip (Reads.skip (Reads.skip (Reads.here rfl)))))) ?_
      | refine XO.no rfl rfl ?_
      | (refine XO.cmpI TT_ok rfl rfl rfl rfl rfl rfl rfl (fun hc => ?_) (fun hc => ?_) <;> (try (exfalso; omega)))
      | refine XO.pT TT_ok rfl rfl rfl rfl rfl ?_
      | refine XO.pF TT_ok rfl rfl rfl rfl rfl ?_
      | refine XO.cmp TT_ok rfl rfl rfl rfl rfl (fun hc => ?_) (fun hc => ?_)
      | refine XO.add64 TT_ok rfl rfl rfl rfl rfl rfl (by omega) (by omega) ?_
      | refine XO.sub64 TT_ok rfl rfl rfl rfl rfl rfl (by omega) (by omega) ?_
      | refine XO.mul64 TT_ok rfl rfl rfl rfl rfl rfl (by omega) (by omega) ?_
      | refine XO.quo64 rfl rfl rfl rfl rfl (by omega) (by omega) (by omega) ?_
      | refine XO.rem64 rfl rfl rfl rfl rfl (by omega) (by omega) ?_
      | refine XO.p TT_ok rfl rfl rfl rfl ?_
      | refine XO.storeL TT_ok trivial rfl rfl rfl rfl rfl rfl rfl rfl rfl rfl trivial ?_
      | refine XO.ent Ent.front1 (XO.storeL TT_ok trivial rfl rfl rfl rfl rfl rfl rfl rfl rfl rfl trivial ?_)
      | refine XO.ent Ent.front2 (XO.storeL TT_ok trivial rfl rfl rfl rfl rfl rfl rfl rfl rfl rfl trivial ?_)
      | refine XO.ent Ent.front3 (XO.storeL TT_ok trivial rfl rfl rfl rfl rfl rfl rfl rfl rfl rfl trivial ?_)
      | refine XO.ent Ent.front4 (XO.storeL TT_ok trivial rfl rfl rfl rfl rfl rfl rfl rfl rfl rfl trivial ?_)
      | refine XO.ent Ent.front5 (XO.storeL TT_ok trivial rfl rfl rfl rfl rfl rfl rfl rfl rfl rfl trivial ?_)
      | refine XO.box trivial rfl rfl rfl rfl rfl (fun _ => trivial) (fun bb => ?_)
      | refine XO.alloc TT_ok trivial rfl rfl rfl rfl rfl (fun _ => trivial) (fun bb => ?_)
      | refine XO.build TT_ok rfl rfl rfl rfl rfl ?_
      | refine XO.lenSlice TT_ok rfl rfl rfl rfl rfl rfl ?_
      | refine XO.lenString TT_ok rfl rfl rfl rfl rfl rfl ?_
      | refine XO.indexStr TT_ok rfl rfl rfl rfl rfl rfl (by omega) (by omega) ?_
      | refine XO.indexAddr TT_ok rfl rfl rfl rfl rfl rfl rfl (by omega) (by omega) ?_
      | refine XO.addStr rfl rfl rfl rfl rfl (by omega) ?_
      | refine XO.buildSlice TT_ok trivial rfl rfl rfl rfl rfl rfl rfl rfl rfl rfl rfl rfl (fun _ => trivial) (fun bb => ?_)
      | refine XO.callF rfl rfl rfl (by kernel_rfl) rfl ?_)
    have hr1' : rest1 = [] := hA1.all (fun j c hc => (fc.time j c hc).2) fc.keys
    subst hr1'
    have hl1 : out1.length = tm.length := by have := hA1.len; simpa using this
    refine XS.loopI (ι := Nat × Nat × Tm × List (Int × Nat) × Option Addr × Nat) (fun x => [(5, ptr b1), (6, ptr b2), (9, kI tm.length), (10, .slice xa out1.length ca), (11, kI 0), (12, .slice x.2.2.2.2.1 x.2.2.2.1.length x.2.2.2.2.2), (59, .slice a2 n2 cap2), (60, kI n2), (61, kI x.1)])
      (fun x => Row x.2.2.2.2.1 x.2.2.2.2.2 33 2 x.2.2.2.1.length (flat tenc x.2.2.2.1) :: wheelP b2 x.2.1 x.2.2.1 [] :: Row xa ca 33 2 out1.length (flat tenc out1) :: wheelP b1 1099511627776 [] [] :: H')
      (fun x => x.1 ≤ n2 ∧ x.2.1 ≤ 1099511627776 ∧ x.2.2.2.1.length + x.2.2.1.length = tm.length ∧ ∀ o2 r2, Adv 1099511627776 x.2.2.1 o2 r2 → Adv 1099511627776 tm (x.2.2.2.1 ++ o2) r2) (fun x => n2 - x.1) (0, 0, tm, [], none, 0)
      ⟨Nat.zero_le _, Nat.zero_le _, Nat.zero_add _, fun _ _ h => h⟩ ⟨rfl, rfl, rfl, rfl, rfl, rfl, rfl, rfl, rfl, trivial⟩ (Ent.trans (Ent.trans Ent.back2 Ent.front2) (Ent.trans (Row.nil 33 2 _) (Ent.cons _ (Ent.trans Ent.front2 (Ent.refl _))))) ?_
    clear hlt hn f1
    rintro ⟨k2, t', tm', m, ma, mc⟩ e ⟨g1, g2, g3, g4⟩ ih
    simp only at g1 g2 g3 g4 ⊢
    by_cases hlt : k2 < n2
    · obtain ⟨c', bz, off, hz, rfl, hrd⟩ := int_at hop2 hn2 hlt
      by_cases hok : OkAt t' c'
      · obtain ⟨c, rfl⟩ := Int.eq_ofNat_of_zero_le (show 0 ≤ c' by unfold OkAt at hok; omega)
        have hok' := hok
        unfold OkAt at hok'
        repeat' (first
          | refine XO.q TT_ok rfl rfl rfl rfl rfl ?_
          | refine XO.nil ?_
          | refine XO.load TT_ok rfl rfl rfl rfl rfl rfl (hrd _) ?_
          | (refine Tri.ent Ent.front1 (adv_good db (by omega) (by omega) (by omega) (fun xb cb out r hA => ?_)); have hlr := hA.len; rcases Nat.eq_zero_or_pos out.length with h0 | h0)
          | (refine XO.rowOpen h0 (fun g hg => ?_); subst hg)
          | refine XO.ent Ent.front2 (XO.appendN (m := out.length) (N := 8192) TT_ok trivial rfl rfl rfl rfl rfl rfl rfl rfl rfl rfl rfl (fun hm => ⟨_, rfl, ReadsL.skip ReadsL.rowAll⟩) (flat_length tenc_len _) (flat_all tenc_all _) (by omega) rfl rfl (fun _ _ => trivial) (fun a' cap' => ?_))
          | refine XO.ent Ent.front2 (XO.appendN (m := out.length) (news := flat tenc out) (N := 8192) TT_ok trivial rfl rfl rfl rfl rfl rfl rfl rfl rfl rfl rfl (fun hm => absurd hm (by omega)) (flat_length tenc_len _) (flat_all tenc_all _) (by omega) rfl rfl (fun _ _ => trivial) (fun a' cap' => ?_))
          | refine XS.seq ?_
          | refine XS.region (T := TT) ?_
          | refine XS.draw (T := TT) follows_ok (by decide +kernel) ?_
          | refine XS.block ?_
          | refine XS.inBlock ?_
          | refine XS.exit rfl ?_
          | refine XS.condT rfl ?_
          | refine XS.condF rfl ?_
          | refine XS.skip ?_
          | refine XS.label ?_
          | refine XO.load TT_ok rfl rfl rfl rfl rfl rfl (Reads.here rfl) ?_
          | refine XO.load TT_ok rfl rfl rfl rfl rfl rfl (Reads.skip (Reads.here rfl)) ?_
          | refine XO.load TT_ok rfl rfl rfl rfl rfl rfl (Reads.skip (Reads.skip (Reads.here rfl))) ?_
          | refine XO.load TT_ok rfl rfl rfl rfl rfl rfl (Reads.skip (Reads.skip (Reads.skip (Reads.here rfl)))) ?_
          | refine XO.load TT_ok rfl rfl rfl rfl rfl rfl (Reads.skip (Reads.skip (Reads.skip (Reads.skip (Reads.here rfl))))) ?_
          | refine XO.load TT_ok rfl rfl rfl rfl rfl rfl (Reads.skip (Reads.skip (Reads.skip (Reads.skip (Reads.skip (Reads.here rfl)))))) ?_
          | refine XO.no rfl rfl ?_
          | (refine XO.cmpI TT_ok rfl rfl rfl rfl rfl rfl rfl (fun hc => ?_) (fun hc => ?_) <;> (try (exfalso; omega)))
          | refine XO.pT TT_ok rfl rfl rfl rfl rfl ?_
          | refine XO.pF TT_ok rfl rfl rfl rfl rfl ?_
          | refine XO.cmp TT_ok rfl rfl rfl rfl rfl (fun hc => ?_) (fun hc => ?_)
          | refine XO.add64 TT_ok rfl rfl rfl rfl rfl rfl (by omega) (by omega) ?_
          | refine XO.sub64 TT_ok rfl rfl rfl rfl rfl rfl (by omega) (by omega) ?_
          | refine XO.mul64 TT_ok rfl rfl rfl rfl rfl rfl (by omega) (by omega) ?_
          | refine XO.quo64 rfl rfl rfl rfl rfl (by omega) (by omega) (by omega) ?_
          | refine XO.rem64 rfl rfl rfl rfl rfl (by omega) (by omega) ?_
          | refine XO.p TT_ok rfl rfl rfl rfl ?_
          | refine XO.storeL TT_ok trivial rfl rfl rfl rfl rfl rfl rfl rfl rfl rfl trivial ?_
          | refine XO.ent Ent.front1 (XO.storeL TT_ok trivial rfl rfl rfl rfl rfl rfl rfl rfl rfl rfl trivial ?_)
          | refine XO.ent Ent.front2 (XO.storeL TT_ok trivial rfl rfl rfl rfl rfl rfl rfl rfl rfl rfl trivial ?_)
          | refine XO.ent Ent.front3 (XO.storeL TT_ok trivial rfl rfl rfl rfl rfl rfl rfl rfl rfl rfl trivial ?_)
          | refine XO.ent Ent.front4 (XO.storeL TT_ok trivial rfl rfl rfl rfl rfl rfl rfl rfl rfl rfl trivial ?_)
          | refine XO.ent Ent.front5 (XO.storeL TT_ok trivial rfl rfl rfl rfl rfl rfl rfl rfl rfl rfl trivial ?_)
          | refine XO.box trivial rfl rfl rfl rfl rfl (fun _ => trivial) (fun bb => ?_)
          | refine XO.alloc TT_ok trivial rfl rfl rfl rfl rfl (fun _ => trivial) (fun bb => ?_)
          | refine XO.build TT_ok rfl rfl rfl rfl rfl ?_
          | refine XO.lenSlice TT_ok rfl rfl rfl rfl rfl rfl ?_
          | refine XO.lenString TT_ok rfl rfl rfl rfl rfl rfl ?_
          | refine XO.indexStr TT_ok rfl rfl rfl rfl rfl rfl (by omega) (by omega) ?_
          | refine XO.indexAddr TT_ok rfl rfl rfl rfl rfl rfl rfl (by omega) (by omega) ?_
          | refine XO.addStr rfl rfl rfl rfl rfl (by omega) ?_
          | refine XO.buildSlice TT_ok trivial rfl rfl rfl rfl rfl rfl rfl rfl rfl rfl rfl rfl (fun _ => trivial) (fun bb => ?_)
          | refine XO.callF rfl rfl rfl (by kernel_rfl) rfl ?_)
        all_goals exact ih (k2 + 1, c, r, m ++ out, a', cap') _ _ ⟨by dsimp only; omega, by dsimp only; omega, by dsimp only; rw [List.length_append]; omega, fun o2 r2 hA2 => by
          have := g4 _ _ (hA.append (by omega) hA2)
          dsimp only; rw [List.append_assoc]; exact this⟩ (by dsimp only; omega) ⟨rfl, rfl, rfl, rfl, rfl, by dsimp only; rw [List.length_append]; rfl, rfl, rfl, rfl, trivial⟩ (by
          dsimp only; rw [List.length_append, flat_append]; exact Ent.cons _ (Ent.drop _ _))
      · repeat' (first
          | refine XO.q TT_ok rfl rfl rfl rfl rfl ?_
          | refine XO.nil ?_
          | refine XO.load TT_ok rfl rfl rfl rfl rfl rfl (hrd _) ?_
          | refine adv_bad hok ?_
          | refine Tri.ent Ent.front1 (adv_bad hok ?_)
          | refine Tri.ent Ent.front2 (adv_bad hok ?_)
          | refine Tri.ent Ent.front3 (adv_bad hok ?_)
          | refine Tri.ent Ent.front4 (adv_bad hok ?_)
          | refine XS.seq ?_
          | refine XS.region (T := TT) ?_
          | refine XS.draw (T := TT) follows_ok (by decide +kernel) ?_
          | refine XS.block ?_
          | refine XS.inBlock ?_
          | refine XS.exit rfl ?_
          | refine XS.condT rfl ?_
          | refine XS.condF rfl ?_
          | refine XS.skip ?_
          | refine XS.label ?_
          | refine XO.load TT_ok rfl rfl rfl rfl rfl rfl (Reads.here rfl) ?_
          | refine XO.load TT_ok rfl rfl rfl rfl rfl rfl (Reads.skip (Reads.here rfl)) ?_
          | refine XO.load TT_ok rfl rfl rfl rfl rfl rfl (Reads.skip (Reads.skip (Reads.here rfl))) ?_
          | refine XO.load TT_ok rfl rfl rfl rfl rfl rfl (Reads.skip (Reads.skip (Reads.skip (Reads.here rfl)))) ?_
          | refine XO.load TT_ok rfl rfl rfl rfl rfl rfl (Reads.skip (Reads.skip (Reads.skip (Reads.skip (Reads.here rfl))))) ?_
          | refine XO.load TT_ok rfl rfl rfl rfl rfl rfl (Reads.skip (Reads.skip (Reads.skip (Reads.skip (Reads.skip (Reads.here rfl)))))) ?_
          | refine XO.no rfl rfl ?_
          | (refine XO.cmpI TT_ok rfl rfl rfl rfl rfl rfl rfl (fun hc => ?_) (fun hc => ?_) <;> (try (exfalso; omega)))
          | refine XO.pT TT_ok rfl rfl rfl rfl rfl ?_
          | refine XO.pF TT_ok rfl rfl rfl rfl rfl ?_
          | refine XO.cmp TT_ok rfl rfl rfl rfl rfl (fun hc => ?_) (fun hc => ?_)
          | refine XO.add64 TT_ok rfl rfl rfl rfl rfl rfl (by omega) (by omega) ?_
          | refine XO.sub64 TT_ok rfl rfl rfl rfl rfl rfl (by omega) (by omega) ?_
          | refine XO.mul64 TT_ok rfl rfl rfl rfl rfl rfl (by omega) (by omega) ?_
          | refine XO.quo64 rfl rfl rfl rfl rfl (by omega) (by omega) (by omega) ?_
          | refine XO.rem64 rfl rfl rfl rfl rfl (by omega) (by omega) ?_
          | refine XO.p TT_ok rfl rfl rfl rfl ?_
          | refine XO.storeL TT_ok trivial rfl rfl rfl rfl rfl rfl rfl rfl rfl rfl trivial ?_
          | refine XO.ent Ent.front1 (XO.storeL TT_ok trivial rfl rfl rfl rfl rfl rfl rfl rfl rfl rfl trivial ?_)
          | refine XO.ent Ent.front2 (XO.storeL TT_ok trivial rfl rfl rfl rfl rfl rfl rfl rfl rfl rfl trivial ?_)
          | refine XO.ent Ent.front3 (XO.storeL TT_ok trivial rfl rfl rfl rfl rfl rfl rfl rfl rfl rfl trivial ?_)
          | refine XO.ent Ent.front4 (XO.storeL TT_ok trivial rfl rfl rfl rfl rfl rfl rfl rfl rfl rfl trivial ?_)
          | refine XO.ent Ent.front5 (XO.storeL TT_ok trivial rfl rfl rfl rfl rfl rfl rfl rfl rfl rfl trivial ?_)
          | refine XO.box trivial rfl rfl rfl rfl rfl (fun _ => trivial) (fun bb => ?_)
          | refine XO.alloc TT_ok trivial rfl rfl rfl rfl rfl (fun _ => trivial) (fun bb => ?_)
          | refine XO.build TT_ok rfl rfl rfl rfl rfl ?_
          | refine XO.lenSlice TT_ok rfl rfl rfl rfl rfl rfl ?_
          | refine XO.lenString TT_ok rfl rfl rfl rfl rfl rfl ?_
          | refine XO.indexStr TT_ok rfl rfl rfl rfl rfl rfl (by omega) (by omega) ?_
          | refine XO.indexAddr TT_ok rfl rfl rfl rfl rfl rfl rfl (by omega) (by omega) ?_
          | refine XO.addStr rfl rfl rfl rfl rfl (by omega) ?_
          | refine XO.buildSlice TT_ok trivial rfl rfl rfl rfl rfl rfl rfl rfl rfl rfl rfl rfl (fun _ => trivial) (fun bb => ?_)
          | refine XO.callF rfl rfl rfl (by kernel_rfl) rfl ?_)
        exact ih (k2 + 1, t', tm', m, ma, mc) _ _ ⟨by dsimp only; omega, g2, g3, g4⟩ (by dsimp only; omega) ⟨rfl, rfl, rfl, rfl, rfl, rfl, rfl, rfl, rfl, trivial⟩ (by repeat' (first | exact Ent.refl _ | exact Ent.dropAll _ | refine Ent.cons _ ?_ | refine Ent.trans Ent.front1 (Ent.cons _ ?_) | refine Ent.trans Ent.front2 (Ent.cons _ ?_) | refine Ent.trans Ent.front3 (Ent.cons _ ?_) | refine Ent.trans Ent.front4 (Ent.cons _ ?_) | refine Ent.trans Ent.front5 (Ent.cons _ ?_) | refine Ent.trans Row.of_at (Ent.cons _ ?_) | refine Ent.trans Ent.front1 (Ent.trans Row.of_at (Ent.cons _ ?_)) | refine Ent.trans Ent.front2 (Ent.trans Row.of_at (Ent.cons _ ?_)) | refine Ent.trans Ent.front3 (Ent.trans Row.of_at (Ent.cons _ ?_)) | refine Ent.trans Ent.front4 (Ent.trans Row.of_at (Ent.cons _ ?_)) | refine Ent.trans (Ent.drop _ _) ?_))
    · clear ih
      repeat' (first
        | refine XO.q TT_ok rfl rfl rfl rfl rfl ?_
        | refine XO.nil ?_
        | (refine Tri.ent Ent.front1 (adv_good db (to := 1099511627776) (by omega) g2 (Nat.le_refl _) (fun xb cb out r hA => ?_)); have hlr := hA.len; obtain ⟨e1, e2⟩ := hA1.unique (g4 out r hA); subst e2; have hl2 : m.length + out.length = tm.length := (by rw [← hl1, e1, List.length_append]); rcases Nat.eq_zero_or_pos out.length with h0 | h0)
        | (refine XO.rowOpen h0 (fun g hg => ?_); subst hg)
        | refine XO.ent Ent.front2 (XO.appendN (m := out.length) (N := 8192) TT_ok trivial rfl rfl rfl rfl rfl rfl rfl rfl rfl rfl rfl (fun hm => ⟨_, rfl, ReadsL.skip ReadsL.rowAll⟩) (flat_length tenc_len _) (flat_all tenc_all _) (by omega) rfl rfl (fun _ _ => trivial) (fun a' cap' => ?_))
        | refine XO.ent Ent.front2 (XO.appendN (m := out.length) (news := flat tenc out) (N := 8192) TT_ok trivial rfl rfl rfl rfl rfl rfl rfl rfl rfl rfl rfl (fun hm => absurd hm (by omega)) (flat_length tenc_len _) (flat_all tenc_all _) (by omega) rfl rfl (fun _ _ => trivial) (fun a' cap' => ?_))
        | refine len_at 0 rfl ?_
        | refine Tri.ent Ent.front1 (len_at 0 rfl ?_)
        | refine Tri.ent Ent.front2 (len_at 0 rfl ?_)
        | refine Tri.ent Ent.front3 (len_at 0 rfl ?_)
        | refine Tri.ent Ent.front4 (len_at 0 rfl ?_)
        | refine XS.seq ?_
        | refine XS.region (T := TT) ?_
        | refine XS.draw (T := TT) follows_ok (by decide +kernel) ?_
        | refine XS.block ?_
        | refine XS.inBlock ?_
        | refine XS.exit rfl ?_
        | refine XS.condT rfl ?_
        | refine XS.condF rfl ?_
        | refine XS.skip ?_
        | refine XS.label ?_
        | refine XO.load TT_ok rfl rfl rfl rfl rfl rfl (Reads.here rfl) ?_
        | refine XO.load TT_ok rfl rfl rfl rfl rfl rfl (Reads.skip (Reads.here rfl)) ?_
        | refine XO.load TT_ok rfl rfl rfl rfl rfl rfl (Reads.skip (Reads.skip (Reads.here rfl))) ?_
        | refine XO.load TT_ok rfl rfl rfl rfl rfl rfl (Reads.skip (Reads.skip (Reads.skip (Reads.here rfl)))) ?_
        | refine XO.load TT_ok rfl rfl rfl rfl rfl rfl (Reads.skip (Reads.skip (Reads.skip (Reads.skip (Reads.here rfl))))) ?_
        | refine XO.load TT_ok rfl rfl rfl rfl rfl rfl (Reads.skip (Reads.skip (Reads.skip (Reads.skip (Reads.skip (Reads.here rfl)))))) ?_
        | refine XO.no rfl rfl ?_
        | (refine XO.cmpI TT_ok rfl rfl rfl rfl rfl rfl rfl (fun hc => ?_) (fun hc => ?_) <;> (try (exfalso; omega)))
        | refine XO.pT TT_ok rfl rfl rfl rfl rfl ?_
        | refine XO.pF TT_ok rfl rfl rfl rfl rfl ?_
        | refine XO.cmp TT_ok rfl rfl rfl rfl rfl (fun hc => ?_) (fun hc => ?_)
        | refine XO.add64 TT_ok rfl rfl rfl rfl rfl rfl (by omega) (by omega) ?_
        | refine XO.sub64 TT_ok rfl rfl rfl rfl rfl rfl (by omega) (by omega) ?_
        | refine XO.mul64 TT_ok rfl rfl rfl rfl rfl rfl (by omega) (by omega) ?_
        | refine XO.quo64 rfl rfl rfl rfl rfl (by omega) (by omega) (by omega) ?_
        | refine XO.rem64 rfl rfl rfl rfl rfl (by omega) (by omega) ?_
        | refine XO.p TT_ok rfl rfl rfl rfl ?_
        | refine XO.storeL TT_ok trivial rfl rfl rfl rfl rfl rfl rfl rfl rfl rfl trivial ?_
        | refine XO.ent Ent.front1 (XO.storeL TT_ok trivial rfl rfl rfl rfl rfl rfl rfl rfl rfl rfl trivial ?_)
        | refine XO.ent Ent.front2 (XO.storeL TT_ok trivial rfl rfl rfl rfl rfl rfl rfl rfl rfl rfl trivial ?_)
        | refine XO.ent Ent.front3 (XO.storeL TT_ok trivial rfl rfl rfl rfl rfl rfl rfl rfl rfl rfl trivial ?_)
        | refine XO.ent Ent.front4 (XO.storeL TT_ok trivial rfl rfl rfl rfl rfl rfl rfl rfl rfl rfl trivial ?_)
        | refine XO.ent Ent.front5 (XO.storeL TT_ok trivial rfl rfl rfl rfl rfl rfl rfl rfl rfl rfl trivial ?_)
        | refine XO.box trivial rfl rfl rfl rfl rfl (fun _ => trivial) (fun bb => ?_)
        | refine XO.alloc TT_ok trivial rfl rfl rfl rfl rfl (fun _ => trivial) (fun bb => ?_)
        | refine XO.build TT_ok rfl rfl rfl rfl rfl ?_
        | refine XO.lenSlice TT_ok rfl rfl rfl rfl rfl rfl ?_
        | refine XO.lenString TT_ok rfl rfl rfl rfl rfl rfl ?_
        | refine XO.indexStr TT_ok rfl rfl rfl rfl rfl rfl (by omega) (by omega) ?_
        | refine XO.indexAddr TT_ok rfl rfl rfl rfl rfl rfl rfl (by omega) (by omega) ?_
        | refine XO.addStr rfl rfl rfl rfl rfl (by omega) ?_
        | refine XO.buildSlice TT_ok trivial rfl rfl rfl rfl rfl rfl rfl rfl rfl rfl rfl rfl (fun _ => trivial) (fun bb => ?_)
        | refine XO.callF rfl rfl rfl (by kernel_rfl) rfl ?_)
      all_goals have hrow : Row a' cap' 33 2 (m.length + out.length) (flat tenc m ++ flat tenc out) = Row a' cap' 33 2 out1.length (flat tenc out1) := by rw [e1, List.length_append, flat_append]
      all_goals rw [hrow]
      all_goals have hsort := hA1.sorted fc.keys
      all_goals rw [show m.length + out.length = out1.length by omega]
      all_goals refine XS.ent (H' := Row xa ca 33 2 out1.length (flat tenc out1) :: Row a' cap' 33 2 out1.length (flat tenc out1) :: H') (by repeat' (first | exact Ent.refl _ | exact Ent.dropAll _ | refine Ent.cons _ ?_ | refine Ent.trans Ent.front1 (Ent.cons _ ?_) | refine Ent.trans Ent.front2 (Ent.cons _ ?_) | refine Ent.trans Ent.front3 (Ent.cons _ ?_) | refine Ent.trans Ent.front4 (Ent.cons _ ?_) | refine Ent.trans Ent.front5 (Ent.cons _ ?_) | refine Ent.trans Row.of_at (Ent.cons _ ?_) | refine Ent.trans Ent.front1 (Ent.trans Row.of_at (Ent.cons _ ?_)) | refine Ent.trans Ent.front2 (Ent.trans Row.of_at (Ent.cons _ ?_)) | refine Ent.trans Ent.front3 (Ent.trans Row.of_at (Ent.cons _ ?_)) | refine Ent.trans Ent.front4 (Ent.trans Row.of_at (Ent.cons _ ?_)) | refine Ent.trans (Ent.drop _ _) ?_)) ?_
      · refine XS.loopI (ι := Nat) (fun i => [(10, .slice xa out1.length ca), (12, .slice a' out1.length cap'), (116, .slice xa out1.length ca), (117, kI out1.length), (118, kI i)]) (fun _ => Row xa ca 33 2 out1.length (flat tenc out1) :: Row a' cap' 33 2 out1.length (flat tenc out1) :: H') (fun i => i ≤ out1.length) (fun i => out1.length - i) 0 (Nat.zero_le _) ⟨rfl, rfl, rfl, rfl, rfl, trivial⟩ (Ent.refl _) ?_
        clear hrow e1 hl2 hA hA1
        intro i e hi ih
        by_cases hlt : i < out1.length
        · obtain ⟨⟨id, c⟩, hp⟩ : ∃ p, out1[i]? = some p := ⟨_, List.getElem?_eq_getElem hlt⟩
          refine XS.rowOpen (by omega) (fun q1 hq1 => ?_)
          subst hq1
          refine XS.ent Ent.front1 (XS.rowOpen (by omega) (fun q2 hq2 => ?_))
          subst hq2
          refine XS.ent Ent.front1 ?_
          cases i with
          | zero =>
            repeat' (first
              | refine XO.q TT_ok rfl rfl rfl rfl rfl ?_
              | refine XO.nil ?_
              | refine XO.indexOwn TT_ok rfl rfl rfl rfl rfl rfl rfl hlt ?_
              | refine XO.loadAgg TT_ok rfl rfl rfl rfl rfl rfl rfl (ReadsL.rowFlat tenc_len hp) ?_
              | refine XO.loadAgg TT_ok rfl rfl rfl rfl rfl rfl rfl (ReadsL.here 2) ?_
              | refine XO.loadAgg TT_ok rfl rfl rfl rfl rfl rfl rfl (ReadsL.skip (ReadsL.skip (ReadsL.rowFlat tenc_len hp))) ?_
              | (refine XO.neTimer rfl rfl rfl rfl rfl rfl (fun _ _ => ?_) (fun hne => absurd ⟨rfl, rfl⟩ hne))
              | refine XS.seq ?_
              | refine XS.region (T := TT) ?_
              | refine XS.draw (T := TT) follows_ok (by decide +kernel) ?_
              | refine XS.block ?_
              | refine XS.inBlock ?_
              | refine XS.exit rfl ?_
              | refine XS.condT rfl ?_
              | refine XS.condF rfl ?_
              | refine XS.skip ?_
              | refine XS.label ?_
              | refine XO.load TT_ok rfl rfl rfl rfl rfl rfl (Reads.here rfl) ?_
              | refine XO.load TT_ok rfl rfl rfl rfl rfl rfl (Reads.skip (Reads.here rfl)) ?_
              | refine XO.load TT_ok rfl rfl rfl rfl rfl rfl (Reads.skip (Reads.skip (Reads.here rfl))) ?_
              | refine XO.load TT_ok rfl rfl rfl rfl rfl rfl (Reads.skip (Reads.skip (Reads.skip (Reads.here rfl)))) ?_
              | refine XO.load TT_ok rfl rfl rfl rfl rfl rfl (Reads.skip (Reads.skip (Reads.skip (Reads.skip (Reads.here rfl))))) ?_
              | refine XO.load TT_ok rfl rfl rfl rfl rfl rfl (Reads.skip (Reads.skip (Reads.skip (Reads.skip (Reads.skip (Reads.here rfl)))))) ?_
              | refine XO.no rfl rfl ?_
              | (refine XO.cmpI TT_ok rfl rfl rfl rfl rfl rfl rfl (fun hc => ?_) (fun hc => ?_) <;> (try (exfalso; omega)))
              | refine XO.pT TT_ok rfl rfl rfl rfl rfl ?_
              | refine XO.pF TT_ok rfl rfl rfl rfl rfl ?_
              | refine XO.cmp TT_ok rfl rfl rfl rfl rfl (fun hc => ?_) (fun hc => ?_)
              | refine XO.add64 TT_ok rfl rfl rfl rfl rfl rfl (by omega) (by omega) ?_
              | refine XO.sub64 TT_ok rfl rfl rfl rfl rfl rfl (by omega) (by omega) ?_
              | refine XO.mul64 TT_ok rfl rfl rfl rfl rfl rfl (by omega) (by omega) ?_
              | refine XO.quo64 rfl rfl rfl rfl rfl (by omega) (by omega) (by omega) ?_
              | refine XO.rem64 rfl rfl rfl rfl rfl (by omega) (by omega) ?_
              | refine XO.p TT_ok rfl rfl rfl rfl ?_
              | refine XO.storeL TT_ok trivial rfl rfl rfl rfl rfl rfl rfl rfl rfl rfl trivial ?_
              | refine XO.ent Ent.front1 (XO.storeL TT_ok trivial rfl rfl rfl rfl rfl rfl rfl rfl rfl rfl trivial ?_)
              | refine XO.ent Ent.front2 (XO.storeL TT_ok trivial rfl rfl rfl rfl rfl rfl rfl rfl rfl rfl trivial ?_)
              | refine XO.ent Ent.front3 (XO.storeL TT_ok trivial rfl rfl rfl rfl rfl rfl rfl rfl rfl rfl trivial ?_)
              | refine XO.ent Ent.front4 (XO.storeL TT_ok trivial rfl rfl rfl rfl rfl rfl rfl rfl rfl rfl trivial ?_)
              | refine XO.ent Ent.front5 (XO.storeL TT_ok trivial rfl rfl rfl rfl rfl rfl rfl rfl rfl rfl trivial ?_)
              | refine XO.box trivial rfl rfl rfl rfl rfl (fun _ => trivial) (fun bb => ?_)
              | refine XO.alloc TT_ok trivial rfl rfl rfl rfl rfl (fun _ => trivial) (fun bb => ?_)
              | refine XO.build TT_ok rfl rfl rfl rfl rfl ?_
              | refine XO.lenSlice TT_ok rfl rfl rfl rfl rfl rfl ?_
              | refine XO.lenString TT_ok rfl rfl rfl rfl rfl rfl ?_
              | refine XO.indexStr TT_ok rfl rfl rfl rfl rfl rfl (by omega) (by omega) ?_
              | refine XO.indexAddr TT_ok rfl rfl rfl rfl rfl rfl rfl (by omega) (by omega) ?_
              | refine XO.addStr rfl rfl rfl rfl rfl (by omega) ?_
              | refine XO.buildSlice TT_ok trivial rfl rfl rfl rfl rfl rfl rfl rfl rfl rfl rfl rfl (fun _ => trivial) (fun bb => ?_)
              | refine XO.callF rfl rfl rfl (by kernel_rfl) rfl ?_)
            exact ih 1 _ _ (by omega) (by omega) ⟨rfl, rfl, rfl, rfl, rfl, trivial⟩ (by repeat' (first | exact Ent.refl _ | exact Ent.dropAll _ | refine Ent.cons _ ?_ | refine Ent.trans Ent.front1 (Ent.cons _ ?_) | refine Ent.trans Ent.front2 (Ent.cons _ ?_) | refine Ent.trans Ent.front3 (Ent.cons _ ?_) | refine Ent.trans Ent.front4 (Ent.cons _ ?_) | refine Ent.trans Ent.front5 (Ent.cons _ ?_) | refine Ent.trans Row.of_at (Ent.cons _ ?_) | refine Ent.trans Ent.front1 (Ent.trans Row.of_at (Ent.cons _ ?_)) | refine Ent.trans Ent.front2 (Ent.trans Row.of_at (Ent.cons _ ?_)) | refine Ent.trans Ent.front3 (Ent.trans Row.of_at (Ent.cons _ ?_)) | refine Ent.trans Ent.front4 (Ent.trans Row.of_at (Ent.cons _ ?_)) | refine Ent.trans (Ent.drop _ _) ?_))
          | succ i' =>
            obtain ⟨⟨id0, c0⟩, hp0⟩ : ∃ p, out1[i']? = some p := ⟨_, List.getElem?_eq_getElem (by omega)⟩
            have hbef : c0 < c ∨ (c0 = c ∧ id0 < id) := hsort i' _ _ hp0 hp
            have hlt0 : i' < out1.length := by omega
            repeat' (first
              | refine XO.q TT_ok rfl rfl rfl rfl rfl ?_
              | refine XO.nil ?_
              | refine XO.indexOwn TT_ok rfl rfl rfl rfl rfl rfl rfl hlt ?_
              | refine XO.loadAgg TT_ok rfl rfl rfl rfl rfl rfl rfl (ReadsL.rowFlat tenc_len hp) ?_
              | refine XO.loadAgg TT_ok rfl rfl rfl rfl rfl rfl rfl (ReadsL.here 2) ?_
              | refine XO.loadAgg TT_ok rfl rfl rfl rfl rfl rfl rfl (ReadsL.skip (ReadsL.skip (ReadsL.rowFlat tenc_len hp))) ?_
              | (refine XO.neTimer rfl rfl rfl rfl rfl rfl (fun _ _ => ?_) (fun hne => absurd ⟨rfl, rfl⟩ hne))
              | refine XO.indexOwn TT_ok rfl rfl rfl rfl rfl rfl rfl hlt0 ?_
              | refine XO.load TT_ok rfl rfl rfl rfl rfl rfl (Reads.skip (Reads.rowFlat tenc_len (j := 0) hp0 rfl)) ?_
              | refine XO.load TT_ok rfl rfl rfl rfl rfl rfl (Reads.skip (Reads.rowFlat tenc_len (j := 1) hp0 rfl)) ?_
              | (refine XO.sub64 TT_ok rfl rfl rfl rfl rfl rfl (by omega) (by omega) ?_; rw [show ((i' + 1 : Nat) : Int) - 1 = (i' : Int) by omega])
              | refine XS.seq ?_
              | refine XS.region (T := TT) ?_
              | refine XS.draw (T := TT) follows_ok (by decide +kernel) ?_
              | refine XS.block ?_
              | refine XS.inBlock ?_
              | refine XS.exit rfl ?_
              | refine XS.condT rfl ?_
              | refine XS.condF rfl ?_
              | refine XS.skip ?_
              | refine XS.label ?_
              | refine XO.load TT_ok rfl rfl rfl rfl rfl rfl (Reads.here rfl) ?_
              | refine XO.load TT_ok rfl rfl rfl rfl rfl rfl (Reads.skip (Reads.here rfl)) ?_
              | refine XO.load TT_ok rfl rfl rfl rfl rfl rfl (Reads.skip (Reads.skip (Reads.here rfl))) ?_
              | refine XO.load TT_ok rfl rfl rfl rfl rfl rfl (Reads.skip (Reads.skip (Reads.skip (Reads.here rfl)))) ?_
              | refine XO.load TT_ok rfl rfl rfl rfl rfl rfl (Reads.skip (Reads.skip (Reads.skip (Reads.skip (Reads.here rfl))))) ?_
              | refine XO.load TT_ok rfl rfl rfl rfl rfl rfl (Reads.skip (Reads.skip (Reads.skip (Reads.skip (Reads.skip (Reads.here rfl)))))) ?_
              | refine XO.no rfl rfl ?_
              | (refine XO.cmpI TT_ok rfl rfl rfl rfl rfl rfl rfl (fun hc => ?_) (fun hc => ?_) <;> (try (exfalso; omega)))
              | refine XO.pT TT_ok rfl rfl rfl rfl rfl ?_
              | refine XO.pF TT_ok rfl rfl rfl rfl rfl ?_
              | refine XO.cmp TT_ok rfl rfl rfl rfl rfl (fun hc => ?_) (fun hc => ?_)
              | refine XO.add64 TT_ok rfl rfl rfl rfl rfl rfl (by omega) (by omega) ?_
              | refine XO.sub64 TT_ok rfl rfl rfl rfl rfl rfl (by omega) (by omega) ?_
              | refine XO.mul64 TT_ok rfl rfl rfl rfl rfl rfl (by omega) (by omega) ?_
              | refine XO.quo64 rfl rfl rfl rfl rfl (by omega) (by omega) (by omega) ?_
              | refine XO.rem64 rfl rfl rfl rfl rfl (by omega) (by omega) ?_
              | refine XO.p TT_ok rfl rfl rfl rfl ?_
              | refine XO.storeL TT_ok trivial rfl rfl rfl rfl rfl rfl rfl rfl rfl rfl trivial ?_
              | refine XO.ent Ent.front1 (XO.storeL TT_ok trivial rfl rfl rfl rfl rfl rfl rfl rfl rfl rfl trivial ?_)
              | refine XO.ent Ent.front2 (XO.storeL TT_ok trivial rfl rfl rfl rfl rfl rfl rfl rfl rfl rfl trivial ?_)
              | refine XO.ent Ent.front3 (XO.storeL TT_ok trivial rfl rfl rfl rfl rfl rfl rfl rfl rfl rfl trivial ?_)
              | refine XO.ent Ent.front4 (XO.storeL TT_ok trivial rfl rfl rfl rfl rfl rfl rfl rfl rfl rfl trivial ?_)
              | refine XO.ent Ent.front5 (XO.storeL TT_ok trivial rfl rfl rfl rfl rfl rfl rfl rfl rfl rfl trivial ?_)
              | refine XO.box trivial rfl rfl rfl rfl rfl (fun _ => trivial) (fun bb => ?_)
              | refine XO.alloc TT_ok trivial rfl rfl rfl rfl rfl (fun _ => trivial) (fun bb => ?_)
              | refine XO.build TT_ok rfl rfl rfl rfl rfl ?_
              | refine XO.lenSlice TT_ok rfl rfl rfl rfl rfl rfl ?_
              | refine XO.lenString TT_ok rfl rfl rfl rfl rfl rfl ?_
              | refine XO.indexStr TT_ok rfl rfl rfl rfl rfl rfl (by omega) (by omega) ?_
              | refine XO.indexAddr TT_ok rfl rfl rfl rfl rfl rfl rfl (by omega) (by omega) ?_
              | refine XO.addStr rfl rfl rfl rfl rfl (by omega) ?_
              | refine XO.buildSlice TT_ok trivial rfl rfl rfl rfl rfl rfl rfl rfl rfl rfl rfl rfl (fun _ => trivial) (fun bb => ?_)
              | refine XO.callF rfl rfl rfl (by kernel_rfl) rfl ?_)
            all_goals exact ih (i' + 2) _ _ (by omega) (by omega) ⟨rfl, rfl, rfl, rfl, rfl, trivial⟩ (by repeat' (first | exact Ent.refl _ | exact Ent.dropAll _ | refine Ent.cons _ ?_ | refine Ent.trans Ent.front1 (Ent.cons _ ?_) | refine Ent.trans Ent.front2 (Ent.cons _ ?_) | refine Ent.trans Ent.front3 (Ent.cons _ ?_) | refine Ent.trans Ent.front4 (Ent.cons _ ?_) | refine Ent.trans Ent.front5 (Ent.cons _ ?_) | refine Ent.trans Row.of_at (Ent.cons _ ?_) | refine Ent.trans Ent.front1 (Ent.trans Row.of_at (Ent.cons _ ?_)) | refine Ent.trans Ent.front2 (Ent.trans Row.of_at (Ent.cons _ ?_)) | refine Ent.trans Ent.front3 (Ent.trans Row.of_at (Ent.cons _ ?_)) | refine Ent.trans Ent.front4 (Ent.trans Row.of_at (Ent.cons _ ?_)) | refine Ent.trans (Ent.drop _ _) ?_))
        · repeat' (first
            | refine XO.q TT_ok rfl rfl rfl rfl rfl ?_
            | refine XO.nil ?_
            | refine XS.seq ?_
            | refine XS.region (T := TT) ?_
            | refine XS.draw (T := TT) follows_ok (by decide +kernel) ?_
            | refine XS.block ?_
            | refine XS.inBlock ?_
            | refine XS.exit rfl ?_
            | refine XS.condT rfl ?_
            | refine XS.condF rfl ?_
            | refine XS.skip ?_
            | refine XS.label ?_
            | refine XO.load TT_ok rfl rfl rfl rfl rfl rfl (Reads.here rfl) ?_
            | refine XO.load TT_ok rfl rfl rfl rfl rfl rfl (Reads.skip (Reads.here rfl)) ?_
            | refine XO.load TT_ok rfl rfl rfl rfl rfl rfl (Reads.skip (Reads.skip (Reads.here rfl))) ?_
            | refine XO.load TT_ok rfl rfl rfl rfl rfl rfl (Reads.skip (Reads.skip (Reads.skip (Reads.here rfl)))) ?_
            | refine XO.load TT_ok rfl rfl rfl rfl rfl rfl (Reads.skip (Reads.skip (Reads.skip (Reads.skip (Reads.here rfl))))) ?_
            | refine XO.load TT_ok rfl rfl rfl rfl rfl rfl (Reads.skip (Reads.skip (Reads.skip (Reads.skip (Reads.skip (Reads.here rfl)))))) ?_
            | refine XO.no rfl rfl ?_
            | (refine XO.cmpI TT_ok rfl rfl rfl rfl rfl rfl rfl (fun hc => ?_) (fun hc => ?_) <;> (try (exfalso; omega)))
            | refine XO.pT TT_ok rfl rfl rfl rfl rfl ?_
            | refine XO.pF TT_ok rfl rfl rfl rfl rfl ?_
            | refine XO.cmp TT_ok rfl rfl rfl rfl rfl (fun hc => ?_) (fun hc => ?_)
            | refine XO.add64 TT_ok rfl rfl rfl rfl rfl rfl (by omega) (by omega) ?_
            | refine XO.sub64 TT_ok rfl rfl rfl rfl rfl rfl (by omega) (by omega) ?_
            | refine XO.mul64 TT_ok rfl rfl rfl rfl rfl rfl (by omega) (by omega) ?_
            | refine XO.quo64 rfl rfl rfl rfl rfl (by omega) (by omega) (by omega) ?_
            | refine XO.rem64 rfl rfl rfl rfl rfl (by omega) (by omega) ?_
            | refine XO.p TT_ok rfl rfl rfl rfl ?_
            | refine XO.storeL TT_ok trivial rfl rfl rfl rfl rfl rfl rfl rfl rfl rfl trivial ?_
            | refine XO.ent Ent.front1 (XO.storeL TT_ok trivial rfl rfl rfl rfl rfl rfl rfl rfl rfl rfl trivial ?_)
            | refine XO.ent Ent.front2 (XO.storeL TT_ok trivial rfl rfl rfl rfl rfl rfl rfl rfl rfl rfl trivial ?_)
            | refine XO.ent Ent.front3 (XO.storeL TT_ok trivial rfl rfl rfl rfl rfl rfl rfl rfl rfl rfl trivial ?_)
            | refine XO.ent Ent.front4 (XO.storeL TT_ok trivial rfl rfl rfl rfl rfl rfl rfl rfl rfl rfl trivial ?_)
            | refine XO.ent Ent.front5 (XO.storeL TT_ok trivial rfl rfl rfl rfl rfl rfl rfl rfl rfl rfl trivial ?_)
            | refine XO.box trivial rfl rfl rfl rfl rfl (fun _ => trivial) (fun bb => ?_)
            | refine XO.alloc TT_ok trivial rfl rfl rfl rfl rfl (fun _ => trivial) (fun bb => ?_)
            | refine XO.build TT_ok rfl rfl rfl rfl rfl ?_
            | refine XO.lenSlice TT_ok rfl rfl rfl rfl rfl rfl ?_
            | refine XO.lenString TT_ok rfl rfl rfl rfl rfl rfl ?_
            | refine XO.indexStr TT_ok rfl rfl rfl rfl rfl rfl (by omega) (by omega) ?_
            | refine XO.indexAddr TT_ok rfl rfl rfl rfl rfl rfl rfl (by omega) (by omega) ?_
            | refine XO.addStr rfl rfl rfl rfl rfl (by omega) ?_
            | refine XO.buildSlice TT_ok trivial rfl rfl rfl rfl rfl rfl rfl rfl rfl rfl rfl rfl (fun _ => trivial) (fun bb => ?_)
            | refine XO.callF rfl rfl rfl (by kernel_rfl) rfl ?_)
          exact XS.ret1 Tryd.func3 rfl Tryd.results3 rfl (Ent.refl _) rfl
      · refine XS.loopI (ι := Nat) (fun i => [(10, .slice xa out1.length ca), (12, .slice a' out1.length cap'), (116, .slice xa out1.length ca), (117, kI out1.length), (118, kI i)]) (fun _ => Row xa ca 33 2 out1.length (flat tenc out1) :: Row a' cap' 33 2 out1.length (flat tenc out1) :: H') (fun i => i ≤ out1.length) (fun i => out1.length - i) 0 (Nat.zero_le _) ⟨rfl, rfl, rfl, rfl, rfl, trivial⟩ (Ent.refl _) ?_
        clear hrow e1 hl2 hA hA1
        intro i e hi ih
        by_cases hlt : i < out1.length
        · obtain ⟨⟨id, c⟩, hp⟩ : ∃ p, out1[i]? = some p := ⟨_, List.getElem?_eq_getElem hlt⟩
          refine XS.rowOpen (by omega) (fun q1 hq1 => ?_)
          subst hq1
          refine XS.ent Ent.front1 (XS.rowOpen (by omega) (fun q2 hq2 => ?_))
          subst hq2
          refine XS.ent Ent.front1 ?_
          cases i with
          | zero =>
            repeat' (first
              | refine XO.q TT_ok rfl rfl rfl rfl rfl ?_
              | refine XO.nil ?_
              | refine XO.indexOwn TT_ok rfl rfl rfl rfl rfl rfl rfl hlt ?_
              | refine XO.loadAgg TT_ok rfl rfl rfl rfl rfl rfl rfl (ReadsL.rowFlat tenc_len hp) ?_
              | refine XO.loadAgg TT_ok rfl rfl rfl rfl rfl rfl rfl (ReadsL.here 2) ?_
              | refine XO.loadAgg TT_ok rfl rfl rfl rfl rfl rfl rfl (ReadsL.skip (ReadsL.skip (ReadsL.rowFlat tenc_len hp))) ?_
              | (refine XO.neTimer rfl rfl rfl rfl rfl rfl (fun _ _ => ?_) (fun hne => absurd ⟨rfl, rfl⟩ hne))
              | refine XS.seq ?_
              | refine XS.region (T := TT) ?_
              | refine XS.draw (T := TT) follows_ok (by decide +kernel) ?_
              | refine XS.block ?_
              | refine XS.inBlock ?_
              | refine XS.exit rfl ?_
              | refine XS.condT rfl ?_
              | refine XS.condF rfl ?_
              | refine XS.skip ?_
              | refine XS.label ?_
              | refine XO.load TT_ok rfl rfl rfl rfl rfl rfl (Reads.here rfl) ?_
              | refine XO.load TT_ok rfl rfl rfl rfl rfl rfl (Reads.skip (Reads.here rfl)) ?_
              | refine XO.load TT_ok rfl rfl rfl rfl rfl rfl (Reads.skip (Reads.skip (Reads.here rfl))) ?_
              | refine XO.load TT_ok rfl rfl rfl rfl rfl rfl (Reads.skip (Reads.skip (Reads.skip (Reads.here rfl)))) ?_
              | refine XO.load TT_ok rfl rfl rfl rfl rfl rfl (Reads.skip (Reads.skip (Reads.skip (Reads.skip (Reads.here rfl))))) ?_
              | refine XO.load TT_ok rfl rfl rfl rfl rfl rfl (Reads.skip (Reads.skip (Reads.skip (Reads.skip (Reads.skip (Reads.here rfl)))))) ?_
              | refine XO.no rfl rfl ?_
              | (refine XO.cmpI TT_ok rfl rfl rfl rfl rfl rfl rfl (fun hc => ?_) (fun hc => ?_) <;> (try (exfalso; omega)))
              | refine XO.pT TT_ok rfl rfl rfl rfl rfl ?_
              | refine XO.pF TT_ok rfl rfl rfl rfl rfl ?_
              | refine XO.cmp TT_ok rfl rfl rfl rfl rfl (fun hc => ?_) (fun hc => ?_)
              | refine XO.add64 TT_ok rfl rfl rfl rfl rfl rfl (by omega) (by omega) ?_
              | refine XO.sub64 TT_ok rfl rfl rfl rfl rfl rfl (by omega) (by omega) ?_
              | refine XO.mul64 TT_ok rfl rfl rfl rfl rfl rfl (by omega) (by omega) ?_
              | refine XO.quo64 rfl rfl rfl rfl rfl (by omega) (by omega) (by omega) ?_
              | refine XO.rem64 rfl rfl rfl rfl rfl (by omega) (by omega) ?_
              | refine XO.p TT_ok rfl rfl rfl rfl ?_
              | refine XO.storeL TT_ok trivial rfl rfl rfl rfl rfl rfl rfl rfl rfl rfl trivial ?_
              | refine XO.ent Ent.front1 (XO.storeL TT_ok trivial rfl rfl rfl rfl rfl rfl rfl rfl rfl rfl trivial ?_)
              | refine XO.ent Ent.front2 (XO.storeL TT_ok trivial rfl rfl rfl rfl rfl rfl rfl rfl rfl rfl trivial ?_)
              | refine XO.ent Ent.front3 (XO.storeL TT_ok trivial rfl rfl rfl rfl rfl rfl rfl rfl rfl rfl trivial ?_)
              | refine XO.ent Ent.front4 (XO.storeL TT_ok trivial rfl rfl rfl rfl rfl rfl rfl rfl rfl rfl trivial ?_)
              | refine XO.ent Ent.front5 (XO.storeL TT_ok trivial rfl rfl rfl rfl rfl rfl rfl rfl rfl rfl trivial ?_)
              | refine XO.box trivial rfl rfl rfl rfl rfl (fun _ => trivial) (fun bb => ?_)
              | refine XO.alloc TT_ok trivial rfl rfl rfl rfl rfl (fun _ => trivial) (fun bb => ?_)
              | refine XO.build TT_ok rfl rfl rfl rfl rfl ?_
              | refine XO.lenSlice TT_ok rfl rfl rfl rfl rfl rfl ?_
              | refine XO.lenString TT_ok rfl rfl rfl rfl rfl rfl ?_
              | refine XO.indexStr TT_ok rfl rfl rfl rfl rfl rfl (by omega) (by omega) ?_
              | refine XO.indexAddr TT_ok rfl rfl rfl rfl rfl rfl rfl (by omega) (by omega) ?_
              | refine XO.addStr rfl rfl rfl rfl rfl (by omega) ?_
              | refine XO.buildSlice TT_ok trivial rfl rfl rfl rfl rfl rfl rfl rfl rfl rfl rfl rfl (fun _ => trivial) (fun bb => ?_)
              | refine XO.callF rfl rfl rfl (by kernel_rfl) rfl ?_)
            exact ih 1 _ _ (by omega) (by omega) ⟨rfl, rfl, rfl, rfl, rfl, trivial⟩ (by repeat' (first | exact Ent.refl _ | exact Ent.dropAll _ | refine Ent.cons _ ?_ | refine Ent.trans Ent.front1 (Ent.cons _ ?_) | refine Ent.trans Ent.front2 (Ent.cons _ ?_) | refine Ent.trans Ent.front3 (Ent.cons _ ?_) | refine Ent.trans Ent.front4 (Ent.cons _ ?_) | refine Ent.trans Ent.front5 (Ent.cons _ ?_) | refine Ent.trans Row.of_at (Ent.cons _ ?_) | refine Ent.trans Ent.front1 (Ent.trans Row.of_at (Ent.cons _ ?_)) | refine Ent.trans Ent.front2 (Ent.trans Row.of_at (Ent.cons _ ?_)) | refine Ent.trans Ent.front3 (Ent.trans Row.of_at (Ent.cons _ ?_)) | refine Ent.trans Ent.front4 (Ent.trans Row.of_at (Ent.cons _ ?_)) | refine Ent.trans (Ent.drop _ _) ?_))
          | succ i' =>
            obtain ⟨⟨id0, c0⟩, hp0⟩ : ∃ p, out1[i']? = some p := ⟨_, List.getElem?_eq_getElem (by omega)⟩
            have hbef : c0 < c ∨ (c0 = c ∧ id0 < id) := hsort i' _ _ hp0 hp
            have hlt0 : i' < out1.length := by omega
            repeat' (first
              | refine XO.q TT_ok rfl rfl rfl rfl rfl ?_
              | refine XO.nil ?_
              | refine XO.indexOwn TT_ok rfl rfl rfl rfl rfl rfl rfl hlt ?_
              | refine XO.loadAgg TT_ok rfl rfl rfl rfl rfl rfl rfl (ReadsL.rowFlat tenc_len hp) ?_
              | refine XO.loadAgg TT_ok rfl rfl rfl rfl rfl rfl rfl (ReadsL.here 2) ?_
              | refine XO.loadAgg TT_ok rfl rfl rfl rfl rfl rfl rfl (ReadsL.skip (ReadsL.skip (ReadsL.rowFlat tenc_len hp))) ?_
              | (refine XO.neTimer rfl rfl rfl rfl rfl rfl (fun _ _ => ?_) (fun hne => absurd ⟨rfl, rfl⟩ hne))
              | refine XO.indexOwn TT_ok rfl rfl rfl rfl rfl rfl rfl hlt0 ?_
              | refine XO.load TT_ok rfl rfl rfl rfl rfl rfl (Reads.skip (Reads.rowFlat tenc_len (j := 0) hp0 rfl)) ?_
              | refine XO.load TT_ok rfl rfl rfl rfl rfl rfl (Reads.skip (Reads.rowFlat tenc_len (j := 1) hp0 rfl)) ?_
              | (refine XO.sub64 TT_ok rfl rfl rfl rfl rfl rfl (by omega) (by omega) ?_; rw [show ((i' + 1 : Nat) : Int) - 1 = (i' : Int) by omega])
              | refine XS.seq ?_
              | refine XS.region (T := TT) ?_
              | refine XS.draw (T := TT) follows_ok (by decide +kernel) ?_
              | refine XS.block ?_
              | refine XS.inBlock ?_
              | refine XS.exit rfl ?_
              | refine XS.condT rfl ?_
              | refine XS.condF rfl ?_
              | refine XS.skip ?_
              | refine XS.label ?_
              | refine XO.load TT_ok rfl rfl rfl rfl rfl rfl (Reads.here rfl) ?_
              | refine XO.load TT_ok rfl rfl rfl rfl rfl rfl (Reads.skip (Reads.here rfl)) ?_
              | refine XO.load TT_ok rfl rfl rfl rfl rfl rfl (Reads.skip (Reads.skip (Reads.here rfl))) ?_
              | refine XO.load TT_ok rfl rfl rfl rfl rfl rfl (Reads.skip (Reads.skip (Reads.skip (Reads.here rfl)))) ?_
              | refine XO.load TT_ok rfl rfl rfl rfl rfl rfl (Reads.skip (Reads.skip (Reads.skip (Reads.skip (Reads.here rfl))))) ?_
              | refine XO.load TT_ok rfl rfl rfl rfl rfl rfl (Reads.skip (Reads.skip (Reads.skip (Reads.skip (Reads.skip (Reads.here rfl)))))) ?_
              | refine XO.no rfl rfl ?_
              | (refine XO.cmpI TT_ok rfl rfl rfl rfl rfl rfl rfl (fun hc => ?_) (fun hc => ?_) <;> (try (exfalso; omega)))
              | refine XO.pT TT_ok rfl rfl rfl rfl rfl ?_
              | refine XO.pF TT_ok rfl rfl rfl rfl rfl ?_
              | refine XO.cmp TT_ok rfl rfl rfl rfl rfl (fun hc => ?_) (fun hc => ?_)
              | refine XO.add64 TT_ok rfl rfl rfl rfl rfl rfl (by omega) (by omega) ?_
              | refine XO.sub64 TT_ok rfl rfl rfl rfl rfl rfl (by omega) (by omega) ?_
              | refine XO.mul64 TT_ok rfl rfl rfl rfl rfl rfl (by omega) (by omega) ?_
              | refine XO.quo64 rfl rfl rfl rfl rfl (by omega) (by omega) (by omega) ?_
              | refine XO.rem64 rfl rfl rfl rfl rfl (by omega) (by omega) ?_
              | refine XO.p TT_ok rfl rfl rfl rfl ?_
              | refine XO.storeL TT_ok trivial rfl rfl rfl rfl rfl rfl rfl rfl rfl rfl trivial ?_
              | refine XO.ent Ent.front1 (XO.storeL TT_ok trivial rfl rfl rfl rfl rfl rfl rfl rfl rfl rfl trivial ?_)
              | refine XO.ent Ent.front2 (XO.storeL TT_ok trivial rfl rfl rfl rfl rfl rfl rfl rfl rfl rfl trivial ?_)
              | refine XO.ent Ent.front3 (XO.storeL TT_ok trivial rfl rfl rfl rfl rfl rfl rfl rfl rfl rfl trivial ?_)
              | refine XO.ent Ent.front4 (XO.storeL TT_ok trivial rfl rfl rfl rfl rfl rfl rfl rfl rfl rfl trivial ?_)
              | refine XO.ent Ent.front5 (XO.storeL TT_ok trivial rfl rfl rfl rfl rfl rfl rfl rfl rfl rfl trivial ?_)
              | refine XO.box trivial rfl rfl rfl rfl rfl (fun _ => trivial) (fun bb => ?_)
              | refine XO.alloc TT_ok trivial rfl rfl rfl rfl rfl (fun _ => trivial) (fun bb => ?_)
              | refine XO.build TT_ok rfl rfl rfl rfl rfl ?_
              | refine XO.lenSlice TT_ok rfl rfl rfl rfl rfl rfl ?_
              | refine XO.lenString TT_ok rfl rfl rfl rfl rfl rfl ?_
              | refine XO.indexStr TT_ok rfl rfl rfl rfl rfl rfl (by omega) (by omega) ?_
              | refine XO.indexAddr TT_ok rfl rfl rfl rfl rfl rfl rfl (by omega) (by omega) ?_
              | refine XO.addStr rfl rfl rfl rfl rfl (by omega) ?_
              | refine XO.buildSlice TT_ok trivial rfl rfl rfl rfl rfl rfl rfl rfl rfl rfl rfl rfl (fun _ => trivial) (fun bb => ?_)
              | refine XO.callF rfl rfl rfl (by kernel_rfl) rfl ?_)
            all_goals exact ih (i' + 2) _ _ (by omega) (by omega) ⟨rfl, rfl, rfl, rfl, rfl, trivial⟩ (by repeat' (first | exact Ent.refl _ | exact Ent.dropAll _ | refine Ent.cons _ ?_ | refine Ent.trans Ent.front1 (Ent.cons _ ?_) | refine Ent.trans Ent.front2 (Ent.cons _ ?_) | refine Ent.trans Ent.front3 (Ent.cons _ ?_) | refine Ent.trans Ent.front4 (Ent.cons _ ?_) | refine Ent.trans Ent.front5 (Ent.cons _ ?_) | refine Ent.trans Row.of_at (Ent.cons _ ?_) | refine Ent.trans Ent.front1 (Ent.trans Row.of_at (Ent.cons _ ?_)) | refine Ent.trans Ent.front2 (Ent.trans Row.of_at (Ent.cons _ ?_)) | refine Ent.trans Ent.front3 (Ent.trans Row.of_at (Ent.cons _ ?_)) | refine Ent.trans Ent.front4 (Ent.trans Row.of_at (Ent.cons _ ?_)) | refine Ent.trans (Ent.drop _ _) ?_))
        · repeat' (first
            | refine XO.q TT_ok rfl rfl rfl rfl rfl ?_
            | refine XO.nil ?_
            | refine XS.seq ?_
            | refine XS.region (T := TT) ?_
            | refine XS.draw (T := TT) follows_ok (by decide +kernel) ?_
            | refine XS.block ?_
            | refine XS.inBlock ?_
            | refine XS.exit rfl ?_
            | refine XS.condT rfl ?_
            | refine XS.condF rfl ?_
            | refine XS.skip ?_
            | refine XS.label ?_
            | refine XO.load TT_ok rfl rfl rfl rfl rfl rfl (Reads.here rfl) ?_
            | refine XO.load TT_ok rfl rfl rfl rfl rfl rfl (Reads.skip (Reads.here rfl)) ?_
            | refine XO.load TT_ok rfl rfl rfl rfl rfl rfl (Reads.skip (Reads.skip (Reads.here rfl))) ?_
            | refine XO.load TT_ok rfl rfl rfl rfl rfl rfl (Reads.skip (Reads.skip (Reads.skip (Reads.here rfl)))) ?_
            | refine XO.load TT_ok rfl rfl rfl rfl rfl rfl (Reads.skip (Reads.skip (Reads.skip (Reads.skip (Reads.here rfl))))) ?_
            | refine XO.load TT_ok rfl rfl rfl rfl rfl rfl (Reads.skip (Reads.skip (Reads.skip (Reads.skip (Reads.skip (Reads.here rfl)))))) ?_
            | refine XO.no rfl rfl ?_
            | (refine XO.cmpI TT_ok rfl rfl rfl rfl rfl rfl rfl (fun hc => ?_) (fun hc => ?_) <;> (try (exfalso; omega)))
            | refine XO.pT TT_ok rfl rfl rfl rfl rfl ?_
            | refine XO.pF TT_ok rfl rfl rfl rfl rfl ?_
            | refine XO.cmp TT_ok rfl rfl rfl rfl rfl (fun hc => ?_) (fun hc => ?_)
            | refine XO.add64 TT_ok rfl rfl rfl rfl rfl rfl (by omega) (by omega) ?_
            | refine XO.sub64 TT_ok rfl rfl rfl rfl rfl rfl (by omega) (by omega) ?_
            | refine XO.mul64 TT_ok rfl rfl rfl rfl rfl rfl (by omega) (by omega) ?_
            | refine XO.quo64 rfl rfl rfl rfl rfl (by omega) (by omega) (by omega) ?_
            | refine XO.rem64 rfl rfl rfl rfl rfl (by omega) (by omega) ?_
            | refine XO.p TT_ok rfl rfl rfl rfl ?_
            | refine XO.storeL TT_ok trivial rfl rfl rfl rfl rfl rfl rfl rfl rfl rfl trivial ?_
            | refine XO.ent Ent.front1 (XO.storeL TT_ok trivial rfl rfl rfl rfl rfl rfl rfl rfl rfl rfl trivial ?_)
            | refine XO.ent Ent.front2 (XO.storeL TT_ok trivial rfl rfl rfl rfl rfl rfl rfl rfl rfl rfl trivial ?_)
            | refine XO.ent Ent.front3 (XO.storeL TT_ok trivial rfl rfl rfl rfl rfl rfl rfl rfl rfl rfl trivial ?_)
            | refine XO.ent Ent.front4 (XO.storeL TT_ok trivial rfl rfl rfl rfl rfl rfl rfl rfl rfl rfl trivial ?_)
            | refine XO.ent Ent.front5 (XO.storeL TT_ok trivial rfl rfl rfl rfl rfl rfl rfl rfl rfl rfl trivial ?_)
            | refine XO.box trivial rfl rfl rfl rfl rfl (fun _ => trivial) (fun bb => ?_)
            | refine XO.alloc TT_ok trivial rfl rfl rfl rfl rfl (fun _ => trivial) (fun bb => ?_)
            | refine XO.build TT_ok rfl rfl rfl rfl rfl ?_
            | refine XO.lenSlice TT_ok rfl rfl rfl rfl rfl rfl ?_
            | refine XO.lenString TT_ok rfl rfl rfl rfl rfl rfl ?_
            | refine XO.indexStr TT_ok rfl rfl rfl rfl rfl rfl (by omega) (by omega) ?_
            | refine XO.indexAddr TT_ok rfl rfl rfl rfl rfl rfl rfl (by omega) (by omega) ?_
            | refine XO.addStr rfl rfl rfl rfl rfl (by omega) ?_
            | refine XO.buildSlice TT_ok trivial rfl rfl rfl rfl rfl rfl rfl rfl rfl rfl rfl rfl (fun _ => trivial) (fun bb => ?_)
            | refine XO.callF rfl rfl rfl (by kernel_rfl) rfl ?_)
          exact XS.ret1 Tryd.func3 rfl Tryd.results3 rfl (Ent.refl _) rfl
end Go.Proofs.YtnpnfgnhgjmlbaaDoor
