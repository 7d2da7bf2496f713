/- What the document's First and Advance come to. Conditions: numbers are of their kinds. -/
import Derived.Test.YtnpnfgnhgjmlbaaDoorWheelR2
namespace Go.Proofs.YtnpnfgnhgjmlbaaDoor
open Go Go.Sx Go.WheelM
variable {w0 : World} {F H : List HProp} {K : Value → List HProp → Prop}
/-- Of two timers the first does not lie behind. -/
def LeT (p q : Int × Nat) : Prop := p.2 < q.2 ∨ (p.2 = q.2 ∧ p.1 ≤ q.1)
/-- The place of the first. -/
def MinAt (all : Tm) (i : Nat) (p : Int × Nat) : Prop := all[i]? = some p ∧ ∀ (j : Nat) (q : Int × Nat), all[j]? = some q → LeT p q
set_option maxHeartbeats 8000000 in
theorem rfirst_spec {b t : Nat} {all : Tm} (hl : all.length ≤ 1048576) (h1 : ∀ i id a, MinAt all i (id, a) → K (kI (i : Nat)) (rwheel b t all :: F)) (h2 : all = [] → K (kI (-1)) (rwheel b t all :: F)) : Tri Tryd.prog 29 #[ptr b] w0 (rwheel b t all :: F) K := by
  refine Tri.enter Tryd.func29 rfl Tryd.ntmps29 rfl ?_
  unfold rwheel
  refine XS.hex (fun y => XS.ent Ent.unpack2 ?_)
  obtain ⟨a, cap⟩ := y
  simp only
  by_cases h0 : 0 < all.length
  · refine XS.ent Ent.front1 (XS.rowOpen h0 (fun g hg => ?_))
    subst hg
    repeat' (first
      | refine XO.q TT_ok rfl rfl rfl rfl rfl ?_
      | refine XO.nil ?_
      | refine XS.seq ?_
      | refine XS.region (T := TT) ?_
      | refine XS.draw (T := TT) follows_ok (by decide +kernel) ?_
      | refine XS.block ?_
      | refine XS.inBlock ?_
      | refine XS.exit rfl ?_
      | refine XS.condT rfl ?_
      | refine XS.condF rfl ?_
      | refine XS.skip ?_
      | refine XS.label ?_
      | refine XO.load TT_ok rfl rfl rfl rfl rfl rfl (Reads.here rfl) ?_
      | refine XO.load TT_ok rfl rfl rfl rfl rfl rfl (Reads.skip (Reads.here rfl)) ?_
      | refine XO.load TT_ok rfl rfl rfl rfl rfl rfl (Reads.skip (Reads.skip (Reads.here rfl))) ?_
      | refine XO.load TT_ok rfl rfl rfl rfl rfl rfl (Reads.skip (Reads.skip (Reads.skip (Reads.here rfl)))) ?_
      | refine XO.load TT_ok rfl rfl rfl rfl rfl rfl (Reads.skip (Reads.skip (Reads.skip (Reads.skip (Reads.here rfl))))) ?_
      | refine XO.load TT_ok rfl rfl rfl rfl rfl rfl (Reads.skip (Reads.skip (Reads.skip (Reads.skip (Reads.skip (Reads.here rfl)))))) ?_
      | refine XO.no rfl rfl ?_
      | (refine XO.cmpI TT_ok rfl rfl rfl rfl rfl rfl rfl (fun hc => ?_) (fun hc => ?_) <;> (try (exfalso; omega)))
      | refine XO.pT TT_ok rfl rfl rfl rfl rfl ?_
      | refine XO.pF TT_ok rfl rfl rfl rfl rfl ?_
      | refine XO.cmp TT_ok rfl rfl rfl rfl rfl (fun hc => ?_) (fun hc => ?_)
      | refine XO.add64 TT_ok rfl rfl rfl rfl rfl rfl (by omega) (by omega) ?_
      | refine XO.sub64 TT_ok rfl rfl rfl rfl rfl rfl (by omega) (by omega) ?_
      | refine XO.mul64 TT_ok rfl rfl rfl rfl rfl rfl (by omega) (by omega) ?_
      | refine XO.quo64 rfl rfl rfl rfl rfl (by omega) (by omega) (by omega) ?_
      | refine XO.rem64 rfl rfl rfl rfl rfl (by omega) (by omega) ?_
      | refine XO.p TT_ok rfl rfl rfl rfl ?_
      | refine XO.storeL TT_ok trivial rfl rfl rfl rfl rfl rfl rfl rfl rfl rfl trivial ?_
      | refine XO.ent Ent.front1 (XO.storeL TT_ok trivial rfl rfl rfl rfl rfl rfl rfl rfl rfl rfl trivial ?_)
      | refine XO.ent Ent.front2 (XO.storeL TT_ok trivial rfl rfl rfl rfl rfl rfl rfl rfl rfl rfl trivial ?_)
      | refine XO.ent Ent.front3 (XO.storeL TT_ok trivial rfl rfl rfl rfl rfl rfl rfl rfl rfl rfl trivial ?_)
      | refine XO.ent Ent.front4 (XO.storeL TT_ok trivial rfl rfl rfl rfl rfl rfl rfl rfl rfl rfl trivial ?_)
      | refine XO.ent Ent.front5 (XO.storeL TT_ok trivial rfl rfl rfl rfl rfl rfl rfl rfl rfl rfl trivial ?_)
      | refine XO.box trivial rfl rfl rfl rfl rfl (fun _ => trivial) (fun bb => ?_)
      | refine XO.alloc TT_ok trivial rfl rfl rfl rfl rfl (fun _ => trivial) (fun bb => ?_)
      | refine XO.build TT_ok rfl rfl rfl rfl rfl ?_
      | refine XO.lenSlice TT_ok rfl rfl rfl rfl rfl rfl ?_
      | refine XO.lenString TT_ok rfl rfl rfl rfl rfl rfl ?_
      | refine XO.indexStr TT_ok rfl rfl rfl rfl rfl rfl (by omega) (by omega) ?_
      | refine XO.indexAddr TT_ok rfl rfl rfl rfl rfl rfl rfl (by omega) (by omega) ?_
      | refine XO.addStr rfl rfl rfl rfl rfl (by omega) ?_
      | refine XO.buildSlice TT_ok trivial rfl rfl rfl rfl rfl rfl rfl rfl rfl rfl rfl rfl (fun _ => trivial) (fun bb => ?_)
      | refine XO.callF rfl rfl rfl (by kernel_rfl) rfl ?_)
    refine XS.loopI (ι := Nat × Int) (fun x => [(0, ptr b), (3, kI x.2), (4, kI x.1)]) (fun _ => RowAt g cap 68 2 all.length (flat tenc all) :: cel b 44 [kI (t : Nat), .slice (some ⟨g, 0, none⟩) all.length cap] :: F)
      (fun x => x.1 ≤ all.length ∧ (x.1 = 0 ∧ x.2 = -1 ∨ 0 < x.1 ∧ ∃ (i : Nat) (p : Int × Nat), x.2 = i ∧ all[i]? = some p ∧ ∀ (j : Nat) (q : Int × Nat), j < x.1 → all[j]? = some q → LeT p q)) (fun x => all.length - x.1) (0, -1)
      ⟨Nat.zero_le _, .inl ⟨rfl, rfl⟩⟩ ⟨rfl, rfl, rfl, trivial⟩ (Ent.refl _) ?_
    rintro ⟨k, z⟩ e ⟨f1, f2⟩ ih
    simp only at f1 f2 ⊢
    by_cases hlt : k < all.length
    · obtain ⟨⟨id, c⟩, hp⟩ : ∃ p, all[k]? = some p := ⟨_, List.getElem?_eq_getElem hlt⟩
      rcases f2 with ⟨rfl, rfl⟩ | ⟨hk0, i, ⟨id0, c0⟩, rfl, hi, hmin⟩
      · repeat' (first
          | refine XO.q TT_ok rfl rfl rfl rfl rfl ?_
          | refine XO.nil ?_
          | refine XS.seq ?_
          | refine XS.region (T := TT) ?_
          | refine XS.draw (T := TT) follows_ok (by decide +kernel) ?_
          | refine XS.block ?_
          | refine XS.inBlock ?_
          | refine XS.exit rfl ?_
          | refine XS.condT rfl ?_
          | refine XS.condF rfl ?_
          | refine XS.skip ?_
          | refine XS.label ?_
          | refine XO.load TT_ok rfl rfl rfl rfl rfl rfl (Reads.here rfl) ?_
          | refine XO.load TT_ok rfl rfl rfl rfl rfl rfl (Reads.skip (Reads.here rfl)) ?_
          | refine XO.load TT_ok rfl rfl rfl rfl rfl rfl (Reads.skip (Reads.skip (Reads.here rfl))) ?_
          | refine XO.load TT_ok rfl rfl rfl rfl rfl rfl (Reads.skip (Reads.skip (Reads.skip (Reads.here rfl)))) ?_
          | refine XO.load TT_ok rfl rfl rfl rfl rfl rfl (Reads.skip (Reads.skip (Reads.skip (Reads.skip (Reads.here rfl))))) ?_
          | refine XO.load TT_ok rfl rfl rfl rfl rfl rfl (Reads.skip (Reads.skip (Reads.skip (Reads.skip (Reads.skip (Reads.here rfl)))))) ?_
          | refine XO.no rfl rfl ?_
          | (refine XO.cmpI TT_ok rfl rfl rfl rfl rfl rfl rfl (fun hc => ?_) (fun hc => ?_) <;> (try (exfalso; omega)))
          | refine XO.pT TT_ok rfl rfl rfl rfl rfl ?_
          | refine XO.pF TT_ok rfl rfl rfl rfl rfl ?_
          | refine XO.cmp TT_ok rfl rfl rfl rfl rfl (fun hc => ?_) (fun hc => ?_)
          | refine XO.add64 TT_ok rfl rfl rfl rfl rfl rfl (by omega) (by omega) ?_
          | refine XO.sub64 TT_ok rfl rfl rfl rfl rfl rfl (by omega) (by omega) ?_
          | refine XO.mul64 TT_ok rfl rfl rfl rfl rfl rfl (by omega) (by omega) ?_
          | refine XO.quo64 rfl rfl rfl rfl rfl (by omega) (by omega) (by omega) ?_
          | refine XO.rem64 rfl rfl rfl rfl rfl (by omega) (by omega) ?_
          | refine XO.p TT_ok rfl rfl rfl rfl ?_
          | refine XO.storeL TT_ok trivial rfl rfl rfl rfl rfl rfl rfl rfl rfl rfl trivial ?_
          | refine XO.ent Ent.front1 (XO.storeL TT_ok trivial rfl rfl rfl rfl rfl rfl rfl rfl rfl rfl trivial ?_)
          | refine XO.ent Ent.front2 (XO.storeL TT_ok trivial rfl rfl rfl rfl rfl rfl rfl rfl rfl rfl trivial ?_)
          | refine XO.ent Ent.front3 (XO.storeL TT_ok trivial rfl rfl rfl rfl rfl rfl rfl rfl rfl rfl trivial ?_)
          | refine XO.ent Ent.front4 (XO.storeL TT_ok trivial rfl rfl rfl rfl rfl rfl rfl rfl rfl rfl trivial ?_)
          | refine XO.ent Ent.front5 (XO.storeL TT_ok trivial rfl rfl rfl rfl rfl rfl rfl rfl rfl rfl trivial ?_)
          | refine XO.box trivial rfl rfl rfl rfl rfl (fun _ => trivial) (fun bb => ?_)
          | refine XO.alloc TT_ok trivial rfl rfl rfl rfl rfl (fun _ => trivial) (fun bb => ?_)
          | refine XO.build TT_ok rfl rfl rfl rfl rfl ?_
          | refine XO.lenSlice TT_ok rfl rfl rfl rfl rfl rfl ?_
          | refine XO.lenString TT_ok rfl rfl rfl rfl rfl rfl ?_
          | refine XO.indexStr TT_ok rfl rfl rfl rfl rfl rfl (by omega) (by omega) ?_
          | refine XO.indexAddr TT_ok rfl rfl rfl rfl rfl rfl rfl (by omega) (by omega) ?_
          | refine XO.addStr rfl rfl rfl rfl rfl (by omega) ?_
          | refine XO.buildSlice TT_ok trivial rfl rfl rfl rfl rfl rfl rfl rfl rfl rfl rfl rfl (fun _ => trivial) (fun bb => ?_)
          | refine XO.callF rfl rfl rfl (by kernel_rfl) rfl ?_)
        exact ih (1, 0) _ _ ⟨by dsimp only; omega, .inr ⟨by dsimp only; omega, 0, (id, c), rfl, hp, fun j q hj hq => by
          dsimp only at hj
          obtain rfl : j = 0 := by omega
          rw [hp] at hq; injection hq with hq; subst hq; exact .inr ⟨rfl, Int.le_refl _⟩⟩⟩ (by dsimp only; omega) ⟨rfl, rfl, rfl, trivial⟩ (Ent.refl _)
      · have hil := (List.getElem?_eq_some_iff.1 hi).1
        have keep : LeT (id0, c0) (id, c) → ∀ (j : Nat) (q : Int × Nat), j < k + 1 → all[j]? = some q → LeT (id0, c0) q := fun hle j q hj hq => by
          by_cases e : j = k
          · subst e; rw [hp] at hq; injection hq with hq; subst hq; exact hle
          · exact hmin j q (by omega) hq
        have swap : LeT (id, c) (id0, c0) → ∀ (j : Nat) (q : Int × Nat), j < k + 1 → all[j]? = some q → LeT (id, c) q := fun hle j q hj hq => by
          by_cases e : j = k
          · subst e; rw [hp] at hq; injection hq with hq; subst hq; exact .inr ⟨rfl, Int.le_refl _⟩
          · have := hmin j q (by omega) hq
            unfold LeT at this hle ⊢
            dsimp only at this hle ⊢
            omega
        repeat' (first
          | refine XO.q TT_ok rfl rfl rfl rfl rfl ?_
          | refine XO.nil ?_
          | refine XO.indexOwn TT_ok rfl rfl rfl rfl rfl rfl rfl hlt ?_
          | refine XO.indexOwn TT_ok rfl rfl rfl rfl rfl rfl rfl hil ?_
          | refine XO.load TT_ok rfl rfl rfl rfl rfl rfl (Reads.rowFlat tenc_len (j := 1) hp rfl) ?_
          | refine XO.load TT_ok rfl rfl rfl rfl rfl rfl (Reads.rowFlat tenc_len (j := 1) hi rfl) ?_
          | refine XO.load TT_ok rfl rfl rfl rfl rfl rfl (Reads.rowFlat tenc_len (j := 0) hp rfl) ?_
          | refine XO.load TT_ok rfl rfl rfl rfl rfl rfl (Reads.rowFlat tenc_len (j := 0) hi rfl) ?_
          | refine XS.seq ?_
          | refine XS.region (T := TT) ?_
          | refine XS.draw (T := TT) follows_ok (by decide +kernel) ?_
          | refine XS.block ?_
          | refine XS.inBlock ?_
          | refine XS.exit rfl ?_
          | refine XS.condT rfl ?_
          | refine XS.condF rfl ?_
          | refine XS.skip ?_
          | refine XS.label ?_
          | refine XO.load TT_ok rfl rfl rfl rfl rfl rfl (Reads.here rfl) ?_
          | refine XO.load TT_ok rfl rfl rfl rfl rfl rfl (Reads.skip (Reads.here rfl)) ?_
          | refine XO.load TT_ok rfl rfl rfl rfl rfl rfl (Reads.skip (Reads.skip (Reads.here rfl))) ?_
          | refine XO.load TT_ok rfl rfl rfl rfl rfl rfl (Reads.skip (Reads.skip (Reads.skip (Reads.here rfl)))) ?_
          | refine XO.load TT_ok rfl rfl rfl rfl rfl rfl (Reads.skip (Reads.skip (Reads.skip (Reads.skip (Reads.here rfl))))) ?_
          | refine XO.load TT_ok rfl rfl rfl rfl rfl rfl (Reads.skip (Reads.skip (Reads.skip (Reads.skip (Reads.skip (Reads.here rfl)))))) ?_
          | refine XO.no rfl rfl ?_
          | (refine XO.cmpI TT_ok rfl rfl rfl rfl rfl rfl rfl (fun hc => ?_) (fun hc => ?_) <;> (try (exfalso; omega)))
          | refine XO.pT TT_ok rfl rfl rfl rfl rfl ?_
          | refine XO.pF TT_ok rfl rfl rfl rfl rfl ?_
          | refine XO.cmp TT_ok rfl rfl rfl rfl rfl (fun hc => ?_) (fun hc => ?_)
          | refine XO.add64 TT_ok rfl rfl rfl rfl rfl rfl (by omega) (by omega) ?_
          | refine XO.sub64 TT_ok rfl rfl rfl rfl rfl rfl (by omega) (by omega) ?_
          | refine XO.mul64 TT_ok rfl rfl rfl rfl rfl rfl (by omega) (by omega) ?_
          | refine XO.quo64 rfl rfl rfl rfl rfl (by omega) (by omega) (by omega) ?_
          | refine XO.rem64 rfl rfl rfl rfl rfl (by omega) (by omega) ?_
          | refine XO.p TT_ok rfl rfl rfl rfl ?_
          | refine XO.storeL TT_ok trivial rfl rfl rfl rfl rfl rfl rfl rfl rfl rfl trivial ?_
          | refine XO.ent Ent.front1 (XO.storeL TT_ok trivial rfl rfl rfl rfl rfl rfl rfl rfl rfl rfl trivial ?_)
          | refine XO.ent Ent.front2 (XO.storeL TT_ok trivial rfl rfl rfl rfl rfl rfl rfl rfl rfl rfl trivial ?_)
          | refine XO.ent Ent.front3 (XO.storeL TT_ok trivial rfl rfl rfl rfl rfl rfl rfl rfl rfl rfl trivial ?_)
          | refine XO.ent Ent.front4 (XO.storeL TT_ok trivial rfl rfl rfl rfl rfl rfl rfl rfl rfl rfl trivial ?_)
          | refine XO.ent Ent.front5 (XO.storeL TT_ok trivial rfl rfl rfl rfl rfl rfl rfl rfl rfl rfl trivial ?_)
          | refine XO.box trivial rfl rfl rfl rfl rfl (fun _ => trivial) (fun bb => ?_)
          | refine XO.alloc TT_ok trivial rfl rfl rfl rfl rfl (fun _ => trivial) (fun bb => ?_)
          | refine XO.build TT_ok rfl rfl rfl rfl rfl ?_
          | refine XO.lenSlice TT_ok rfl rfl rfl rfl rfl rfl ?_
          | refine XO.lenString TT_ok rfl rfl rfl rfl rfl rfl ?_
          | refine XO.indexStr TT_ok rfl rfl rfl rfl rfl rfl (by omega) (by omega) ?_
          | refine XO.indexAddr TT_ok rfl rfl rfl rfl rfl rfl rfl (by omega) (by omega) ?_
          | refine XO.addStr rfl rfl rfl rfl rfl (by omega) ?_
          | refine XO.buildSlice TT_ok trivial rfl rfl rfl rfl rfl rfl rfl rfl rfl rfl rfl rfl (fun _ => trivial) (fun bb => ?_)
          | refine XO.callF rfl rfl rfl (by kernel_rfl) rfl ?_)
        all_goals first
          | exact ih (k + 1, (k : Int)) _ _ ⟨by dsimp only; omega, .inr ⟨by dsimp only; omega, k, (id, c), rfl, hp, swap (by unfold LeT; dsimp only; omega)⟩⟩ (by dsimp only; omega) ⟨rfl, rfl, rfl, trivial⟩ (Ent.refl _)
          | exact ih (k + 1, (i : Int)) _ _ ⟨by dsimp only; omega, .inr ⟨by dsimp only; omega, i, (id0, c0), rfl, hi, keep (by unfold LeT; dsimp only; omega)⟩⟩ (by dsimp only; omega) ⟨rfl, rfl, rfl, trivial⟩ (Ent.refl _)
    · rcases f2 with ⟨rfl, rfl⟩ | ⟨hk0, i, ⟨id0, c0⟩, rfl, hi, hmin⟩
      · exact absurd h0 hlt
      · repeat' (first
          | refine XO.q TT_ok rfl rfl rfl rfl rfl ?_
          | refine XO.nil ?_
          | refine XS.seq ?_
          | refine XS.region (T := TT) ?_
          | refine XS.draw (T := TT) follows_ok (by decide +kernel) ?_
          | refine XS.block ?_
          | refine XS.inBlock ?_
          | refine XS.exit rfl ?_
          | refine XS.condT rfl ?_
          | refine XS.condF rfl ?_
          | refine XS.skip ?_
          | refine XS.label ?_
          | refine XO.load TT_ok rfl rfl rfl rfl rfl rfl (Reads.here rfl) ?_
          | refine XO.load TT_ok rfl rfl rfl rfl rfl rfl (Reads.skip (Reads.here rfl)) ?_
          | refine XO.load TT_ok rfl rfl rfl rfl rfl rfl (Reads.skip (Reads.skip (Reads.here rfl))) ?_
          | refine XO.load TT_ok rfl rfl rfl rfl rfl rfl (Reads.skip (Reads.skip (Reads.skip (Reads.here rfl)))) ?_
          | refine XO.load TT_ok rfl rfl rfl rfl rfl rfl (Reads.skip (Reads.skip (Reads.skip (Reads.skip (Reads.here rfl))))) ?_
          | refine XO.load TT_ok rfl rfl rfl rfl rfl rfl (Reads.skip (Reads.skip (Reads.skip (Reads.skip (Reads.skip (Reads.here rfl)))))) ?_
          | refine XO.no rfl rfl ?_
          | (refine XO.cmpI TT_ok rfl rfl rfl rfl rfl rfl rfl (fun hc => ?_) (fun hc => ?_) <;> (try (exfalso; omega)))
          | refine XO.pT TT_ok rfl rfl rfl rfl rfl ?_
          | refine XO.pF TT_ok rfl rfl rfl rfl rfl ?_
          | refine XO.cmp TT_ok rfl rfl rfl rfl rfl (fun hc => ?_) (fun hc => ?_)
          | refine XO.add64 TT_ok rfl rfl rfl rfl rfl rfl (by omega) (by omega) ?_
          | refine XO.sub64 TT_ok rfl rfl rfl rfl rfl rfl (by omega) (by omega) ?_
          | refine XO.mul64 TT_ok rfl rfl rfl rfl rfl rfl (by omega) (by omega) ?_
          | refine XO.quo64 rfl rfl rfl rfl rfl (by omega) (by omega) (by omega) ?_
          | refine XO.rem64 rfl rfl rfl rfl rfl (by omega) (by omega) ?_
          | refine XO.p TT_ok rfl rfl rfl rfl ?_
          | refine XO.storeL TT_ok trivial rfl rfl rfl rfl rfl rfl rfl rfl rfl rfl trivial ?_
          | refine XO.ent Ent.front1 (XO.storeL TT_ok trivial rfl rfl rfl rfl rfl rfl rfl rfl rfl rfl trivial ?_)
          | refine XO.ent Ent.front2 (XO.storeL TT_ok trivial rfl rfl rfl rfl rfl rfl rfl rfl rfl rfl trivial ?_)
          | refine XO.ent Ent.front3 (XO.storeL TT_ok trivial rfl rfl rfl rfl rfl rfl rfl rfl rfl rfl trivial ?_)
          | refine XO.ent Ent.front4 (XO.storeL TT_ok trivial rfl rfl rfl rfl rfl rfl rfl rfl rfl rfl trivial ?_)
          | refine XO.ent Ent.front5 (XO.storeL TT_ok trivial rfl rfl rfl rfl rfl rfl rfl rfl rfl rfl trivial ?_)
          | refine XO.box trivial rfl rfl rfl rfl rfl (fun _ => trivial) (fun bb => ?_)
          | refine XO.alloc TT_ok trivial rfl rfl rfl rfl rfl (fun _ => trivial) (fun bb => ?_)
          | refine XO.build TT_ok rfl rfl rfl rfl rfl ?_
          | refine XO.lenSlice TT_ok rfl rfl rfl rfl rfl rfl ?_
          | refine XO.lenString TT_ok rfl rfl rfl rfl rfl rfl ?_
          | refine XO.indexStr TT_ok rfl rfl rfl rfl rfl rfl (by omega) (by omega) ?_
          | refine XO.indexAddr TT_ok rfl rfl rfl rfl rfl rfl rfl (by omega) (by omega) ?_
          | refine XO.addStr rfl rfl rfl rfl rfl (by omega) ?_
          | refine XO.buildSlice TT_ok trivial rfl rfl rfl rfl rfl rfl rfl rfl rfl rfl rfl rfl (fun _ => trivial) (fun bb => ?_)
          | refine XO.callF rfl rfl rfl (by kernel_rfl) rfl ?_)
        exact XS.ret1 Tryd.func29 rfl Tryd.results29 rfl (Ent.trans (Ent.trans Row.of_at Ent.front1) (rwheel_mk rfl rfl)) (h1 i id0 c0 ⟨hi, fun j q hq => hmin j q (by have := (List.getElem?_eq_some_iff.1 hq).1; omega) hq⟩)
  · have hn : all = [] := List.eq_nil_of_length_eq_zero (by omega)
    subst hn
    repeat' (first
      | refine XO.q TT_ok rfl rfl rfl rfl rfl ?_
      | refine XO.nil ?_
      | refine XS.loop ?_
      | refine XS.seq ?_
      | refine XS.region (T := TT) ?_
      | refine XS.draw (T := TT) follows_ok (by decide +kernel) ?_
      | refine XS.block ?_
      | refine XS.inBlock ?_
      | refine XS.exit rfl ?_
      | refine XS.condT rfl ?_
      | refine XS.condF rfl ?_
      | refine XS.skip ?_
      | refine XS.label ?_
      | refine XO.load TT_ok rfl rfl rfl rfl rfl rfl (Reads.here rfl) ?_
      | refine XO.load TT_ok rfl rfl rfl rfl rfl rfl (Reads.skip (Reads.here rfl)) ?_
      | refine XO.load TT_ok rfl rfl rfl rfl rfl rfl (Reads.skip (Reads.skip (Reads.here rfl))) ?_
      | refine XO.load TT_ok rfl rfl rfl rfl rfl rfl (Reads.skip (Reads.skip (Reads.skip (Reads.here rfl)))) ?_
      | refine XO.load TT_ok rfl rfl rfl rfl rfl rfl (Reads.skip (Reads.skip (Reads.skip (Reads.skip (Reads.here rfl))))) ?_
      | refine XO.load TT_ok rfl rfl rfl rfl rfl rfl (Reads.skip (Reads.skip (Reads.skip (Reads.skip (Reads.skip (Reads.here rfl)))))) ?_
      | refine XO.no rfl rfl ?_
      | (refine XO.cmpI TT_ok rfl rfl rfl rfl rfl rfl rfl (fun hc => ?_) (fun hc => ?_) <;> (try (exfalso; omega)))
      | refine XO.pT TT_ok rfl rfl rfl rfl rfl ?_
      | refine XO.pF TT_ok rfl rfl rfl rfl rfl ?_
      | refine XO.cmp TT_ok rfl rfl rfl rfl rfl (fun hc => ?_) (fun hc => ?_)
      | refine XO.add64 TT_ok rfl rfl rfl rfl rfl rfl (by omega) (by omega) ?_
      | refine XO.sub64 TT_ok rfl rfl rfl rfl rfl rfl (by omega) (by omega) ?_
      | refine XO.mul64 TT_ok rfl rfl rfl rfl rfl rfl (by omega) (by omega) ?_
      | refine XO.quo64 rfl rfl rfl rfl rfl (by omega) (by omega) (by omega) ?_
      | refine XO.rem64 rfl rfl rfl rfl rfl (by omega) (by omega) ?_
      | refine XO.p TT_ok rfl rfl rfl rfl ?_
      | refine XO.storeL TT_ok trivial rfl rfl rfl rfl rfl rfl rfl rfl rfl rfl trivial ?_
      | refine XO.ent Ent.front1 (XO.storeL TT_ok trivial rfl rfl rfl rfl rfl rfl rfl rfl rfl rfl trivial ?_)
      | refine XO.ent Ent.front2 (XO.storeL TT_ok trivial rfl rfl rfl rfl rfl rfl rfl rfl rfl rfl trivial ?_)
      | refine XO.ent Ent.front3 (XO.storeL TT_ok trivial rfl rfl rfl rfl rfl rfl rfl rfl rfl rfl trivial ?_)
      | refine XO.ent Ent.front4 (XO.storeL TT_ok trivial rfl rfl rfl rfl rfl rfl rfl rfl rfl rfl trivial ?_)
      | refine XO.ent Ent.front5 (XO.storeL TT_ok trivial rfl rfl rfl rfl rfl rfl rfl rfl rfl rfl trivial ?_)
      | refine XO.box trivial rfl rfl rfl rfl rfl (fun _ => trivial) (fun bb => ?_)
      | refine XO.alloc TT_ok trivial rfl rfl rfl rfl rfl (fun _ => trivial) (fun bb => ?_)
      | refine XO.build TT_ok rfl rfl rfl rfl rfl ?_
      | refine XO.lenSlice TT_ok rfl rfl rfl rfl rfl rfl ?_
      | refine XO.lenString TT_ok rfl rfl rfl rfl rfl rfl ?_
      | refine XO.indexStr TT_ok rfl rfl rfl rfl rfl rfl (by omega) (by omega) ?_
      | refine XO.indexAddr TT_ok rfl rfl rfl rfl rfl rfl rfl (by omega) (by omega) ?_
      | refine XO.addStr rfl rfl rfl rfl rfl (by omega) ?_
      | refine XO.buildSlice TT_ok trivial rfl rfl rfl rfl rfl rfl rfl rfl rfl rfl rfl rfl (fun _ => trivial) (fun bb => ?_)
      | refine XO.callF rfl rfl rfl (by kernel_rfl) rfl ?_)
    exact XS.ret1 Tryd.func29 rfl Tryd.results29 rfl (rwheel_mk rfl rfl) (h2 rfl)
end Go.Proofs.YtnpnfgnhgjmlbaaDoor
