/- HealthBack comes to true. Conditions: numbers are of their kinds. -/
import Derived.Test.YtbpkoehgjhofaaaHealthX
namespace Go.Proofs.Ytbpkoehgjhofaaa.He
open Go Go.Sx
variable {w0 : World} {H : List HProp}
def two (f ej x u s c : Int) : HS := ⟨f, ej, 0, [(0, 0), (x, u)], s, c⟩
theorem two_fit {f ej x u s c : Int} (h1 : 1 ≤ f) (h2 : 0 ≤ ej ∧ ej ≤ 1048576) (h3 : 0 ≤ x ∧ x ≤ 1000) (h4 : 0 ≤ s ∧ s ≤ 1099511627776) (h5 : 0 ≤ c ∧ c ≤ 1) : (two f ej x u s c).Fit := by
  refine ⟨h1, ⟨h2.1, by show ej ≤ _; omega⟩, h4, ⟨h5.1, by show c ≤ _; omega⟩, ?_, by show 2 ≤ 1048576; decide, by show 0 ≤ 0 ∧ 0 ≤ 100; decide⟩
  intro p hp
  rcases List.mem_cons.1 hp with rfl | hp
  · decide
  · obtain rfl := List.mem_singleton.1 hp
    exact ⟨h3.1, by show x ≤ _; omega⟩
theorem two_hit {f ej x u s c t : Int} (h : x + 1 = f) : repS (two f ej x u s c) t 1 (x, u) false = two f ej 0 (t + ej) t (c + 1) := by
  simp [repS, two, repRow, h]
theorem two_miss {f ej x u s c t : Int} (h : x + 1 ≠ f) : repS (two f ej x u s c) t 1 (x, u) false = two f ej (x + 1) u t c := by
  simp [repS, two, repRow, h]
theorem two_ok {f ej x u s c t : Int} (h : 1 ≤ f) : repS (two f ej x u s c) t 1 (x, u) true = two f ej 0 u t c := by
  have : ¬ (0 = f) := by omega
  simp [repS, two, repRow, this]
theorem two_open {f ej x u s c t : Int} (h : 0 ≤ t) : openL (two f ej x u s c) t = [true, decide (u ≤ t)] := by
  have e : openI (two f ej x u s c) t = [true, decide (u ≤ t)] := by simp [openI, two, h]
  unfold openL
  rw [e, if_neg]
  simp only [two, Int.zero_mul]
  omega
theorem two_seen {f ej x u s c t : Int} : ({ two f ej x u s c with seen := t } : HS) = two f ej x u t c := rfl
theorem two_len {f ej x u s c : Int} : (two f ej x u s c).rows.length = 2 := rfl
theorem two_new {f ej : Int} : (⟨f, ej, 0, List.replicate 2 (0, 0), 0, 0⟩ : HS) = two f ej 0 0 0 0 := rfl
theorem two_false {b : Nat} {f ej x u s c t : Int} {F : List HProp} {K : Value → List HProp → Prop} (h1 : 1 ≤ f) (h2 : 0 ≤ ej ∧ ej ≤ 1048576) (h3 : 0 ≤ x ∧ x ≤ 1000) (h4 : 0 ≤ s ∧ s ≤ t ∧ t ≤ 1099511627776) (h5 : 0 ≤ c ∧ c ≤ 1)
    (g1 : x + 1 = f → K (.int .i64 0) (health b (two f ej 0 (t + ej) t (c + 1)) :: F)) (g2 : x + 1 ≠ f → K (.int .i64 0) (health b (two f ej (x + 1) u t c) :: F)) :
    Tri Try.prog 32 #[ptr b, .int .i64 t, .int .i64 1, .bool false] w0 (health b (two f ej x u s c) :: F) K := by
  refine report_false (i := 1) (p := (x, u)) (two_fit h1 h2 h3 ⟨h4.1, by omega⟩ h5) rfl (fun hb => absurd hb ?_) (fun _ _ => ?_)
  · show ¬ (t < s ∨ _); omega
  · by_cases h : x + 1 = f
    · rw [two_hit h]; exact g1 h
    · rw [two_miss h]; exact g2 h
theorem two_true {b : Nat} {f ej x u s c t : Int} {F : List HProp} {K : Value → List HProp → Prop} (h1 : 1 ≤ f) (h2 : 0 ≤ ej ∧ ej ≤ 1048576) (h3 : 0 ≤ x ∧ x ≤ 1000) (h4 : 0 ≤ s ∧ s ≤ t ∧ t ≤ 1099511627776) (h5 : 0 ≤ c ∧ c ≤ 1)
    (g : K (.int .i64 0) (health b (two f ej 0 u t c) :: F)) : Tri Try.prog 32 #[ptr b, .int .i64 t, .int .i64 1, .bool true] w0 (health b (two f ej x u s c) :: F) K := by
  refine report_true (i := 1) (p := (x, u)) (two_fit h1 h2 h3 ⟨h4.1, by omega⟩ h5) rfl (fun hb => absurd hb ?_) (fun _ _ => ?_)
  · show ¬ (t < s ∨ _); omega
  · rw [two_ok h1]; exact g
theorem two_opened {b : Nat} {f ej x u s c t : Int} {F : List HProp} {K : Value → List HProp → Prop} (h1 : 1 ≤ f) (h2 : 0 ≤ ej ∧ ej ≤ 1048576) (h3 : 0 ≤ x ∧ x ≤ 1000) (h4 : 0 ≤ s ∧ s ≤ t ∧ t ≤ 1099511627776) (h5 : 0 ≤ c ∧ c ≤ 1)
    (g1 : u ≤ t → ∀ g, K (.tuple #[.slice (some ⟨g, 0, none⟩) 2 2, .int .i64 0]) (cel g 4 (flat benc [true, true]) :: health b (two f ej x u t c) :: F)) (g2 : t < u → ∀ g, K (.tuple #[.slice (some ⟨g, 0, none⟩) 2 2, .int .i64 0]) (cel g 4 (flat benc [true, false]) :: health b (two f ej x u t c) :: F)) :
    Tri Try.prog 34 #[ptr b, .int .i64 t] w0 (health b (two f ej x u s c) :: F) K := by
  refine open_spec (two_fit h1 h2 h3 ⟨h4.1, by omega⟩ h5) (fun hb => absurd hb ?_) (fun _ _ g => ?_)
  · show ¬ (t < s ∨ _); omega
  · rw [two_open (by omega), two_len, two_seen]
    by_cases h : u ≤ t
    · rw [decide_eq_true h]; exact g1 h g
    · rw [decide_eq_false h]; exact g2 (by omega) g
set_option maxHeartbeats 8000000 in
theorem back {f ej t : Int} {o : Bool} (hf : -9223372036854775808 ≤ f ∧ f ≤ 9223372036854775807) : Tri Try.prog 10 #[.int .i64 f, .int .i64 ej, .int .i64 t, .bool o] w0 H (fun v _ => v = .bool true) := by
  refine Tri.enter Try.func10 rfl Try.ntmps10 rfl ?_
  by_cases hR : Right 2 f ej 0
  · have hR' := hR
    unfold Right at hR'
    by_cases hT : 2 ≤ f ∧ 0 ≤ t ∧ t ≤ 1073741824
    · repeat' (first
        | refine XO.q TT_ok rfl rfl rfl rfl rfl ?_
        | refine XO.nil ?_
        | refine anchor_spec (fun H' => ?_)
        | refine right_spec (fun _ => ?_) (fun hnr => absurd hR hnr)
        | (refine new_spec (k := 2) (by omega) (fun b1 => ?_); rw [two_new])
        | refine XS.seq ?_
        | refine XS.region (T := TT) ?_
        | refine XS.draw (T := TT) follows_ok (by decide +kernel) ?_
        | refine XS.block ?_
        | refine XS.inBlock ?_
        | refine XS.exit rfl ?_
        | refine XS.condT rfl ?_
        | refine XS.condF rfl ?_
        | refine XS.skip ?_
        | refine XS.label ?_
        | refine XO.load TT_ok rfl rfl rfl rfl rfl rfl (Reads.here rfl) ?_
        | refine XO.load TT_ok rfl rfl rfl rfl rfl rfl (Reads.skip (Reads.here rfl)) ?_
        | refine XO.load TT_ok rfl rfl rfl rfl rfl rfl (Reads.skip (Reads.skip (Reads.here rfl))) ?_
        | refine XO.load TT_ok rfl rfl rfl rfl rfl rfl (Reads.skip (Reads.skip (Reads.skip (Reads.here rfl)))) ?_
        | refine XO.load TT_ok rfl rfl rfl rfl rfl rfl (Reads.skip (Reads.skip (Reads.skip (Reads.skip (Reads.here rfl))))) ?_
        | refine XO.load TT_ok rfl rfl rfl rfl rfl rfl (Reads.skip (Reads.skip (Reads.skip (Reads.skip (Reads.skip (Reads.here rfl)))))) ?_
        | refine XO.no rfl rfl ?_
        | (refine XO.cmpI TT_ok rfl rfl rfl rfl rfl rfl rfl (fun hc => ?_) (fun hc => ?_) <;> (try (exfalso; omega)))
        | refine XO.pT TT_ok rfl rfl rfl rfl rfl ?_
        | refine XO.pF TT_ok rfl rfl rfl rfl rfl ?_
        | refine XO.cmp TT_ok rfl rfl rfl rfl rfl (fun hc => ?_) (fun hc => ?_)
        | refine XO.add64 TT_ok rfl rfl rfl rfl rfl rfl (by omega) (by omega) ?_
        | refine XO.sub64 TT_ok rfl rfl rfl rfl rfl rfl (by omega) (by omega) ?_
        | refine XO.mul64 TT_ok rfl rfl rfl rfl rfl rfl (by omega) (by omega) ?_
        | refine XO.quo64 rfl rfl rfl rfl rfl (by omega) (by omega) (by omega) ?_
        | refine XO.rem64 rfl rfl rfl rfl rfl (by omega) (by omega) ?_
        | refine XO.p TT_ok rfl rfl rfl rfl ?_
        | refine XO.storeL TT_ok trivial rfl rfl rfl rfl rfl rfl rfl rfl rfl rfl trivial ?_
        | refine XO.ent Ent.front1 (XO.storeL TT_ok trivial rfl rfl rfl rfl rfl rfl rfl rfl rfl rfl trivial ?_)
        | refine XO.ent Ent.front2 (XO.storeL TT_ok trivial rfl rfl rfl rfl rfl rfl rfl rfl rfl rfl trivial ?_)
        | refine XO.ent Ent.front3 (XO.storeL TT_ok trivial rfl rfl rfl rfl rfl rfl rfl rfl rfl rfl trivial ?_)
        | refine XO.ent Ent.front4 (XO.storeL TT_ok trivial rfl rfl rfl rfl rfl rfl rfl rfl rfl rfl trivial ?_)
        | refine XO.ent Ent.front5 (XO.storeL TT_ok trivial rfl rfl rfl rfl rfl rfl rfl rfl rfl rfl trivial ?_)
        | refine XO.box trivial rfl rfl rfl rfl rfl (fun _ => trivial) (fun bb => ?_)
        | refine XO.alloc TT_ok trivial rfl rfl rfl rfl rfl (fun _ => trivial) (fun bb => ?_)
        | refine XO.build TT_ok rfl rfl rfl rfl rfl ?_
        | refine XO.lenSlice TT_ok rfl rfl rfl rfl rfl rfl ?_
        | refine XO.lenString TT_ok rfl rfl rfl rfl rfl rfl ?_
        | refine XO.indexStr TT_ok rfl rfl rfl rfl rfl rfl (by omega) (by omega) ?_
        | refine XO.indexAddr TT_ok rfl rfl rfl rfl rfl rfl rfl (by omega) (by omega) ?_
        | refine XO.addStr rfl rfl rfl rfl rfl (by omega) ?_
        | refine XO.buildSlice TT_ok trivial rfl rfl rfl rfl rfl rfl rfl rfl rfl rfl rfl rfl (fun _ => trivial) (fun bb => ?_)
        | refine XO.callF rfl rfl rfl (by kernel_rfl) rfl ?_)
      obtain ⟨uo, hu1, hu2⟩ : ∃ uo : Int, (o = true → uo = 0) ∧ (o = false → uo = t + ej) := ⟨if o then 0 else t + ej, fun h => by rw [h]; rfl, fun h => by rw [h]; rfl⟩
      refine XS.loopI (ι := Nat × Int × Int × Int × Int) (fun x => [(0, .int .i64 f), (1, .int .i64 ej), (2, .int .i64 t), (3, .bool o), (9, ptr b1), (10, .int .i64 x.1)]) (fun x => health b1 (two f ej x.2.1 x.2.2.1 x.2.2.2.1 x.2.2.2.2) :: H')
        (fun x => (x.1 : Int) ≤ f ∧ 0 ≤ x.2.2.2.1 ∧ x.2.2.2.1 ≤ t ∧ (x.1 < f → x.2.1 = x.1 ∧ x.2.2.1 = 0 ∧ x.2.2.2.2 = 0) ∧ (x.1 = f → 0 ≤ x.2.1 ∧ x.2.1 ≤ 1 ∧ 0 ≤ x.2.2.2.2 ∧ x.2.2.2.2 ≤ 1 ∧ x.2.2.1 = uo)) (fun x => (f - x.1).toNat) (0, 0, 0, 0, 0)
        ⟨by dsimp only; omega, Int.le_refl _, by dsimp only; omega, fun _ => ⟨rfl, rfl, rfl⟩, fun h => by dsimp only at h; omega⟩ ⟨rfl, rfl, rfl, rfl, rfl, rfl, trivial⟩ (Ent.refl _) ?_
      rintro ⟨i, x, u, s, c⟩ e ⟨g1, g2, g3, g4, g5⟩ ih
      simp only at g1 g2 g3 g4 g5 ⊢
      by_cases hi : (i : Int) < f
      · obtain ⟨rfl, rfl, rfl⟩ := g4 hi
        clear g4 g5
        cases o
        · have hu := hu2 rfl
          repeat' (first
            | refine XO.q TT_ok rfl rfl rfl rfl rfl ?_
            | refine XO.nil ?_
            | refine two_false (by omega) (by omega) (by omega) (by omega) (by omega) (fun h1 => ?_) (fun h1 => ?_)
            | refine XS.seq ?_
            | refine XS.region (T := TT) ?_
            | refine XS.draw (T := TT) follows_ok (by decide +kernel) ?_
            | refine XS.block ?_
            | refine XS.inBlock ?_
            | refine XS.exit rfl ?_
            | refine XS.condT rfl ?_
            | refine XS.condF rfl ?_
            | refine XS.skip ?_
            | refine XS.label ?_
            | refine XO.load TT_ok rfl rfl rfl rfl rfl rfl (Reads.here rfl) ?_
            | refine XO.load TT_ok rfl rfl rfl rfl rfl rfl (Reads.skip (Reads.here rfl)) ?_
            | refine XO.load TT_ok rfl rfl rfl rfl rfl rfl (Reads.skip (Reads.skip (Reads.here rfl))) ?_
            | refine XO.load TT_ok rfl rfl rfl rfl rfl rfl (Reads.skip (Reads.skip (Reads.skip (Reads.here rfl)))) ?_
            | refine XO.load TT_ok rfl rfl rfl rfl rfl rfl (Reads.skip (Reads.skip (Reads.skip (Reads.skip (Reads.here rfl))))) ?_
            | refine XO.load TT_ok rfl rfl rfl rfl rfl rfl (Reads.skip (Reads.skip (Reads.skip (Reads.skip (Reads.skip (Reads.here rfl)))))) ?_
            | refine XO.no rfl rfl ?_
            | (refine XO.cmpI TT_ok rfl rfl rfl rfl rfl rfl rfl (fun hc => ?_) (fun hc => ?_) <;> (try (exfalso; omega)))
            | refine XO.pT TT_ok rfl rfl rfl rfl rfl ?_
            | refine XO.pF TT_ok rfl rfl rfl rfl rfl ?_
            | refine XO.cmp TT_ok rfl rfl rfl rfl rfl (fun hc => ?_) (fun hc => ?_)
            | refine XO.add64 TT_ok rfl rfl rfl rfl rfl rfl (by omega) (by omega) ?_
            | refine XO.sub64 TT_ok rfl rfl rfl rfl rfl rfl (by omega) (by omega) ?_
            | refine XO.mul64 TT_ok rfl rfl rfl rfl rfl rfl (by omega) (by omega) ?_
            | refine XO.quo64 rfl rfl rfl rfl rfl (by omega) (by omega) (by omega) ?_
            | refine XO.rem64 rfl rfl rfl rfl rfl (by omega) (by omega) ?_
            | refine XO.p TT_ok rfl rfl rfl rfl ?_
            | refine XO.storeL TT_ok trivial rfl rfl rfl rfl rfl rfl rfl rfl rfl rfl trivial ?_
            | refine XO.ent Ent.front1 (XO.storeL TT_ok trivial rfl rfl rfl rfl rfl rfl rfl rfl rfl rfl trivial ?_)
            | refine XO.ent Ent.front2 (XO.storeL TT_ok trivial rfl rfl rfl rfl rfl rfl rfl rfl rfl rfl trivial ?_)
            | refine XO.ent Ent.front3 (XO.storeL TT_ok trivial rfl rfl rfl rfl rfl rfl rfl rfl rfl rfl trivial ?_)
            | refine XO.ent Ent.front4 (XO.storeL TT_ok trivial rfl rfl rfl rfl rfl rfl rfl rfl rfl rfl trivial ?_)
            | refine XO.ent Ent.front5 (XO.storeL TT_ok trivial rfl rfl rfl rfl rfl rfl rfl rfl rfl rfl trivial ?_)
            | refine XO.box trivial rfl rfl rfl rfl rfl (fun _ => trivial) (fun bb => ?_)
            | refine XO.alloc TT_ok trivial rfl rfl rfl rfl rfl (fun _ => trivial) (fun bb => ?_)
            | refine XO.build TT_ok rfl rfl rfl rfl rfl ?_
            | refine XO.lenSlice TT_ok rfl rfl rfl rfl rfl rfl ?_
            | refine XO.lenString TT_ok rfl rfl rfl rfl rfl rfl ?_
            | refine XO.indexStr TT_ok rfl rfl rfl rfl rfl rfl (by omega) (by omega) ?_
            | refine XO.indexAddr TT_ok rfl rfl rfl rfl rfl rfl rfl (by omega) (by omega) ?_
            | refine XO.addStr rfl rfl rfl rfl rfl (by omega) ?_
            | refine XO.buildSlice TT_ok trivial rfl rfl rfl rfl rfl rfl rfl rfl rfl rfl rfl rfl (fun _ => trivial) (fun bb => ?_)
            | refine XO.callF rfl rfl rfl (by kernel_rfl) rfl ?_)
          · exact ih (i + 1, 0, t + ej, t, 0 + 1) _ _ (by dsimp only; omega) (by dsimp only; omega) ⟨rfl, rfl, rfl, rfl, rfl, rfl, trivial⟩ (Ent.refl _)
          · exact ih (i + 1, i + 1, 0, t, 0) _ _ (by dsimp only; omega) (by dsimp only; omega) ⟨rfl, rfl, rfl, rfl, rfl, rfl, trivial⟩ (Ent.refl _)
        · have hu := hu1 rfl
          repeat' (first
            | refine XO.q TT_ok rfl rfl rfl rfl rfl ?_
            | refine XO.nil ?_
            | refine two_false (by omega) (by omega) (by omega) (by omega) (by omega) (fun h1 => ?_) (fun h1 => ?_)
            | refine two_true (by omega) (by omega) (by omega) (by omega) (by omega) ?_
            | refine XS.seq ?_
            | refine XS.region (T := TT) ?_
            | refine XS.draw (T := TT) follows_ok (by decide +kernel) ?_
            | refine XS.block ?_
            | refine XS.inBlock ?_
            | refine XS.exit rfl ?_
            | refine XS.condT rfl ?_
            | refine XS.condF rfl ?_
            | refine XS.skip ?_
            | refine XS.label ?_
            | refine XO.load TT_ok rfl rfl rfl rfl rfl rfl (Reads.here rfl) ?_
            | refine XO.load TT_ok rfl rfl rfl rfl rfl rfl (Reads.skip (Reads.here rfl)) ?_
            | refine XO.load TT_ok rfl rfl rfl rfl rfl rfl (Reads.skip (Reads.skip (Reads.here rfl))) ?_
            | refine XO.load TT_ok rfl rfl rfl rfl rfl rfl (Reads.skip (Reads.skip (Reads.skip (Reads.here rfl)))) ?_
            | refine XO.load TT_ok rfl rfl rfl rfl rfl rfl (Reads.skip (Reads.skip (Reads.skip (Reads.skip (Reads.here rfl))))) ?_
            | refine XO.load TT_ok rfl rfl rfl rfl rfl rfl (Reads.skip (Reads.skip (Reads.skip (Reads.skip (Reads.skip (Reads.here rfl)))))) ?_
            | refine XO.no rfl rfl ?_
            | (refine XO.cmpI TT_ok rfl rfl rfl rfl rfl rfl rfl (fun hc => ?_) (fun hc => ?_) <;> (try (exfalso; omega)))
            | refine XO.pT TT_ok rfl rfl rfl rfl rfl ?_
            | refine XO.pF TT_ok rfl rfl rfl rfl rfl ?_
            | refine XO.cmp TT_ok rfl rfl rfl rfl rfl (fun hc => ?_) (fun hc => ?_)
            | refine XO.add64 TT_ok rfl rfl rfl rfl rfl rfl (by omega) (by omega) ?_
            | refine XO.sub64 TT_ok rfl rfl rfl rfl rfl rfl (by omega) (by omega) ?_
            | refine XO.mul64 TT_ok rfl rfl rfl rfl rfl rfl (by omega) (by omega) ?_
            | refine XO.quo64 rfl rfl rfl rfl rfl (by omega) (by omega) (by omega) ?_
            | refine XO.rem64 rfl rfl rfl rfl rfl (by omega) (by omega) ?_
            | refine XO.p TT_ok rfl rfl rfl rfl ?_
            | refine XO.storeL TT_ok trivial rfl rfl rfl rfl rfl rfl rfl rfl rfl rfl trivial ?_
            | refine XO.ent Ent.front1 (XO.storeL TT_ok trivial rfl rfl rfl rfl rfl rfl rfl rfl rfl rfl trivial ?_)
            | refine XO.ent Ent.front2 (XO.storeL TT_ok trivial rfl rfl rfl rfl rfl rfl rfl rfl rfl rfl trivial ?_)
            | refine XO.ent Ent.front3 (XO.storeL TT_ok trivial rfl rfl rfl rfl rfl rfl rfl rfl rfl rfl trivial ?_)
            | refine XO.ent Ent.front4 (XO.storeL TT_ok trivial rfl rfl rfl rfl rfl rfl rfl rfl rfl rfl trivial ?_)
            | refine XO.ent Ent.front5 (XO.storeL TT_ok trivial rfl rfl rfl rfl rfl rfl rfl rfl rfl rfl trivial ?_)
            | refine XO.box trivial rfl rfl rfl rfl rfl (fun _ => trivial) (fun bb => ?_)
            | refine XO.alloc TT_ok trivial rfl rfl rfl rfl rfl (fun _ => trivial) (fun bb => ?_)
            | refine XO.build TT_ok rfl rfl rfl rfl rfl ?_
            | refine XO.lenSlice TT_ok rfl rfl rfl rfl rfl rfl ?_
            | refine XO.lenString TT_ok rfl rfl rfl rfl rfl rfl ?_
            | refine XO.indexStr TT_ok rfl rfl rfl rfl rfl rfl (by omega) (by omega) ?_
            | refine XO.indexAddr TT_ok rfl rfl rfl rfl rfl rfl rfl (by omega) (by omega) ?_
            | refine XO.addStr rfl rfl rfl rfl rfl (by omega) ?_
            | refine XO.buildSlice TT_ok trivial rfl rfl rfl rfl rfl rfl rfl rfl rfl rfl rfl rfl (fun _ => trivial) (fun bb => ?_)
            | refine XO.callF rfl rfl rfl (by kernel_rfl) rfl ?_)
          · exact ih (i + 1, 0 + 1, 0, t, 0) _ _ (by dsimp only; omega) (by dsimp only; omega) ⟨rfl, rfl, rfl, rfl, rfl, rfl, trivial⟩ (Ent.refl _)
          · exact ih (i + 1, i + 1, 0, t, 0) _ _ (by dsimp only; omega) (by dsimp only; omega) ⟨rfl, rfl, rfl, rfl, rfl, rfl, trivial⟩ (Ent.refl _)
      · have hif : (i : Int) = f := by omega
        have g6 := g5 hif
        clear g4 g5 ih
        cases o
        · have hu := hu2 rfl
          repeat' (first
            | refine XO.q TT_ok rfl rfl rfl rfl rfl ?_
            | refine XO.nil ?_
            | (refine two_opened (by omega) (by omega) (by omega) (by omega) (by omega) (fun q1 g => ?_) (fun q1 g => ?_) <;> (try (exfalso; omega)))
            | (refine Tri.ent Ent.front1 (two_opened (by omega) (by omega) (by omega) (by omega) (by omega) (fun q1 g => ?_) (fun q1 g => ?_)) <;> (try (exfalso; omega)))
            | refine XS.seq ?_
            | refine XS.region (T := TT) ?_
            | refine XS.draw (T := TT) follows_ok (by decide +kernel) ?_
            | refine XS.block ?_
            | refine XS.inBlock ?_
            | refine XS.exit rfl ?_
            | refine XS.condT rfl ?_
            | refine XS.condF rfl ?_
            | refine XS.skip ?_
            | refine XS.label ?_
            | refine XO.load TT_ok rfl rfl rfl rfl rfl rfl (Reads.here rfl) ?_
            | refine XO.load TT_ok rfl rfl rfl rfl rfl rfl (Reads.skip (Reads.here rfl)) ?_
            | refine XO.load TT_ok rfl rfl rfl rfl rfl rfl (Reads.skip (Reads.skip (Reads.here rfl))) ?_
            | refine XO.load TT_ok rfl rfl rfl rfl rfl rfl (Reads.skip (Reads.skip (Reads.skip (Reads.here rfl)))) ?_
            | refine XO.load TT_ok rfl rfl rfl rfl rfl rfl (Reads.skip (Reads.skip (Reads.skip (Reads.skip (Reads.here rfl))))) ?_
            | refine XO.load TT_ok rfl rfl rfl rfl rfl rfl (Reads.skip (Reads.skip (Reads.skip (Reads.skip (Reads.skip (Reads.here rfl)))))) ?_
            | refine XO.no rfl rfl ?_
            | (refine XO.cmpI TT_ok rfl rfl rfl rfl rfl rfl rfl (fun hc => ?_) (fun hc => ?_) <;> (try (exfalso; omega)))
            | refine XO.pT TT_ok rfl rfl rfl rfl rfl ?_
            | refine XO.pF TT_ok rfl rfl rfl rfl rfl ?_
            | refine XO.cmp TT_ok rfl rfl rfl rfl rfl (fun hc => ?_) (fun hc => ?_)
            | refine XO.add64 TT_ok rfl rfl rfl rfl rfl rfl (by omega) (by omega) ?_
            | refine XO.sub64 TT_ok rfl rfl rfl rfl rfl rfl (by omega) (by omega) ?_
            | refine XO.mul64 TT_ok rfl rfl rfl rfl rfl rfl (by omega) (by omega) ?_
            | refine XO.quo64 rfl rfl rfl rfl rfl (by omega) (by omega) (by omega) ?_
            | refine XO.rem64 rfl rfl rfl rfl rfl (by omega) (by omega) ?_
            | refine XO.p TT_ok rfl rfl rfl rfl ?_
            | refine XO.storeL TT_ok trivial rfl rfl rfl rfl rfl rfl rfl rfl rfl rfl trivial ?_
            | refine XO.ent Ent.front1 (XO.storeL TT_ok trivial rfl rfl rfl rfl rfl rfl rfl rfl rfl rfl trivial ?_)
            | refine XO.ent Ent.front2 (XO.storeL TT_ok trivial rfl rfl rfl rfl rfl rfl rfl rfl rfl rfl trivial ?_)
            | refine XO.ent Ent.front3 (XO.storeL TT_ok trivial rfl rfl rfl rfl rfl rfl rfl rfl rfl rfl trivial ?_)
            | refine XO.ent Ent.front4 (XO.storeL TT_ok trivial rfl rfl rfl rfl rfl rfl rfl rfl rfl rfl trivial ?_)
            | refine XO.ent Ent.front5 (XO.storeL TT_ok trivial rfl rfl rfl rfl rfl rfl rfl rfl rfl rfl trivial ?_)
            | refine XO.box trivial rfl rfl rfl rfl rfl (fun _ => trivial) (fun bb => ?_)
            | refine XO.alloc TT_ok trivial rfl rfl rfl rfl rfl (fun _ => trivial) (fun bb => ?_)
            | refine XO.build TT_ok rfl rfl rfl rfl rfl ?_
            | refine XO.lenSlice TT_ok rfl rfl rfl rfl rfl rfl ?_
            | refine XO.lenString TT_ok rfl rfl rfl rfl rfl rfl ?_
            | refine XO.indexStr TT_ok rfl rfl rfl rfl rfl rfl (by omega) (by omega) ?_
            | refine XO.indexAddr TT_ok rfl rfl rfl rfl rfl rfl rfl (by omega) (by omega) ?_
            | refine XO.addStr rfl rfl rfl rfl rfl (by omega) ?_
            | refine XO.buildSlice TT_ok trivial rfl rfl rfl rfl rfl rfl rfl rfl rfl rfl rfl rfl (fun _ => trivial) (fun bb => ?_)
            | refine XO.callF rfl rfl rfl (by kernel_rfl) rfl ?_)
          all_goals exact XS.ret1 Try.func10 rfl Try.results10 rfl (Ent.refl _) rfl
        · have hu := hu1 rfl
          repeat' (first
            | refine XO.q TT_ok rfl rfl rfl rfl rfl ?_
            | refine XO.nil ?_
            | (refine two_opened (by omega) (by omega) (by omega) (by omega) (by omega) (fun q1 g => ?_) (fun q1 g => ?_) <;> (try (exfalso; omega)))
            | (refine Tri.ent Ent.front1 (two_opened (by omega) (by omega) (by omega) (by omega) (by omega) (fun q1 g => ?_) (fun q1 g => ?_)) <;> (try (exfalso; omega)))
            | refine XS.seq ?_
            | refine XS.region (T := TT) ?_
            | refine XS.draw (T := TT) follows_ok (by decide +kernel) ?_
            | refine XS.block ?_
            | refine XS.inBlock ?_
            | refine XS.exit rfl ?_
            | refine XS.condT rfl ?_
            | refine XS.condF rfl ?_
            | refine XS.skip ?_
            | refine XS.label ?_
            | refine XO.load TT_ok rfl rfl rfl rfl rfl rfl (Reads.here rfl) ?_
            | refine XO.load TT_ok rfl rfl rfl rfl rfl rfl (Reads.skip (Reads.here rfl)) ?_
            | refine XO.load TT_ok rfl rfl rfl rfl rfl rfl (Reads.skip (Reads.skip (Reads.here rfl))) ?_
            | refine XO.load TT_ok rfl rfl rfl rfl rfl rfl (Reads.skip (Reads.skip (Reads.skip (Reads.here rfl)))) ?_
            | refine XO.load TT_ok rfl rfl rfl rfl rfl rfl (Reads.skip (Reads.skip (Reads.skip (Reads.skip (Reads.here rfl))))) ?_
            | refine XO.load TT_ok rfl rfl rfl rfl rfl rfl (Reads.skip (Reads.skip (Reads.skip (Reads.skip (Reads.skip (Reads.here rfl)))))) ?_
            | refine XO.no rfl rfl ?_
            | (refine XO.cmpI TT_ok rfl rfl rfl rfl rfl rfl rfl (fun hc => ?_) (fun hc => ?_) <;> (try (exfalso; omega)))
            | refine XO.pT TT_ok rfl rfl rfl rfl rfl ?_
            | refine XO.pF TT_ok rfl rfl rfl rfl rfl ?_
            | refine XO.cmp TT_ok rfl rfl rfl rfl rfl (fun hc => ?_) (fun hc => ?_)
            | refine XO.add64 TT_ok rfl rfl rfl rfl rfl rfl (by omega) (by omega) ?_
            | refine XO.sub64 TT_ok rfl rfl rfl rfl rfl rfl (by omega) (by omega) ?_
            | refine XO.mul64 TT_ok rfl rfl rfl rfl rfl rfl (by omega) (by omega) ?_
            | refine XO.quo64 rfl rfl rfl rfl rfl (by omega) (by omega) (by omega) ?_
            | refine XO.rem64 rfl rfl rfl rfl rfl (by omega) (by omega) ?_
            | refine XO.p TT_ok rfl rfl rfl rfl ?_
            | refine XO.storeL TT_ok trivial rfl rfl rfl rfl rfl rfl rfl rfl rfl rfl trivial ?_
            | refine XO.ent Ent.front1 (XO.storeL TT_ok trivial rfl rfl rfl rfl rfl rfl rfl rfl rfl rfl trivial ?_)
            | refine XO.ent Ent.front2 (XO.storeL TT_ok trivial rfl rfl rfl rfl rfl rfl rfl rfl rfl rfl trivial ?_)
            | refine XO.ent Ent.front3 (XO.storeL TT_ok trivial rfl rfl rfl rfl rfl rfl rfl rfl rfl rfl trivial ?_)
            | refine XO.ent Ent.front4 (XO.storeL TT_ok trivial rfl rfl rfl rfl rfl rfl rfl rfl rfl rfl trivial ?_)
            | refine XO.ent Ent.front5 (XO.storeL TT_ok trivial rfl rfl rfl rfl rfl rfl rfl rfl rfl rfl trivial ?_)
            | refine XO.box trivial rfl rfl rfl rfl rfl (fun _ => trivial) (fun bb => ?_)
            | refine XO.alloc TT_ok trivial rfl rfl rfl rfl rfl (fun _ => trivial) (fun bb => ?_)
            | refine XO.build TT_ok rfl rfl rfl rfl rfl ?_
            | refine XO.lenSlice TT_ok rfl rfl rfl rfl rfl rfl ?_
            | refine XO.lenString TT_ok rfl rfl rfl rfl rfl rfl ?_
            | refine XO.indexStr TT_ok rfl rfl rfl rfl rfl rfl (by omega) (by omega) ?_
            | refine XO.indexAddr TT_ok rfl rfl rfl rfl rfl rfl rfl (by omega) (by omega) ?_
            | refine XO.addStr rfl rfl rfl rfl rfl (by omega) ?_
            | refine XO.buildSlice TT_ok trivial rfl rfl rfl rfl rfl rfl rfl rfl rfl rfl rfl rfl (fun _ => trivial) (fun bb => ?_)
            | refine XO.callF rfl rfl rfl (by kernel_rfl) rfl ?_)
          all_goals exact XS.ret1 Try.func10 rfl Try.results10 rfl (Ent.refl _) rfl
    · repeat' (first
        | refine XO.q TT_ok rfl rfl rfl rfl rfl ?_
        | refine XO.nil ?_
        | refine anchor_spec (fun H' => ?_)
        | refine right_spec (fun _ => ?_) (fun hnr => absurd hR hnr)
        | refine XS.seq ?_
        | refine XS.region (T := TT) ?_
        | refine XS.draw (T := TT) follows_ok (by decide +kernel) ?_
        | refine XS.block ?_
        | refine XS.inBlock ?_
        | refine XS.exit rfl ?_
        | refine XS.condT rfl ?_
        | refine XS.condF rfl ?_
        | refine XS.skip ?_
        | refine XS.label ?_
        | refine XO.load TT_ok rfl rfl rfl rfl rfl rfl (Reads.here rfl) ?_
        | refine XO.load TT_ok rfl rfl rfl rfl rfl rfl (Reads.skip (Reads.here rfl)) ?_
        | refine XO.load TT_ok rfl rfl rfl rfl rfl rfl (Reads.skip (Reads.skip (Reads.here rfl))) ?_
        | refine XO.load TT_ok rfl rfl rfl rfl rfl rfl (Reads.skip (Reads.skip (Reads.skip (Reads.here rfl)))) ?_
        | refine XO.load TT_ok rfl rfl rfl rfl rfl rfl (Reads.skip (Reads.skip (Reads.skip (Reads.skip (Reads.here rfl))))) ?_
        | refine XO.load TT_ok rfl rfl rfl rfl rfl rfl (Reads.skip (Reads.skip (Reads.skip (Reads.skip (Reads.skip (Reads.here rfl)))))) ?_
        | refine XO.no rfl rfl ?_
        | (refine XO.cmpI TT_ok rfl rfl rfl rfl rfl rfl rfl (fun hc => ?_) (fun hc => ?_) <;> (try (exfalso; omega)))
        | refine XO.pT TT_ok rfl rfl rfl rfl rfl ?_
        | refine XO.pF TT_ok rfl rfl rfl rfl rfl ?_
        | refine XO.cmp TT_ok rfl rfl rfl rfl rfl (fun hc => ?_) (fun hc => ?_)
        | refine XO.add64 TT_ok rfl rfl rfl rfl rfl rfl (by omega) (by omega) ?_
        | refine XO.sub64 TT_ok rfl rfl rfl rfl rfl rfl (by omega) (by omega) ?_
        | refine XO.mul64 TT_ok rfl rfl rfl rfl rfl rfl (by omega) (by omega) ?_
        | refine XO.quo64 rfl rfl rfl rfl rfl (by omega) (by omega) (by omega) ?_
        | refine XO.rem64 rfl rfl rfl rfl rfl (by omega) (by omega) ?_
        | refine XO.p TT_ok rfl rfl rfl rfl ?_
        | refine XO.storeL TT_ok trivial rfl rfl rfl rfl rfl rfl rfl rfl rfl rfl trivial ?_
        | refine XO.ent Ent.front1 (XO.storeL TT_ok trivial rfl rfl rfl rfl rfl rfl rfl rfl rfl rfl trivial ?_)
        | refine XO.ent Ent.front2 (XO.storeL TT_ok trivial rfl rfl rfl rfl rfl rfl rfl rfl rfl rfl trivial ?_)
        | refine XO.ent Ent.front3 (XO.storeL TT_ok trivial rfl rfl rfl rfl rfl rfl rfl rfl rfl rfl trivial ?_)
        | refine XO.ent Ent.front4 (XO.storeL TT_ok trivial rfl rfl rfl rfl rfl rfl rfl rfl rfl rfl trivial ?_)
        | refine XO.ent Ent.front5 (XO.storeL TT_ok trivial rfl rfl rfl rfl rfl rfl rfl rfl rfl rfl trivial ?_)
        | refine XO.box trivial rfl rfl rfl rfl rfl (fun _ => trivial) (fun bb => ?_)
        | refine XO.alloc TT_ok trivial rfl rfl rfl rfl rfl (fun _ => trivial) (fun bb => ?_)
        | refine XO.build TT_ok rfl rfl rfl rfl rfl ?_
        | refine XO.lenSlice TT_ok rfl rfl rfl rfl rfl rfl ?_
        | refine XO.lenString TT_ok rfl rfl rfl rfl rfl rfl ?_
        | refine XO.indexStr TT_ok rfl rfl rfl rfl rfl rfl (by omega) (by omega) ?_
        | refine XO.indexAddr TT_ok rfl rfl rfl rfl rfl rfl rfl (by omega) (by omega) ?_
        | refine XO.addStr rfl rfl rfl rfl rfl (by omega) ?_
        | refine XO.buildSlice TT_ok trivial rfl rfl rfl rfl rfl rfl rfl rfl rfl rfl rfl rfl (fun _ => trivial) (fun bb => ?_)
        | refine XO.callF rfl rfl rfl (by kernel_rfl) rfl ?_)
      all_goals exact XS.ret1 Try.func10 rfl Try.results10 rfl (Ent.refl _) rfl
  · repeat' (first
      | refine XO.q TT_ok rfl rfl rfl rfl rfl ?_
      | refine XO.nil ?_
      | refine anchor_spec (fun H' => ?_)
      | refine right_spec (fun hr => absurd hr hR) (fun hnr => ?_)
      | refine XS.seq ?_
      | refine XS.region (T := TT) ?_
      | refine XS.draw (T := TT) follows_ok (by decide +kernel) ?_
      | refine XS.block ?_
      | refine XS.inBlock ?_
      | refine XS.exit rfl ?_
      | refine XS.condT rfl ?_
      | refine XS.condF rfl ?_
      | refine XS.skip ?_
      | refine XS.label ?_
      | refine XO.load TT_ok rfl rfl rfl rfl rfl rfl (Reads.here rfl) ?_
      | refine XO.load TT_ok rfl rfl rfl rfl rfl rfl (Reads.skip (Reads.here rfl)) ?_
      | refine XO.load TT_ok rfl rfl rfl rfl rfl rfl (Reads.skip (Reads.skip (Reads.here rfl))) ?_
      | refine XO.load TT_ok rfl rfl rfl rfl rfl rfl (Reads.skip (Reads.skip (Reads.skip (Reads.here rfl)))) ?_
      | refine XO.load TT_ok rfl rfl rfl rfl rfl rfl (Reads.skip (Reads.skip (Reads.skip (Reads.skip (Reads.here rfl))))) ?_
      | refine XO.load TT_ok rfl rfl rfl rfl rfl rfl (Reads.skip (Reads.skip (Reads.skip (Reads.skip (Reads.skip (Reads.here rfl)))))) ?_
      | refine XO.no rfl rfl ?_
      | (refine XO.cmpI TT_ok rfl rfl rfl rfl rfl rfl rfl (fun hc => ?_) (fun hc => ?_) <;> (try (exfalso; omega)))
      | refine XO.pT TT_ok rfl rfl rfl rfl rfl ?_
      | refine XO.pF TT_ok rfl rfl rfl rfl rfl ?_
      | refine XO.cmp TT_ok rfl rfl rfl rfl rfl (fun hc => ?_) (fun hc => ?_)
      | refine XO.add64 TT_ok rfl rfl rfl rfl rfl rfl (by omega) (by omega) ?_
      | refine XO.sub64 TT_ok rfl rfl rfl rfl rfl rfl (by omega) (by omega) ?_
      | refine XO.mul64 TT_ok rfl rfl rfl rfl rfl rfl (by omega) (by omega) ?_
      | refine XO.quo64 rfl rfl rfl rfl rfl (by omega) (by omega) (by omega) ?_
      | refine XO.rem64 rfl rfl rfl rfl rfl (by omega) (by omega) ?_
      | refine XO.p TT_ok rfl rfl rfl rfl ?_
      | refine XO.storeL TT_ok trivial rfl rfl rfl rfl rfl rfl rfl rfl rfl rfl trivial ?_
      | refine XO.ent Ent.front1 (XO.storeL TT_ok trivial rfl rfl rfl rfl rfl rfl rfl rfl rfl rfl trivial ?_)
      | refine XO.ent Ent.front2 (XO.storeL TT_ok trivial rfl rfl rfl rfl rfl rfl rfl rfl rfl rfl trivial ?_)
      | refine XO.ent Ent.front3 (XO.storeL TT_ok trivial rfl rfl rfl rfl rfl rfl rfl rfl rfl rfl trivial ?_)
      | refine XO.ent Ent.front4 (XO.storeL TT_ok trivial rfl rfl rfl rfl rfl rfl rfl rfl rfl rfl trivial ?_)
      | refine XO.ent Ent.front5 (XO.storeL TT_ok trivial rfl rfl rfl rfl rfl rfl rfl rfl rfl rfl trivial ?_)
      | refine XO.box trivial rfl rfl rfl rfl rfl (fun _ => trivial) (fun bb => ?_)
      | refine XO.alloc TT_ok trivial rfl rfl rfl rfl rfl (fun _ => trivial) (fun bb => ?_)
      | refine XO.build TT_ok rfl rfl rfl rfl rfl ?_
      | refine XO.lenSlice TT_ok rfl rfl rfl rfl rfl rfl ?_
      | refine XO.lenString TT_ok rfl rfl rfl rfl rfl rfl ?_
      | refine XO.indexStr TT_ok rfl rfl rfl rfl rfl rfl (by omega) (by omega) ?_
      | refine XO.indexAddr TT_ok rfl rfl rfl rfl rfl rfl rfl (by omega) (by omega) ?_
      | refine XO.addStr rfl rfl rfl rfl rfl (by omega) ?_
      | refine XO.buildSlice TT_ok trivial rfl rfl rfl rfl rfl rfl rfl rfl rfl rfl rfl rfl (fun _ => trivial) (fun bb => ?_)
      | refine XO.callF rfl rfl rfl (by kernel_rfl) rfl ?_)
    all_goals exact XS.ret1 Try.func10 rfl Try.results10 rfl (Ent.refl _) rfl
end Go.Proofs.Ytbpkoehgjhofaaa.He
