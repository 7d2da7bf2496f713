/- RetryPlays comes to true. Conditions: the script's row lies in memory, its fields are of their kinds. -/
import Derived.Test.YtbpkoehgjhofaaaRetryA
import Derived.Test.YtbpkoehgjhofaaaSxL
namespace Go.Proofs.Ytbpkoehgjhofaaa
open Go Go.Sx Go.DiceM
variable {w0 : World} {F H : List HProp} {K : Value → List HProp → Prop}
theorem jitD_le (d n p : Int) : d ≤ jitterD d n p ∧ jitterD d n p ≤ d + 1 := by unfold jitterD; split <;> omega
theorem belowI_ge (s n : Int) : 0 ≤ belowI s n := by
  unfold belowI
  split
  · decide
  · rename_i h
    have := belowI_lt s (n := n) (by omega)
    unfold belowI at this; rw [if_neg h] at this; omega
theorem jit_rng (s : Int) {n : Int} (h1 : 8 ≤ n) (h2 : n ≤ 64) : n - n / 2 ≤ jitterI s n 50 ∧ jitterI s n 50 ≤ n := by
  unfold jitterI
  split
  · have := belowI_lt s (n := n * 50 / 100 + 1) (by omega)
    have := belowI_ge s (n * 50 / 100 + 1)
    omega
  · omega
/-- An ask that is granted. -/
def granted (bud x a r : Int) (ids : List Int) : Prop := 1 ≤ a ∧ a ≤ r ∧ (x ∈ ids ∨ (ids.length : Int) < bud)
theorem not_granted {bud x a r : Int} {ids : List Int} (h : a < 1 ∨ r < a ∨ (x ∉ ids ∧ bud ≤ ids.length)) : ¬ granted bud x a r ids := by
  rintro ⟨h1, h2, h3⟩
  rcases h with h | h | ⟨h, g⟩
  · omega
  · omega
  · rcases h3 with h3 | h3
    · exact h h3
    · omega
theorem ask_yes {b : Nat} {bud s d x a r : Int} {ids : List Int} (hg : granted bud x a r ids) (hd : 0 ≤ d ∧ d < 9223372036854775807) (ha : a ≤ 9223372036854775807) (h : K (.tuple #[.int .i64 (jitterI s (stepW a) 50), .bool true]) (retry b bud (jitterS s (stepW a) 50) (jitterD d (stepW a) 50) (insS ids x) :: F)) :
    Tri Try.prog 41 #[ptr b, .int .i64 x, .int .i64 a, .int .i64 r] w0 (retry b bud s d ids :: F) K :=
  ask_spec hd ha (fun hn => absurd hg (not_granted hn)) (fun _ _ _ => h)
theorem ask_no {b : Nat} {bud s d x a r : Int} {ids : List Int} (hg : ¬ granted bud x a r ids) (hd : 0 ≤ d ∧ d < 9223372036854775807) (ha : a ≤ 9223372036854775807) (h : K (.tuple #[.int .i64 0, .bool false]) (retry b bud s d ids :: F)) :
    Tri Try.prog 41 #[ptr b, .int .i64 x, .int .i64 a, .int .i64 r] w0 (retry b bud s d ids :: F) K :=
  ask_spec hd ha (fun _ => h) (fun h1 h2 h3 => absurd ⟨h1, h2, h3⟩ hg)
theorem rask_yes {b : Nat} {bud s d x a r : Int} {ids : List Int} (hg : granted bud x a r ids) (hl : ids.length ≤ 1048576) (hd : 0 ≤ d ∧ d < 9223372036854775807) (ha : a ≤ 9223372036854775807) (h : K (.tuple #[.int .i64 (jitterI s (stepW a) 50), .bool true]) (rretry b bud (jitterS s (stepW a) 50) (jitterD d (stepW a) 50) (insS ids x) :: F)) :
    Tri Try.prog 42 #[ptr b, .int .i64 x, .int .i64 a, .int .i64 r] w0 (rretry b bud s d ids :: F) K :=
  rask_spec hl hd ha (fun hn => absurd hg (not_granted hn)) (fun _ _ _ => h)
theorem rask_no {b : Nat} {bud s d x a r : Int} {ids : List Int} (hg : ¬ granted bud x a r ids) (hl : ids.length ≤ 1048576) (hd : 0 ≤ d ∧ d < 9223372036854775807) (ha : a ≤ 9223372036854775807) (h : K (.tuple #[.int .i64 0, .bool false]) (rretry b bud s d ids :: F)) :
    Tri Try.prog 42 #[ptr b, .int .i64 x, .int .i64 a, .int .i64 r] w0 (rretry b bud s d ids :: F) K :=
  rask_spec hl hd ha (fun _ => h) (fun h1 h2 h3 => absurd ⟨h1, h2, h3⟩ hg)
theorem end_any {b : Nat} {bud s d x : Int} {ids : List Int} {q : Bool} (hq : decide (x ∈ ids) = q) (h : K (.bool q) (retry b bud s d (ids.erase x) :: F)) : Tri Try.prog 43 #[ptr b, .int .i64 x] w0 (retry b bud s d ids :: F) K := by
  subst hq
  exact end_spec (fun hm => by rw [decide_eq_true hm] at h; exact h) (fun hm => by rw [decide_eq_false hm, List.erase_of_not_mem hm] at h; exact h)
theorem rend_any {b : Nat} {bud s d x : Int} {ids : List Int} {q : Bool} (hl : ids.length ≤ 1048576) (hq : decide (x ∈ ids) = q) (h : K (.bool q) (rretry b bud s d (ids.erase x) :: F)) : Tri Try.prog 44 #[ptr b, .int .i64 x] w0 (rretry b bud s d ids :: F) K := by
  subst hq
  exact rend_spec hl (fun hm => by rw [decide_eq_true hm] at h; exact h) (fun hm => by rw [decide_eq_false hm, List.erase_of_not_mem hm] at h; exact h)
theorem ins_len {bud x a r : Int} {ids : List Int} (hg : granted bud x a r ids) (hl : (ids.length : Int) ≤ bud) : (ids.length : Int) ≤ (insS ids x).length ∧ ((insS ids x).length : Int) ≤ ids.length + 1 ∧ ((insS ids x).length : Int) ≤ bud := by
  unfold insS
  split
  · omega
  · rename_i h
    have := hg.2.2.resolve_left h
    rw [List.length_append, List.length_singleton]; omega
theorem ranchor_spec (h : ∀ H', K (.bool true) H') : Tri Try.prog 38 #[] w0 H K := by
  refine Tri.enter Try.func38 rfl Try.ntmps38 rfl ?_
  have hj : 4 ≤ jitterI (IntKind.u64.wrap 5) (stepW 1) 50 ∧ jitterI (IntKind.u64.wrap 5) (stepW 1) 50 ≤ 8 := by
    rw [show stepW 1 = 8 from rfl]; exact jit_rng _ (by decide) (by decide)
  have hd := jitD_le 0 (stepW 1) 50
  have hi1 : (insS ([] : List Int) 7).length = 1 := rfl
  have hi2 : ([7] : List Int).length = 1 := rfl
  have g1 : granted 1 7 1 2 [] := ⟨by decide, by decide, .inr (by decide)⟩
  have g2 : ¬ granted 1 8 1 2 [7] := by rintro ⟨_, _, h⟩; revert h; decide
  repeat' (first
    | refine XO.q TT_ok rfl rfl rfl rfl rfl ?_
    | refine XO.nil ?_
    | refine retry_new (fun br => ?_)
    | refine ask_yes g1 (by decide) (by decide) ?_
    | refine ask_no g2 (by omega) (by decide) ?_
    | refine running_spec ?_
    | refine XS.seq ?_
    | refine XS.region (T := TT) ?_
    | refine XS.draw (T := TT) follows_ok (by decide +kernel) ?_
    | refine XS.block ?_
    | refine XS.inBlock ?_
    | refine XS.exit rfl ?_
    | refine XS.condT rfl ?_
    | refine XS.condF rfl ?_
    | refine XS.skip ?_
    | refine XS.label ?_
    | refine XO.load TT_ok rfl rfl rfl rfl rfl rfl (Reads.here rfl) ?_
    | refine XO.load TT_ok rfl rfl rfl rfl rfl rfl (Reads.skip (Reads.here rfl)) ?_
    | refine XO.load TT_ok rfl rfl rfl rfl rfl rfl (Reads.skip (Reads.skip (Reads.here rfl))) ?_
    | refine XO.load TT_ok rfl rfl rfl rfl rfl rfl (Reads.skip (Reads.skip (Reads.skip (Reads.here rfl)))) ?_
    | refine XO.load TT_ok rfl rfl rfl rfl rfl rfl (Reads.skip (Reads.skip (Reads.skip (Reads.skip (Reads.here rfl))))) ?_
    | refine XO.load TT_ok rfl rfl rfl rfl rfl rfl (Reads.skip (Reads.skip (Reads.skip (Reads.skip (Reads.skip (Reads.here rfl)))))) ?_
    | refine XO.no rfl rfl ?_
    | (refine XO.cmpI TT_ok rfl rfl rfl rfl rfl rfl rfl (fun hc => ?_) (fun hc => ?_) <;> (try (exfalso; omega)))
    | refine XO.pT TT_ok rfl rfl rfl rfl rfl ?_
    | refine XO.pF TT_ok rfl rfl rfl rfl rfl ?_
    | refine XO.cmp TT_ok rfl rfl rfl rfl rfl (fun hc => ?_) (fun hc => ?_)
    | refine XO.add64 TT_ok rfl rfl rfl rfl rfl rfl (by omega) (by omega) ?_
    | refine XO.sub64 TT_ok rfl rfl rfl rfl rfl rfl (by omega) (by omega) ?_
    | refine XO.mul64 TT_ok rfl rfl rfl rfl rfl rfl (by omega) (by omega) ?_
    | refine XO.quo64 rfl rfl rfl rfl rfl (by omega) (by omega) (by omega) ?_
    | refine XO.rem64 rfl rfl rfl rfl rfl (by omega) (by omega) ?_
    | refine XO.p TT_ok rfl rfl rfl rfl ?_
    | refine XO.storeL TT_ok trivial rfl rfl rfl rfl rfl rfl rfl rfl rfl rfl trivial ?_
    | refine XO.ent Ent.front1 (XO.storeL TT_ok trivial rfl rfl rfl rfl rfl rfl rfl rfl rfl rfl trivial ?_)
    | refine XO.ent Ent.front2 (XO.storeL TT_ok trivial rfl rfl rfl rfl rfl rfl rfl rfl rfl rfl trivial ?_)
    | refine XO.ent Ent.front3 (XO.storeL TT_ok trivial rfl rfl rfl rfl rfl rfl rfl rfl rfl rfl trivial ?_)
    | refine XO.ent Ent.front4 (XO.storeL TT_ok trivial rfl rfl rfl rfl rfl rfl rfl rfl rfl rfl trivial ?_)
    | refine XO.ent Ent.front5 (XO.storeL TT_ok trivial rfl rfl rfl rfl rfl rfl rfl rfl rfl rfl trivial ?_)
    | refine XO.box trivial rfl rfl rfl rfl rfl (fun _ => trivial) (fun bb => ?_)
    | refine XO.alloc TT_ok trivial rfl rfl rfl rfl rfl (fun _ => trivial) (fun bb => ?_)
    | refine XO.build TT_ok rfl rfl rfl rfl rfl ?_
    | refine XO.lenSlice TT_ok rfl rfl rfl rfl rfl rfl ?_
    | refine XO.lenString TT_ok rfl rfl rfl rfl rfl rfl ?_
    | refine XO.indexStr TT_ok rfl rfl rfl rfl rfl rfl (by omega) (by omega) ?_
    | refine XO.indexAddr TT_ok rfl rfl rfl rfl rfl rfl rfl (by omega) (by omega) ?_
    | refine XO.addStr rfl rfl rfl rfl rfl (by omega) ?_
    | refine XO.buildSlice TT_ok trivial rfl rfl rfl rfl rfl rfl rfl rfl rfl rfl rfl rfl (fun _ => trivial) (fun bb => ?_)
    | refine XO.callF rfl rfl rfl (by kernel_rfl) rfl ?_)
  all_goals exact XS.ret1 Try.func38 rfl Try.results38 rfl (Ent.refl _) (h _)
theorem op4 {l : List Value} (h : FKs [.int .i64, .int .i64, .int .i64, .int .i64] l) : ∃ K X A B : Int, l = [.int .i64 K, .int .i64 X, .int .i64 A, .int .i64 B] ∧ (Lit.int .i64 A).wf = true := by
  obtain ⟨_, _, rfl, ⟨K, rfl, _⟩, h1⟩ := h.cons
  obtain ⟨_, _, rfl, ⟨X, rfl, _⟩, h2⟩ := h1.cons
  obtain ⟨_, _, rfl, ⟨A, rfl, wA⟩, h3⟩ := h2.cons
  obtain ⟨_, _, rfl, ⟨B, rfl, _⟩, h4⟩ := h3.cons
  obtain rfl := h4.nil
  exact ⟨K, X, A, B, rfl, wA⟩
set_option maxHeartbeats 4000000 in
theorem rplays {bud s : Int} {v : Value} {ys : List (List Value)} (hb : BaseRow w0 v 4 ys) (hk : ∀ l ∈ ys, FKs [.int .i64, .int .i64, .int .i64, .int .i64] l) (hr : ys.length * 32 ≤ 140737488351232) : Tri Try.prog 13 #[.int .i64 bud, .int .i64 s, v] w0 H (fun v _ => v = .bool true) := by
  obtain ⟨a, n, cap, rfl, hn, hop⟩ := hb.opened
  refine Tri.enter Try.func13 rfl Try.ntmps13 rfl ?_
  by_cases hR : 0 ≤ bud ∧ bud ≤ 256 ∧ 0 ≤ s ∧ s ≤ 1099511627776
  · repeat' (first
      | refine XO.q TT_ok rfl rfl rfl rfl rfl ?_
      | refine XO.nil ?_
      | refine ranchor_spec (fun H' => ?_)
      | refine retry_new (fun b1 => ?_)
      | refine rnew_spec (fun b2 => ?_)
      | refine XS.seq ?_
      | refine XS.region (T := TT) ?_
      | refine XS.draw (T := TT) follows_ok (by decide +kernel) ?_
      | refine XS.block ?_
      | refine XS.inBlock ?_
      | refine XS.exit rfl ?_
      | refine XS.condT rfl ?_
      | refine XS.condF rfl ?_
      | refine XS.skip ?_
      | refine XS.label ?_
      | refine XO.load TT_ok rfl rfl rfl rfl rfl rfl (Reads.here rfl) ?_
      | refine XO.load TT_ok rfl rfl rfl rfl rfl rfl (Reads.skip (Reads.here rfl)) ?_
      | refine XO.load TT_ok rfl rfl rfl rfl rfl rfl (Reads.skip (Reads.skip (Reads.here rfl))) ?_
      | refine XO.load TT_ok rfl rfl rfl rfl rfl rfl (Reads.skip (Reads.skip (Reads.skip (Reads.here rfl)))) ?_
      | refine XO.load TT_ok rfl rfl rfl rfl rfl rfl (Reads.skip (Reads.skip (Reads.skip (Reads.skip (Reads.here rfl))))) ?_
      | refine XO.load TT_ok rfl rfl rfl rfl rfl rfl (Reads.skip (Reads.skip (Reads.skip (Reads.skip (Reads.skip (Reads.here rfl)))))) ?_
      | refine XO.no rfl rfl ?_
      | (refine XO.cmpI TT_ok rfl rfl rfl rfl rfl rfl rfl (fun hc => ?_) (fun hc => ?_) <;> (try (exfalso; omega)))
      | refine XO.pT TT_ok rfl rfl rfl rfl rfl ?_
      | refine XO.pF TT_ok rfl rfl rfl rfl rfl ?_
      | refine XO.cmp TT_ok rfl rfl rfl rfl rfl (fun hc => ?_) (fun hc => ?_)
      | refine XO.add64 TT_ok rfl rfl rfl rfl rfl rfl (by omega) (by omega) ?_
      | refine XO.sub64 TT_ok rfl rfl rfl rfl rfl rfl (by omega) (by omega) ?_
      | refine XO.mul64 TT_ok rfl rfl rfl rfl rfl rfl (by omega) (by omega) ?_
      | refine XO.quo64 rfl rfl rfl rfl rfl (by omega) (by omega) (by omega) ?_
      | refine XO.rem64 rfl rfl rfl rfl rfl (by omega) (by omega) ?_
      | refine XO.p TT_ok rfl rfl rfl rfl ?_
      | refine XO.storeL TT_ok trivial rfl rfl rfl rfl rfl rfl rfl rfl rfl rfl trivial ?_
      | refine XO.ent Ent.front1 (XO.storeL TT_ok trivial rfl rfl rfl rfl rfl rfl rfl rfl rfl rfl trivial ?_)
      | refine XO.ent Ent.front2 (XO.storeL TT_ok trivial rfl rfl rfl rfl rfl rfl rfl rfl rfl rfl trivial ?_)
      | refine XO.ent Ent.front3 (XO.storeL TT_ok trivial rfl rfl rfl rfl rfl rfl rfl rfl rfl rfl trivial ?_)
      | refine XO.ent Ent.front4 (XO.storeL TT_ok trivial rfl rfl rfl rfl rfl rfl rfl rfl rfl rfl trivial ?_)
      | refine XO.ent Ent.front5 (XO.storeL TT_ok trivial rfl rfl rfl rfl rfl rfl rfl rfl rfl rfl trivial ?_)
      | refine XO.box trivial rfl rfl rfl rfl rfl (fun _ => trivial) (fun bb => ?_)
      | refine XO.alloc TT_ok trivial rfl rfl rfl rfl rfl (fun _ => trivial) (fun bb => ?_)
      | refine XO.build TT_ok rfl rfl rfl rfl rfl ?_
      | refine XO.lenSlice TT_ok rfl rfl rfl rfl rfl rfl ?_
      | refine XO.lenString TT_ok rfl rfl rfl rfl rfl rfl ?_
      | refine XO.indexStr TT_ok rfl rfl rfl rfl rfl rfl (by omega) (by omega) ?_
      | refine XO.indexAddr TT_ok rfl rfl rfl rfl rfl rfl rfl (by omega) (by omega) ?_
      | refine XO.addStr rfl rfl rfl rfl rfl (by omega) ?_
      | refine XO.buildSlice TT_ok trivial rfl rfl rfl rfl rfl rfl rfl rfl rfl rfl rfl rfl (fun _ => trivial) (fun bb => ?_)
      | refine XO.callF rfl rfl rfl (by kernel_rfl) rfl ?_)
    rename_i b1 b2
    refine XS.loopI (ι := Nat × Int × Int × List Int) (fun x => [(7, ptr b1), (8, ptr b2), (39, .slice a n cap), (40, .int .i64 n), (41, .int .i64 x.1)]) (fun x => retry b1 bud x.2.1 x.2.2.1 x.2.2.2 :: rretry b2 bud x.2.1 x.2.2.1 x.2.2.2 :: H')
      (fun x => x.1 ≤ n ∧ 0 ≤ x.2.2.1 ∧ x.2.2.1 ≤ x.1 ∧ (x.2.2.2.length : Int) ≤ bud) (fun x => n - x.1) (0, IntKind.u64.wrap s, 0, []) ⟨Nat.zero_le _, Int.le_refl _, Int.le_refl _, hR.1⟩ ⟨rfl, rfl, rfl, rfl, rfl, trivial⟩ (by repeat' (first | exact Ent.refl _ | exact Ent.dropAll _ | refine Ent.cons _ ?_ | refine Ent.trans Ent.front1 (Ent.cons _ ?_) | refine Ent.trans Ent.front2 (Ent.cons _ ?_) | refine Ent.trans Ent.front3 (Ent.cons _ ?_) | refine Ent.trans Ent.front4 (Ent.cons _ ?_) | refine Ent.trans Ent.front5 (Ent.cons _ ?_) | refine Ent.trans Row.of_at (Ent.cons _ ?_) | refine Ent.trans Ent.front1 (Ent.trans Row.of_at (Ent.cons _ ?_)) | refine Ent.trans Ent.front2 (Ent.trans Row.of_at (Ent.cons _ ?_)) | refine Ent.trans Ent.front3 (Ent.trans Row.of_at (Ent.cons _ ?_)) | refine Ent.trans Ent.front4 (Ent.trans Row.of_at (Ent.cons _ ?_)) | refine Ent.trans (Ent.drop _ _) ?_)) ?_
    rintro ⟨k, S, D, ids⟩ e ⟨hkn, h0, h1, h2⟩ ih
    simp only at hkn h0 h1 h2 ⊢
    have hD : 0 ≤ D ∧ D < 9223372036854775807 := by omega
    have hl : ids.length ≤ 1048576 := by omega
    by_cases hlt : k < n
    · obtain ⟨l, hl0⟩ : ∃ l, ys[k]? = some l := ⟨_, List.getElem?_eq_getElem (by omega)⟩
      obtain ⟨b, off, rfl, hrd⟩ := hop k l hl0
      rw [show k = (k : Int).toNat from rfl] at hrd
      have hkl := hk l (List.mem_of_getElem? hl0)
      clear hop hk hl0
      obtain ⟨K, X, A, B, rfl, wA⟩ := op4 hkl
      have hA := (wf_i64 wA).2
      have hd2 := jitD_le D (stepW A) 50
      by_cases hK1 : K = 1
      · subst hK1
        by_cases hg : granted bud X A B ids
        · have hi := ins_len hg h2
          repeat' (first
            | refine XO.q TT_ok rfl rfl rfl rfl rfl ?_
            | refine XO.nil ?_
            | refine XO.loadAgg TT_ok rfl rfl rfl rfl rfl rfl rfl (hrd _) ?_
            | refine ask_yes hg hD hA ?_
            | refine Tri.ent Ent.front1 (ask_yes hg hD hA ?_)
            | refine Tri.ent Ent.front2 (ask_yes hg hD hA ?_)
            | refine Tri.ent Ent.front3 (ask_yes hg hD hA ?_)
            | refine Tri.ent Ent.front4 (ask_yes hg hD hA ?_)
            | refine rask_yes hg hl hD hA ?_
            | refine Tri.ent Ent.front1 (rask_yes hg hl hD hA ?_)
            | refine Tri.ent Ent.front2 (rask_yes hg hl hD hA ?_)
            | refine Tri.ent Ent.front3 (rask_yes hg hl hD hA ?_)
            | refine Tri.ent Ent.front4 (rask_yes hg hl hD hA ?_)
            | refine XS.seq ?_
            | refine XS.region (T := TT) ?_
            | refine XS.draw (T := TT) follows_ok (by decide +kernel) ?_
            | refine XS.block ?_
            | refine XS.inBlock ?_
            | refine XS.exit rfl ?_
            | refine XS.condT rfl ?_
            | refine XS.condF rfl ?_
            | refine XS.skip ?_
            | refine XS.label ?_
            | refine XO.load TT_ok rfl rfl rfl rfl rfl rfl (Reads.here rfl) ?_
            | refine XO.load TT_ok rfl rfl rfl rfl rfl rfl (Reads.skip (Reads.here rfl)) ?_
            | refine XO.load TT_ok rfl rfl rfl rfl rfl rfl (Reads.skip (Reads.skip (Reads.here rfl))) ?_
            | refine XO.load TT_ok rfl rfl rfl rfl rfl rfl (Reads.skip (Reads.skip (Reads.skip (Reads.here rfl)))) ?_
            | refine XO.load TT_ok rfl rfl rfl rfl rfl rfl (Reads.skip (Reads.skip (Reads.skip (Reads.skip (Reads.here rfl))))) ?_
            | refine XO.load TT_ok rfl rfl rfl rfl rfl rfl (Reads.skip (Reads.skip (Reads.skip (Reads.skip (Reads.skip (Reads.here rfl)))))) ?_
            | refine XO.no rfl rfl ?_
            | (refine XO.cmpI TT_ok rfl rfl rfl rfl rfl rfl rfl (fun hc => ?_) (fun hc => ?_) <;> (try (exfalso; omega)))
            | refine XO.pT TT_ok rfl rfl rfl rfl rfl ?_
            | refine XO.pF TT_ok rfl rfl rfl rfl rfl ?_
            | refine XO.cmp TT_ok rfl rfl rfl rfl rfl (fun hc => ?_) (fun hc => ?_)
            | refine XO.add64 TT_ok rfl rfl rfl rfl rfl rfl (by omega) (by omega) ?_
            | refine XO.sub64 TT_ok rfl rfl rfl rfl rfl rfl (by omega) (by omega) ?_
            | refine XO.mul64 TT_ok rfl rfl rfl rfl rfl rfl (by omega) (by omega) ?_
            | refine XO.quo64 rfl rfl rfl rfl rfl (by omega) (by omega) (by omega) ?_
            | refine XO.rem64 rfl rfl rfl rfl rfl (by omega) (by omega) ?_
            | refine XO.p TT_ok rfl rfl rfl rfl ?_
            | refine XO.storeL TT_ok trivial rfl rfl rfl rfl rfl rfl rfl rfl rfl rfl trivial ?_
            | refine XO.ent Ent.front1 (XO.storeL TT_ok trivial rfl rfl rfl rfl rfl rfl rfl rfl rfl rfl trivial ?_)
            | refine XO.ent Ent.front2 (XO.storeL TT_ok trivial rfl rfl rfl rfl rfl rfl rfl rfl rfl rfl trivial ?_)
            | refine XO.ent Ent.front3 (XO.storeL TT_ok trivial rfl rfl rfl rfl rfl rfl rfl rfl rfl rfl trivial ?_)
            | refine XO.ent Ent.front4 (XO.storeL TT_ok trivial rfl rfl rfl rfl rfl rfl rfl rfl rfl rfl trivial ?_)
            | refine XO.ent Ent.front5 (XO.storeL TT_ok trivial rfl rfl rfl rfl rfl rfl rfl rfl rfl rfl trivial ?_)
            | refine XO.box trivial rfl rfl rfl rfl rfl (fun _ => trivial) (fun bb => ?_)
            | refine XO.alloc TT_ok trivial rfl rfl rfl rfl rfl (fun _ => trivial) (fun bb => ?_)
            | refine XO.build TT_ok rfl rfl rfl rfl rfl ?_
            | refine XO.lenSlice TT_ok rfl rfl rfl rfl rfl rfl ?_
            | refine XO.lenString TT_ok rfl rfl rfl rfl rfl rfl ?_
            | refine XO.indexStr TT_ok rfl rfl rfl rfl rfl rfl (by omega) (by omega) ?_
            | refine XO.indexAddr TT_ok rfl rfl rfl rfl rfl rfl rfl (by omega) (by omega) ?_
            | refine XO.addStr rfl rfl rfl rfl rfl (by omega) ?_
            | refine XO.buildSlice TT_ok trivial rfl rfl rfl rfl rfl rfl rfl rfl rfl rfl rfl rfl (fun _ => trivial) (fun bb => ?_)
            | refine XO.callF rfl rfl rfl (by kernel_rfl) rfl ?_)
          exact ih (k + 1, jitterS S (stepW A) 50, jitterD D (stepW A) 50, insS ids X) _ _ ⟨by dsimp only; omega, by dsimp only; omega, by dsimp only; omega, by dsimp only; omega⟩ (by dsimp only; omega) ⟨rfl, rfl, rfl, rfl, rfl, trivial⟩ (by repeat' (first | exact Ent.refl _ | exact Ent.dropAll _ | refine Ent.cons _ ?_ | refine Ent.trans Ent.front1 (Ent.cons _ ?_) | refine Ent.trans Ent.front2 (Ent.cons _ ?_) | refine Ent.trans Ent.front3 (Ent.cons _ ?_) | refine Ent.trans Ent.front4 (Ent.cons _ ?_) | refine Ent.trans Ent.front5 (Ent.cons _ ?_) | refine Ent.trans Row.of_at (Ent.cons _ ?_) | refine Ent.trans Ent.front1 (Ent.trans Row.of_at (Ent.cons _ ?_)) | refine Ent.trans Ent.front2 (Ent.trans Row.of_at (Ent.cons _ ?_)) | refine Ent.trans Ent.front3 (Ent.trans Row.of_at (Ent.cons _ ?_)) | refine Ent.trans Ent.front4 (Ent.trans Row.of_at (Ent.cons _ ?_)) | refine Ent.trans (Ent.drop _ _) ?_))
        · repeat' (first
            | refine XO.q TT_ok rfl rfl rfl rfl rfl ?_
            | refine XO.nil ?_
            | refine XO.loadAgg TT_ok rfl rfl rfl rfl rfl rfl rfl (hrd _) ?_
            | refine ask_no hg hD hA ?_
            | refine Tri.ent Ent.front1 (ask_no hg hD hA ?_)
            | refine Tri.ent Ent.front2 (ask_no hg hD hA ?_)
            | refine Tri.ent Ent.front3 (ask_no hg hD hA ?_)
            | refine Tri.ent Ent.front4 (ask_no hg hD hA ?_)
            | refine rask_no hg hl hD hA ?_
            | refine Tri.ent Ent.front1 (rask_no hg hl hD hA ?_)
            | refine Tri.ent Ent.front2 (rask_no hg hl hD hA ?_)
            | refine Tri.ent Ent.front3 (rask_no hg hl hD hA ?_)
            | refine Tri.ent Ent.front4 (rask_no hg hl hD hA ?_)
            | refine XS.seq ?_
            | refine XS.region (T := TT) ?_
            | refine XS.draw (T := TT) follows_ok (by decide +kernel) ?_
            | refine XS.block ?_
            | refine XS.inBlock ?_
            | refine XS.exit rfl ?_
            | refine XS.condT rfl ?_
            | refine XS.condF rfl ?_
            | refine XS.skip ?_
            | refine XS.label ?_
            | refine XO.load TT_ok rfl rfl rfl rfl rfl rfl (Reads.here rfl) ?_
            | refine XO.load TT_ok rfl rfl rfl rfl rfl rfl (Reads.skip (Reads.here rfl)) ?_
            | refine XO.load TT_ok rfl rfl rfl rfl rfl rfl (Reads.skip (Reads.skip (Reads.here rfl))) ?_
            | refine XO.load TT_ok rfl rfl rfl rfl rfl rfl (Reads.skip (Reads.skip (Reads.skip (Reads.here rfl)))) ?_
            | refine XO.load TT_ok rfl rfl rfl rfl rfl rfl (Reads.skip (Reads.skip (Reads.skip (Reads.skip (Reads.here rfl))))) ?_
            | refine XO.load TT_ok rfl rfl rfl rfl rfl rfl (Reads.skip (Reads.skip (Reads.skip (Reads.skip (Reads.skip (Reads.here rfl)))))) ?_
            | refine XO.no rfl rfl ?_
            | (refine XO.cmpI TT_ok rfl rfl rfl rfl rfl rfl rfl (fun hc => ?_) (fun hc => ?_) <;> (try (exfalso; omega)))
            | refine XO.pT TT_ok rfl rfl rfl rfl rfl ?_
            | refine XO.pF TT_ok rfl rfl rfl rfl rfl ?_
            | refine XO.cmp TT_ok rfl rfl rfl rfl rfl (fun hc => ?_) (fun hc => ?_)
            | refine XO.add64 TT_ok rfl rfl rfl rfl rfl rfl (by omega) (by omega) ?_
            | refine XO.sub64 TT_ok rfl rfl rfl rfl rfl rfl (by omega) (by omega) ?_
            | refine XO.mul64 TT_ok rfl rfl rfl rfl rfl rfl (by omega) (by omega) ?_
            | refine XO.quo64 rfl rfl rfl rfl rfl (by omega) (by omega) (by omega) ?_
            | refine XO.rem64 rfl rfl rfl rfl rfl (by omega) (by omega) ?_
            | refine XO.p TT_ok rfl rfl rfl rfl ?_
            | refine XO.storeL TT_ok trivial rfl rfl rfl rfl rfl rfl rfl rfl rfl rfl trivial ?_
            | refine XO.ent Ent.front1 (XO.storeL TT_ok trivial rfl rfl rfl rfl rfl rfl rfl rfl rfl rfl trivial ?_)
            | refine XO.ent Ent.front2 (XO.storeL TT_ok trivial rfl rfl rfl rfl rfl rfl rfl rfl rfl rfl trivial ?_)
            | refine XO.ent Ent.front3 (XO.storeL TT_ok trivial rfl rfl rfl rfl rfl rfl rfl rfl rfl rfl trivial ?_)
            | refine XO.ent Ent.front4 (XO.storeL TT_ok trivial rfl rfl rfl rfl rfl rfl rfl rfl rfl rfl trivial ?_)
            | refine XO.ent Ent.front5 (XO.storeL TT_ok trivial rfl rfl rfl rfl rfl rfl rfl rfl rfl rfl trivial ?_)
            | refine XO.box trivial rfl rfl rfl rfl rfl (fun _ => trivial) (fun bb => ?_)
            | refine XO.alloc TT_ok trivial rfl rfl rfl rfl rfl (fun _ => trivial) (fun bb => ?_)
            | refine XO.build TT_ok rfl rfl rfl rfl rfl ?_
            | refine XO.lenSlice TT_ok rfl rfl rfl rfl rfl rfl ?_
            | refine XO.lenString TT_ok rfl rfl rfl rfl rfl rfl ?_
            | refine XO.indexStr TT_ok rfl rfl rfl rfl rfl rfl (by omega) (by omega) ?_
            | refine XO.indexAddr TT_ok rfl rfl rfl rfl rfl rfl rfl (by omega) (by omega) ?_
            | refine XO.addStr rfl rfl rfl rfl rfl (by omega) ?_
            | refine XO.buildSlice TT_ok trivial rfl rfl rfl rfl rfl rfl rfl rfl rfl rfl rfl rfl (fun _ => trivial) (fun bb => ?_)
            | refine XO.callF rfl rfl rfl (by kernel_rfl) rfl ?_)
          exact ih (k + 1, S, D, ids) _ _ ⟨by dsimp only; omega, by dsimp only; omega, by dsimp only; omega, by dsimp only; omega⟩ (by dsimp only; omega) ⟨rfl, rfl, rfl, rfl, rfl, trivial⟩ (by repeat' (first | exact Ent.refl _ | exact Ent.dropAll _ | refine Ent.cons _ ?_ | refine Ent.trans Ent.front1 (Ent.cons _ ?_) | refine Ent.trans Ent.front2 (Ent.cons _ ?_) | refine Ent.trans Ent.front3 (Ent.cons _ ?_) | refine Ent.trans Ent.front4 (Ent.cons _ ?_) | refine Ent.trans Ent.front5 (Ent.cons _ ?_) | refine Ent.trans Row.of_at (Ent.cons _ ?_) | refine Ent.trans Ent.front1 (Ent.trans Row.of_at (Ent.cons _ ?_)) | refine Ent.trans Ent.front2 (Ent.trans Row.of_at (Ent.cons _ ?_)) | refine Ent.trans Ent.front3 (Ent.trans Row.of_at (Ent.cons _ ?_)) | refine Ent.trans Ent.front4 (Ent.trans Row.of_at (Ent.cons _ ?_)) | refine Ent.trans (Ent.drop _ _) ?_))
      · by_cases hK2 : K = 2
        · subst hK2
          have hle := List.length_erase_le (a := X) (l := ids)
          obtain ⟨q, hq⟩ : ∃ q, decide (X ∈ ids) = q := ⟨_, rfl⟩
          cases q
          · repeat' (first
              | refine XO.q TT_ok rfl rfl rfl rfl rfl ?_
              | refine XO.nil ?_
              | refine XO.loadAgg TT_ok rfl rfl rfl rfl rfl rfl rfl (hrd _) ?_
              | refine end_any hq ?_
              | refine Tri.ent Ent.front1 (end_any hq ?_)
              | refine Tri.ent Ent.front2 (end_any hq ?_)
              | refine Tri.ent Ent.front3 (end_any hq ?_)
              | refine Tri.ent Ent.front4 (end_any hq ?_)
              | refine rend_any hl hq ?_
              | refine Tri.ent Ent.front1 (rend_any hl hq ?_)
              | refine Tri.ent Ent.front2 (rend_any hl hq ?_)
              | refine Tri.ent Ent.front3 (rend_any hl hq ?_)
              | refine Tri.ent Ent.front4 (rend_any hl hq ?_)
              | refine XS.drawH (T := TT) [(2, [7], ⟨bb, 1, none⟩, .int .i64 X), (6, [3], ⟨bb, 1, none⟩, .int .i64 X)] [(2, [7]), (6, [3])] rfl follows_ok (by decide +kernel) ?_
              | refine XO.callH (by repeat' (first | exact trivial | refine And.intro ?_ ?_ | exact Reads.here rfl | refine Reads.skip ?_)) rfl rfl rfl (by kernel_rfl) rfl ?_
              | refine And.intro (by repeat' (first | exact trivial | refine And.intro ?_ ?_ | exact Reads.here rfl | refine Reads.skip ?_)) ?_
              | refine XO.loadH TT_ok rfl rfl rfl rfl rfl rfl (by repeat' (first | exact trivial | refine And.intro ?_ ?_ | exact Reads.here rfl | refine Reads.skip ?_)) ?_
              | refine XS.seq ?_
              | refine XS.region (T := TT) ?_
              | refine XS.draw (T := TT) follows_ok (by decide +kernel) ?_
              | refine XS.block ?_
              | refine XS.inBlock ?_
              | refine XS.exit rfl ?_
              | refine XS.condT rfl ?_
              | refine XS.condF rfl ?_
              | refine XS.skip ?_
              | refine XS.label ?_
              | refine XO.load TT_ok rfl rfl rfl rfl rfl rfl (Reads.here rfl) ?_
              | refine XO.load TT_ok rfl rfl rfl rfl rfl rfl (Reads.skip (Reads.here rfl)) ?_
              | refine XO.load TT_ok rfl rfl rfl rfl rfl rfl (Reads.skip (Reads.skip (Reads.here rfl))) ?_
              | refine XO.load TT_ok rfl rfl rfl rfl rfl rfl (Reads.skip (Reads.skip (Reads.skip (Reads.here rfl)))) ?_
              | refine XO.load TT_ok rfl rfl rfl rfl rfl rfl (Reads.skip (Reads.skip (Reads.skip (Reads.skip (Reads.here rfl))))) ?_
              | refine XO.load TT_ok rfl rfl rfl rfl rfl rfl (Reads.skip (Reads.skip (Reads.skip (Reads.skip (Reads.skip (Reads.here rfl)))))) ?_
              | refine XO.no rfl rfl ?_
              | (refine XO.cmpI TT_ok rfl rfl rfl rfl rfl rfl rfl (fun hc => ?_) (fun hc => ?_) <;> (try (exfalso; omega)))
              | refine XO.pT TT_ok rfl rfl rfl rfl rfl ?_
              | refine XO.pF TT_ok rfl rfl rfl rfl rfl ?_
              | refine XO.cmp TT_ok rfl rfl rfl rfl rfl (fun hc => ?_) (fun hc => ?_)
              | refine XO.add64 TT_ok rfl rfl rfl rfl rfl rfl (by omega) (by omega) ?_
              | refine XO.sub64 TT_ok rfl rfl rfl rfl rfl rfl (by omega) (by omega) ?_
              | refine XO.mul64 TT_ok rfl rfl rfl rfl rfl rfl (by omega) (by omega) ?_
              | refine XO.quo64 rfl rfl rfl rfl rfl (by omega) (by omega) (by omega) ?_
              | refine XO.rem64 rfl rfl rfl rfl rfl (by omega) (by omega) ?_
              | refine XO.p TT_ok rfl rfl rfl rfl ?_
              | refine XO.storeL TT_ok trivial rfl rfl rfl rfl rfl rfl rfl rfl rfl rfl trivial ?_
              | refine XO.ent Ent.front1 (XO.storeL TT_ok trivial rfl rfl rfl rfl rfl rfl rfl rfl rfl rfl trivial ?_)
              | refine XO.ent Ent.front2 (XO.storeL TT_ok trivial rfl rfl rfl rfl rfl rfl rfl rfl rfl rfl trivial ?_)
              | refine XO.ent Ent.front3 (XO.storeL TT_ok trivial rfl rfl rfl rfl rfl rfl rfl rfl rfl rfl trivial ?_)
              | refine XO.ent Ent.front4 (XO.storeL TT_ok trivial rfl rfl rfl rfl rfl rfl rfl rfl rfl rfl trivial ?_)
              | refine XO.ent Ent.front5 (XO.storeL TT_ok trivial rfl rfl rfl rfl rfl rfl rfl rfl rfl rfl trivial ?_)
              | refine XO.box trivial rfl rfl rfl rfl rfl (fun _ => trivial) (fun bb => ?_)
              | refine XO.alloc TT_ok trivial rfl rfl rfl rfl rfl (fun _ => trivial) (fun bb => ?_)
              | refine XO.build TT_ok rfl rfl rfl rfl rfl ?_
              | refine XO.lenSlice TT_ok rfl rfl rfl rfl rfl rfl ?_
              | refine XO.lenString TT_ok rfl rfl rfl rfl rfl rfl ?_
              | refine XO.indexStr TT_ok rfl rfl rfl rfl rfl rfl (by omega) (by omega) ?_
              | refine XO.indexAddr TT_ok rfl rfl rfl rfl rfl rfl rfl (by omega) (by omega) ?_
              | refine XO.addStr rfl rfl rfl rfl rfl (by omega) ?_
              | refine XO.buildSlice TT_ok trivial rfl rfl rfl rfl rfl rfl rfl rfl rfl rfl rfl rfl (fun _ => trivial) (fun bb => ?_)
              | refine XO.callF rfl rfl rfl (by kernel_rfl) rfl ?_)
            all_goals exact ih (k + 1, S, D, ids.erase X) _ _ ⟨by dsimp only; omega, by dsimp only; omega, by dsimp only; omega, by dsimp only; omega⟩ (by dsimp only; omega) ⟨rfl, rfl, rfl, rfl, rfl, trivial⟩ (by repeat' (first | exact Ent.refl _ | exact Ent.dropAll _ | refine Ent.cons _ ?_ | refine Ent.trans Ent.front1 (Ent.cons _ ?_) | refine Ent.trans Ent.front2 (Ent.cons _ ?_) | refine Ent.trans Ent.front3 (Ent.cons _ ?_) | refine Ent.trans Ent.front4 (Ent.cons _ ?_) | refine Ent.trans Ent.front5 (Ent.cons _ ?_) | refine Ent.trans Row.of_at (Ent.cons _ ?_) | refine Ent.trans Ent.front1 (Ent.trans Row.of_at (Ent.cons _ ?_)) | refine Ent.trans Ent.front2 (Ent.trans Row.of_at (Ent.cons _ ?_)) | refine Ent.trans Ent.front3 (Ent.trans Row.of_at (Ent.cons _ ?_)) | refine Ent.trans Ent.front4 (Ent.trans Row.of_at (Ent.cons _ ?_)) | refine Ent.trans (Ent.drop _ _) ?_))
          · repeat' (first
              | refine XO.q TT_ok rfl rfl rfl rfl rfl ?_
              | refine XO.nil ?_
              | refine XO.loadAgg TT_ok rfl rfl rfl rfl rfl rfl rfl (hrd _) ?_
              | refine end_any hq ?_
              | refine Tri.ent Ent.front1 (end_any hq ?_)
              | refine Tri.ent Ent.front2 (end_any hq ?_)
              | refine Tri.ent Ent.front3 (end_any hq ?_)
              | refine Tri.ent Ent.front4 (end_any hq ?_)
              | refine rend_any hl hq ?_
              | refine Tri.ent Ent.front1 (rend_any hl hq ?_)
              | refine Tri.ent Ent.front2 (rend_any hl hq ?_)
              | refine Tri.ent Ent.front3 (rend_any hl hq ?_)
              | refine Tri.ent Ent.front4 (rend_any hl hq ?_)
              | refine XS.drawH (T := TT) [(2, [7], ⟨bb, 1, none⟩, .int .i64 X), (6, [3], ⟨bb, 1, none⟩, .int .i64 X)] [(2, [7]), (6, [3])] rfl follows_ok (by decide +kernel) ?_
              | refine XO.callH (by repeat' (first | exact trivial | refine And.intro ?_ ?_ | exact Reads.here rfl | refine Reads.skip ?_)) rfl rfl rfl (by kernel_rfl) rfl ?_
              | refine And.intro (by repeat' (first | exact trivial | refine And.intro ?_ ?_ | exact Reads.here rfl | refine Reads.skip ?_)) ?_
              | refine XO.loadH TT_ok rfl rfl rfl rfl rfl rfl (by repeat' (first | exact trivial | refine And.intro ?_ ?_ | exact Reads.here rfl | refine Reads.skip ?_)) ?_
              | refine XS.seq ?_
              | refine XS.region (T := TT) ?_
              | refine XS.draw (T := TT) follows_ok (by decide +kernel) ?_
              | refine XS.block ?_
              | refine XS.inBlock ?_
              | refine XS.exit rfl ?_
              | refine XS.condT rfl ?_
              | refine XS.condF rfl ?_
              | refine XS.skip ?_
              | refine XS.label ?_
              | refine XO.load TT_ok rfl rfl rfl rfl rfl rfl (Reads.here rfl) ?_
              | refine XO.load TT_ok rfl rfl rfl rfl rfl rfl (Reads.skip (Reads.here rfl)) ?_
              | refine XO.load TT_ok rfl rfl rfl rfl rfl rfl (Reads.skip (Reads.skip (Reads.here rfl))) ?_
              | refine XO.load TT_ok rfl rfl rfl rfl rfl rfl (Reads.skip (Reads.skip (Reads.skip (Reads.here rfl)))) ?_
              | refine XO.load TT_ok rfl rfl rfl rfl rfl rfl (Reads.skip (Reads.skip (Reads.skip (Reads.skip (Reads.here rfl))))) ?_
              | refine XO.load TT_ok rfl rfl rfl rfl rfl rfl (Reads.skip (Reads.skip (Reads.skip (Reads.skip (Reads.skip (Reads.here rfl)))))) ?_
              | refine XO.no rfl rfl ?_
              | (refine XO.cmpI TT_ok rfl rfl rfl rfl rfl rfl rfl (fun hc => ?_) (fun hc => ?_) <;> (try (exfalso; omega)))
              | refine XO.pT TT_ok rfl rfl rfl rfl rfl ?_
              | refine XO.pF TT_ok rfl rfl rfl rfl rfl ?_
              | refine XO.cmp TT_ok rfl rfl rfl rfl rfl (fun hc => ?_) (fun hc => ?_)
              | refine XO.add64 TT_ok rfl rfl rfl rfl rfl rfl (by omega) (by omega) ?_
              | refine XO.sub64 TT_ok rfl rfl rfl rfl rfl rfl (by omega) (by omega) ?_
              | refine XO.mul64 TT_ok rfl rfl rfl rfl rfl rfl (by omega) (by omega) ?_
              | refine XO.quo64 rfl rfl rfl rfl rfl (by omega) (by omega) (by omega) ?_
              | refine XO.rem64 rfl rfl rfl rfl rfl (by omega) (by omega) ?_
              | refine XO.p TT_ok rfl rfl rfl rfl ?_
              | refine XO.storeL TT_ok trivial rfl rfl rfl rfl rfl rfl rfl rfl rfl rfl trivial ?_
              | refine XO.ent Ent.front1 (XO.storeL TT_ok trivial rfl rfl rfl rfl rfl rfl rfl rfl rfl rfl trivial ?_)
              | refine XO.ent Ent.front2 (XO.storeL TT_ok trivial rfl rfl rfl rfl rfl rfl rfl rfl rfl rfl trivial ?_)
              | refine XO.ent Ent.front3 (XO.storeL TT_ok trivial rfl rfl rfl rfl rfl rfl rfl rfl rfl rfl trivial ?_)
              | refine XO.ent Ent.front4 (XO.storeL TT_ok trivial rfl rfl rfl rfl rfl rfl rfl rfl rfl rfl trivial ?_)
              | refine XO.ent Ent.front5 (XO.storeL TT_ok trivial rfl rfl rfl rfl rfl rfl rfl rfl rfl rfl trivial ?_)
              | refine XO.box trivial rfl rfl rfl rfl rfl (fun _ => trivial) (fun bb => ?_)
              | refine XO.alloc TT_ok trivial rfl rfl rfl rfl rfl (fun _ => trivial) (fun bb => ?_)
              | refine XO.build TT_ok rfl rfl rfl rfl rfl ?_
              | refine XO.lenSlice TT_ok rfl rfl rfl rfl rfl rfl ?_
              | refine XO.lenString TT_ok rfl rfl rfl rfl rfl rfl ?_
              | refine XO.indexStr TT_ok rfl rfl rfl rfl rfl rfl (by omega) (by omega) ?_
              | refine XO.indexAddr TT_ok rfl rfl rfl rfl rfl rfl rfl (by omega) (by omega) ?_
              | refine XO.addStr rfl rfl rfl rfl rfl (by omega) ?_
              | refine XO.buildSlice TT_ok trivial rfl rfl rfl rfl rfl rfl rfl rfl rfl rfl rfl rfl (fun _ => trivial) (fun bb => ?_)
              | refine XO.callF rfl rfl rfl (by kernel_rfl) rfl ?_)
            all_goals exact ih (k + 1, S, D, ids.erase X) _ _ ⟨by dsimp only; omega, by dsimp only; omega, by dsimp only; omega, by dsimp only; omega⟩ (by dsimp only; omega) ⟨rfl, rfl, rfl, rfl, rfl, trivial⟩ (by repeat' (first | exact Ent.refl _ | exact Ent.dropAll _ | refine Ent.cons _ ?_ | refine Ent.trans Ent.front1 (Ent.cons _ ?_) | refine Ent.trans Ent.front2 (Ent.cons _ ?_) | refine Ent.trans Ent.front3 (Ent.cons _ ?_) | refine Ent.trans Ent.front4 (Ent.cons _ ?_) | refine Ent.trans Ent.front5 (Ent.cons _ ?_) | refine Ent.trans Row.of_at (Ent.cons _ ?_) | refine Ent.trans Ent.front1 (Ent.trans Row.of_at (Ent.cons _ ?_)) | refine Ent.trans Ent.front2 (Ent.trans Row.of_at (Ent.cons _ ?_)) | refine Ent.trans Ent.front3 (Ent.trans Row.of_at (Ent.cons _ ?_)) | refine Ent.trans Ent.front4 (Ent.trans Row.of_at (Ent.cons _ ?_)) | refine Ent.trans (Ent.drop _ _) ?_))
        · by_cases hK3 : K = 3
          · subst hK3
            unfold rretry
            refine XS.ent Ent.front1 (XS.hex (fun y => XS.ent Ent.unpack2 ?_))
            obtain ⟨ad, cp⟩ := y
            simp only
            unfold rd2
            repeat' (first
              | refine XO.q TT_ok rfl rfl rfl rfl rfl ?_
              | refine XO.nil ?_
              | refine XO.loadAgg TT_ok rfl rfl rfl rfl rfl rfl rfl (hrd _) ?_
              | refine running_spec ?_
              | refine Tri.ent Ent.front1 (running_spec ?_)
              | refine Tri.ent Ent.front2 (running_spec ?_)
              | refine Tri.ent Ent.front3 (running_spec ?_)
              | refine Tri.ent Ent.front4 (running_spec ?_)
              | refine XS.drawH (T := TT) [(5, [1], ⟨b2, 3, none⟩, .slice ad ids.length cp)] [(5, [1])] rfl follows_ok (by decide +kernel) ?_
              | refine XO.callH (by repeat' (first | exact trivial | refine And.intro ?_ ?_ | exact Reads.here rfl | refine Reads.skip ?_)) rfl rfl rfl (by kernel_rfl) rfl ?_
              | refine And.intro (by repeat' (first | exact trivial | refine And.intro ?_ ?_ | exact Reads.here rfl | refine Reads.skip ?_)) ?_
              | refine XO.loadH TT_ok rfl rfl rfl rfl rfl rfl (by repeat' (first | exact trivial | refine And.intro ?_ ?_ | exact Reads.here rfl | refine Reads.skip ?_)) ?_
              | refine XS.seq ?_
              | refine XS.region (T := TT) ?_
              | refine XS.draw (T := TT) follows_ok (by decide +kernel) ?_
              | refine XS.block ?_
              | refine XS.inBlock ?_
              | refine XS.exit rfl ?_
              | refine XS.condT rfl ?_
              | refine XS.condF rfl ?_
              | refine XS.skip ?_
              | refine XS.label ?_
              | refine XO.load TT_ok rfl rfl rfl rfl rfl rfl (Reads.here rfl) ?_
              | refine XO.load TT_ok rfl rfl rfl rfl rfl rfl (Reads.skip (Reads.here rfl)) ?_
              | refine XO.load TT_ok rfl rfl rfl rfl rfl rfl (Reads.skip (Reads.skip (Reads.here rfl))) ?_
              | refine XO.load TT_ok rfl rfl rfl rfl rfl rfl (Reads.skip (Reads.skip (Reads.skip (Reads.here rfl)))) ?_
              | refine XO.load TT_ok rfl rfl rfl rfl rfl rfl (Reads.skip (Reads.skip (Reads.skip (Reads.skip (Reads.here rfl))))) ?_
              | refine XO.load TT_ok rfl rfl rfl rfl rfl rfl (Reads.skip (Reads.skip (Reads.skip (Reads.skip (Reads.skip (Reads.here rfl)))))) ?_
              | refine XO.no rfl rfl ?_
              | (refine XO.cmpI TT_ok rfl rfl rfl rfl rfl rfl rfl (fun hc => ?_) (fun hc => ?_) <;> (try (exfalso; omega)))
              | refine XO.pT TT_ok rfl rfl rfl rfl rfl ?_
              | refine XO.pF TT_ok rfl rfl rfl rfl rfl ?_
              | refine XO.cmp TT_ok rfl rfl rfl rfl rfl (fun hc => ?_) (fun hc => ?_)
              | refine XO.add64 TT_ok rfl rfl rfl rfl rfl rfl (by omega) (by omega) ?_
              | refine XO.sub64 TT_ok rfl rfl rfl rfl rfl rfl (by omega) (by omega) ?_
              | refine XO.mul64 TT_ok rfl rfl rfl rfl rfl rfl (by omega) (by omega) ?_
              | refine XO.quo64 rfl rfl rfl rfl rfl (by omega) (by omega) (by omega) ?_
              | refine XO.rem64 rfl rfl rfl rfl rfl (by omega) (by omega) ?_
              | refine XO.p TT_ok rfl rfl rfl rfl ?_
              | refine XO.storeL TT_ok trivial rfl rfl rfl rfl rfl rfl rfl rfl rfl rfl trivial ?_
              | refine XO.ent Ent.front1 (XO.storeL TT_ok trivial rfl rfl rfl rfl rfl rfl rfl rfl rfl rfl trivial ?_)
              | refine XO.ent Ent.front2 (XO.storeL TT_ok trivial rfl rfl rfl rfl rfl rfl rfl rfl rfl rfl trivial ?_)
              | refine XO.ent Ent.front3 (XO.storeL TT_ok trivial rfl rfl rfl rfl rfl rfl rfl rfl rfl rfl trivial ?_)
              | refine XO.ent Ent.front4 (XO.storeL TT_ok trivial rfl rfl rfl rfl rfl rfl rfl rfl rfl rfl trivial ?_)
              | refine XO.ent Ent.front5 (XO.storeL TT_ok trivial rfl rfl rfl rfl rfl rfl rfl rfl rfl rfl trivial ?_)
              | refine XO.box trivial rfl rfl rfl rfl rfl (fun _ => trivial) (fun bb => ?_)
              | refine XO.alloc TT_ok trivial rfl rfl rfl rfl rfl (fun _ => trivial) (fun bb => ?_)
              | refine XO.build TT_ok rfl rfl rfl rfl rfl ?_
              | refine XO.lenSlice TT_ok rfl rfl rfl rfl rfl rfl ?_
              | refine XO.lenString TT_ok rfl rfl rfl rfl rfl rfl ?_
              | refine XO.indexStr TT_ok rfl rfl rfl rfl rfl rfl (by omega) (by omega) ?_
              | refine XO.indexAddr TT_ok rfl rfl rfl rfl rfl rfl rfl (by omega) (by omega) ?_
              | refine XO.addStr rfl rfl rfl rfl rfl (by omega) ?_
              | refine XO.buildSlice TT_ok trivial rfl rfl rfl rfl rfl rfl rfl rfl rfl rfl rfl rfl (fun _ => trivial) (fun bb => ?_)
              | refine XO.callF rfl rfl rfl (by kernel_rfl) rfl ?_)
            all_goals exact ih (k + 1, S, D, ids) _ _ ⟨by dsimp only; omega, by dsimp only; omega, by dsimp only; omega, by dsimp only; omega⟩ (by dsimp only; omega) ⟨rfl, rfl, rfl, rfl, rfl, trivial⟩ (Ent.trans (by repeat' (first | exact Ent.refl _ | exact Ent.dropAll _ | refine Ent.cons _ ?_ | refine Ent.trans Ent.front1 (Ent.cons _ ?_) | refine Ent.trans Ent.front2 (Ent.cons _ ?_) | refine Ent.trans Ent.front3 (Ent.cons _ ?_) | refine Ent.trans Ent.front4 (Ent.cons _ ?_) | refine Ent.trans Ent.front5 (Ent.cons _ ?_) | refine Ent.trans Row.of_at (Ent.cons _ ?_) | refine Ent.trans Ent.front1 (Ent.trans Row.of_at (Ent.cons _ ?_)) | refine Ent.trans Ent.front2 (Ent.trans Row.of_at (Ent.cons _ ?_)) | refine Ent.trans Ent.front3 (Ent.trans Row.of_at (Ent.cons _ ?_)) | refine Ent.trans Ent.front4 (Ent.trans Row.of_at (Ent.cons _ ?_)) | refine Ent.trans (Ent.drop _ _) ?_)) (Ent.cons _ (rretry_mk rfl rfl)))
          · repeat' (first
              | refine XO.q TT_ok rfl rfl rfl rfl rfl ?_
              | refine XO.nil ?_
              | refine XO.loadAgg TT_ok rfl rfl rfl rfl rfl rfl rfl (hrd _) ?_
              | refine XS.seq ?_
              | refine XS.region (T := TT) ?_
              | refine XS.draw (T := TT) follows_ok (by decide +kernel) ?_
              | refine XS.block ?_
              | refine XS.inBlock ?_
              | refine XS.exit rfl ?_
              | refine XS.condT rfl ?_
              | refine XS.condF rfl ?_
              | refine XS.skip ?_
              | refine XS.label ?_
              | refine XO.load TT_ok rfl rfl rfl rfl rfl rfl (Reads.here rfl) ?_
              | refine XO.load TT_ok rfl rfl rfl rfl rfl rfl (Reads.skip (Reads.here rfl)) ?_
              | refine XO.load TT_ok rfl rfl rfl rfl rfl rfl (Reads.skip (Reads.skip (Reads.here rfl))) ?_
              | refine XO.load TT_ok rfl rfl rfl rfl rfl rfl (Reads.skip (Reads.skip (Reads.skip (Reads.here rfl)))) ?_
              | refine XO.load TT_ok rfl rfl rfl rfl rfl rfl (Reads.skip (Reads.skip (Reads.skip (Reads.skip (Reads.here rfl))))) ?_
              | refine XO.load TT_ok rfl rfl rfl rfl rfl rfl (Reads.skip (Reads.skip (Reads.skip (Reads.skip (Reads.skip (Reads.here rfl)))))) ?_
              | refine XO.no rfl rfl ?_
              | (refine XO.cmpI TT_ok rfl rfl rfl rfl rfl rfl rfl (fun hc => ?_) (fun hc => ?_) <;> (try (exfalso; omega)))
              | refine XO.pT TT_ok rfl rfl rfl rfl rfl ?_
              | refine XO.pF TT_ok rfl rfl rfl rfl rfl ?_
              | refine XO.cmp TT_ok rfl rfl rfl rfl rfl (fun hc => ?_) (fun hc => ?_)
              | refine XO.add64 TT_ok rfl rfl rfl rfl rfl rfl (by omega) (by omega) ?_
              | refine XO.sub64 TT_ok rfl rfl rfl rfl rfl rfl (by omega) (by omega) ?_
              | refine XO.mul64 TT_ok rfl rfl rfl rfl rfl rfl (by omega) (by omega) ?_
              | refine XO.quo64 rfl rfl rfl rfl rfl (by omega) (by omega) (by omega) ?_
              | refine XO.rem64 rfl rfl rfl rfl rfl (by omega) (by omega) ?_
              | refine XO.p TT_ok rfl rfl rfl rfl ?_
              | refine XO.storeL TT_ok trivial rfl rfl rfl rfl rfl rfl rfl rfl rfl rfl trivial ?_
              | refine XO.ent Ent.front1 (XO.storeL TT_ok trivial rfl rfl rfl rfl rfl rfl rfl rfl rfl rfl trivial ?_)
              | refine XO.ent Ent.front2 (XO.storeL TT_ok trivial rfl rfl rfl rfl rfl rfl rfl rfl rfl rfl trivial ?_)
              | refine XO.ent Ent.front3 (XO.storeL TT_ok trivial rfl rfl rfl rfl rfl rfl rfl rfl rfl rfl trivial ?_)
              | refine XO.ent Ent.front4 (XO.storeL TT_ok trivial rfl rfl rfl rfl rfl rfl rfl rfl rfl rfl trivial ?_)
              | refine XO.ent Ent.front5 (XO.storeL TT_ok trivial rfl rfl rfl rfl rfl rfl rfl rfl rfl rfl trivial ?_)
              | refine XO.box trivial rfl rfl rfl rfl rfl (fun _ => trivial) (fun bb => ?_)
              | refine XO.alloc TT_ok trivial rfl rfl rfl rfl rfl (fun _ => trivial) (fun bb => ?_)
              | refine XO.build TT_ok rfl rfl rfl rfl rfl ?_
              | refine XO.lenSlice TT_ok rfl rfl rfl rfl rfl rfl ?_
              | refine XO.lenString TT_ok rfl rfl rfl rfl rfl rfl ?_
              | refine XO.indexStr TT_ok rfl rfl rfl rfl rfl rfl (by omega) (by omega) ?_
              | refine XO.indexAddr TT_ok rfl rfl rfl rfl rfl rfl rfl (by omega) (by omega) ?_
              | refine XO.addStr rfl rfl rfl rfl rfl (by omega) ?_
              | refine XO.buildSlice TT_ok trivial rfl rfl rfl rfl rfl rfl rfl rfl rfl rfl rfl rfl (fun _ => trivial) (fun bb => ?_)
              | refine XO.callF rfl rfl rfl (by kernel_rfl) rfl ?_)
            all_goals exact ih (k + 1, S, D, ids) _ _ ⟨by dsimp only; omega, by dsimp only; omega, by dsimp only; omega, by dsimp only; omega⟩ (by dsimp only; omega) ⟨rfl, rfl, rfl, rfl, rfl, trivial⟩ (by repeat' (first | exact Ent.refl _ | exact Ent.dropAll _ | refine Ent.cons _ ?_ | refine Ent.trans Ent.front1 (Ent.cons _ ?_) | refine Ent.trans Ent.front2 (Ent.cons _ ?_) | refine Ent.trans Ent.front3 (Ent.cons _ ?_) | refine Ent.trans Ent.front4 (Ent.cons _ ?_) | refine Ent.trans Ent.front5 (Ent.cons _ ?_) | refine Ent.trans Row.of_at (Ent.cons _ ?_) | refine Ent.trans Ent.front1 (Ent.trans Row.of_at (Ent.cons _ ?_)) | refine Ent.trans Ent.front2 (Ent.trans Row.of_at (Ent.cons _ ?_)) | refine Ent.trans Ent.front3 (Ent.trans Row.of_at (Ent.cons _ ?_)) | refine Ent.trans Ent.front4 (Ent.trans Row.of_at (Ent.cons _ ?_)) | refine Ent.trans (Ent.drop _ _) ?_))
    · unfold rretry
      refine XS.ent Ent.front1 (XS.hex (fun y => XS.ent Ent.unpack2 ?_))
      obtain ⟨ad, cp⟩ := y
      simp only
      unfold rd2
      repeat' (first
        | refine XO.q TT_ok rfl rfl rfl rfl rfl ?_
        | refine XO.nil ?_
        | refine running_spec ?_
        | refine Tri.ent Ent.front1 (running_spec ?_)
        | refine Tri.ent Ent.front2 (running_spec ?_)
        | refine Tri.ent Ent.front3 (running_spec ?_)
        | refine Tri.ent Ent.front4 (running_spec ?_)
        | refine XS.drawH (T := TT) [(5, [1], ⟨b2, 3, none⟩, .slice ad ids.length cp)] [(5, [1])] rfl follows_ok (by decide +kernel) ?_
        | refine XO.callH (by repeat' (first | exact trivial | refine And.intro ?_ ?_ | exact Reads.here rfl | refine Reads.skip ?_)) rfl rfl rfl (by kernel_rfl) rfl ?_
        | refine And.intro (by repeat' (first | exact trivial | refine And.intro ?_ ?_ | exact Reads.here rfl | refine Reads.skip ?_)) ?_
        | refine XO.loadH TT_ok rfl rfl rfl rfl rfl rfl (by repeat' (first | exact trivial | refine And.intro ?_ ?_ | exact Reads.here rfl | refine Reads.skip ?_)) ?_
        | refine XS.seq ?_
        | refine XS.region (T := TT) ?_
        | refine XS.draw (T := TT) follows_ok (by decide +kernel) ?_
        | refine XS.block ?_
        | refine XS.inBlock ?_
        | refine XS.exit rfl ?_
        | refine XS.condT rfl ?_
        | refine XS.condF rfl ?_
        | refine XS.skip ?_
        | refine XS.label ?_
        | refine XO.load TT_ok rfl rfl rfl rfl rfl rfl (Reads.here rfl) ?_
        | refine XO.load TT_ok rfl rfl rfl rfl rfl rfl (Reads.skip (Reads.here rfl)) ?_
        | refine XO.load TT_ok rfl rfl rfl rfl rfl rfl (Reads.skip (Reads.skip (Reads.here rfl))) ?_
        | refine XO.load TT_ok rfl rfl rfl rfl rfl rfl (Reads.skip (Reads.skip (Reads.skip (Reads.here rfl)))) ?_
        | refine XO.load TT_ok rfl rfl rfl rfl rfl rfl (Reads.skip (Reads.skip (Reads.skip (Reads.skip (Reads.here rfl))))) ?_
        | refine XO.load TT_ok rfl rfl rfl rfl rfl rfl (Reads.skip (Reads.skip (Reads.skip (Reads.skip (Reads.skip (Reads.here rfl)))))) ?_
        | refine XO.no rfl rfl ?_
        | (refine XO.cmpI TT_ok rfl rfl rfl rfl rfl rfl rfl (fun hc => ?_) (fun hc => ?_) <;> (try (exfalso; omega)))
        | refine XO.pT TT_ok rfl rfl rfl rfl rfl ?_
        | refine XO.pF TT_ok rfl rfl rfl rfl rfl ?_
        | refine XO.cmp TT_ok rfl rfl rfl rfl rfl (fun hc => ?_) (fun hc => ?_)
        | refine XO.add64 TT_ok rfl rfl rfl rfl rfl rfl (by omega) (by omega) ?_
        | refine XO.sub64 TT_ok rfl rfl rfl rfl rfl rfl (by omega) (by omega) ?_
        | refine XO.mul64 TT_ok rfl rfl rfl rfl rfl rfl (by omega) (by omega) ?_
        | refine XO.quo64 rfl rfl rfl rfl rfl (by omega) (by omega) (by omega) ?_
        | refine XO.rem64 rfl rfl rfl rfl rfl (by omega) (by omega) ?_
        | refine XO.p TT_ok rfl rfl rfl rfl ?_
        | refine XO.storeL TT_ok trivial rfl rfl rfl rfl rfl rfl rfl rfl rfl rfl trivial ?_
        | refine XO.ent Ent.front1 (XO.storeL TT_ok trivial rfl rfl rfl rfl rfl rfl rfl rfl rfl rfl trivial ?_)
        | refine XO.ent Ent.front2 (XO.storeL TT_ok trivial rfl rfl rfl rfl rfl rfl rfl rfl rfl rfl trivial ?_)
        | refine XO.ent Ent.front3 (XO.storeL TT_ok trivial rfl rfl rfl rfl rfl rfl rfl rfl rfl rfl trivial ?_)
        | refine XO.ent Ent.front4 (XO.storeL TT_ok trivial rfl rfl rfl rfl rfl rfl rfl rfl rfl rfl trivial ?_)
        | refine XO.ent Ent.front5 (XO.storeL TT_ok trivial rfl rfl rfl rfl rfl rfl rfl rfl rfl rfl trivial ?_)
        | refine XO.box trivial rfl rfl rfl rfl rfl (fun _ => trivial) (fun bb => ?_)
        | refine XO.alloc TT_ok trivial rfl rfl rfl rfl rfl (fun _ => trivial) (fun bb => ?_)
        | refine XO.build TT_ok rfl rfl rfl rfl rfl ?_
        | refine XO.lenSlice TT_ok rfl rfl rfl rfl rfl rfl ?_
        | refine XO.lenString TT_ok rfl rfl rfl rfl rfl rfl ?_
        | refine XO.indexStr TT_ok rfl rfl rfl rfl rfl rfl (by omega) (by omega) ?_
        | refine XO.indexAddr TT_ok rfl rfl rfl rfl rfl rfl rfl (by omega) (by omega) ?_
        | refine XO.addStr rfl rfl rfl rfl rfl (by omega) ?_
        | refine XO.buildSlice TT_ok trivial rfl rfl rfl rfl rfl rfl rfl rfl rfl rfl rfl rfl (fun _ => trivial) (fun bb => ?_)
        | refine XO.callF rfl rfl rfl (by kernel_rfl) rfl ?_)
      all_goals exact XS.ret1 Try.func13 rfl Try.results13 rfl (Ent.refl _) rfl
  · repeat' (first
      | refine XO.q TT_ok rfl rfl rfl rfl rfl ?_
      | refine XO.nil ?_
      | refine ranchor_spec (fun H' => ?_)
      | refine XS.seq ?_
      | refine XS.region (T := TT) ?_
      | refine XS.draw (T := TT) follows_ok (by decide +kernel) ?_
      | refine XS.block ?_
      | refine XS.inBlock ?_
      | refine XS.exit rfl ?_
      | refine XS.condT rfl ?_
      | refine XS.condF rfl ?_
      | refine XS.skip ?_
      | refine XS.label ?_
      | refine XO.load TT_ok rfl rfl rfl rfl rfl rfl (Reads.here rfl) ?_
      | refine XO.load TT_ok rfl rfl rfl rfl rfl rfl (Reads.skip (Reads.here rfl)) ?_
      | refine XO.load TT_ok rfl rfl rfl rfl rfl rfl (Reads.skip (Reads.skip (Reads.here rfl))) ?_
      | refine XO.load TT_ok rfl rfl rfl rfl rfl rfl (Reads.skip (Reads.skip (Reads.skip (Reads.here rfl)))) ?_
      | refine XO.load TT_ok rfl rfl rfl rfl rfl rfl (Reads.skip (Reads.skip (Reads.skip (Reads.skip (Reads.here rfl))))) ?_
      | refine XO.load TT_ok rfl rfl rfl rfl rfl rfl (Reads.skip (Reads.skip (Reads.skip (Reads.skip (Reads.skip (Reads.here rfl)))))) ?_
      | refine XO.no rfl rfl ?_
      | (refine XO.cmpI TT_ok rfl rfl rfl rfl rfl rfl rfl (fun hc => ?_) (fun hc => ?_) <;> (try (exfalso; omega)))
      | refine XO.pT TT_ok rfl rfl rfl rfl rfl ?_
      | refine XO.pF TT_ok rfl rfl rfl rfl rfl ?_
      | refine XO.cmp TT_ok rfl rfl rfl rfl rfl (fun hc => ?_) (fun hc => ?_)
      | refine XO.add64 TT_ok rfl rfl rfl rfl rfl rfl (by omega) (by omega) ?_
      | refine XO.sub64 TT_ok rfl rfl rfl rfl rfl rfl (by omega) (by omega) ?_
      | refine XO.mul64 TT_ok rfl rfl rfl rfl rfl rfl (by omega) (by omega) ?_
      | refine XO.quo64 rfl rfl rfl rfl rfl (by omega) (by omega) (by omega) ?_
      | refine XO.rem64 rfl rfl rfl rfl rfl (by omega) (by omega) ?_
      | refine XO.p TT_ok rfl rfl rfl rfl ?_
      | refine XO.storeL TT_ok trivial rfl rfl rfl rfl rfl rfl rfl rfl rfl rfl trivial ?_
      | refine XO.ent Ent.front1 (XO.storeL TT_ok trivial rfl rfl rfl rfl rfl rfl rfl rfl rfl rfl trivial ?_)
      | refine XO.ent Ent.front2 (XO.storeL TT_ok trivial rfl rfl rfl rfl rfl rfl rfl rfl rfl rfl trivial ?_)
      | refine XO.ent Ent.front3 (XO.storeL TT_ok trivial rfl rfl rfl rfl rfl rfl rfl rfl rfl rfl trivial ?_)
      | refine XO.ent Ent.front4 (XO.storeL TT_ok trivial rfl rfl rfl rfl rfl rfl rfl rfl rfl rfl trivial ?_)
      | refine XO.ent Ent.front5 (XO.storeL TT_ok trivial rfl rfl rfl rfl rfl rfl rfl rfl rfl rfl trivial ?_)
      | refine XO.box trivial rfl rfl rfl rfl rfl (fun _ => trivial) (fun bb => ?_)
      | refine XO.alloc TT_ok trivial rfl rfl rfl rfl rfl (fun _ => trivial) (fun bb => ?_)
      | refine XO.build TT_ok rfl rfl rfl rfl rfl ?_
      | refine XO.lenSlice TT_ok rfl rfl rfl rfl rfl rfl ?_
      | refine XO.lenString TT_ok rfl rfl rfl rfl rfl rfl ?_
      | refine XO.indexStr TT_ok rfl rfl rfl rfl rfl rfl (by omega) (by omega) ?_
      | refine XO.indexAddr TT_ok rfl rfl rfl rfl rfl rfl rfl (by omega) (by omega) ?_
      | refine XO.addStr rfl rfl rfl rfl rfl (by omega) ?_
      | refine XO.buildSlice TT_ok trivial rfl rfl rfl rfl rfl rfl rfl rfl rfl rfl rfl rfl (fun _ => trivial) (fun bb => ?_)
      | refine XO.callF rfl rfl rfl (by kernel_rfl) rfl ?_)
    all_goals exact XS.ret1 Try.func13 rfl Try.results13 rfl (Ent.refl _) rfl
end Go.Proofs.Ytbpkoehgjhofaaa
