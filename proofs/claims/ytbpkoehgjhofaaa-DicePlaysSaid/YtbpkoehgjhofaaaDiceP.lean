/- DicePlays comes to true. Conditions: the script's row lies in memory, its fields are of their kinds. -/
import Derived.Test.YtbpkoehgjhofaaaDice
import Derived.Test.YtbpkoehgjhofaaaSxL
namespace Go.Proofs.Ytbpkoehgjhofaaa
open Go Go.Sx Go.DiceM
variable {w0 : World} {H : List HProp}
theorem belowD_le2 (d n : Int) : d ≤ belowD d n ∧ belowD d n ≤ d + 1 := by unfold belowD; split <;> omega
theorem jitterD_le2 (d n p : Int) : d ≤ jitterD d n p ∧ jitterD d n p ≤ d + 1 := by unfold jitterD; split <;> omega
theorem op_row {l : List Value} (h : FKs [.int .i64, .int .i64, .int .i64] l) : ∃ K A B : Int, l = [.int .i64 K, .int .i64 A, .int .i64 B] ∧ (Lit.int .i64 A).wf = true ∧ (Lit.int .i64 B).wf = true := by
  obtain ⟨_, _, rfl, ⟨K, rfl, _⟩, h1⟩ := h.cons
  obtain ⟨_, _, rfl, ⟨A, rfl, wA⟩, h2⟩ := h1.cons
  obtain ⟨_, _, rfl, ⟨B, rfl, wB⟩, h3⟩ := h2.cons
  obtain rfl := h3.nil
  exact ⟨K, A, B, rfl, wA, wB⟩
set_option maxHeartbeats 4000000 in
theorem plays {s : Int} {v : Value} {ys : List (List Value)} (hb : BaseRow w0 v 3 ys) (hk : ∀ l ∈ ys, FKs [.int .i64, .int .i64, .int .i64] l) (hr : ys.length * 24 ≤ 140737488351232) : Tri Try.prog 7 #[.int .i64 s, v] w0 H (fun v _ => v = .bool true) := by
  obtain ⟨a, n, cap, rfl, hn, hop⟩ := hb.opened
  refine Tri.enter Try.func7 rfl Try.ntmps7 rfl ?_
  repeat' (first
    | refine anchor_spec (fun H' => ?_)
    | refine new_spec _ (fun bb => ?_)
    | refine XO.q TT_ok rfl rfl rfl rfl rfl ?_
    | refine XO.nil ?_
    | refine XS.seq ?_
    | refine XS.region (T := TT) ?_
    | refine XS.draw (T := TT) follows_ok (by decide +kernel) ?_
    | refine XS.block ?_
    | refine XS.inBlock ?_
    | refine XS.exit rfl ?_
    | refine XS.condT rfl ?_
    | refine XS.condF rfl ?_
    | refine XS.skip ?_
    | refine XS.label ?_
    | refine XO.load TT_ok rfl rfl rfl rfl rfl rfl (Reads.here rfl) ?_
    | refine XO.load TT_ok rfl rfl rfl rfl rfl rfl (Reads.skip (Reads.here rfl)) ?_
    | refine XO.load TT_ok rfl rfl rfl rfl rfl rfl (Reads.skip (Reads.skip (Reads.here rfl))) ?_
    | refine XO.load TT_ok rfl rfl rfl rfl rfl rfl (Reads.skip (Reads.skip (Reads.skip (Reads.here rfl)))) ?_
    | refine XO.load TT_ok rfl rfl rfl rfl rfl rfl (Reads.skip (Reads.skip (Reads.skip (Reads.skip (Reads.here rfl))))) ?_
    | refine XO.load TT_ok rfl rfl rfl rfl rfl rfl (Reads.skip (Reads.skip (Reads.skip (Reads.skip (Reads.skip (Reads.here rfl)))))) ?_
    | refine XO.no rfl rfl ?_
    | (refine XO.cmpI TT_ok rfl rfl rfl rfl rfl rfl rfl (fun hc => ?_) (fun hc => ?_) <;> (try (exfalso; omega)))
    | refine XO.pT TT_ok rfl rfl rfl rfl rfl ?_
    | refine XO.pF TT_ok rfl rfl rfl rfl rfl ?_
    | refine XO.cmp TT_ok rfl rfl rfl rfl rfl (fun hc => ?_) (fun hc => ?_)
    | refine XO.add64 TT_ok rfl rfl rfl rfl rfl rfl (by omega) (by omega) ?_
    | refine XO.sub64 TT_ok rfl rfl rfl rfl rfl rfl (by omega) (by omega) ?_
    | refine XO.mul64 TT_ok rfl rfl rfl rfl rfl rfl (by omega) (by omega) ?_
    | refine XO.quo64 rfl rfl rfl rfl rfl (by omega) (by omega) (by omega) ?_
    | refine XO.rem64 rfl rfl rfl rfl rfl (by omega) (by omega) ?_
    | refine XO.p TT_ok rfl rfl rfl rfl ?_
    | refine XO.storeL TT_ok trivial rfl rfl rfl rfl rfl rfl rfl rfl rfl rfl trivial ?_
    | refine XO.ent Ent.front1 (XO.storeL TT_ok trivial rfl rfl rfl rfl rfl rfl rfl rfl rfl rfl trivial ?_)
    | refine XO.ent Ent.front2 (XO.storeL TT_ok trivial rfl rfl rfl rfl rfl rfl rfl rfl rfl rfl trivial ?_)
    | refine XO.ent Ent.front3 (XO.storeL TT_ok trivial rfl rfl rfl rfl rfl rfl rfl rfl rfl rfl trivial ?_)
    | refine XO.ent Ent.front4 (XO.storeL TT_ok trivial rfl rfl rfl rfl rfl rfl rfl rfl rfl rfl trivial ?_)
    | refine XO.ent Ent.front5 (XO.storeL TT_ok trivial rfl rfl rfl rfl rfl rfl rfl rfl rfl rfl trivial ?_)
    | refine XO.box trivial rfl rfl rfl rfl rfl (fun _ => trivial) (fun bb => ?_)
    | refine XO.alloc TT_ok trivial rfl rfl rfl rfl rfl (fun _ => trivial) (fun bb => ?_)
    | refine XO.build TT_ok rfl rfl rfl rfl rfl ?_
    | refine XO.lenSlice TT_ok rfl rfl rfl rfl rfl rfl ?_
    | refine XO.lenString TT_ok rfl rfl rfl rfl rfl rfl ?_
    | refine XO.indexStr TT_ok rfl rfl rfl rfl rfl rfl (by omega) (by omega) ?_
    | refine XO.indexAddr TT_ok rfl rfl rfl rfl rfl rfl rfl (by omega) (by omega) ?_
    | refine XO.addStr rfl rfl rfl rfl rfl (by omega) ?_
    | refine XO.buildSlice TT_ok trivial rfl rfl rfl rfl rfl rfl rfl rfl rfl rfl rfl rfl (fun _ => trivial) (fun bb => ?_)
    | refine XO.callF rfl rfl rfl (by kernel_rfl) rfl ?_)
  rename_i b1
  rename Nat => b2
  refine XS.loopI (ι := Nat × Int × Int) (fun x => [(5, ptr b1), (6, ptr b2), (20, .slice a n cap), (21, .int .i64 n), (22, .int .i64 x.1)]) (fun x => dice b1 x.2.1 x.2.2 :: rdice b2 x.2.1 x.2.2 :: H') (fun x => x.1 ≤ n ∧ 0 ≤ x.2.2 ∧ x.2.2 ≤ x.1) (fun x => n - x.1) (0, IntKind.u64.wrap s, 0) ⟨Nat.zero_le _, Int.le_refl _, Int.le_refl _⟩ ⟨rfl, rfl, rfl, rfl, rfl, trivial⟩ (by repeat' (first | exact Ent.refl _ | exact Ent.dropAll _ | refine Ent.cons _ ?_ | refine Ent.trans Ent.front1 (Ent.cons _ ?_) | refine Ent.trans Ent.front2 (Ent.cons _ ?_) | refine Ent.trans Ent.front3 (Ent.cons _ ?_) | refine Ent.trans Ent.front4 (Ent.cons _ ?_) | refine Ent.trans Ent.front5 (Ent.cons _ ?_) | refine Ent.trans (Ent.drop _ _) ?_)) ?_
  rintro ⟨k, S, D⟩ e ⟨hkn, h0, h1⟩ ih
  simp only at hkn h0 h1 ⊢
  by_cases hlt : k < n
  · obtain ⟨l, hl⟩ : ∃ l, ys[k]? = some l := ⟨_, List.getElem?_eq_getElem (by omega)⟩
    obtain ⟨b, off, rfl, hrd⟩ := hop k l hl
    rw [show k = (k : Int).toNat from rfl] at hrd
    have hkl := hk l (List.mem_of_getElem? hl)
    clear hop hk hl
    obtain ⟨K, A, B, rfl, wA, wB⟩ := op_row hkl
    have hA := wf_i64 wA
    have hB := wf_i64 wB
    have hd1 := belowD_le2 D A
    have hd2 := jitterD_le2 D A B
    have hD : 0 ≤ D ∧ D < 9223372036854775807 := by omega
    repeat' (first
      | refine XO.loadAgg TT_ok rfl rfl rfl rfl rfl rfl rfl (hrd _) ?_
      | refine next_spec hD ?_
      | refine Tri.ent Ent.front1 (next_spec hD ?_)
      | refine Tri.ent Ent.front2 (next_spec hD ?_)
      | refine Tri.ent Ent.front3 (next_spec hD ?_)
      | refine Tri.ent Ent.front4 (next_spec hD ?_)
      | refine rnext_spec hD ?_
      | refine Tri.ent Ent.front1 (rnext_spec hD ?_)
      | refine Tri.ent Ent.front2 (rnext_spec hD ?_)
      | refine Tri.ent Ent.front3 (rnext_spec hD ?_)
      | refine Tri.ent Ent.front4 (rnext_spec hD ?_)
      | refine below_spec hD hA ?_
      | refine Tri.ent Ent.front1 (below_spec hD hA ?_)
      | refine Tri.ent Ent.front2 (below_spec hD hA ?_)
      | refine Tri.ent Ent.front3 (below_spec hD hA ?_)
      | refine Tri.ent Ent.front4 (below_spec hD hA ?_)
      | refine rbelow_spec hD hA ?_
      | refine Tri.ent Ent.front1 (rbelow_spec hD hA ?_)
      | refine Tri.ent Ent.front2 (rbelow_spec hD hA ?_)
      | refine Tri.ent Ent.front3 (rbelow_spec hD hA ?_)
      | refine Tri.ent Ent.front4 (rbelow_spec hD hA ?_)
      | refine jitter_spec hD hA ?_
      | refine Tri.ent Ent.front1 (jitter_spec hD hA ?_)
      | refine Tri.ent Ent.front2 (jitter_spec hD hA ?_)
      | refine Tri.ent Ent.front3 (jitter_spec hD hA ?_)
      | refine Tri.ent Ent.front4 (jitter_spec hD hA ?_)
      | refine rjitter_spec hD hA ?_
      | refine Tri.ent Ent.front1 (rjitter_spec hD hA ?_)
      | refine Tri.ent Ent.front2 (rjitter_spec hD hA ?_)
      | refine Tri.ent Ent.front3 (rjitter_spec hD hA ?_)
      | refine Tri.ent Ent.front4 (rjitter_spec hD hA ?_)
      | refine drawn_spec ?_
      | refine Tri.ent Ent.front1 (drawn_spec ?_)
      | refine Tri.ent Ent.front2 (drawn_spec ?_)
      | refine Tri.ent Ent.front3 (drawn_spec ?_)
      | refine Tri.ent Ent.front4 (drawn_spec ?_)
      | refine XS.drawH (T := TT) [(2, [7], ⟨bb, 1, none⟩, .int .i64 A), (6, [3], ⟨bb, 1, none⟩, .int .i64 A)] [(2, [7]), (6, [3])] rfl follows_ok (by decide +kernel) ?_
      | refine XS.drawH (T := TT) [(2, [11], ⟨bb, 1, none⟩, .int .i64 A), (4, [11], ⟨bb, 2, none⟩, .int .i64 B), (8, [5], ⟨bb, 1, none⟩, .int .i64 A), (10, [5], ⟨bb, 2, none⟩, .int .i64 B)] [(2, [11]), (4, [11]), (8, [5]), (10, [5])] rfl follows_ok (by decide +kernel) ?_
      | refine XS.drawH (T := TT) [(5, [1], ⟨b2, 1, none⟩, .int .i64 D)] [(5, [1])] rfl follows_ok (by decide +kernel) ?_
      | refine XO.callH (by repeat' (first | exact trivial | refine And.intro ?_ ?_ | exact Reads.here rfl | refine Reads.skip ?_)) rfl rfl rfl (by kernel_rfl) rfl ?_
      | refine And.intro (by repeat' (first | exact trivial | refine And.intro ?_ ?_ | exact Reads.here rfl | refine Reads.skip ?_)) ?_
      | refine XO.loadH TT_ok rfl rfl rfl rfl rfl rfl (by repeat' (first | exact trivial | refine And.intro ?_ ?_ | exact Reads.here rfl | refine Reads.skip ?_)) ?_
      | refine XO.q TT_ok rfl rfl rfl rfl rfl ?_
      | refine XO.nil ?_
      | refine XS.seq ?_
      | refine XS.region (T := TT) ?_
      | refine XS.draw (T := TT) follows_ok (by decide +kernel) ?_
      | refine XS.block ?_
      | refine XS.inBlock ?_
      | refine XS.exit rfl ?_
      | refine XS.condT rfl ?_
      | refine XS.condF rfl ?_
      | refine XS.skip ?_
      | refine XS.label ?_
      | refine XO.load TT_ok rfl rfl rfl rfl rfl rfl (Reads.here rfl) ?_
      | refine XO.load TT_ok rfl rfl rfl rfl rfl rfl (Reads.skip (Reads.here rfl)) ?_
      | refine XO.load TT_ok rfl rfl rfl rfl rfl rfl (Reads.skip (Reads.skip (Reads.here rfl))) ?_
      | refine XO.load TT_ok rfl rfl rfl rfl rfl rfl (Reads.skip (Reads.skip (Reads.skip (Reads.here rfl)))) ?_
      | refine XO.load TT_ok rfl rfl rfl rfl rfl rfl (Reads.skip (Reads.skip (Reads.skip (Reads.skip (Reads.here rfl))))) ?_
      | refine XO.load TT_ok rfl rfl rfl rfl rfl rfl (Reads.skip (Reads.skip (Reads.skip (Reads.skip (Reads.skip (Reads.here rfl)))))) ?_
      | refine XO.no rfl rfl ?_
      | (refine XO.cmpI TT_ok rfl rfl rfl rfl rfl rfl rfl (fun hc => ?_) (fun hc => ?_) <;> (try (exfalso; omega)))
      | refine XO.pT TT_ok rfl rfl rfl rfl rfl ?_
      | refine XO.pF TT_ok rfl rfl rfl rfl rfl ?_
      | refine XO.cmp TT_ok rfl rfl rfl rfl rfl (fun hc => ?_) (fun hc => ?_)
      | refine XO.add64 TT_ok rfl rfl rfl rfl rfl rfl (by omega) (by omega) ?_
      | refine XO.sub64 TT_ok rfl rfl rfl rfl rfl rfl (by omega) (by omega) ?_
      | refine XO.mul64 TT_ok rfl rfl rfl rfl rfl rfl (by omega) (by omega) ?_
      | refine XO.quo64 rfl rfl rfl rfl rfl (by omega) (by omega) (by omega) ?_
      | refine XO.rem64 rfl rfl rfl rfl rfl (by omega) (by omega) ?_
      | refine XO.p TT_ok rfl rfl rfl rfl ?_
      | refine XO.storeL TT_ok trivial rfl rfl rfl rfl rfl rfl rfl rfl rfl rfl trivial ?_
      | refine XO.ent Ent.front1 (XO.storeL TT_ok trivial rfl rfl rfl rfl rfl rfl rfl rfl rfl rfl trivial ?_)
      | refine XO.ent Ent.front2 (XO.storeL TT_ok trivial rfl rfl rfl rfl rfl rfl rfl rfl rfl rfl trivial ?_)
      | refine XO.ent Ent.front3 (XO.storeL TT_ok trivial rfl rfl rfl rfl rfl rfl rfl rfl rfl rfl trivial ?_)
      | refine XO.ent Ent.front4 (XO.storeL TT_ok trivial rfl rfl rfl rfl rfl rfl rfl rfl rfl rfl trivial ?_)
      | refine XO.ent Ent.front5 (XO.storeL TT_ok trivial rfl rfl rfl rfl rfl rfl rfl rfl rfl rfl trivial ?_)
      | refine XO.box trivial rfl rfl rfl rfl rfl (fun _ => trivial) (fun bb => ?_)
      | refine XO.alloc TT_ok trivial rfl rfl rfl rfl rfl (fun _ => trivial) (fun bb => ?_)
      | refine XO.build TT_ok rfl rfl rfl rfl rfl ?_
      | refine XO.lenSlice TT_ok rfl rfl rfl rfl rfl rfl ?_
      | refine XO.lenString TT_ok rfl rfl rfl rfl rfl rfl ?_
      | refine XO.indexStr TT_ok rfl rfl rfl rfl rfl rfl (by omega) (by omega) ?_
      | refine XO.indexAddr TT_ok rfl rfl rfl rfl rfl rfl rfl (by omega) (by omega) ?_
      | refine XO.addStr rfl rfl rfl rfl rfl (by omega) ?_
      | refine XO.buildSlice TT_ok trivial rfl rfl rfl rfl rfl rfl rfl rfl rfl rfl rfl rfl (fun _ => trivial) (fun bb => ?_)
      | refine XO.callF rfl rfl rfl (by kernel_rfl) rfl ?_)
    · exact ih (k + 1, stepI S, D + 1) _ _ ⟨by dsimp only; omega, by dsimp only; omega, by dsimp only; omega⟩ (by dsimp only; omega) ⟨rfl, rfl, rfl, rfl, rfl, trivial⟩ (by repeat' (first | exact Ent.refl _ | exact Ent.dropAll _ | refine Ent.cons _ ?_ | refine Ent.trans Ent.front1 (Ent.cons _ ?_) | refine Ent.trans Ent.front2 (Ent.cons _ ?_) | refine Ent.trans Ent.front3 (Ent.cons _ ?_) | refine Ent.trans Ent.front4 (Ent.cons _ ?_) | refine Ent.trans Ent.front5 (Ent.cons _ ?_) | refine Ent.trans (Ent.drop _ _) ?_))
    · exact ih (k + 1, belowS S A, belowD D A) _ _ ⟨by dsimp only; omega, by dsimp only; omega, by dsimp only; omega⟩ (by dsimp only; omega) ⟨rfl, rfl, rfl, rfl, rfl, trivial⟩ (by repeat' (first | exact Ent.refl _ | exact Ent.dropAll _ | refine Ent.cons _ ?_ | refine Ent.trans Ent.front1 (Ent.cons _ ?_) | refine Ent.trans Ent.front2 (Ent.cons _ ?_) | refine Ent.trans Ent.front3 (Ent.cons _ ?_) | refine Ent.trans Ent.front4 (Ent.cons _ ?_) | refine Ent.trans Ent.front5 (Ent.cons _ ?_) | refine Ent.trans (Ent.drop _ _) ?_))
    · exact ih (k + 1, jitterS S A B, jitterD D A B) _ _ ⟨by dsimp only; omega, by dsimp only; omega, by dsimp only; omega⟩ (by dsimp only; omega) ⟨rfl, rfl, rfl, rfl, rfl, trivial⟩ (by repeat' (first | exact Ent.refl _ | exact Ent.dropAll _ | refine Ent.cons _ ?_ | refine Ent.trans Ent.front1 (Ent.cons _ ?_) | refine Ent.trans Ent.front2 (Ent.cons _ ?_) | refine Ent.trans Ent.front3 (Ent.cons _ ?_) | refine Ent.trans Ent.front4 (Ent.cons _ ?_) | refine Ent.trans Ent.front5 (Ent.cons _ ?_) | refine Ent.trans (Ent.drop _ _) ?_))
    · exact ih (k + 1, S, D) _ _ ⟨by dsimp only; omega, by dsimp only; omega, by dsimp only; omega⟩ (by dsimp only; omega) ⟨rfl, rfl, rfl, rfl, rfl, trivial⟩ (by repeat' (first | exact Ent.refl _ | exact Ent.dropAll _ | refine Ent.cons _ ?_ | refine Ent.trans Ent.front1 (Ent.cons _ ?_) | refine Ent.trans Ent.front2 (Ent.cons _ ?_) | refine Ent.trans Ent.front3 (Ent.cons _ ?_) | refine Ent.trans Ent.front4 (Ent.cons _ ?_) | refine Ent.trans Ent.front5 (Ent.cons _ ?_) | refine Ent.trans (Ent.drop _ _) ?_))
    · exact ih (k + 1, S, D) _ _ ⟨by dsimp only; omega, by dsimp only; omega, by dsimp only; omega⟩ (by dsimp only; omega) ⟨rfl, rfl, rfl, rfl, rfl, trivial⟩ (by repeat' (first | exact Ent.refl _ | exact Ent.dropAll _ | refine Ent.cons _ ?_ | refine Ent.trans Ent.front1 (Ent.cons _ ?_) | refine Ent.trans Ent.front2 (Ent.cons _ ?_) | refine Ent.trans Ent.front3 (Ent.cons _ ?_) | refine Ent.trans Ent.front4 (Ent.cons _ ?_) | refine Ent.trans Ent.front5 (Ent.cons _ ?_) | refine Ent.trans (Ent.drop _ _) ?_))
  · have hD : 0 ≤ D ∧ D < 9223372036854775807 := by omega
    repeat' (first
      | refine next_spec hD ?_
      | refine Tri.ent Ent.front1 (next_spec hD ?_)
      | refine Tri.ent Ent.front2 (next_spec hD ?_)
      | refine Tri.ent Ent.front3 (next_spec hD ?_)
      | refine Tri.ent Ent.front4 (next_spec hD ?_)
      | refine rnext_spec hD ?_
      | refine Tri.ent Ent.front1 (rnext_spec hD ?_)
      | refine Tri.ent Ent.front2 (rnext_spec hD ?_)
      | refine Tri.ent Ent.front3 (rnext_spec hD ?_)
      | refine Tri.ent Ent.front4 (rnext_spec hD ?_)
      | refine drawn_spec ?_
      | refine Tri.ent Ent.front1 (drawn_spec ?_)
      | refine Tri.ent Ent.front2 (drawn_spec ?_)
      | refine Tri.ent Ent.front3 (drawn_spec ?_)
      | refine Tri.ent Ent.front4 (drawn_spec ?_)
      | refine XS.drawH (T := TT) [(5, [1], ⟨b2, 1, none⟩, .int .i64 D)] [(5, [1])] rfl follows_ok (by decide +kernel) ?_
      | refine XO.callH (by repeat' (first | exact trivial | refine And.intro ?_ ?_ | exact Reads.here rfl | refine Reads.skip ?_)) rfl rfl rfl (by kernel_rfl) rfl ?_
      | refine And.intro (by repeat' (first | exact trivial | refine And.intro ?_ ?_ | exact Reads.here rfl | refine Reads.skip ?_)) ?_
      | refine XO.loadH TT_ok rfl rfl rfl rfl rfl rfl (by repeat' (first | exact trivial | refine And.intro ?_ ?_ | exact Reads.here rfl | refine Reads.skip ?_)) ?_
      | refine XO.q TT_ok rfl rfl rfl rfl rfl ?_
      | refine XO.nil ?_
      | refine XS.seq ?_
      | refine XS.region (T := TT) ?_
      | refine XS.draw (T := TT) follows_ok (by decide +kernel) ?_
      | refine XS.block ?_
      | refine XS.inBlock ?_
      | refine XS.exit rfl ?_
      | refine XS.condT rfl ?_
      | refine XS.condF rfl ?_
      | refine XS.skip ?_
      | refine XS.label ?_
      | refine XO.load TT_ok rfl rfl rfl rfl rfl rfl (Reads.here rfl) ?_
      | refine XO.load TT_ok rfl rfl rfl rfl rfl rfl (Reads.skip (Reads.here rfl)) ?_
      | refine XO.load TT_ok rfl rfl rfl rfl rfl rfl (Reads.skip (Reads.skip (Reads.here rfl))) ?_
      | refine XO.load TT_ok rfl rfl rfl rfl rfl rfl (Reads.skip (Reads.skip (Reads.skip (Reads.here rfl)))) ?_
      | refine XO.load TT_ok rfl rfl rfl rfl rfl rfl (Reads.skip (Reads.skip (Reads.skip (Reads.skip (Reads.here rfl))))) ?_
      | refine XO.load TT_ok rfl rfl rfl rfl rfl rfl (Reads.skip (Reads.skip (Reads.skip (Reads.skip (Reads.skip (Reads.here rfl)))))) ?_
      | refine XO.no rfl rfl ?_
      | (refine XO.cmpI TT_ok rfl rfl rfl rfl rfl rfl rfl (fun hc => ?_) (fun hc => ?_) <;> (try (exfalso; omega)))
      | refine XO.pT TT_ok rfl rfl rfl rfl rfl ?_
      | refine XO.pF TT_ok rfl rfl rfl rfl rfl ?_
      | refine XO.cmp TT_ok rfl rfl rfl rfl rfl (fun hc => ?_) (fun hc => ?_)
      | refine XO.add64 TT_ok rfl rfl rfl rfl rfl rfl (by omega) (by omega) ?_
      | refine XO.sub64 TT_ok rfl rfl rfl rfl rfl rfl (by omega) (by omega) ?_
      | refine XO.mul64 TT_ok rfl rfl rfl rfl rfl rfl (by omega) (by omega) ?_
      | refine XO.quo64 rfl rfl rfl rfl rfl (by omega) (by omega) (by omega) ?_
      | refine XO.rem64 rfl rfl rfl rfl rfl (by omega) (by omega) ?_
      | refine XO.p TT_ok rfl rfl rfl rfl ?_
      | refine XO.storeL TT_ok trivial rfl rfl rfl rfl rfl rfl rfl rfl rfl rfl trivial ?_
      | refine XO.ent Ent.front1 (XO.storeL TT_ok trivial rfl rfl rfl rfl rfl rfl rfl rfl rfl rfl trivial ?_)
      | refine XO.ent Ent.front2 (XO.storeL TT_ok trivial rfl rfl rfl rfl rfl rfl rfl rfl rfl rfl trivial ?_)
      | refine XO.ent Ent.front3 (XO.storeL TT_ok trivial rfl rfl rfl rfl rfl rfl rfl rfl rfl rfl trivial ?_)
      | refine XO.ent Ent.front4 (XO.storeL TT_ok trivial rfl rfl rfl rfl rfl rfl rfl rfl rfl rfl trivial ?_)
      | refine XO.ent Ent.front5 (XO.storeL TT_ok trivial rfl rfl rfl rfl rfl rfl rfl rfl rfl rfl trivial ?_)
      | refine XO.box trivial rfl rfl rfl rfl rfl (fun _ => trivial) (fun bb => ?_)
      | refine XO.alloc TT_ok trivial rfl rfl rfl rfl rfl (fun _ => trivial) (fun bb => ?_)
      | refine XO.build TT_ok rfl rfl rfl rfl rfl ?_
      | refine XO.lenSlice TT_ok rfl rfl rfl rfl rfl rfl ?_
      | refine XO.lenString TT_ok rfl rfl rfl rfl rfl rfl ?_
      | refine XO.indexStr TT_ok rfl rfl rfl rfl rfl rfl (by omega) (by omega) ?_
      | refine XO.indexAddr TT_ok rfl rfl rfl rfl rfl rfl rfl (by omega) (by omega) ?_
      | refine XO.addStr rfl rfl rfl rfl rfl (by omega) ?_
      | refine XO.buildSlice TT_ok trivial rfl rfl rfl rfl rfl rfl rfl rfl rfl rfl rfl rfl (fun _ => trivial) (fun bb => ?_)
      | refine XO.callF rfl rfl rfl (by kernel_rfl) rfl ?_)
    all_goals exact XS.ret1 Try.func7 rfl Try.results7 rfl (Ent.refl _) rfl
end Go.Proofs.Ytbpkoehgjhofaaa
