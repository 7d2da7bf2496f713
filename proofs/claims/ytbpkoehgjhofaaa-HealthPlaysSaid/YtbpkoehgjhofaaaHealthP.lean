/- HealthPlays comes to true. Conditions: the script's row lies in memory, its fields are of their kinds. -/
import Derived.Test.YtbpkoehgjhofaaaHealthS
namespace Go.Proofs.Ytbpkoehgjhofaaa.He
open Go Go.Sx
variable {w0 : World} {H : List HProp}
theorem op_row {l : List Value} (h : FKs [.int .i64, .int .i64, .int .i64, .bool] l) : ∃ (K A B : Int) (o : Bool), l = [.int .i64 K, .int .i64 A, .int .i64 B, .bool o] := by
  obtain ⟨_, _, rfl, ⟨K, rfl, _⟩, h1⟩ := h.cons
  obtain ⟨_, _, rfl, ⟨A, rfl, _⟩, h2⟩ := h1.cons
  obtain ⟨_, _, rfl, ⟨B, rfl, _⟩, h3⟩ := h2.cons
  obtain ⟨_, _, rfl, ⟨o, rfl⟩, h4⟩ := h3.cons
  obtain rfl := h4.nil
  exact ⟨K, A, B, o, rfl⟩
theorem new_ofR {k : Nat} {fa ej pa : Int} : (⟨fa, ej, pa, List.replicate k (0, 0), 0, 0⟩ : HS) = ofR ⟨k, fa, ej, pa, 0, []⟩ := by
  have e1 : List.replicate k ((0 : Int), (0 : Int)) = rowsOf ⟨k, fa, ej, pa, 0, []⟩ := by
    apply List.ext_getElem?
    intro i
    simp only [rowsOf, accH, List.foldl_nil, List.getElem?_replicate, List.getElem?_map]
    split <;> simp [*]
  have e2 : ∀ k' : Nat, rEjsTo ⟨k, fa, ej, pa, 0, []⟩ k' = 0 := by
    intro k'
    induction k' with
    | zero => rfl
    | succ k' ih => rw [rEjs_succ, ih]; rfl
  unfold ofR
  rw [← e1, e2]
theorem rhealth_new {b : Nat} {k : Nat} {fa ej pa : Int} {F : List HProp} : Ent (rhead b none 0 0 k fa ej pa 0 :: F) (rhealth b ⟨k, fa, ej, pa, 0, []⟩ :: F) :=
  Ent.trans (Ent.trans (Row.nil 96 3 _) Ent.front1) (rhealth_mk (S := ⟨k, fa, ej, pa, 0, []⟩) rfl rfl rfl rfl rfl rfl rfl)
/-- What a report answers, and the state behind it. -/
def takeI (R : RS) (now host : Int) (ok : Bool) : Int × RS :=
  if now < R.seen ∨ 1099511627776 < now then (20, R) else if host < 0 ∨ (R.n : Int) ≤ host then (180, { R with seen := now }) else (0, push R now host.toNat ok)
theorem report_any {b : Nat} {R : RS} {now host : Int} {ok : Bool} {F : List HProp} {K : Value → List HProp → Prop} (fit : R.Fit) (hn : R.n ≤ 16) (h : K (.int .i64 (takeI R now host ok).1) (health b (ofR (takeI R now host ok).2) :: F)) :
    Tri Try.prog 32 #[ptr b, .int .i64 now, .int .i64 host, .bool ok] w0 (health b (ofR R) :: F) K := by
  have fit' := fit.ofR hn
  have hl : (ofR R).rows.length = R.n := rowsOf_length R
  by_cases hin : host < 0 ∨ (R.n : Int) ≤ host
  · refine report_bad fit' (by rw [hl]; exact hin) (fun hb => ?_) (fun h1 h2 => ?_)
    · rw [takeI, if_pos (show now < R.seen ∨ 1099511627776 < now from hb)] at h; exact h
    · rw [takeI, if_neg (show ¬ (now < R.seen ∨ 1099511627776 < now) by have : R.seen ≤ now := h1; omega), if_pos hin] at h; exact h
  · obtain ⟨i, rfl⟩ := Int.eq_ofNat_of_zero_le (show 0 ≤ host by omega)
    have hi : i < R.n := by omega
    have ha := rowsOf_at hi
    have he := fun ok => ofR_rep (now := now) (ok := ok) hi
    have g1 : now < R.seen ∨ 1099511627776 < now → K (.int .i64 20) (health b (ofR R) :: F) := fun hb => by
      rw [takeI, if_pos hb] at h; exact h
    have g2 : R.seen ≤ now → now ≤ 1099511627776 → K (.int .i64 0) (health b (ofR (push R now i ok)) :: F) := fun h1 h2 => by
      rw [takeI, if_neg (show ¬ (now < R.seen ∨ 1099511627776 < now) by omega), if_neg hin, Int.toNat_natCast] at h; exact h
    cases ok
    · exact report_false fit' ha g1 (fun h1 h2 => by rw [he]; exact g2 h1 h2)
    · exact report_true fit' ha g1 (fun h1 h2 => by rw [he]; exact g2 h1 h2)
theorem take_any {b : Nat} {R : RS} {now host : Int} {ok : Bool} {F : List HProp} {K : Value → List HProp → Prop} (fit : R.Fit) (h : K (.int .i64 (takeI R now host ok).1) (rhealth b (takeI R now host ok).2 :: F)) :
    Tri Try.prog 33 #[ptr b, .int .i64 now, .int .i64 host, .bool ok] w0 (rhealth b R :: F) K := by
  by_cases hin : host < 0 ∨ (R.n : Int) ≤ host
  · refine take_bad hin (fun hb => ?_) (fun h1 h2 => ?_)
    · rw [takeI, if_pos hb] at h; exact h
    · rw [takeI, if_neg (show ¬ (now < R.seen ∨ 1099511627776 < now) by omega), if_pos hin] at h; exact h
  · obtain ⟨i, rfl⟩ := Int.eq_ofNat_of_zero_le (show 0 ≤ host by omega)
    have hi : i < R.n := by omega
    refine take_spec fit hi (fun hb => ?_) (fun h1 h2 => ?_)
    · rw [takeI, if_pos hb] at h; exact h
    · rw [takeI, if_neg (show ¬ (now < R.seen ∨ 1099511627776 < now) by omega), if_neg hin, Int.toNat_natCast] at h; exact h
theorem takeI_fit {R : RS} (fit : R.Fit) (now host : Int) (ok : Bool) (h : R.all.length + 1 < 4398046511104) : (takeI R now host ok).2.Fit ∧ (takeI R now host ok).2.all.length ≤ R.all.length + 1 ∧ (takeI R now host ok).2.n = R.n := by
  unfold takeI
  split
  · exact ⟨fit, Nat.le_succ _, rfl⟩
  · split
    · exact ⟨fit.tick (by omega) (by omega), Nat.le_succ _, rfl⟩
    · exact ⟨fit.push (by omega) (by omega) h, by simp [push], rfl⟩
theorem open_any {b : Nat} {R : RS} {now : Int} {F : List HProp} {K : Value → List HProp → Prop} (fit : R.Fit) (hn : R.n ≤ 16) (h1 : now < R.seen ∨ 1099511627776 < now → K (.tuple #[.slice none 0 0, .int .i64 20]) (health b (ofR R) :: F))
    (h2 : R.seen ≤ now → now ≤ 1099511627776 → ∀ g, K (.tuple #[.slice (some ⟨g, 0, none⟩) R.n R.n, .int .i64 0]) (cel g 4 (flat benc (rOpenL R now)) :: health b (ofR { R with seen := now }) :: F)) :
    Tri Try.prog 34 #[ptr b, .int .i64 now] w0 (health b (ofR R) :: F) K := by
  refine open_spec (fit.ofR hn) h1 (fun a1 a2 g => ?_)
  rw [ofR_open, show (ofR R).rows.length = R.n from rowsOf_length R]
  exact h2 a1 a2 g
theorem fit0 {N : Nat} {f ej pa : Int} (hR : Right N f ej pa) : RS.Fit ⟨N, f, ej, pa, 0, []⟩ := by
  unfold Right at hR
  exact ⟨by dsimp only; omega, by dsimp only; omega, by dsimp only; omega, fun _ h => (by cases h), by show 0 < _; omega, by dsimp only; omega, by dsimp only; omega⟩
set_option maxHeartbeats 8000000 in
theorem plays {h f ej pa : Int} {v : Value} {ys : List (List Value)} (hb : BaseRow w0 v 4 ys) (hk : ∀ l ∈ ys, FKs [.int .i64, .int .i64, .int .i64, .bool] l) (hr : ys.length * 32 ≤ 140737488351232) :
    Tri Try.prog 9 #[.int .i64 h, .int .i64 f, .int .i64 ej, .int .i64 pa, v] w0 H (fun v _ => v = .bool true) := by
  obtain ⟨a, n, cap, rfl, hn, hop⟩ := hb.opened
  refine Tri.enter Try.func9 rfl Try.ntmps9 rfl ?_
  by_cases hR : Right h f ej pa
  · obtain ⟨N, rfl⟩ := Int.eq_ofNat_of_zero_le (show 0 ≤ h by unfold Right at hR; omega)
    have hR' := hR
    unfold Right at hR'
    repeat' (first
      | refine XO.q TT_ok rfl rfl rfl rfl rfl ?_
      | refine XO.nil ?_
      | refine anchor_spec (fun H' => ?_)
      | refine right_spec (fun _ => ?_) (fun hnr => absurd hR hnr)
      | (refine new_spec (k := N) (by omega) (fun b1 => ?_); rw [new_ofR])
      | refine XS.seq ?_
      | refine XS.region (T := TT) ?_
      | refine XS.draw (T := TT) follows_ok (by decide +kernel) ?_
      | refine XS.block ?_
      | refine XS.inBlock ?_
      | refine XS.exit rfl ?_
      | refine XS.condT rfl ?_
      | refine XS.condF rfl ?_
      | refine XS.skip ?_
      | refine XS.label ?_
      | refine XO.load TT_ok rfl rfl rfl rfl rfl rfl (Reads.here rfl) ?_
      | refine XO.load TT_ok rfl rfl rfl rfl rfl rfl (Reads.skip (Reads.here rfl)) ?_
      | refine XO.load TT_ok rfl rfl rfl rfl rfl rfl (Reads.skip (Reads.skip (Reads.here rfl))) ?_
      | refine XO.load TT_ok rfl rfl rfl rfl rfl rfl (Reads.skip (Reads.skip (Reads.skip (Reads.here rfl)))) ?_
      | refine XO.load TT_ok rfl rfl rfl rfl rfl rfl (Reads.skip (Reads.skip (Reads.skip (Reads.skip (Reads.here rfl))))) ?_
      | refine XO.load TT_ok rfl rfl rfl rfl rfl rfl (Reads.skip (Reads.skip (Reads.skip (Reads.skip (Reads.skip (Reads.here rfl)))))) ?_
      | refine XO.no rfl rfl ?_
      | (refine XO.cmpI TT_ok rfl rfl rfl rfl rfl rfl rfl (fun hc => ?_) (fun hc => ?_) <;> (try (exfalso; omega)))
      | refine XO.pT TT_ok rfl rfl rfl rfl rfl ?_
      | refine XO.pF TT_ok rfl rfl rfl rfl rfl ?_
      | refine XO.cmp TT_ok rfl rfl rfl rfl rfl (fun hc => ?_) (fun hc => ?_)
      | refine XO.add64 TT_ok rfl rfl rfl rfl rfl rfl (by omega) (by omega) ?_
      | refine XO.sub64 TT_ok rfl rfl rfl rfl rfl rfl (by omega) (by omega) ?_
      | refine XO.mul64 TT_ok rfl rfl rfl rfl rfl rfl (by omega) (by omega) ?_
      | refine XO.quo64 rfl rfl rfl rfl rfl (by omega) (by omega) (by omega) ?_
      | refine XO.rem64 rfl rfl rfl rfl rfl (by omega) (by omega) ?_
      | refine XO.p TT_ok rfl rfl rfl rfl ?_
      | refine XO.storeL TT_ok trivial rfl rfl rfl rfl rfl rfl rfl rfl rfl rfl trivial ?_
      | refine XO.ent Ent.front1 (XO.storeL TT_ok trivial rfl rfl rfl rfl rfl rfl rfl rfl rfl rfl trivial ?_)
      | refine XO.ent Ent.front2 (XO.storeL TT_ok trivial rfl rfl rfl rfl rfl rfl rfl rfl rfl rfl trivial ?_)
      | refine XO.ent Ent.front3 (XO.storeL TT_ok trivial rfl rfl rfl rfl rfl rfl rfl rfl rfl rfl trivial ?_)
      | refine XO.ent Ent.front4 (XO.storeL TT_ok trivial rfl rfl rfl rfl rfl rfl rfl rfl rfl rfl trivial ?_)
      | refine XO.ent Ent.front5 (XO.storeL TT_ok trivial rfl rfl rfl rfl rfl rfl rfl rfl rfl rfl trivial ?_)
      | refine XO.box trivial rfl rfl rfl rfl rfl (fun _ => trivial) (fun bb => ?_)
      | refine XO.alloc TT_ok trivial rfl rfl rfl rfl rfl (fun _ => trivial) (fun bb => ?_)
      | refine XO.build TT_ok rfl rfl rfl rfl rfl ?_
      | refine XO.lenSlice TT_ok rfl rfl rfl rfl rfl rfl ?_
      | refine XO.lenString TT_ok rfl rfl rfl rfl rfl rfl ?_
      | refine XO.indexStr TT_ok rfl rfl rfl rfl rfl rfl (by omega) (by omega) ?_
      | refine XO.indexAddr TT_ok rfl rfl rfl rfl rfl rfl rfl (by omega) (by omega) ?_
      | refine XO.addStr rfl rfl rfl rfl rfl (by omega) ?_
      | refine XO.buildSlice TT_ok trivial rfl rfl rfl rfl rfl rfl rfl rfl rfl rfl rfl rfl (fun _ => trivial) (fun bb => ?_)
      | refine XO.callF rfl rfl rfl (by kernel_rfl) rfl ?_)
    obtain ⟨b2, hb2⟩ : ∃ b2, b2 = bb := ⟨bb, rfl⟩
    subst hb2
    refine XS.loopI (ι := Nat × RS) (fun x => [(11, ptr b1), (12, ptr b2), (43, .slice a n cap), (44, .int .i64 n), (45, .int .i64 x.1)]) (fun x => health b1 (ofR x.2) :: rhealth b2 x.2 :: H')
      (fun x => x.1 ≤ n ∧ x.2.Fit ∧ x.2.all.length ≤ x.1 ∧ x.2.n ≤ 16) (fun x => n - x.1) (0, ⟨N, f, ej, pa, 0, []⟩)
      ⟨Nat.zero_le _, fit0 hR, Nat.le_refl _, by dsimp only; omega⟩ ⟨rfl, rfl, rfl, rfl, rfl, trivial⟩ (Ent.trans rhealth_new Ent.front1) ?_
    rintro ⟨k, R⟩ e ⟨g1, fit, g3, g4⟩ ih
    simp only at g1 fit g3 g4 ⊢
    by_cases hlt : k < n
    · obtain ⟨l, hl⟩ : ∃ l, ys[k]? = some l := ⟨_, List.getElem?_eq_getElem (by omega)⟩
      obtain ⟨b, off, rfl, hrd⟩ := hop k l hl
      rw [show k = (k : Int).toNat from rfl] at hrd
      have hkl := hk l (List.mem_of_getElem? hl)
      clear hop hk hl
      obtain ⟨K, A, B, o, rfl⟩ := op_row hkl
      have ht := takeI_fit fit A B o (by omega)
      repeat' (first
        | refine XO.q TT_ok rfl rfl rfl rfl rfl ?_
        | refine XO.nil ?_
        | refine XO.loadAgg TT_ok rfl rfl rfl rfl rfl rfl rfl (hrd _) ?_
        | refine report_any fit g4 ?_
        | refine Tri.ent Ent.front1 (report_any fit g4 ?_)
        | refine Tri.ent Ent.front2 (report_any fit g4 ?_)
        | refine Tri.ent Ent.front3 (report_any fit g4 ?_)
        | refine Tri.ent Ent.front4 (report_any fit g4 ?_)
        | refine take_any fit ?_
        | refine Tri.ent Ent.front1 (take_any fit ?_)
        | refine Tri.ent Ent.front2 (take_any fit ?_)
        | refine Tri.ent Ent.front3 (take_any fit ?_)
        | refine Tri.ent Ent.front4 (take_any fit ?_)
        | refine ejs_spec ?_
        | refine Tri.ent Ent.front1 (ejs_spec ?_)
        | refine Tri.ent Ent.front2 (ejs_spec ?_)
        | refine Tri.ent Ent.front3 (ejs_spec ?_)
        | refine Tri.ent Ent.front4 (ejs_spec ?_)
        | refine rejs_spec fit ?_
        | refine Tri.ent Ent.front1 (rejs_spec fit ?_)
        | refine Tri.ent Ent.front2 (rejs_spec fit ?_)
        | refine Tri.ent Ent.front3 (rejs_spec fit ?_)
        | refine Tri.ent Ent.front4 (rejs_spec fit ?_)
        | refine open_any fit g4 (fun hb => ?_) (fun q1 q2 g => ?_)
        | refine Tri.ent Ent.front1 (open_any fit g4 (fun hb => ?_) (fun q1 q2 g => ?_))
        | refine Tri.ent Ent.front2 (open_any fit g4 (fun hb => ?_) (fun q1 q2 g => ?_))
        | refine Tri.ent Ent.front3 (open_any fit g4 (fun hb => ?_) (fun q1 q2 g => ?_))
        | refine Tri.ent Ent.front4 (open_any fit g4 (fun hb => ?_) (fun q1 q2 g => ?_))
        | (refine Tri.ent Ent.front1 (ropen_spec fit (fun hb' => ?_) (fun p1 p2 a2 cap2 => ?_)) <;> (try (exfalso; omega)))
        | (refine Tri.ent Ent.front3 (ropen_spec fit (fun hb' => ?_) (fun p1 p2 a2 cap2 => ?_)) <;> (try (exfalso; omega)))
        | (refine Tri.ent Ent.front2 (ropen_spec fit (fun hb' => ?_) (fun p1 p2 a2 cap2 => ?_)) <;> (try (exfalso; omega)))
        | refine XS.seq ?_
        | refine XS.region (T := TT) ?_
        | refine XS.draw (T := TT) follows_ok (by decide +kernel) ?_
        | refine XS.block ?_
        | refine XS.inBlock ?_
        | refine XS.exit rfl ?_
        | refine XS.condT rfl ?_
        | refine XS.condF rfl ?_
        | refine XS.skip ?_
        | refine XS.label ?_
        | refine XO.load TT_ok rfl rfl rfl rfl rfl rfl (Reads.here rfl) ?_
        | refine XO.load TT_ok rfl rfl rfl rfl rfl rfl (Reads.skip (Reads.here rfl)) ?_
        | refine XO.load TT_ok rfl rfl rfl rfl rfl rfl (Reads.skip (Reads.skip (Reads.here rfl))) ?_
        | refine XO.load TT_ok rfl rfl rfl rfl rfl rfl (Reads.skip (Reads.skip (Reads.skip (Reads.here rfl)))) ?_
        | refine XO.load TT_ok rfl rfl rfl rfl rfl rfl (Reads.skip (Reads.skip (Reads.skip (Reads.skip (Reads.here rfl))))) ?_
        | refine XO.load TT_ok rfl rfl rfl rfl rfl rfl (Reads.skip (Reads.skip (Reads.skip (Reads.skip (Reads.skip (Reads.here rfl)))))) ?_
        | refine XO.no rfl rfl ?_
        | (refine XO.cmpI TT_ok rfl rfl rfl rfl rfl rfl rfl (fun hc => ?_) (fun hc => ?_) <;> (try (exfalso; omega)))
        | refine XO.pT TT_ok rfl rfl rfl rfl rfl ?_
        | refine XO.pF TT_ok rfl rfl rfl rfl rfl ?_
        | refine XO.cmp TT_ok rfl rfl rfl rfl rfl (fun hc => ?_) (fun hc => ?_)
        | refine XO.add64 TT_ok rfl rfl rfl rfl rfl rfl (by omega) (by omega) ?_
        | refine XO.sub64 TT_ok rfl rfl rfl rfl rfl rfl (by omega) (by omega) ?_
        | refine XO.mul64 TT_ok rfl rfl rfl rfl rfl rfl (by omega) (by omega) ?_
        | refine XO.quo64 rfl rfl rfl rfl rfl (by omega) (by omega) (by omega) ?_
        | refine XO.rem64 rfl rfl rfl rfl rfl (by omega) (by omega) ?_
        | refine XO.p TT_ok rfl rfl rfl rfl ?_
        | refine XO.storeL TT_ok trivial rfl rfl rfl rfl rfl rfl rfl rfl rfl rfl trivial ?_
        | refine XO.ent Ent.front1 (XO.storeL TT_ok trivial rfl rfl rfl rfl rfl rfl rfl rfl rfl rfl trivial ?_)
        | refine XO.ent Ent.front2 (XO.storeL TT_ok trivial rfl rfl rfl rfl rfl rfl rfl rfl rfl rfl trivial ?_)
        | refine XO.ent Ent.front3 (XO.storeL TT_ok trivial rfl rfl rfl rfl rfl rfl rfl rfl rfl rfl trivial ?_)
        | refine XO.ent Ent.front4 (XO.storeL TT_ok trivial rfl rfl rfl rfl rfl rfl rfl rfl rfl rfl trivial ?_)
        | refine XO.ent Ent.front5 (XO.storeL TT_ok trivial rfl rfl rfl rfl rfl rfl rfl rfl rfl rfl trivial ?_)
        | refine XO.box trivial rfl rfl rfl rfl rfl (fun _ => trivial) (fun bb => ?_)
        | refine XO.alloc TT_ok trivial rfl rfl rfl rfl rfl (fun _ => trivial) (fun bb => ?_)
        | refine XO.build TT_ok rfl rfl rfl rfl rfl ?_
        | refine XO.lenSlice TT_ok rfl rfl rfl rfl rfl rfl ?_
        | refine XO.lenString TT_ok rfl rfl rfl rfl rfl rfl ?_
        | refine XO.indexStr TT_ok rfl rfl rfl rfl rfl rfl (by omega) (by omega) ?_
        | refine XO.indexAddr TT_ok rfl rfl rfl rfl rfl rfl rfl (by omega) (by omega) ?_
        | refine XO.addStr rfl rfl rfl rfl rfl (by omega) ?_
        | refine XO.buildSlice TT_ok trivial rfl rfl rfl rfl rfl rfl rfl rfl rfl rfl rfl rfl (fun _ => trivial) (fun bb => ?_)
        | refine XO.callF rfl rfl rfl (by kernel_rfl) rfl ?_)
      · exact ih (k + 1, (takeI R A B o).2) _ _ ⟨by dsimp only; omega, ht.1, by dsimp only; omega, by dsimp only; omega⟩ (by dsimp only; omega) ⟨rfl, rfl, rfl, rfl, rfl, trivial⟩ (by repeat' (first | exact Ent.refl _ | exact Ent.dropAll _ | refine Ent.cons _ ?_ | refine Ent.trans Ent.front1 (Ent.cons _ ?_) | refine Ent.trans Ent.front2 (Ent.cons _ ?_) | refine Ent.trans Ent.front3 (Ent.cons _ ?_) | refine Ent.trans Ent.front4 (Ent.cons _ ?_) | refine Ent.trans Ent.front5 (Ent.cons _ ?_) | refine Ent.trans Row.of_at (Ent.cons _ ?_) | refine Ent.trans Ent.front1 (Ent.trans Row.of_at (Ent.cons _ ?_)) | refine Ent.trans Ent.front2 (Ent.trans Row.of_at (Ent.cons _ ?_)) | refine Ent.trans Ent.front3 (Ent.trans Row.of_at (Ent.cons _ ?_)) | refine Ent.trans Ent.front4 (Ent.trans Row.of_at (Ent.cons _ ?_)) | refine Ent.trans (Ent.drop _ _) ?_))
      · repeat' (first
          | refine XO.q TT_ok rfl rfl rfl rfl rfl ?_
          | refine XO.nil ?_
          | refine XS.loop ?_
          | refine XS.seq ?_
          | refine XS.region (T := TT) ?_
          | refine XS.draw (T := TT) follows_ok (by decide +kernel) ?_
          | refine XS.block ?_
          | refine XS.inBlock ?_
          | refine XS.exit rfl ?_
          | refine XS.condT rfl ?_
          | refine XS.condF rfl ?_
          | refine XS.skip ?_
          | refine XS.label ?_
          | refine XO.load TT_ok rfl rfl rfl rfl rfl rfl (Reads.here rfl) ?_
          | refine XO.load TT_ok rfl rfl rfl rfl rfl rfl (Reads.skip (Reads.here rfl)) ?_
          | refine XO.load TT_ok rfl rfl rfl rfl rfl rfl (Reads.skip (Reads.skip (Reads.here rfl))) ?_
          | refine XO.load TT_ok rfl rfl rfl rfl rfl rfl (Reads.skip (Reads.skip (Reads.skip (Reads.here rfl)))) ?_
          | refine XO.load TT_ok rfl rfl rfl rfl rfl rfl (Reads.skip (Reads.skip (Reads.skip (Reads.skip (Reads.here rfl))))) ?_
          | refine XO.load TT_ok rfl rfl rfl rfl rfl rfl (Reads.skip (Reads.skip (Reads.skip (Reads.skip (Reads.skip (Reads.here rfl)))))) ?_
          | refine XO.no rfl rfl ?_
          | (refine XO.cmpI TT_ok rfl rfl rfl rfl rfl rfl rfl (fun hc => ?_) (fun hc => ?_) <;> (try (exfalso; omega)))
          | refine XO.pT TT_ok rfl rfl rfl rfl rfl ?_
          | refine XO.pF TT_ok rfl rfl rfl rfl rfl ?_
          | refine XO.cmp TT_ok rfl rfl rfl rfl rfl (fun hc => ?_) (fun hc => ?_)
          | refine XO.add64 TT_ok rfl rfl rfl rfl rfl rfl (by omega) (by omega) ?_
          | refine XO.sub64 TT_ok rfl rfl rfl rfl rfl rfl (by omega) (by omega) ?_
          | refine XO.mul64 TT_ok rfl rfl rfl rfl rfl rfl (by omega) (by omega) ?_
          | refine XO.quo64 rfl rfl rfl rfl rfl (by omega) (by omega) (by omega) ?_
          | refine XO.rem64 rfl rfl rfl rfl rfl (by omega) (by omega) ?_
          | refine XO.p TT_ok rfl rfl rfl rfl ?_
          | refine XO.storeL TT_ok trivial rfl rfl rfl rfl rfl rfl rfl rfl rfl rfl trivial ?_
          | refine XO.ent Ent.front1 (XO.storeL TT_ok trivial rfl rfl rfl rfl rfl rfl rfl rfl rfl rfl trivial ?_)
          | refine XO.ent Ent.front2 (XO.storeL TT_ok trivial rfl rfl rfl rfl rfl rfl rfl rfl rfl rfl trivial ?_)
          | refine XO.ent Ent.front3 (XO.storeL TT_ok trivial rfl rfl rfl rfl rfl rfl rfl rfl rfl rfl trivial ?_)
          | refine XO.ent Ent.front4 (XO.storeL TT_ok trivial rfl rfl rfl rfl rfl rfl rfl rfl rfl rfl trivial ?_)
          | refine XO.ent Ent.front5 (XO.storeL TT_ok trivial rfl rfl rfl rfl rfl rfl rfl rfl rfl rfl trivial ?_)
          | refine XO.box trivial rfl rfl rfl rfl rfl (fun _ => trivial) (fun bb => ?_)
          | refine XO.alloc TT_ok trivial rfl rfl rfl rfl rfl (fun _ => trivial) (fun bb => ?_)
          | refine XO.build TT_ok rfl rfl rfl rfl rfl ?_
          | refine XO.lenSlice TT_ok rfl rfl rfl rfl rfl rfl ?_
          | refine XO.lenString TT_ok rfl rfl rfl rfl rfl rfl ?_
          | refine XO.indexStr TT_ok rfl rfl rfl rfl rfl rfl (by omega) (by omega) ?_
          | refine XO.indexAddr TT_ok rfl rfl rfl rfl rfl rfl rfl (by omega) (by omega) ?_
          | refine XO.addStr rfl rfl rfl rfl rfl (by omega) ?_
          | refine XO.buildSlice TT_ok trivial rfl rfl rfl rfl rfl rfl rfl rfl rfl rfl rfl rfl (fun _ => trivial) (fun bb => ?_)
          | refine XO.callF rfl rfl rfl (by kernel_rfl) rfl ?_)
        exact ih (k + 1, R) _ _ ⟨by dsimp only; omega, fit, by dsimp only; omega, by dsimp only; omega⟩ (by dsimp only; omega) ⟨rfl, rfl, rfl, rfl, rfl, trivial⟩ (by repeat' (first | exact Ent.refl _ | exact Ent.dropAll _ | refine Ent.cons _ ?_ | refine Ent.trans Ent.front1 (Ent.cons _ ?_) | refine Ent.trans Ent.front2 (Ent.cons _ ?_) | refine Ent.trans Ent.front3 (Ent.cons _ ?_) | refine Ent.trans Ent.front4 (Ent.cons _ ?_) | refine Ent.trans Ent.front5 (Ent.cons _ ?_) | refine Ent.trans Row.of_at (Ent.cons _ ?_) | refine Ent.trans Ent.front1 (Ent.trans Row.of_at (Ent.cons _ ?_)) | refine Ent.trans Ent.front2 (Ent.trans Row.of_at (Ent.cons _ ?_)) | refine Ent.trans Ent.front3 (Ent.trans Row.of_at (Ent.cons _ ?_)) | refine Ent.trans Ent.front4 (Ent.trans Row.of_at (Ent.cons _ ?_)) | refine Ent.trans (Ent.drop _ _) ?_))
      · have hL := rOpenL_length R A
        generalize rOpenL R A = L at *
        refine XS.loopI (ι := Nat × List Bool) (fun x => [(11, ptr b1), (12, ptr b2), (16, .slice (some ⟨g, 0, none⟩) R.n R.n), (18, .slice a2 R.n cap2), (43, .slice (some ⟨b, off, none⟩) n cap), (44, .int .i64 n), (45, .int .i64 k), (97, .slice (some ⟨g, 0, none⟩) R.n R.n), (98, .int .i64 R.n), (99, .int .i64 x.1)])
          (fun x => cel g 4 (flat benc x.2) :: Row a2 cap2 4 1 R.n (flat benc L) :: health b1 (ofR { R with seen := A }) :: rhealth b2 { R with seen := A } :: H')
          (fun x => x.1 ≤ R.n ∧ x.2.length = R.n ∧ ∀ i, x.1 ≤ i → x.2[i]? = L[i]?) (fun x => R.n - x.1) (0, L)
          ⟨Nat.zero_le _, hL, fun _ _ => rfl⟩ ⟨rfl, rfl, rfl, rfl, rfl, rfl, rfl, rfl, rfl, rfl, trivial⟩ (by repeat' (first | exact Ent.refl _ | exact Ent.dropAll _ | refine Ent.cons _ ?_ | refine Ent.trans Ent.front1 (Ent.cons _ ?_) | refine Ent.trans Ent.front2 (Ent.cons _ ?_) | refine Ent.trans Ent.front3 (Ent.cons _ ?_) | refine Ent.trans Ent.front4 (Ent.cons _ ?_) | refine Ent.trans Ent.front5 (Ent.cons _ ?_) | refine Ent.trans Row.of_at (Ent.cons _ ?_) | refine Ent.trans Ent.front1 (Ent.trans Row.of_at (Ent.cons _ ?_)) | refine Ent.trans Ent.front2 (Ent.trans Row.of_at (Ent.cons _ ?_)) | refine Ent.trans Ent.front3 (Ent.trans Row.of_at (Ent.cons _ ?_)) | refine Ent.trans Ent.front4 (Ent.trans Row.of_at (Ent.cons _ ?_)) | refine Ent.trans (Ent.drop _ _) ?_)) ?_
        rintro ⟨j, xs⟩ e2 ⟨r1, r2, r3⟩ ih2
        simp only at r1 r2 r3 ⊢
        by_cases hj : j < R.n
        · obtain ⟨c, hLj⟩ : ∃ c, L[j]? = some c := ⟨_, List.getElem?_eq_getElem (by omega)⟩
          have hx := (r3 j (Nat.le_refl _)).trans hLj
          have hjx : j < xs.length := by omega
          rw [show flat benc xs = flat benc (xs.set j c) from congrArg _ (set_self hx)]
          refine XS.ent Ent.front1 (XS.rowOpen (by omega) (fun g2 hg2 => ?_))
          subst hg2
          cases c
          · repeat' (first
              | refine XO.q TT_ok rfl rfl rfl rfl rfl ?_
              | refine XO.nil ?_
              | refine XO.load TT_ok rfl rfl rfl rfl rfl rfl (Reads.setS0 benc_len hjx rfl) ?_
              | refine XO.load TT_ok rfl rfl rfl rfl rfl rfl (Reads.skip (Reads.setS0 benc_len hjx rfl)) ?_
              | refine XO.load TT_ok rfl rfl rfl rfl rfl rfl (Reads.rowFlat0 benc_len hLj rfl) ?_
              | refine XO.ent Ent.front1 (XO.storeS (p' := _) benc_len hjx TT_ok trivial rfl rfl rfl rfl rfl rfl rfl rfl rfl benc_eq trivial ?_)
              | refine XO.indexOwn TT_ok rfl rfl rfl rfl rfl rfl rfl (by omega) ?_
              | refine XS.seq ?_
              | refine XS.region (T := TT) ?_
              | refine XS.draw (T := TT) follows_ok (by decide +kernel) ?_
              | refine XS.block ?_
              | refine XS.inBlock ?_
              | refine XS.exit rfl ?_
              | refine XS.condT rfl ?_
              | refine XS.condF rfl ?_
              | refine XS.skip ?_
              | refine XS.label ?_
              | refine XO.load TT_ok rfl rfl rfl rfl rfl rfl (Reads.here rfl) ?_
              | refine XO.load TT_ok rfl rfl rfl rfl rfl rfl (Reads.skip (Reads.here rfl)) ?_
              | refine XO.load TT_ok rfl rfl rfl rfl rfl rfl (Reads.skip (Reads.skip (Reads.here rfl))) ?_
              | refine XO.load TT_ok rfl rfl rfl rfl rfl rfl (Reads.skip (Reads.skip (Reads.skip (Reads.here rfl)))) ?_
              | refine XO.load TT_ok rfl rfl rfl rfl rfl rfl (Reads.skip (Reads.skip (Reads.skip (Reads.skip (Reads.here rfl))))) ?_
              | refine XO.load TT_ok rfl rfl rfl rfl rfl rfl (Reads.skip (Reads.skip (Reads.skip (Reads.skip (Reads.skip (Reads.here rfl)))))) ?_
              | refine XO.no rfl rfl ?_
              | (refine XO.cmpI TT_ok rfl rfl rfl rfl rfl rfl rfl (fun hc => ?_) (fun hc => ?_) <;> (try (exfalso; omega)))
              | refine XO.pT TT_ok rfl rfl rfl rfl rfl ?_
              | refine XO.pF TT_ok rfl rfl rfl rfl rfl ?_
              | refine XO.cmp TT_ok rfl rfl rfl rfl rfl (fun hc => ?_) (fun hc => ?_)
              | refine XO.add64 TT_ok rfl rfl rfl rfl rfl rfl (by omega) (by omega) ?_
              | refine XO.sub64 TT_ok rfl rfl rfl rfl rfl rfl (by omega) (by omega) ?_
              | refine XO.mul64 TT_ok rfl rfl rfl rfl rfl rfl (by omega) (by omega) ?_
              | refine XO.quo64 rfl rfl rfl rfl rfl (by omega) (by omega) (by omega) ?_
              | refine XO.rem64 rfl rfl rfl rfl rfl (by omega) (by omega) ?_
              | refine XO.p TT_ok rfl rfl rfl rfl ?_
              | refine XO.storeL TT_ok trivial rfl rfl rfl rfl rfl rfl rfl rfl rfl rfl trivial ?_
              | refine XO.ent Ent.front1 (XO.storeL TT_ok trivial rfl rfl rfl rfl rfl rfl rfl rfl rfl rfl trivial ?_)
              | refine XO.ent Ent.front2 (XO.storeL TT_ok trivial rfl rfl rfl rfl rfl rfl rfl rfl rfl rfl trivial ?_)
              | refine XO.ent Ent.front3 (XO.storeL TT_ok trivial rfl rfl rfl rfl rfl rfl rfl rfl rfl rfl trivial ?_)
              | refine XO.ent Ent.front4 (XO.storeL TT_ok trivial rfl rfl rfl rfl rfl rfl rfl rfl rfl rfl trivial ?_)
              | refine XO.ent Ent.front5 (XO.storeL TT_ok trivial rfl rfl rfl rfl rfl rfl rfl rfl rfl rfl trivial ?_)
              | refine XO.box trivial rfl rfl rfl rfl rfl (fun _ => trivial) (fun bb => ?_)
              | refine XO.alloc TT_ok trivial rfl rfl rfl rfl rfl (fun _ => trivial) (fun bb => ?_)
              | refine XO.build TT_ok rfl rfl rfl rfl rfl ?_
              | refine XO.lenSlice TT_ok rfl rfl rfl rfl rfl rfl ?_
              | refine XO.lenString TT_ok rfl rfl rfl rfl rfl rfl ?_
              | refine XO.indexStr TT_ok rfl rfl rfl rfl rfl rfl (by omega) (by omega) ?_
              | refine XO.indexAddr TT_ok rfl rfl rfl rfl rfl rfl rfl (by omega) (by omega) ?_
              | refine XO.addStr rfl rfl rfl rfl rfl (by omega) ?_
              | refine XO.buildSlice TT_ok trivial rfl rfl rfl rfl rfl rfl rfl rfl rfl rfl rfl rfl (fun _ => trivial) (fun bb => ?_)
              | refine XO.callF rfl rfl rfl (by kernel_rfl) rfl ?_)
            exact ih2 (j + 1, xs.set j true) _ _ ⟨by dsimp only; omega, by simpa using r2, fun i hi => by dsimp only at hi ⊢; rw [List.getElem?_set_ne (by omega)]; exact r3 i (by omega)⟩ (by dsimp only; omega) ⟨rfl, rfl, rfl, rfl, rfl, rfl, rfl, rfl, rfl, rfl, trivial⟩ (by repeat' (first | exact Ent.refl _ | exact Ent.dropAll _ | refine Ent.cons _ ?_ | refine Ent.trans Ent.front1 (Ent.cons _ ?_) | refine Ent.trans Ent.front2 (Ent.cons _ ?_) | refine Ent.trans Ent.front3 (Ent.cons _ ?_) | refine Ent.trans Ent.front4 (Ent.cons _ ?_) | refine Ent.trans Ent.front5 (Ent.cons _ ?_) | refine Ent.trans Row.of_at (Ent.cons _ ?_) | refine Ent.trans Ent.front1 (Ent.trans Row.of_at (Ent.cons _ ?_)) | refine Ent.trans Ent.front2 (Ent.trans Row.of_at (Ent.cons _ ?_)) | refine Ent.trans Ent.front3 (Ent.trans Row.of_at (Ent.cons _ ?_)) | refine Ent.trans Ent.front4 (Ent.trans Row.of_at (Ent.cons _ ?_)) | refine Ent.trans (Ent.drop _ _) ?_))
          · repeat' (first
              | refine XO.q TT_ok rfl rfl rfl rfl rfl ?_
              | refine XO.nil ?_
              | refine XO.load TT_ok rfl rfl rfl rfl rfl rfl (Reads.setS0 benc_len hjx rfl) ?_
              | refine XO.load TT_ok rfl rfl rfl rfl rfl rfl (Reads.skip (Reads.setS0 benc_len hjx rfl)) ?_
              | refine XO.load TT_ok rfl rfl rfl rfl rfl rfl (Reads.rowFlat0 benc_len hLj rfl) ?_
              | refine XO.ent Ent.front1 (XO.storeS (p' := _) benc_len hjx TT_ok trivial rfl rfl rfl rfl rfl rfl rfl rfl rfl benc_eq trivial ?_)
              | refine XO.indexOwn TT_ok rfl rfl rfl rfl rfl rfl rfl (by omega) ?_
              | refine XS.seq ?_
              | refine XS.region (T := TT) ?_
              | refine XS.draw (T := TT) follows_ok (by decide +kernel) ?_
              | refine XS.block ?_
              | refine XS.inBlock ?_
              | refine XS.exit rfl ?_
              | refine XS.condT rfl ?_
              | refine XS.condF rfl ?_
              | refine XS.skip ?_
              | refine XS.label ?_
              | refine XO.load TT_ok rfl rfl rfl rfl rfl rfl (Reads.here rfl) ?_
              | refine XO.load TT_ok rfl rfl rfl rfl rfl rfl (Reads.skip (Reads.here rfl)) ?_
              | refine XO.load TT_ok rfl rfl rfl rfl rfl rfl (Reads.skip (Reads.skip (Reads.here rfl))) ?_
              | refine XO.load TT_ok rfl rfl rfl rfl rfl rfl (Reads.skip (Reads.skip (Reads.skip (Reads.here rfl)))) ?_
              | refine XO.load TT_ok rfl rfl rfl rfl rfl rfl (Reads.skip (Reads.skip (Reads.skip (Reads.skip (Reads.here rfl))))) ?_
              | refine XO.load TT_ok rfl rfl rfl rfl rfl rfl (Reads.skip (Reads.skip (Reads.skip (Reads.skip (Reads.skip (Reads.here rfl)))))) ?_
              | refine XO.no rfl rfl ?_
              | (refine XO.cmpI TT_ok rfl rfl rfl rfl rfl rfl rfl (fun hc => ?_) (fun hc => ?_) <;> (try (exfalso; omega)))
              | refine XO.pT TT_ok rfl rfl rfl rfl rfl ?_
              | refine XO.pF TT_ok rfl rfl rfl rfl rfl ?_
              | refine XO.cmp TT_ok rfl rfl rfl rfl rfl (fun hc => ?_) (fun hc => ?_)
              | refine XO.add64 TT_ok rfl rfl rfl rfl rfl rfl (by omega) (by omega) ?_
              | refine XO.sub64 TT_ok rfl rfl rfl rfl rfl rfl (by omega) (by omega) ?_
              | refine XO.mul64 TT_ok rfl rfl rfl rfl rfl rfl (by omega) (by omega) ?_
              | refine XO.quo64 rfl rfl rfl rfl rfl (by omega) (by omega) (by omega) ?_
              | refine XO.rem64 rfl rfl rfl rfl rfl (by omega) (by omega) ?_
              | refine XO.p TT_ok rfl rfl rfl rfl ?_
              | refine XO.storeL TT_ok trivial rfl rfl rfl rfl rfl rfl rfl rfl rfl rfl trivial ?_
              | refine XO.ent Ent.front1 (XO.storeL TT_ok trivial rfl rfl rfl rfl rfl rfl rfl rfl rfl rfl trivial ?_)
              | refine XO.ent Ent.front2 (XO.storeL TT_ok trivial rfl rfl rfl rfl rfl rfl rfl rfl rfl rfl trivial ?_)
              | refine XO.ent Ent.front3 (XO.storeL TT_ok trivial rfl rfl rfl rfl rfl rfl rfl rfl rfl rfl trivial ?_)
              | refine XO.ent Ent.front4 (XO.storeL TT_ok trivial rfl rfl rfl rfl rfl rfl rfl rfl rfl rfl trivial ?_)
              | refine XO.ent Ent.front5 (XO.storeL TT_ok trivial rfl rfl rfl rfl rfl rfl rfl rfl rfl rfl trivial ?_)
              | refine XO.box trivial rfl rfl rfl rfl rfl (fun _ => trivial) (fun bb => ?_)
              | refine XO.alloc TT_ok trivial rfl rfl rfl rfl rfl (fun _ => trivial) (fun bb => ?_)
              | refine XO.build TT_ok rfl rfl rfl rfl rfl ?_
              | refine XO.lenSlice TT_ok rfl rfl rfl rfl rfl rfl ?_
              | refine XO.lenString TT_ok rfl rfl rfl rfl rfl rfl ?_
              | refine XO.indexStr TT_ok rfl rfl rfl rfl rfl rfl (by omega) (by omega) ?_
              | refine XO.indexAddr TT_ok rfl rfl rfl rfl rfl rfl rfl (by omega) (by omega) ?_
              | refine XO.addStr rfl rfl rfl rfl rfl (by omega) ?_
              | refine XO.buildSlice TT_ok trivial rfl rfl rfl rfl rfl rfl rfl rfl rfl rfl rfl rfl (fun _ => trivial) (fun bb => ?_)
              | refine XO.callF rfl rfl rfl (by kernel_rfl) rfl ?_)
            exact ih2 (j + 1, xs.set j false) _ _ ⟨by dsimp only; omega, by simpa using r2, fun i hi => by dsimp only at hi ⊢; rw [List.getElem?_set_ne (by omega)]; exact r3 i (by omega)⟩ (by dsimp only; omega) ⟨rfl, rfl, rfl, rfl, rfl, rfl, rfl, rfl, rfl, rfl, trivial⟩ (by repeat' (first | exact Ent.refl _ | exact Ent.dropAll _ | refine Ent.cons _ ?_ | refine Ent.trans Ent.front1 (Ent.cons _ ?_) | refine Ent.trans Ent.front2 (Ent.cons _ ?_) | refine Ent.trans Ent.front3 (Ent.cons _ ?_) | refine Ent.trans Ent.front4 (Ent.cons _ ?_) | refine Ent.trans Ent.front5 (Ent.cons _ ?_) | refine Ent.trans Row.of_at (Ent.cons _ ?_) | refine Ent.trans Ent.front1 (Ent.trans Row.of_at (Ent.cons _ ?_)) | refine Ent.trans Ent.front2 (Ent.trans Row.of_at (Ent.cons _ ?_)) | refine Ent.trans Ent.front3 (Ent.trans Row.of_at (Ent.cons _ ?_)) | refine Ent.trans Ent.front4 (Ent.trans Row.of_at (Ent.cons _ ?_)) | refine Ent.trans (Ent.drop _ _) ?_))
        · repeat' (first
            | refine XO.q TT_ok rfl rfl rfl rfl rfl ?_
            | refine XO.nil ?_
            | refine XS.seq ?_
            | refine XS.region (T := TT) ?_
            | refine XS.draw (T := TT) follows_ok (by decide +kernel) ?_
            | refine XS.block ?_
            | refine XS.inBlock ?_
            | refine XS.exit rfl ?_
            | refine XS.condT rfl ?_
            | refine XS.condF rfl ?_
            | refine XS.skip ?_
            | refine XS.label ?_
            | refine XO.load TT_ok rfl rfl rfl rfl rfl rfl (Reads.here rfl) ?_
            | refine XO.load TT_ok rfl rfl rfl rfl rfl rfl (Reads.skip (Reads.here rfl)) ?_
            | refine XO.load TT_ok rfl rfl rfl rfl rfl rfl (Reads.skip (Reads.skip (Reads.here rfl))) ?_
            | refine XO.load TT_ok rfl rfl rfl rfl rfl rfl (Reads.skip (Reads.skip (Reads.skip (Reads.here rfl)))) ?_
            | refine XO.load TT_ok rfl rfl rfl rfl rfl rfl (Reads.skip (Reads.skip (Reads.skip (Reads.skip (Reads.here rfl))))) ?_
            | refine XO.load TT_ok rfl rfl rfl rfl rfl rfl (Reads.skip (Reads.skip (Reads.skip (Reads.skip (Reads.skip (Reads.here rfl)))))) ?_
            | refine XO.no rfl rfl ?_
            | (refine XO.cmpI TT_ok rfl rfl rfl rfl rfl rfl rfl (fun hc => ?_) (fun hc => ?_) <;> (try (exfalso; omega)))
            | refine XO.pT TT_ok rfl rfl rfl rfl rfl ?_
            | refine XO.pF TT_ok rfl rfl rfl rfl rfl ?_
            | refine XO.cmp TT_ok rfl rfl rfl rfl rfl (fun hc => ?_) (fun hc => ?_)
            | refine XO.add64 TT_ok rfl rfl rfl rfl rfl rfl (by omega) (by omega) ?_
            | refine XO.sub64 TT_ok rfl rfl rfl rfl rfl rfl (by omega) (by omega) ?_
            | refine XO.mul64 TT_ok rfl rfl rfl rfl rfl rfl (by omega) (by omega) ?_
            | refine XO.quo64 rfl rfl rfl rfl rfl (by omega) (by omega) (by omega) ?_
            | refine XO.rem64 rfl rfl rfl rfl rfl (by omega) (by omega) ?_
            | refine XO.p TT_ok rfl rfl rfl rfl ?_
            | refine XO.storeL TT_ok trivial rfl rfl rfl rfl rfl rfl rfl rfl rfl rfl trivial ?_
            | refine XO.ent Ent.front1 (XO.storeL TT_ok trivial rfl rfl rfl rfl rfl rfl rfl rfl rfl rfl trivial ?_)
            | refine XO.ent Ent.front2 (XO.storeL TT_ok trivial rfl rfl rfl rfl rfl rfl rfl rfl rfl rfl trivial ?_)
            | refine XO.ent Ent.front3 (XO.storeL TT_ok trivial rfl rfl rfl rfl rfl rfl rfl rfl rfl rfl trivial ?_)
            | refine XO.ent Ent.front4 (XO.storeL TT_ok trivial rfl rfl rfl rfl rfl rfl rfl rfl rfl rfl trivial ?_)
            | refine XO.ent Ent.front5 (XO.storeL TT_ok trivial rfl rfl rfl rfl rfl rfl rfl rfl rfl rfl trivial ?_)
            | refine XO.box trivial rfl rfl rfl rfl rfl (fun _ => trivial) (fun bb => ?_)
            | refine XO.alloc TT_ok trivial rfl rfl rfl rfl rfl (fun _ => trivial) (fun bb => ?_)
            | refine XO.build TT_ok rfl rfl rfl rfl rfl ?_
            | refine XO.lenSlice TT_ok rfl rfl rfl rfl rfl rfl ?_
            | refine XO.lenString TT_ok rfl rfl rfl rfl rfl rfl ?_
            | refine XO.indexStr TT_ok rfl rfl rfl rfl rfl rfl (by omega) (by omega) ?_
            | refine XO.indexAddr TT_ok rfl rfl rfl rfl rfl rfl rfl (by omega) (by omega) ?_
            | refine XO.addStr rfl rfl rfl rfl rfl (by omega) ?_
            | refine XO.buildSlice TT_ok trivial rfl rfl rfl rfl rfl rfl rfl rfl rfl rfl rfl rfl (fun _ => trivial) (fun bb => ?_)
            | refine XO.callF rfl rfl rfl (by kernel_rfl) rfl ?_)
          exact ih (k + 1, { R with seen := A }) _ _ ⟨by dsimp only; omega, fit.tick (by assumption) (by assumption), by dsimp only; omega, by dsimp only; omega⟩ (by dsimp only; omega) ⟨rfl, rfl, rfl, rfl, rfl, trivial⟩ (by repeat' (first | exact Ent.refl _ | exact Ent.dropAll _ | refine Ent.cons _ ?_ | refine Ent.trans Ent.front1 (Ent.cons _ ?_) | refine Ent.trans Ent.front2 (Ent.cons _ ?_) | refine Ent.trans Ent.front3 (Ent.cons _ ?_) | refine Ent.trans Ent.front4 (Ent.cons _ ?_) | refine Ent.trans Ent.front5 (Ent.cons _ ?_) | refine Ent.trans Row.of_at (Ent.cons _ ?_) | refine Ent.trans Ent.front1 (Ent.trans Row.of_at (Ent.cons _ ?_)) | refine Ent.trans Ent.front2 (Ent.trans Row.of_at (Ent.cons _ ?_)) | refine Ent.trans Ent.front3 (Ent.trans Row.of_at (Ent.cons _ ?_)) | refine Ent.trans Ent.front4 (Ent.trans Row.of_at (Ent.cons _ ?_)) | refine Ent.trans (Ent.drop _ _) ?_))
      · exact absurd rfl hc
      · exact ih (k + 1, R) _ _ ⟨by dsimp only; omega, fit, by dsimp only; omega, by dsimp only; omega⟩ (by dsimp only; omega) ⟨rfl, rfl, rfl, rfl, rfl, trivial⟩ (by repeat' (first | exact Ent.refl _ | exact Ent.dropAll _ | refine Ent.cons _ ?_ | refine Ent.trans Ent.front1 (Ent.cons _ ?_) | refine Ent.trans Ent.front2 (Ent.cons _ ?_) | refine Ent.trans Ent.front3 (Ent.cons _ ?_) | refine Ent.trans Ent.front4 (Ent.cons _ ?_) | refine Ent.trans Ent.front5 (Ent.cons _ ?_) | refine Ent.trans Row.of_at (Ent.cons _ ?_) | refine Ent.trans Ent.front1 (Ent.trans Row.of_at (Ent.cons _ ?_)) | refine Ent.trans Ent.front2 (Ent.trans Row.of_at (Ent.cons _ ?_)) | refine Ent.trans Ent.front3 (Ent.trans Row.of_at (Ent.cons _ ?_)) | refine Ent.trans Ent.front4 (Ent.trans Row.of_at (Ent.cons _ ?_)) | refine Ent.trans (Ent.drop _ _) ?_))
      · exact ih (k + 1, R) _ _ ⟨by dsimp only; omega, fit, by dsimp only; omega, by dsimp only; omega⟩ (by dsimp only; omega) ⟨rfl, rfl, rfl, rfl, rfl, trivial⟩ (by repeat' (first | exact Ent.refl _ | exact Ent.dropAll _ | refine Ent.cons _ ?_ | refine Ent.trans Ent.front1 (Ent.cons _ ?_) | refine Ent.trans Ent.front2 (Ent.cons _ ?_) | refine Ent.trans Ent.front3 (Ent.cons _ ?_) | refine Ent.trans Ent.front4 (Ent.cons _ ?_) | refine Ent.trans Ent.front5 (Ent.cons _ ?_) | refine Ent.trans Row.of_at (Ent.cons _ ?_) | refine Ent.trans Ent.front1 (Ent.trans Row.of_at (Ent.cons _ ?_)) | refine Ent.trans Ent.front2 (Ent.trans Row.of_at (Ent.cons _ ?_)) | refine Ent.trans Ent.front3 (Ent.trans Row.of_at (Ent.cons _ ?_)) | refine Ent.trans Ent.front4 (Ent.trans Row.of_at (Ent.cons _ ?_)) | refine Ent.trans (Ent.drop _ _) ?_))
    · repeat' (first
        | refine XO.q TT_ok rfl rfl rfl rfl rfl ?_
        | refine XO.nil ?_
        | refine ejs_spec ?_
        | refine Tri.ent Ent.front1 (ejs_spec ?_)
        | refine Tri.ent Ent.front2 (ejs_spec ?_)
        | refine Tri.ent Ent.front3 (ejs_spec ?_)
        | refine Tri.ent Ent.front4 (ejs_spec ?_)
        | refine rejs_spec fit ?_
        | refine Tri.ent Ent.front1 (rejs_spec fit ?_)
        | refine Tri.ent Ent.front2 (rejs_spec fit ?_)
        | refine Tri.ent Ent.front3 (rejs_spec fit ?_)
        | refine Tri.ent Ent.front4 (rejs_spec fit ?_)
        | refine XS.seq ?_
        | refine XS.region (T := TT) ?_
        | refine XS.draw (T := TT) follows_ok (by decide +kernel) ?_
        | refine XS.block ?_
        | refine XS.inBlock ?_
        | refine XS.exit rfl ?_
        | refine XS.condT rfl ?_
        | refine XS.condF rfl ?_
        | refine XS.skip ?_
        | refine XS.label ?_
        | refine XO.load TT_ok rfl rfl rfl rfl rfl rfl (Reads.here rfl) ?_
        | refine XO.load TT_ok rfl rfl rfl rfl rfl rfl (Reads.skip (Reads.here rfl)) ?_
        | refine XO.load TT_ok rfl rfl rfl rfl rfl rfl (Reads.skip (Reads.skip (Reads.here rfl))) ?_
        | refine XO.load TT_ok rfl rfl rfl rfl rfl rfl (Reads.skip (Reads.skip (Reads.skip (Reads.here rfl)))) ?_
        | refine XO.load TT_ok rfl rfl rfl rfl rfl rfl (Reads.skip (Reads.skip (Reads.skip (Reads.skip (Reads.here rfl))))) ?_
        | refine XO.load TT_ok rfl rfl rfl rfl rfl rfl (Reads.skip (Reads.skip (Reads.skip (Reads.skip (Reads.skip (Reads.here rfl)))))) ?_
        | refine XO.no rfl rfl ?_
        | (refine XO.cmpI TT_ok rfl rfl rfl rfl rfl rfl rfl (fun hc => ?_) (fun hc => ?_) <;> (try (exfalso; omega)))
        | refine XO.pT TT_ok rfl rfl rfl rfl rfl ?_
        | refine XO.pF TT_ok rfl rfl rfl rfl rfl ?_
        | refine XO.cmp TT_ok rfl rfl rfl rfl rfl (fun hc => ?_) (fun hc => ?_)
        | refine XO.add64 TT_ok rfl rfl rfl rfl rfl rfl (by omega) (by omega) ?_
        | refine XO.sub64 TT_ok rfl rfl rfl rfl rfl rfl (by omega) (by omega) ?_
        | refine XO.mul64 TT_ok rfl rfl rfl rfl rfl rfl (by omega) (by omega) ?_
        | refine XO.quo64 rfl rfl rfl rfl rfl (by omega) (by omega) (by omega) ?_
        | refine XO.rem64 rfl rfl rfl rfl rfl (by omega) (by omega) ?_
        | refine XO.p TT_ok rfl rfl rfl rfl ?_
        | refine XO.storeL TT_ok trivial rfl rfl rfl rfl rfl rfl rfl rfl rfl rfl trivial ?_
        | refine XO.ent Ent.front1 (XO.storeL TT_ok trivial rfl rfl rfl rfl rfl rfl rfl rfl rfl rfl trivial ?_)
        | refine XO.ent Ent.front2 (XO.storeL TT_ok trivial rfl rfl rfl rfl rfl rfl rfl rfl rfl rfl trivial ?_)
        | refine XO.ent Ent.front3 (XO.storeL TT_ok trivial rfl rfl rfl rfl rfl rfl rfl rfl rfl rfl trivial ?_)
        | refine XO.ent Ent.front4 (XO.storeL TT_ok trivial rfl rfl rfl rfl rfl rfl rfl rfl rfl rfl trivial ?_)
        | refine XO.ent Ent.front5 (XO.storeL TT_ok trivial rfl rfl rfl rfl rfl rfl rfl rfl rfl rfl trivial ?_)
        | refine XO.box trivial rfl rfl rfl rfl rfl (fun _ => trivial) (fun bb => ?_)
        | refine XO.alloc TT_ok trivial rfl rfl rfl rfl rfl (fun _ => trivial) (fun bb => ?_)
        | refine XO.build TT_ok rfl rfl rfl rfl rfl ?_
        | refine XO.lenSlice TT_ok rfl rfl rfl rfl rfl rfl ?_
        | refine XO.lenString TT_ok rfl rfl rfl rfl rfl rfl ?_
        | refine XO.indexStr TT_ok rfl rfl rfl rfl rfl rfl (by omega) (by omega) ?_
        | refine XO.indexAddr TT_ok rfl rfl rfl rfl rfl rfl rfl (by omega) (by omega) ?_
        | refine XO.addStr rfl rfl rfl rfl rfl (by omega) ?_
        | refine XO.buildSlice TT_ok trivial rfl rfl rfl rfl rfl rfl rfl rfl rfl rfl rfl rfl (fun _ => trivial) (fun bb => ?_)
        | refine XO.callF rfl rfl rfl (by kernel_rfl) rfl ?_)
      · exact XS.ret1 Try.func9 rfl Try.results9 rfl (Ent.refl _) rfl
      · exact absurd rfl hc
  · repeat' (first
      | refine XO.q TT_ok rfl rfl rfl rfl rfl ?_
      | refine XO.nil ?_
      | refine anchor_spec (fun H' => ?_)
      | refine right_spec (fun hr => absurd hr hR) (fun hnr => ?_)
      | refine XS.seq ?_
      | refine XS.region (T := TT) ?_
      | refine XS.draw (T := TT) follows_ok (by decide +kernel) ?_
      | refine XS.block ?_
      | refine XS.inBlock ?_
      | refine XS.exit rfl ?_
      | refine XS.condT rfl ?_
      | refine XS.condF rfl ?_
      | refine XS.skip ?_
      | refine XS.label ?_
      | refine XO.load TT_ok rfl rfl rfl rfl rfl rfl (Reads.here rfl) ?_
      | refine XO.load TT_ok rfl rfl rfl rfl rfl rfl (Reads.skip (Reads.here rfl)) ?_
      | refine XO.load TT_ok rfl rfl rfl rfl rfl rfl (Reads.skip (Reads.skip (Reads.here rfl))) ?_
      | refine XO.load TT_ok rfl rfl rfl rfl rfl rfl (Reads.skip (Reads.skip (Reads.skip (Reads.here rfl)))) ?_
      | refine XO.load TT_ok rfl rfl rfl rfl rfl rfl (Reads.skip (Reads.skip (Reads.skip (Reads.skip (Reads.here rfl))))) ?_
      | refine XO.load TT_ok rfl rfl rfl rfl rfl rfl (Reads.skip (Reads.skip (Reads.skip (Reads.skip (Reads.skip (Reads.here rfl)))))) ?_
      | refine XO.no rfl rfl ?_
      | (refine XO.cmpI TT_ok rfl rfl rfl rfl rfl rfl rfl (fun hc => ?_) (fun hc => ?_) <;> (try (exfalso; omega)))
      | refine XO.pT TT_ok rfl rfl rfl rfl rfl ?_
      | refine XO.pF TT_ok rfl rfl rfl rfl rfl ?_
      | refine XO.cmp TT_ok rfl rfl rfl rfl rfl (fun hc => ?_) (fun hc => ?_)
      | refine XO.add64 TT_ok rfl rfl rfl rfl rfl rfl (by omega) (by omega) ?_
      | refine XO.sub64 TT_ok rfl rfl rfl rfl rfl rfl (by omega) (by omega) ?_
      | refine XO.mul64 TT_ok rfl rfl rfl rfl rfl rfl (by omega) (by omega) ?_
      | refine XO.quo64 rfl rfl rfl rfl rfl (by omega) (by omega) (by omega) ?_
      | refine XO.rem64 rfl rfl rfl rfl rfl (by omega) (by omega) ?_
      | refine XO.p TT_ok rfl rfl rfl rfl ?_
      | refine XO.storeL TT_ok trivial rfl rfl rfl rfl rfl rfl rfl rfl rfl rfl trivial ?_
      | refine XO.ent Ent.front1 (XO.storeL TT_ok trivial rfl rfl rfl rfl rfl rfl rfl rfl rfl rfl trivial ?_)
      | refine XO.ent Ent.front2 (XO.storeL TT_ok trivial rfl rfl rfl rfl rfl rfl rfl rfl rfl rfl trivial ?_)
      | refine XO.ent Ent.front3 (XO.storeL TT_ok trivial rfl rfl rfl rfl rfl rfl rfl rfl rfl rfl trivial ?_)
      | refine XO.ent Ent.front4 (XO.storeL TT_ok trivial rfl rfl rfl rfl rfl rfl rfl rfl rfl rfl trivial ?_)
      | refine XO.ent Ent.front5 (XO.storeL TT_ok trivial rfl rfl rfl rfl rfl rfl rfl rfl rfl rfl trivial ?_)
      | refine XO.box trivial rfl rfl rfl rfl rfl (fun _ => trivial) (fun bb => ?_)
      | refine XO.alloc TT_ok trivial rfl rfl rfl rfl rfl (fun _ => trivial) (fun bb => ?_)
      | refine XO.build TT_ok rfl rfl rfl rfl rfl ?_
      | refine XO.lenSlice TT_ok rfl rfl rfl rfl rfl rfl ?_
      | refine XO.lenString TT_ok rfl rfl rfl rfl rfl rfl ?_
      | refine XO.indexStr TT_ok rfl rfl rfl rfl rfl rfl (by omega) (by omega) ?_
      | refine XO.indexAddr TT_ok rfl rfl rfl rfl rfl rfl rfl (by omega) (by omega) ?_
      | refine XO.addStr rfl rfl rfl rfl rfl (by omega) ?_
      | refine XO.buildSlice TT_ok trivial rfl rfl rfl rfl rfl rfl rfl rfl rfl rfl rfl rfl (fun _ => trivial) (fun bb => ?_)
      | refine XO.callF rfl rfl rfl (by kernel_rfl) rfl ?_)
    exact XS.ret1 Try.func9 rfl Try.results9 rfl (Ent.refl _) rfl
end Go.Proofs.Ytbpkoehgjhofaaa.He
