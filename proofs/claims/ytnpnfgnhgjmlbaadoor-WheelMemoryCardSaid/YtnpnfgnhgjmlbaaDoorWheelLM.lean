/- WheelMemory comes to true. Conditions: the table of the lowest bits lies in memory. -/
import Derived.Test.YtnpnfgnhgjmlbaaDoorWheelS
namespace Go.Proofs.YtnpnfgnhgjmlbaaDoor
open Go Go.Sx Go.WheelM
variable {w0 : World} {F H : List HProp} {K : Value → List HProp → Prop}
/-- The timers 0 to k - 1 at 5, 200 to 200 + k' - 1 at 9. -/
def MemT (k k' : Nat) (tm : Tm) : Prop := tm.length = k + k' ∧ ∀ j b, aget tm j = some b ↔ (∃ i : Nat, i < k ∧ j = i ∧ b = 5) ∨ (∃ i : Nat, i < k' ∧ j = 200 + (i : Int) ∧ b = 9)
theorem MemT.add1 {k : Nat} {tm : Tm} (hk : k < 100) (h : MemT k k tm) : aget tm (k : Int) = none ∧ MemT (k + 1) k (aset tm (k : Int) 5) := by
  have hn : aget tm (k : Int) = none := by
    cases e : aget tm (k : Int) with
    | none => rfl
    | some b => rcases (h.2 _ b).1 e with ⟨i, h1, h2, _⟩ | ⟨i, h1, h2, _⟩ <;> omega
  refine ⟨hn, by rw [len_set, hn, h.1]; simp; omega, fun j b => ?_⟩
  rw [aget_set]
  split
  · rename_i e
    constructor
    · intro q; injection q with q; exact .inl ⟨k, by omega, e, q.symm⟩
    · rintro (⟨i, h1, h2, h3⟩ | ⟨i, h1, h2, h3⟩)
      · rw [h3]
      · omega
  · rename_i e
    rw [h.2]
    constructor
    · rintro (⟨i, h1, h2, h3⟩ | q)
      · exact .inl ⟨i, by omega, h2, h3⟩
      · exact .inr q
    · rintro (⟨i, h1, h2, h3⟩ | q)
      · exact .inl ⟨i, by rcases Nat.lt_or_ge i k with g | g
                          · exact g
                          · exact absurd (by omega) e, h2, h3⟩
      · exact .inr q
theorem MemT.add2 {k : Nat} {tm : Tm} (h : MemT (k + 1) k tm) : aget tm (200 + (k : Int)) = none ∧ MemT (k + 1) (k + 1) (aset tm (200 + (k : Int)) 9) := by
  have hn : aget tm (200 + (k : Int)) = none := by
    cases e : aget tm (200 + (k : Int)) with
    | none => rfl
    | some b => rcases (h.2 _ b).1 e with ⟨i, h1, h2, _⟩ | ⟨i, h1, h2, _⟩ <;> omega
  refine ⟨hn, by rw [len_set, hn, h.1]; simp; omega, fun j b => ?_⟩
  rw [aget_set]
  split
  · rename_i e
    constructor
    · intro q; injection q with q; exact .inr ⟨k, by omega, e, q.symm⟩
    · rintro (⟨i, h1, h2, h3⟩ | ⟨i, h1, h2, h3⟩)
      · omega
      · rw [h3]
  · rename_i e
    rw [h.2]
    constructor
    · rintro (q | ⟨i, h1, h2, h3⟩)
      · exact .inl q
      · exact .inr ⟨i, by omega, h2, h3⟩
    · rintro (q | ⟨i, h1, h2, h3⟩)
      · exact .inl q
      · exact .inr ⟨i, by rcases Nat.lt_or_ge i k with g | g
                          · exact g
                          · exact absurd (by omega) e, h2, h3⟩
def rowT (c : Int) (v n : Nat) : List (Int × Nat) := (List.range' 0 n).map (fun i : Nat => (c + (i : Int), v))
theorem rowT_len (c : Int) (v n : Nat) : (rowT c v n).length = n := by simp [rowT]
theorem rowT_at {c : Int} {v n i : Nat} (h : i < n) : (rowT c v n)[i]? = some (c + (i : Int), v) := by
  rw [rowT, List.getElem?_map, List.getElem?_range' h]; simp
theorem mem_out1 {n : Nat} {tm : Tm} (hk : (tm.map (·.1)).Nodup) (h : MemT n n tm) {out rest} (hA : Adv 5 tm out rest) : out = rowT 0 5 n :=
  Adv.row (c := 0) (v := 5) (Nat.le_refl _) (n := n) n 0 (by omega) hA hk (fun j b hb => by
    rcases (h.2 j b).1 hb with ⟨i, h1, h2, h3⟩ | ⟨i, h1, h2, h3⟩
    · exact .inl ⟨i, Nat.zero_le _, h1, by omega, h3⟩
    · exact .inr (by omega)) (fun i _ hi => (h.2 _ _).2 (.inl ⟨i, hi, by omega, rfl⟩))
theorem mem_out2 {n : Nat} {tm r1 : Tm} (hk : (tm.map (·.1)).Nodup) (h : MemT n n tm) {o1} (hA1 : Adv 5 tm o1 r1) {out rest} (hA : Adv 9 r1 out rest) : out = rowT 200 9 n ∧ rest = [] := by
  obtain ⟨hk1, hg⟩ := hA1.rest_get hk
  refine ⟨Adv.row (c := 200) (v := 9) (Nat.le_refl _) (n := n) n 0 (by omega) hA hk1 (fun j b hb => ?_) (fun i _ hi => (hg _ _).2 ⟨(h.2 _ _).2 (.inr ⟨i, hi, rfl, rfl⟩), by omega⟩), hA.all (fun j b hb => ?_) hk1⟩
  · obtain ⟨q1, q2⟩ := (hg j b).1 hb
    rcases (h.2 j b).1 q1 with ⟨i, h1, h2, h3⟩ | ⟨i, h1, h2, h3⟩
    · omega
    · exact .inl ⟨i, Nat.zero_le _, h1, h2, h3⟩
  · obtain ⟨q1, q2⟩ := (hg j b).1 hb
    rcases (h.2 j b).1 q1 with ⟨i, h1, h2, h3⟩ | ⟨i, h1, h2, h3⟩ <;> omega
set_option maxHeartbeats 8000000 in
theorem wmemory (db : DB w0) {n' : Int} : Tri Tryd.prog 6 #[kI n'] w0 H (fun v _ => v = .bool true) := by
  refine Tri.enter Tryd.func6 rfl Tryd.ntmps6 rfl ?_
  by_cases hA : 1 ≤ n' ∧ n' ≤ 100
  · obtain ⟨n, rfl⟩ := Int.eq_ofNat_of_zero_le (show 0 ≤ n' by omega)
    have g5 : OkAt 0 ((5 : Nat) : Int) := by unfold OkAt; omega
    have g9 : OkAt 0 ((9 : Nat) : Int) := by unfold OkAt; omega
    have go : ∀ i : Nat, i < 100 → OkId (i : Int) := fun i hi => by unfold OkId; omega
    have go2 : ∀ i : Nat, i < 100 → OkId (200 + (i : Int)) := fun i hi => by unfold OkId; omega
    repeat' (first
      | refine XO.q TT_ok rfl rfl rfl rfl rfl ?_
      | refine XO.nil ?_
      | refine wanchor_spec db (fun H' => ?_)
      | refine wnew_spec (fun b => ?_)
      | refine XS.seq ?_
      | refine XS.region (T := TT) ?_
      | refine XS.draw (T := TT) follows_ok (by decide +kernel) ?_
      | refine XS.block ?_
      | refine XS.inBlock ?_
      | refine XS.exit rfl ?_
      | refine XS.condT rfl ?_
      | refine XS.condF rfl ?_
      | refine XS.skip ?_
      | refine XS.label ?_
      | refine XO.load TT_ok rfl rfl rfl rfl rfl rfl (Reads.here rfl) ?_
      | refine XO.load TT_ok rfl rfl rfl rfl rfl rfl (Reads.skip (Reads.here rfl)) ?_
      | refine XO.load TT_ok rfl rfl rfl rfl rfl rfl (Reads.skip (Reads.skip (Reads.here rfl))) ?_
      | refine XO.load TT_ok rfl rfl rfl rfl rfl rfl (Reads.skip (Reads.skip (Reads.skip (Reads.here rfl)))) ?_
      | refine XO.load TT_ok rfl rfl rfl rfl rfl rfl (Reads.skip (Reads.skip (Reads.skip (Reads.skip (Reads.here rfl))))) ?_
      | refine XO.load TT_ok rfl rfl rfl rfl rfl rfl (Reads.skip (Reads.skip (Reads.skip (Reads.skip (Reads.skip (Reads.here rfl)))))) ?_
      | refine XO.no rfl rfl ?_
      | (refine XO.cmpI TT_ok rfl rfl rfl rfl rfl rfl rfl (fun hc => ?_) (fun hc => ?_) <;> (try (exfalso; omega)))
      | refine XO.pT TT_ok rfl rfl rfl rfl rfl ?_
      | refine XO.pF TT_ok rfl rfl rfl rfl rfl ?_
      | refine XO.cmp TT_ok rfl rfl rfl rfl rfl (fun hc => ?_) (fun hc => ?_)
      | refine XO.add64 TT_ok rfl rfl rfl rfl rfl rfl (by omega) (by omega) ?_
      | refine XO.sub64 TT_ok rfl rfl rfl rfl rfl rfl (by omega) (by omega) ?_
      | refine XO.mul64 TT_ok rfl rfl rfl rfl rfl rfl (by omega) (by omega) ?_
      | refine XO.quo64 rfl rfl rfl rfl rfl (by omega) (by omega) (by omega) ?_
      | refine XO.rem64 rfl rfl rfl rfl rfl (by omega) (by omega) ?_
      | refine XO.p TT_ok rfl rfl rfl rfl ?_
      | refine XO.storeL TT_ok trivial rfl rfl rfl rfl rfl rfl rfl rfl rfl rfl trivial ?_
      | refine XO.ent Ent.front1 (XO.storeL TT_ok trivial rfl rfl rfl rfl rfl rfl rfl rfl rfl rfl trivial ?_)
      | refine XO.ent Ent.front2 (XO.storeL TT_ok trivial rfl rfl rfl rfl rfl rfl rfl rfl rfl rfl trivial ?_)
      | refine XO.ent Ent.front3 (XO.storeL TT_ok trivial rfl rfl rfl rfl rfl rfl rfl rfl rfl rfl trivial ?_)
      | refine XO.ent Ent.front4 (XO.storeL TT_ok trivial rfl rfl rfl rfl rfl rfl rfl rfl rfl rfl trivial ?_)
      | refine XO.ent Ent.front5 (XO.storeL TT_ok trivial rfl rfl rfl rfl rfl rfl rfl rfl rfl rfl trivial ?_)
      | refine XO.box trivial rfl rfl rfl rfl rfl (fun _ => trivial) (fun bb => ?_)
      | refine XO.alloc TT_ok trivial rfl rfl rfl rfl rfl (fun _ => trivial) (fun bb => ?_)
      | refine XO.build TT_ok rfl rfl rfl rfl rfl ?_
      | refine XO.lenSlice TT_ok rfl rfl rfl rfl rfl rfl ?_
      | refine XO.lenString TT_ok rfl rfl rfl rfl rfl rfl ?_
      | refine XO.indexStr TT_ok rfl rfl rfl rfl rfl rfl (by omega) (by omega) ?_
      | refine XO.indexAddr TT_ok rfl rfl rfl rfl rfl rfl rfl (by omega) (by omega) ?_
      | refine XO.addStr rfl rfl rfl rfl rfl (by omega) ?_
      | refine XO.buildSlice TT_ok trivial rfl rfl rfl rfl rfl rfl rfl rfl rfl rfl rfl rfl (fun _ => trivial) (fun bb => ?_)
      | refine XO.callF rfl rfl rfl (by kernel_rfl) rfl ?_)
    refine XS.loopI (ι := Nat × Tm) (fun x => [(0, kI n), (3, ptr b), (4, kI x.1)]) (fun x => wheelP b 0 x.2 [] :: H') (fun x => x.1 ≤ n ∧ MemT x.1 x.1 x.2) (fun x => n - x.1) (0, [])
      ⟨Nat.zero_le _, ⟨rfl, fun j b => ⟨fun h => (by cases h), fun h => by rcases h with ⟨i, h, _⟩ | ⟨i, h, _⟩ <;> exact absurd h (Nat.not_lt_zero _)⟩⟩⟩ ⟨rfl, rfl, rfl, trivial⟩ (Ent.refl _) ?_
    rintro ⟨k, tm⟩ e ⟨f1, f2⟩ ih
    simp only at f1 f2 ⊢
    by_cases hlt : k < n
    · have q1 := f2.add1 (by omega)
      have q2 := q1.2.add2
      have l1 := f2.1
      have l2 := q1.2.1
      repeat' (first
        | refine XO.q TT_ok rfl rfl rfl rfl rfl ?_
        | refine XO.nil ?_
        | refine set_new (a := 5) rfl q1.1 (by omega) (go k (by omega)) g5 ?_
        | refine set_new (a := 9) rfl q2.1 (by omega) (go2 k (by omega)) g9 ?_
        | refine XS.seq ?_
        | refine XS.region (T := TT) ?_
        | refine XS.draw (T := TT) follows_ok (by decide +kernel) ?_
        | refine XS.block ?_
        | refine XS.inBlock ?_
        | refine XS.exit rfl ?_
        | refine XS.condT rfl ?_
        | refine XS.condF rfl ?_
        | refine XS.skip ?_
        | refine XS.label ?_
        | refine XO.load TT_ok rfl rfl rfl rfl rfl rfl (Reads.here rfl) ?_
        | refine XO.load TT_ok rfl rfl rfl rfl rfl rfl (Reads.skip (Reads.here rfl)) ?_
        | refine XO.load TT_ok rfl rfl rfl rfl rfl rfl (Reads.skip (Reads.skip (Reads.here rfl))) ?_
        | refine XO.load TT_ok rfl rfl rfl rfl rfl rfl (Reads.skip (Reads.skip (Reads.skip (Reads.here rfl)))) ?_
        | refine XO.load TT_ok rfl rfl rfl rfl rfl rfl (Reads.skip (Reads.skip (Reads.skip (Reads.skip (Reads.here rfl))))) ?_
        | refine XO.load TT_ok rfl rfl rfl rfl rfl rfl (Reads.skip (Reads.skip (Reads.skip (Reads.skip (Reads.skip (Reads.here rfl)))))) ?_
        | refine XO.no rfl rfl ?_
        | (refine XO.cmpI TT_ok rfl rfl rfl rfl rfl rfl rfl (fun hc => ?_) (fun hc => ?_) <;> (try (exfalso; omega)))
        | refine XO.pT TT_ok rfl rfl rfl rfl rfl ?_
        | refine XO.pF TT_ok rfl rfl rfl rfl rfl ?_
        | refine XO.cmp TT_ok rfl rfl rfl rfl rfl (fun hc => ?_) (fun hc => ?_)
        | refine XO.add64 TT_ok rfl rfl rfl rfl rfl rfl (by omega) (by omega) ?_
        | refine XO.sub64 TT_ok rfl rfl rfl rfl rfl rfl (by omega) (by omega) ?_
        | refine XO.mul64 TT_ok rfl rfl rfl rfl rfl rfl (by omega) (by omega) ?_
        | refine XO.quo64 rfl rfl rfl rfl rfl (by omega) (by omega) (by omega) ?_
        | refine XO.rem64 rfl rfl rfl rfl rfl (by omega) (by omega) ?_
        | refine XO.p TT_ok rfl rfl rfl rfl ?_
        | refine XO.storeL TT_ok trivial rfl rfl rfl rfl rfl rfl rfl rfl rfl rfl trivial ?_
        | refine XO.ent Ent.front1 (XO.storeL TT_ok trivial rfl rfl rfl rfl rfl rfl rfl rfl rfl rfl trivial ?_)
        | refine XO.ent Ent.front2 (XO.storeL TT_ok trivial rfl rfl rfl rfl rfl rfl rfl rfl rfl rfl trivial ?_)
        | refine XO.ent Ent.front3 (XO.storeL TT_ok trivial rfl rfl rfl rfl rfl rfl rfl rfl rfl rfl trivial ?_)
        | refine XO.ent Ent.front4 (XO.storeL TT_ok trivial rfl rfl rfl rfl rfl rfl rfl rfl rfl rfl trivial ?_)
        | refine XO.ent Ent.front5 (XO.storeL TT_ok trivial rfl rfl rfl rfl rfl rfl rfl rfl rfl rfl trivial ?_)
        | refine XO.box trivial rfl rfl rfl rfl rfl (fun _ => trivial) (fun bb => ?_)
        | refine XO.alloc TT_ok trivial rfl rfl rfl rfl rfl (fun _ => trivial) (fun bb => ?_)
        | refine XO.build TT_ok rfl rfl rfl rfl rfl ?_
        | refine XO.lenSlice TT_ok rfl rfl rfl rfl rfl rfl ?_
        | refine XO.lenString TT_ok rfl rfl rfl rfl rfl rfl ?_
        | refine XO.indexStr TT_ok rfl rfl rfl rfl rfl rfl (by omega) (by omega) ?_
        | refine XO.indexAddr TT_ok rfl rfl rfl rfl rfl rfl rfl (by omega) (by omega) ?_
        | refine XO.addStr rfl rfl rfl rfl rfl (by omega) ?_
        | refine XO.buildSlice TT_ok trivial rfl rfl rfl rfl rfl rfl rfl rfl rfl rfl rfl rfl (fun _ => trivial) (fun bb => ?_)
        | refine XO.callF rfl rfl rfl (by kernel_rfl) rfl ?_)
      exact ih (k + 1, _) _ _ ⟨by dsimp only; omega, q2.2⟩ (by dsimp only; omega) ⟨rfl, rfl, rfl, trivial⟩ (Ent.refl _)
    · obtain rfl : k = n := by omega
      clear ih
      refine XS.winv (fun fc => ?_)
      have hl := f2.1
      have hpos : 0 < k := by omega
      have hlr1 : ∀ {out rest}, Adv 5 tm out rest → rest.length ≤ 4096 := fun hA => by have := hA.len; omega
      repeat' (first
        | refine XO.q TT_ok rfl rfl rfl rfl rfl ?_
        | refine XO.nil ?_
        | refine adv_good db (to := 5) (by omega) (by omega) (by omega) (fun xa ca out rest hA1 => ?_)
        | (refine Tri.ent Ent.front1 (adv_good db (to := 9) (hlr1 hA1) (by omega) (by omega) (fun xb cb out2 rest2 hA2 => ?_)); have e1 := mem_out1 fc.keys f2 hA1; obtain ⟨e2, e3⟩ := mem_out2 fc.keys f2 hA1 hA2; subst e1; subst e2; subst e3; rw [rowT_len, rowT_len])
        | refine XS.seq ?_
        | refine XS.region (T := TT) ?_
        | refine XS.draw (T := TT) follows_ok (by decide +kernel) ?_
        | refine XS.block ?_
        | refine XS.inBlock ?_
        | refine XS.exit rfl ?_
        | refine XS.condT rfl ?_
        | refine XS.condF rfl ?_
        | refine XS.skip ?_
        | refine XS.label ?_
        | refine XO.load TT_ok rfl rfl rfl rfl rfl rfl (Reads.here rfl) ?_
        | refine XO.load TT_ok rfl rfl rfl rfl rfl rfl (Reads.skip (Reads.here rfl)) ?_
        | refine XO.load TT_ok rfl rfl rfl rfl rfl rfl (Reads.skip (Reads.skip (Reads.here rfl))) ?_
        | refine XO.load TT_ok rfl rfl rfl rfl rfl rfl (Reads.skip (Reads.skip (Reads.skip (Reads.here rfl)))) ?_
        | refine XO.load TT_ok rfl rfl rfl rfl rfl rfl (Reads.skip (Reads.skip (Reads.skip (Reads.skip (Reads.here rfl))))) ?_
        | refine XO.load TT_ok rfl rfl rfl rfl rfl rfl (Reads.skip (Reads.skip (Reads.skip (Reads.skip (Reads.skip (Reads.here rfl)))))) ?_
        | refine XO.no rfl rfl ?_
        | (refine XO.cmpI TT_ok rfl rfl rfl rfl rfl rfl rfl (fun hc => ?_) (fun hc => ?_) <;> (try (exfalso; omega)))
        | refine XO.pT TT_ok rfl rfl rfl rfl rfl ?_
        | refine XO.pF TT_ok rfl rfl rfl rfl rfl ?_
        | refine XO.cmp TT_ok rfl rfl rfl rfl rfl (fun hc => ?_) (fun hc => ?_)
        | refine XO.add64 TT_ok rfl rfl rfl rfl rfl rfl (by omega) (by omega) ?_
        | refine XO.sub64 TT_ok rfl rfl rfl rfl rfl rfl (by omega) (by omega) ?_
        | refine XO.mul64 TT_ok rfl rfl rfl rfl rfl rfl (by omega) (by omega) ?_
        | refine XO.quo64 rfl rfl rfl rfl rfl (by omega) (by omega) (by omega) ?_
        | refine XO.rem64 rfl rfl rfl rfl rfl (by omega) (by omega) ?_
        | refine XO.p TT_ok rfl rfl rfl rfl ?_
        | refine XO.storeL TT_ok trivial rfl rfl rfl rfl rfl rfl rfl rfl rfl rfl trivial ?_
        | refine XO.ent Ent.front1 (XO.storeL TT_ok trivial rfl rfl rfl rfl rfl rfl rfl rfl rfl rfl trivial ?_)
        | refine XO.ent Ent.front2 (XO.storeL TT_ok trivial rfl rfl rfl rfl rfl rfl rfl rfl rfl rfl trivial ?_)
        | refine XO.ent Ent.front3 (XO.storeL TT_ok trivial rfl rfl rfl rfl rfl rfl rfl rfl rfl rfl trivial ?_)
        | refine XO.ent Ent.front4 (XO.storeL TT_ok trivial rfl rfl rfl rfl rfl rfl rfl rfl rfl rfl trivial ?_)
        | refine XO.ent Ent.front5 (XO.storeL TT_ok trivial rfl rfl rfl rfl rfl rfl rfl rfl rfl rfl trivial ?_)
        | refine XO.box trivial rfl rfl rfl rfl rfl (fun _ => trivial) (fun bb => ?_)
        | refine XO.alloc TT_ok trivial rfl rfl rfl rfl rfl (fun _ => trivial) (fun bb => ?_)
        | refine XO.build TT_ok rfl rfl rfl rfl rfl ?_
        | refine XO.lenSlice TT_ok rfl rfl rfl rfl rfl rfl ?_
        | refine XO.lenString TT_ok rfl rfl rfl rfl rfl rfl ?_
        | refine XO.indexStr TT_ok rfl rfl rfl rfl rfl rfl (by omega) (by omega) ?_
        | refine XO.indexAddr TT_ok rfl rfl rfl rfl rfl rfl rfl (by omega) (by omega) ?_
        | refine XO.addStr rfl rfl rfl rfl rfl (by omega) ?_
        | refine XO.buildSlice TT_ok trivial rfl rfl rfl rfl rfl rfl rfl rfl rfl rfl rfl rfl (fun _ => trivial) (fun bb => ?_)
        | refine XO.callF rfl rfl rfl (by kernel_rfl) rfl ?_)
      refine XS.ent Ent.front2 (XS.rowOpen hpos (fun ga hga => ?_))
      subst hga
      refine XS.ent Ent.front1 (XS.rowOpen hpos (fun gb hgb => ?_))
      subst hgb
      refine XS.ent Ent.front1 ?_
      refine XS.loopI (ι := Nat × List (Int × Nat)) (fun x => [(3, ptr b), (5, .slice (some ⟨ga, 0, none⟩) k ca), (7, .slice (some ⟨gb, 0, none⟩) k cb), (60, kI k), (61, kI x.1)]) (fun x => RowAt ga ca 33 2 k (flat tenc x.2) :: RowAt gb cb 33 2 k (flat tenc (rowT 200 9 k)) :: wheelP b 9 [] [] :: H')
        (fun x => x.1 ≤ k ∧ x.2.length = k ∧ ∀ j : Nat, j < x.1 → x.2[j]? = some (-1, 0)) (fun x => k - x.1) (0, rowT 0 5 k) ⟨Nat.zero_le _, rowT_len _ _ _, fun j hj => absurd hj (Nat.not_lt_zero _)⟩ ⟨rfl, rfl, rfl, rfl, rfl, trivial⟩ (Ent.refl _) ?_
      rintro ⟨i, la⟩ e ⟨h1, h2, h3⟩ ih
      simp only at h1 h2 h3 ⊢
      by_cases hi : i < k
      · repeat' (first
          | refine XO.q TT_ok rfl rfl rfl rfl rfl ?_
          | refine XO.nil ?_
          | refine XO.indexOwn TT_ok rfl rfl rfl rfl rfl rfl rfl hi ?_
          | refine XO.storeRowE (-1, 0) tenc_len (show i < la.length by omega) TT_ok trivial rfl rfl rfl rfl rfl rfl rfl rfl trivial ?_
          | refine XS.seq ?_
          | refine XS.region (T := TT) ?_
          | refine XS.draw (T := TT) follows_ok (by decide +kernel) ?_
          | refine XS.block ?_
          | refine XS.inBlock ?_
          | refine XS.exit rfl ?_
          | refine XS.condT rfl ?_
          | refine XS.condF rfl ?_
          | refine XS.skip ?_
          | refine XS.label ?_
          | refine XO.load TT_ok rfl rfl rfl rfl rfl rfl (Reads.here rfl) ?_
          | refine XO.load TT_ok rfl rfl rfl rfl rfl rfl (Reads.skip (Reads.here rfl)) ?_
          | refine XO.load TT_ok rfl rfl rfl rfl rfl rfl (Reads.skip (Reads.skip (Reads.here rfl))) ?_
          | refine XO.load TT_ok rfl rfl rfl rfl rfl rfl (Reads.skip (Reads.skip (Reads.skip (Reads.here rfl)))) ?_
          | refine XO.load TT_ok rfl rfl rfl rfl rfl rfl (Reads.skip (Reads.skip (Reads.skip (Reads.skip (Reads.here rfl))))) ?_
          | refine XO.load TT_ok rfl rfl rfl rfl rfl rfl (Reads.skip (Reads.skip (Reads.skip (Reads.skip (Reads.skip (Reads.here rfl)))))) ?_
          | refine XO.no rfl rfl ?_
          | (refine XO.cmpI TT_ok rfl rfl rfl rfl rfl rfl rfl (fun hc => ?_) (fun hc => ?_) <;> (try (exfalso; omega)))
          | refine XO.pT TT_ok rfl rfl rfl rfl rfl ?_
          | refine XO.pF TT_ok rfl rfl rfl rfl rfl ?_
          | refine XO.cmp TT_ok rfl rfl rfl rfl rfl (fun hc => ?_) (fun hc => ?_)
          | refine XO.add64 TT_ok rfl rfl rfl rfl rfl rfl (by omega) (by omega) ?_
          | refine XO.sub64 TT_ok rfl rfl rfl rfl rfl rfl (by omega) (by omega) ?_
          | refine XO.mul64 TT_ok rfl rfl rfl rfl rfl rfl (by omega) (by omega) ?_
          | refine XO.quo64 rfl rfl rfl rfl rfl (by omega) (by omega) (by omega) ?_
          | refine XO.rem64 rfl rfl rfl rfl rfl (by omega) (by omega) ?_
          | refine XO.p TT_ok rfl rfl rfl rfl ?_
          | refine XO.storeL TT_ok trivial rfl rfl rfl rfl rfl rfl rfl rfl rfl rfl trivial ?_
          | refine XO.ent Ent.front1 (XO.storeL TT_ok trivial rfl rfl rfl rfl rfl rfl rfl rfl rfl rfl trivial ?_)
          | refine XO.ent Ent.front2 (XO.storeL TT_ok trivial rfl rfl rfl rfl rfl rfl rfl rfl rfl rfl trivial ?_)
          | refine XO.ent Ent.front3 (XO.storeL TT_ok trivial rfl rfl rfl rfl rfl rfl rfl rfl rfl rfl trivial ?_)
          | refine XO.ent Ent.front4 (XO.storeL TT_ok trivial rfl rfl rfl rfl rfl rfl rfl rfl rfl rfl trivial ?_)
          | refine XO.ent Ent.front5 (XO.storeL TT_ok trivial rfl rfl rfl rfl rfl rfl rfl rfl rfl rfl trivial ?_)
          | refine XO.box trivial rfl rfl rfl rfl rfl (fun _ => trivial) (fun bb => ?_)
          | refine XO.alloc TT_ok trivial rfl rfl rfl rfl rfl (fun _ => trivial) (fun bb => ?_)
          | refine XO.build TT_ok rfl rfl rfl rfl rfl ?_
          | refine XO.lenSlice TT_ok rfl rfl rfl rfl rfl rfl ?_
          | refine XO.lenString TT_ok rfl rfl rfl rfl rfl rfl ?_
          | refine XO.indexStr TT_ok rfl rfl rfl rfl rfl rfl (by omega) (by omega) ?_
          | refine XO.indexAddr TT_ok rfl rfl rfl rfl rfl rfl rfl (by omega) (by omega) ?_
          | refine XO.addStr rfl rfl rfl rfl rfl (by omega) ?_
          | refine XO.buildSlice TT_ok trivial rfl rfl rfl rfl rfl rfl rfl rfl rfl rfl rfl rfl (fun _ => trivial) (fun bb => ?_)
          | refine XO.callF rfl rfl rfl (by kernel_rfl) rfl ?_)
        exact ih (i + 1, la.set i (-1, 0)) _ _ ⟨by dsimp only; omega, by dsimp only; rw [List.length_set]; exact h2, fun j hj => by
          dsimp only
          rw [List.getElem?_set]
          split
          · rename_i e; rw [if_pos (by omega)]
          · exact h3 j (by dsimp only at hj; omega)⟩ (by dsimp only; omega) ⟨rfl, rfl, rfl, rfl, rfl, trivial⟩ (Ent.refl _)
      · obtain rfl : i = k := by omega
        clear ih
        repeat' (first
          | refine XO.q TT_ok rfl rfl rfl rfl rfl ?_
          | refine XO.nil ?_
          | refine XO.ent (Ent.trans Ent.front1 Row.of_at) (XO.append (m := 2) (N := 8192) TT_ok trivial rfl rfl rfl rfl rfl rfl rfl rfl rfl rfl rfl (ReadsL.skip (ReadsL.here 4)) rfl (by decide) rfl (by omega) rfl rfl (fun _ _ => trivial) (fun a' cap' => ?_))
          | refine XS.seq ?_
          | refine XS.region (T := TT) ?_
          | refine XS.draw (T := TT) follows_ok (by decide +kernel) ?_
          | refine XS.block ?_
          | refine XS.inBlock ?_
          | refine XS.exit rfl ?_
          | refine XS.condT rfl ?_
          | refine XS.condF rfl ?_
          | refine XS.skip ?_
          | refine XS.label ?_
          | refine XO.load TT_ok rfl rfl rfl rfl rfl rfl (Reads.here rfl) ?_
          | refine XO.load TT_ok rfl rfl rfl rfl rfl rfl (Reads.skip (Reads.here rfl)) ?_
          | refine XO.load TT_ok rfl rfl rfl rfl rfl rfl (Reads.skip (Reads.skip (Reads.here rfl))) ?_
          | refine XO.load TT_ok rfl rfl rfl rfl rfl rfl (Reads.skip (Reads.skip (Reads.skip (Reads.here rfl)))) ?_
          | refine XO.load TT_ok rfl rfl rfl rfl rfl rfl (Reads.skip (Reads.skip (Reads.skip (Reads.skip (Reads.here rfl))))) ?_
          | refine XO.load TT_ok rfl rfl rfl rfl rfl rfl (Reads.skip (Reads.skip (Reads.skip (Reads.skip (Reads.skip (Reads.here rfl)))))) ?_
          | refine XO.no rfl rfl ?_
          | (refine XO.cmpI TT_ok rfl rfl rfl rfl rfl rfl rfl (fun hc => ?_) (fun hc => ?_) <;> (try (exfalso; omega)))
          | refine XO.pT TT_ok rfl rfl rfl rfl rfl ?_
          | refine XO.pF TT_ok rfl rfl rfl rfl rfl ?_
          | refine XO.cmp TT_ok rfl rfl rfl rfl rfl (fun hc => ?_) (fun hc => ?_)
          | refine XO.add64 TT_ok rfl rfl rfl rfl rfl rfl (by omega) (by omega) ?_
          | refine XO.sub64 TT_ok rfl rfl rfl rfl rfl rfl (by omega) (by omega) ?_
          | refine XO.mul64 TT_ok rfl rfl rfl rfl rfl rfl (by omega) (by omega) ?_
          | refine XO.quo64 rfl rfl rfl rfl rfl (by omega) (by omega) (by omega) ?_
          | refine XO.rem64 rfl rfl rfl rfl rfl (by omega) (by omega) ?_
          | refine XO.p TT_ok rfl rfl rfl rfl ?_
          | refine XO.storeL TT_ok trivial rfl rfl rfl rfl rfl rfl rfl rfl rfl rfl trivial ?_
          | refine XO.ent Ent.front1 (XO.storeL TT_ok trivial rfl rfl rfl rfl rfl rfl rfl rfl rfl rfl trivial ?_)
          | refine XO.ent Ent.front2 (XO.storeL TT_ok trivial rfl rfl rfl rfl rfl rfl rfl rfl rfl rfl trivial ?_)
          | refine XO.ent Ent.front3 (XO.storeL TT_ok trivial rfl rfl rfl rfl rfl rfl rfl rfl rfl rfl trivial ?_)
          | refine XO.ent Ent.front4 (XO.storeL TT_ok trivial rfl rfl rfl rfl rfl rfl rfl rfl rfl rfl trivial ?_)
          | refine XO.ent Ent.front5 (XO.storeL TT_ok trivial rfl rfl rfl rfl rfl rfl rfl rfl rfl rfl trivial ?_)
          | refine XO.box trivial rfl rfl rfl rfl rfl (fun _ => trivial) (fun bb => ?_)
          | refine XO.alloc TT_ok trivial rfl rfl rfl rfl rfl (fun _ => trivial) (fun bb => ?_)
          | refine XO.build TT_ok rfl rfl rfl rfl rfl ?_
          | refine XO.lenSlice TT_ok rfl rfl rfl rfl rfl rfl ?_
          | refine XO.lenString TT_ok rfl rfl rfl rfl rfl rfl ?_
          | refine XO.indexStr TT_ok rfl rfl rfl rfl rfl rfl (by omega) (by omega) ?_
          | refine XO.indexAddr TT_ok rfl rfl rfl rfl rfl rfl rfl (by omega) (by omega) ?_
          | refine XO.addStr rfl rfl rfl rfl rfl (by omega) ?_
          | refine XO.buildSlice TT_ok trivial rfl rfl rfl rfl rfl rfl rfl rfl rfl rfl rfl rfl (fun _ => trivial) (fun bb => ?_)
          | refine XO.callF rfl rfl rfl (by kernel_rfl) rfl ?_)
        refine XS.ent (H' := Row a' cap' 33 2 (i + 2) (flat tenc (la ++ [(-2, 0), (-2, 0)])) :: RowAt gb cb 33 2 i (flat tenc (rowT 200 9 i)) :: wheelP b 9 [] [] :: H') (by rw [flat_append]; exact Ent.cons _ (Ent.drop _ _)) (XS.rowOpen (by omega) (fun gc hgc => ?_))
        subst hgc
        have hc : ∀ j : Nat, j < i → (la ++ [((-2 : Int), (0 : Nat)), (-2, 0)])[j]? = some (-1, 0) := fun j hj => by rw [List.getElem?_append_left (by omega)]; exact h3 j hj
        generalize la ++ [((-2 : Int), (0 : Nat)), (-2, 0)] = lc at hc ⊢
        refine XS.loopI (ι := Nat) (fun j => [(3, ptr b), (7, .slice (some ⟨gb, 0, none⟩) i cb), (10, .slice (some ⟨gc, 0, none⟩) (i + 2) cap'), (75, kI i), (76, kI j)]) (fun _ => RowAt gc cap' 33 2 (i + 2) (flat tenc lc) :: RowAt gb cb 33 2 i (flat tenc (rowT 200 9 i)) :: wheelP b 9 [] [] :: H')
          (fun j => j ≤ i) (fun j => i - j) 0 (Nat.zero_le _) ⟨rfl, rfl, rfl, rfl, rfl, trivial⟩ (Ent.refl _) ?_
        intro j e hj ih
        by_cases hji : j < i
        · have hcj := hc j hji
          have hbj := rowT_at (c := 200) (v := 9) hji
          repeat' (first
            | refine XO.q TT_ok rfl rfl rfl rfl rfl ?_
            | refine XO.nil ?_
            | refine XO.indexOwn TT_ok rfl rfl rfl rfl rfl rfl rfl hji ?_
            | refine XO.indexOwn TT_ok rfl rfl rfl rfl rfl rfl rfl (show j < i + 2 by omega) ?_
            | refine XO.load TT_ok rfl rfl rfl rfl rfl rfl (Reads.rowFlat tenc_len (j := 0) hcj rfl) ?_
            | refine XO.load TT_ok rfl rfl rfl rfl rfl rfl (Reads.skip (Reads.rowFlat tenc_len (j := 0) hbj rfl)) ?_
            | refine XS.seq ?_
            | refine XS.region (T := TT) ?_
            | refine XS.draw (T := TT) follows_ok (by decide +kernel) ?_
            | refine XS.block ?_
            | refine XS.inBlock ?_
            | refine XS.exit rfl ?_
            | refine XS.condT rfl ?_
            | refine XS.condF rfl ?_
            | refine XS.skip ?_
            | refine XS.label ?_
            | refine XO.load TT_ok rfl rfl rfl rfl rfl rfl (Reads.here rfl) ?_
            | refine XO.load TT_ok rfl rfl rfl rfl rfl rfl (Reads.skip (Reads.here rfl)) ?_
            | refine XO.load TT_ok rfl rfl rfl rfl rfl rfl (Reads.skip (Reads.skip (Reads.here rfl))) ?_
            | refine XO.load TT_ok rfl rfl rfl rfl rfl rfl (Reads.skip (Reads.skip (Reads.skip (Reads.here rfl)))) ?_
            | refine XO.load TT_ok rfl rfl rfl rfl rfl rfl (Reads.skip (Reads.skip (Reads.skip (Reads.skip (Reads.here rfl))))) ?_
            | refine XO.load TT_ok rfl rfl rfl rfl rfl rfl (Reads.skip (Reads.skip (Reads.skip (Reads.skip (Reads.skip (Reads.here rfl)))))) ?_
            | refine XO.no rfl rfl ?_
            | (refine XO.cmpI TT_ok rfl rfl rfl rfl rfl rfl rfl (fun hc => ?_) (fun hc => ?_) <;> (try (exfalso; omega)))
            | refine XO.pT TT_ok rfl rfl rfl rfl rfl ?_
            | refine XO.pF TT_ok rfl rfl rfl rfl rfl ?_
            | refine XO.cmp TT_ok rfl rfl rfl rfl rfl (fun hc => ?_) (fun hc => ?_)
            | refine XO.add64 TT_ok rfl rfl rfl rfl rfl rfl (by omega) (by omega) ?_
            | refine XO.sub64 TT_ok rfl rfl rfl rfl rfl rfl (by omega) (by omega) ?_
            | refine XO.mul64 TT_ok rfl rfl rfl rfl rfl rfl (by omega) (by omega) ?_
            | refine XO.quo64 rfl rfl rfl rfl rfl (by omega) (by omega) (by omega) ?_
            | refine XO.rem64 rfl rfl rfl rfl rfl (by omega) (by omega) ?_
            | refine XO.p TT_ok rfl rfl rfl rfl ?_
            | refine XO.storeL TT_ok trivial rfl rfl rfl rfl rfl rfl rfl rfl rfl rfl trivial ?_
            | refine XO.ent Ent.front1 (XO.storeL TT_ok trivial rfl rfl rfl rfl rfl rfl rfl rfl rfl rfl trivial ?_)
            | refine XO.ent Ent.front2 (XO.storeL TT_ok trivial rfl rfl rfl rfl rfl rfl rfl rfl rfl rfl trivial ?_)
            | refine XO.ent Ent.front3 (XO.storeL TT_ok trivial rfl rfl rfl rfl rfl rfl rfl rfl rfl rfl trivial ?_)
            | refine XO.ent Ent.front4 (XO.storeL TT_ok trivial rfl rfl rfl rfl rfl rfl rfl rfl rfl rfl trivial ?_)
            | refine XO.ent Ent.front5 (XO.storeL TT_ok trivial rfl rfl rfl rfl rfl rfl rfl rfl rfl rfl trivial ?_)
            | refine XO.box trivial rfl rfl rfl rfl rfl (fun _ => trivial) (fun bb => ?_)
            | refine XO.alloc TT_ok trivial rfl rfl rfl rfl rfl (fun _ => trivial) (fun bb => ?_)
            | refine XO.build TT_ok rfl rfl rfl rfl rfl ?_
            | refine XO.lenSlice TT_ok rfl rfl rfl rfl rfl rfl ?_
            | refine XO.lenString TT_ok rfl rfl rfl rfl rfl rfl ?_
            | refine XO.indexStr TT_ok rfl rfl rfl rfl rfl rfl (by omega) (by omega) ?_
            | refine XO.indexAddr TT_ok rfl rfl rfl rfl rfl rfl rfl (by omega) (by omega) ?_
            | refine XO.addStr rfl rfl rfl rfl rfl (by omega) ?_
            | refine XO.buildSlice TT_ok trivial rfl rfl rfl rfl rfl rfl rfl rfl rfl rfl rfl rfl (fun _ => trivial) (fun bb => ?_)
            | refine XO.callF rfl rfl rfl (by kernel_rfl) rfl ?_)
          all_goals exact ih (j + 1) _ _ (by omega) (by omega) ⟨rfl, rfl, rfl, rfl, rfl, trivial⟩ (Ent.refl _)
        · repeat' (first
            | refine XO.q TT_ok rfl rfl rfl rfl rfl ?_
            | refine XO.nil ?_
            | refine len_at 0 rfl ?_
            | refine Tri.ent Ent.front1 (len_at 0 rfl ?_)
            | refine Tri.ent Ent.front2 (len_at 0 rfl ?_)
            | refine Tri.ent Ent.front3 (len_at 0 rfl ?_)
            | refine Tri.ent Ent.front4 (len_at 0 rfl ?_)
            | refine XS.seq ?_
            | refine XS.region (T := TT) ?_
            | refine XS.draw (T := TT) follows_ok (by decide +kernel) ?_
            | refine XS.block ?_
            | refine XS.inBlock ?_
            | refine XS.exit rfl ?_
            | refine XS.condT rfl ?_
            | refine XS.condF rfl ?_
            | refine XS.skip ?_
            | refine XS.label ?_
            | refine XO.load TT_ok rfl rfl rfl rfl rfl rfl (Reads.here rfl) ?_
            | refine XO.load TT_ok rfl rfl rfl rfl rfl rfl (Reads.skip (Reads.here rfl)) ?_
            | refine XO.load TT_ok rfl rfl rfl rfl rfl rfl (Reads.skip (Reads.skip (Reads.here rfl))) ?_
            | refine XO.load TT_ok rfl rfl rfl rfl rfl rfl (Reads.skip (Reads.skip (Reads.skip (Reads.here rfl)))) ?_
            | refine XO.load TT_ok rfl rfl rfl rfl rfl rfl (Reads.skip (Reads.skip (Reads.skip (Reads.skip (Reads.here rfl))))) ?_
            | refine XO.load TT_ok rfl rfl rfl rfl rfl rfl (Reads.skip (Reads.skip (Reads.skip (Reads.skip (Reads.skip (Reads.here rfl)))))) ?_
            | refine XO.no rfl rfl ?_
            | (refine XO.cmpI TT_ok rfl rfl rfl rfl rfl rfl rfl (fun hc => ?_) (fun hc => ?_) <;> (try (exfalso; omega)))
            | refine XO.pT TT_ok rfl rfl rfl rfl rfl ?_
            | refine XO.pF TT_ok rfl rfl rfl rfl rfl ?_
            | refine XO.cmp TT_ok rfl rfl rfl rfl rfl (fun hc => ?_) (fun hc => ?_)
            | refine XO.add64 TT_ok rfl rfl rfl rfl rfl rfl (by omega) (by omega) ?_
            | refine XO.sub64 TT_ok rfl rfl rfl rfl rfl rfl (by omega) (by omega) ?_
            | refine XO.mul64 TT_ok rfl rfl rfl rfl rfl rfl (by omega) (by omega) ?_
            | refine XO.quo64 rfl rfl rfl rfl rfl (by omega) (by omega) (by omega) ?_
            | refine XO.rem64 rfl rfl rfl rfl rfl (by omega) (by omega) ?_
            | refine XO.p TT_ok rfl rfl rfl rfl ?_
            | refine XO.storeL TT_ok trivial rfl rfl rfl rfl rfl rfl rfl rfl rfl rfl trivial ?_
            | refine XO.ent Ent.front1 (XO.storeL TT_ok trivial rfl rfl rfl rfl rfl rfl rfl rfl rfl rfl trivial ?_)
            | refine XO.ent Ent.front2 (XO.storeL TT_ok trivial rfl rfl rfl rfl rfl rfl rfl rfl rfl rfl trivial ?_)
            | refine XO.ent Ent.front3 (XO.storeL TT_ok trivial rfl rfl rfl rfl rfl rfl rfl rfl rfl rfl trivial ?_)
            | refine XO.ent Ent.front4 (XO.storeL TT_ok trivial rfl rfl rfl rfl rfl rfl rfl rfl rfl rfl trivial ?_)
            | refine XO.ent Ent.front5 (XO.storeL TT_ok trivial rfl rfl rfl rfl rfl rfl rfl rfl rfl rfl trivial ?_)
            | refine XO.box trivial rfl rfl rfl rfl rfl (fun _ => trivial) (fun bb => ?_)
            | refine XO.alloc TT_ok trivial rfl rfl rfl rfl rfl (fun _ => trivial) (fun bb => ?_)
            | refine XO.build TT_ok rfl rfl rfl rfl rfl ?_
            | refine XO.lenSlice TT_ok rfl rfl rfl rfl rfl rfl ?_
            | refine XO.lenString TT_ok rfl rfl rfl rfl rfl rfl ?_
            | refine XO.indexStr TT_ok rfl rfl rfl rfl rfl rfl (by omega) (by omega) ?_
            | refine XO.indexAddr TT_ok rfl rfl rfl rfl rfl rfl rfl (by omega) (by omega) ?_
            | refine XO.addStr rfl rfl rfl rfl rfl (by omega) ?_
            | refine XO.buildSlice TT_ok trivial rfl rfl rfl rfl rfl rfl rfl rfl rfl rfl rfl rfl (fun _ => trivial) (fun bb => ?_)
            | refine XO.callF rfl rfl rfl (by kernel_rfl) rfl ?_)
          all_goals exact XS.ret1 Tryd.func6 rfl Tryd.results6 rfl (Ent.refl _) rfl
  · repeat' (first
      | refine XO.q TT_ok rfl rfl rfl rfl rfl ?_
      | refine XO.nil ?_
      | refine wanchor_spec db (fun H' => ?_)
      | refine XS.seq ?_
      | refine XS.region (T := TT) ?_
      | refine XS.draw (T := TT) follows_ok (by decide +kernel) ?_
      | refine XS.block ?_
      | refine XS.inBlock ?_
      | refine XS.exit rfl ?_
      | refine XS.condT rfl ?_
      | refine XS.condF rfl ?_
      | refine XS.skip ?_
      | refine XS.label ?_
      | refine XO.load TT_ok rfl rfl rfl rfl rfl rfl (Reads.here rfl) ?_
      | refine XO.load TT_ok rfl rfl rfl rfl rfl rfl (Reads.skip (Reads.here rfl)) ?_
      | refine XO.load TT_ok rfl rfl rfl rfl rfl rfl (Reads.skip (Reads.skip (Reads.here rfl))) ?_
      | refine XO.load TT_ok rfl rfl rfl rfl rfl rfl (Reads.skip (Reads.skip (Reads.skip (Reads.here rfl)))) ?_
      | refine XO.load TT_ok rfl rfl rfl rfl rfl rfl (Reads.skip (Reads.skip (Reads.skip (Reads.skip (Reads.here rfl))))) ?_
      | refine XO.load TT_ok rfl rfl rfl rfl rfl rfl (Reads.skip (Reads.skip (Reads.skip (Reads.skip (Reads.skip (Reads.here rfl)))))) ?_
      | refine XO.no rfl rfl ?_
      | (refine XO.cmpI TT_ok rfl rfl rfl rfl rfl rfl rfl (fun hc => ?_) (fun hc => ?_) <;> (try (exfalso; omega)))
      | refine XO.pT TT_ok rfl rfl rfl rfl rfl ?_
      | refine XO.pF TT_ok rfl rfl rfl rfl rfl ?_
      | refine XO.cmp TT_ok rfl rfl rfl rfl rfl (fun hc => ?_) (fun hc => ?_)
      | refine XO.add64 TT_ok rfl rfl rfl rfl rfl rfl (by omega) (by omega) ?_
      | refine XO.sub64 TT_ok rfl rfl rfl rfl rfl rfl (by omega) (by omega) ?_
      | refine XO.mul64 TT_ok rfl rfl rfl rfl rfl rfl (by omega) (by omega) ?_
      | refine XO.quo64 rfl rfl rfl rfl rfl (by omega) (by omega) (by omega) ?_
      | refine XO.rem64 rfl rfl rfl rfl rfl (by omega) (by omega) ?_
      | refine XO.p TT_ok rfl rfl rfl rfl ?_
      | refine XO.storeL TT_ok trivial rfl rfl rfl rfl rfl rfl rfl rfl rfl rfl trivial ?_
      | refine XO.ent Ent.front1 (XO.storeL TT_ok trivial rfl rfl rfl rfl rfl rfl rfl rfl rfl rfl trivial ?_)
      | refine XO.ent Ent.front2 (XO.storeL TT_ok trivial rfl rfl rfl rfl rfl rfl rfl rfl rfl rfl trivial ?_)
      | refine XO.ent Ent.front3 (XO.storeL TT_ok trivial rfl rfl rfl rfl rfl rfl rfl rfl rfl rfl trivial ?_)
      | refine XO.ent Ent.front4 (XO.storeL TT_ok trivial rfl rfl rfl rfl rfl rfl rfl rfl rfl rfl trivial ?_)
      | refine XO.ent Ent.front5 (XO.storeL TT_ok trivial rfl rfl rfl rfl rfl rfl rfl rfl rfl rfl trivial ?_)
      | refine XO.box trivial rfl rfl rfl rfl rfl (fun _ => trivial) (fun bb => ?_)
      | refine XO.alloc TT_ok trivial rfl rfl rfl rfl rfl (fun _ => trivial) (fun bb => ?_)
      | refine XO.build TT_ok rfl rfl rfl rfl rfl ?_
      | refine XO.lenSlice TT_ok rfl rfl rfl rfl rfl rfl ?_
      | refine XO.lenString TT_ok rfl rfl rfl rfl rfl rfl ?_
      | refine XO.indexStr TT_ok rfl rfl rfl rfl rfl rfl (by omega) (by omega) ?_
      | refine XO.indexAddr TT_ok rfl rfl rfl rfl rfl rfl rfl (by omega) (by omega) ?_
      | refine XO.addStr rfl rfl rfl rfl rfl (by omega) ?_
      | refine XO.buildSlice TT_ok trivial rfl rfl rfl rfl rfl rfl rfl rfl rfl rfl rfl rfl (fun _ => trivial) (fun bb => ?_)
      | refine XO.callF rfl rfl rfl (by kernel_rfl) rfl ?_)
    all_goals exact XS.ret1 Tryd.func6 rfl Tryd.results6 rfl (Ent.refl _) rfl
end Go.Proofs.YtnpnfgnhgjmlbaaDoor
