/- WheelFull comes to true. Conditions: the table of the lowest bits lies in memory. -/
import Derived.Test.YtnpnfgnhgjmlbaaDoorWheelS
namespace Go.Proofs.YtnpnfgnhgjmlbaaDoor
open Go Go.Sx Go.WheelM
variable {w0 : World} {F H : List HProp} {K : Value → List HProp → Prop}
/-- The timers 0 to k - 1. -/
def FullT (A k : Nat) (tm : Tm) : Prop := tm.length = k ∧ ∀ j b, aget tm j = some b ↔ ∃ i : Nat, i < k ∧ j = i ∧ b = A + i % 97
theorem FullT.none {A k : Nat} {tm : Tm} (h : FullT A k tm) {j : Int} (hj : ∀ i : Nat, i < k → j ≠ i) : aget tm j = none := by
  cases e : aget tm j with
  | none => rfl
  | some b => obtain ⟨i, h1, h2, _⟩ := (h.2 j b).1 e; exact absurd h2 (hj i h1)
theorem FullT.add {A k : Nat} {tm : Tm} (h : FullT A k tm) : FullT A (k + 1) (aset tm (k : Int) (A + k % 97)) := by
  have hn := h.none (j := (k : Int)) (fun i hi => by omega)
  refine ⟨by rw [len_set, hn, h.1]; rfl, fun j b => ?_⟩
  rw [aget_set]
  split
  · rename_i e
    constructor
    · intro q; injection q with q; exact ⟨k, by omega, e, q.symm⟩
    · rintro ⟨i, h1, h2, h3⟩
      have : i = k := by omega
      subst this; rw [h3]
  · rename_i e
    rw [h.2]
    constructor
    · rintro ⟨i, h1, h2, h3⟩; exact ⟨i, by omega, h2, h3⟩
    · rintro ⟨i, h1, h2, h3⟩
      exact ⟨i, by rcases Nat.lt_or_ge i k with g | g
                   · exact g
                   · exact absurd (by omega) e, h2, h3⟩
set_option maxHeartbeats 8000000 in
theorem wfull (db : DB w0) {at' : Int} : Tri Tryd.prog 5 #[kI at'] w0 H (fun v _ => v = .bool true) := by
  refine Tri.enter Tryd.func5 rfl Tryd.ntmps5 rfl ?_
  have go : ∀ i : Nat, i < 4097 → OkId (i : Int) := fun i hi => by unfold OkId; omega
  by_cases hA : 0 ≤ at' ∧ at' ≤ 549755813888
  · obtain ⟨A, rfl⟩ := Int.eq_ofNat_of_zero_le hA.1
    have hA2 : A ≤ 549755813888 := by omega
    have ga : ∀ i : Nat, OkAt 0 ((A + i % 97 : Nat) : Int) := fun i => by unfold OkAt; omega
    repeat' (first
      | refine XO.q TT_ok rfl rfl rfl rfl rfl ?_
      | refine XO.nil ?_
      | refine wanchor_spec db (fun H' => ?_)
      | refine wnew_spec (fun b => ?_)
      | refine XS.seq ?_
      | refine XS.region (T := TT) ?_
      | refine XS.draw (T := TT) follows_ok (by decide +kernel) ?_
      | refine XS.block ?_
      | refine XS.inBlock ?_
      | refine XS.exit rfl ?_
      | refine XS.condT rfl ?_
      | refine XS.condF rfl ?_
      | refine XS.skip ?_
      | refine XS.label ?_
      | refine XO.load TT_ok rfl rfl rfl rfl rfl rfl (Reads.here rfl) ?_
      | refine XO.load TT_ok rfl rfl rfl rfl rfl rfl (Reads.skip (Reads.here rfl)) ?_
      | refine XO.load TT_ok rfl rfl rfl rfl rfl rfl (Reads.skip (Reads.skip (Reads.here rfl))) ?_
      | refine XO.load TT_ok rfl rfl rfl rfl rfl rfl (Reads.skip (Reads.skip (Reads.skip (Reads.here rfl)))) ?_
      | refine XO.load TT_ok rfl rfl rfl rfl rfl rfl (Reads.skip (Reads.skip (Reads.skip (Reads.skip (Reads.here rfl))))) ?_
      | refine XO.load TT_ok rfl rfl rfl rfl rfl rfl (Reads.skip (Reads.skip (Reads.skip (Reads.skip (Reads.skip (Reads.here rfl)))))) ?_
      | refine XO.no rfl rfl ?_
      | (refine XO.cmpI TT_ok rfl rfl rfl rfl rfl rfl rfl (fun hc => ?_) (fun hc => ?_) <;> (try (exfalso; omega)))
      | refine XO.pT TT_ok rfl rfl rfl rfl rfl ?_
      | refine XO.pF TT_ok rfl rfl rfl rfl rfl ?_
      | refine XO.cmp TT_ok rfl rfl rfl rfl rfl (fun hc => ?_) (fun hc => ?_)
      | refine XO.add64 TT_ok rfl rfl rfl rfl rfl rfl (by omega) (by omega) ?_
      | refine XO.sub64 TT_ok rfl rfl rfl rfl rfl rfl (by omega) (by omega) ?_
      | refine XO.mul64 TT_ok rfl rfl rfl rfl rfl rfl (by omega) (by omega) ?_
      | refine XO.quo64 rfl rfl rfl rfl rfl (by omega) (by omega) (by omega) ?_
      | refine XO.rem64 rfl rfl rfl rfl rfl (by omega) (by omega) ?_
      | refine XO.p TT_ok rfl rfl rfl rfl ?_
      | refine XO.storeL TT_ok trivial rfl rfl rfl rfl rfl rfl rfl rfl rfl rfl trivial ?_
      | refine XO.ent Ent.front1 (XO.storeL TT_ok trivial rfl rfl rfl rfl rfl rfl rfl rfl rfl rfl trivial ?_)
      | refine XO.ent Ent.front2 (XO.storeL TT_ok trivial rfl rfl rfl rfl rfl rfl rfl rfl rfl rfl trivial ?_)
      | refine XO.ent Ent.front3 (XO.storeL TT_ok trivial rfl rfl rfl rfl rfl rfl rfl rfl rfl rfl trivial ?_)
      | refine XO.ent Ent.front4 (XO.storeL TT_ok trivial rfl rfl rfl rfl rfl rfl rfl rfl rfl rfl trivial ?_)
      | refine XO.ent Ent.front5 (XO.storeL TT_ok trivial rfl rfl rfl rfl rfl rfl rfl rfl rfl rfl trivial ?_)
      | refine XO.box trivial rfl rfl rfl rfl rfl (fun _ => trivial) (fun bb => ?_)
      | refine XO.alloc TT_ok trivial rfl rfl rfl rfl rfl (fun _ => trivial) (fun bb => ?_)
      | refine XO.build TT_ok rfl rfl rfl rfl rfl ?_
      | refine XO.lenSlice TT_ok rfl rfl rfl rfl rfl rfl ?_
      | refine XO.lenString TT_ok rfl rfl rfl rfl rfl rfl ?_
      | refine XO.indexStr TT_ok rfl rfl rfl rfl rfl rfl (by omega) (by omega) ?_
      | refine XO.indexAddr TT_ok rfl rfl rfl rfl rfl rfl rfl (by omega) (by omega) ?_
      | refine XO.addStr rfl rfl rfl rfl rfl (by omega) ?_
      | refine XO.buildSlice TT_ok trivial rfl rfl rfl rfl rfl rfl rfl rfl rfl rfl rfl rfl (fun _ => trivial) (fun bb => ?_)
      | refine XO.callF rfl rfl rfl (by kernel_rfl) rfl ?_)
    refine XS.loopI (ι := Nat × Tm) (fun x => [(0, kI A), (3, ptr b), (4, kI x.1)]) (fun x => wheelP b 0 x.2 [] :: H') (fun x => x.1 ≤ 4096 ∧ FullT A x.1 x.2) (fun x => 4096 - x.1) (0, [])
      ⟨Nat.zero_le _, ⟨rfl, fun j b => ⟨fun h => (by cases h), fun ⟨i, h, _⟩ => absurd h (Nat.not_lt_zero _)⟩⟩⟩ ⟨rfl, rfl, rfl, trivial⟩ (Ent.refl _) ?_
    rintro ⟨k, tm⟩ e ⟨f1, f2⟩ ih
    simp only at f1 f2 ⊢
    by_cases hlt : k < 4096
    · have hz : (A : Int) + (k : Int) % 97 = ((A + k % 97 : Nat) : Int) := by omega
      repeat' (first
        | refine XO.q TT_ok rfl rfl rfl rfl rfl ?_
        | refine XO.nil ?_
        | refine set_new hz (f2.none (fun i hi => by omega)) (by have := f2.1; omega) (go k (by omega)) (ga k) ?_
        | refine XS.seq ?_
        | refine XS.region (T := TT) ?_
        | refine XS.draw (T := TT) follows_ok (by decide +kernel) ?_
        | refine XS.block ?_
        | refine XS.inBlock ?_
        | refine XS.exit rfl ?_
        | refine XS.condT rfl ?_
        | refine XS.condF rfl ?_
        | refine XS.skip ?_
        | refine XS.label ?_
        | refine XO.load TT_ok rfl rfl rfl rfl rfl rfl (Reads.here rfl) ?_
        | refine XO.load TT_ok rfl rfl rfl rfl rfl rfl (Reads.skip (Reads.here rfl)) ?_
        | refine XO.load TT_ok rfl rfl rfl rfl rfl rfl (Reads.skip (Reads.skip (Reads.here rfl))) ?_
        | refine XO.load TT_ok rfl rfl rfl rfl rfl rfl (Reads.skip (Reads.skip (Reads.skip (Reads.here rfl)))) ?_
        | refine XO.load TT_ok rfl rfl rfl rfl rfl rfl (Reads.skip (Reads.skip (Reads.skip (Reads.skip (Reads.here rfl))))) ?_
        | refine XO.load TT_ok rfl rfl rfl rfl rfl rfl (Reads.skip (Reads.skip (Reads.skip (Reads.skip (Reads.skip (Reads.here rfl)))))) ?_
        | refine XO.no rfl rfl ?_
        | (refine XO.cmpI TT_ok rfl rfl rfl rfl rfl rfl rfl (fun hc => ?_) (fun hc => ?_) <;> (try (exfalso; omega)))
        | refine XO.pT TT_ok rfl rfl rfl rfl rfl ?_
        | refine XO.pF TT_ok rfl rfl rfl rfl rfl ?_
        | refine XO.cmp TT_ok rfl rfl rfl rfl rfl (fun hc => ?_) (fun hc => ?_)
        | refine XO.add64 TT_ok rfl rfl rfl rfl rfl rfl (by omega) (by omega) ?_
        | refine XO.sub64 TT_ok rfl rfl rfl rfl rfl rfl (by omega) (by omega) ?_
        | refine XO.mul64 TT_ok rfl rfl rfl rfl rfl rfl (by omega) (by omega) ?_
        | refine XO.quo64 rfl rfl rfl rfl rfl (by omega) (by omega) (by omega) ?_
        | refine XO.rem64 rfl rfl rfl rfl rfl (by omega) (by omega) ?_
        | refine XO.p TT_ok rfl rfl rfl rfl ?_
        | refine XO.storeL TT_ok trivial rfl rfl rfl rfl rfl rfl rfl rfl rfl rfl trivial ?_
        | refine XO.ent Ent.front1 (XO.storeL TT_ok trivial rfl rfl rfl rfl rfl rfl rfl rfl rfl rfl trivial ?_)
        | refine XO.ent Ent.front2 (XO.storeL TT_ok trivial rfl rfl rfl rfl rfl rfl rfl rfl rfl rfl trivial ?_)
        | refine XO.ent Ent.front3 (XO.storeL TT_ok trivial rfl rfl rfl rfl rfl rfl rfl rfl rfl rfl trivial ?_)
        | refine XO.ent Ent.front4 (XO.storeL TT_ok trivial rfl rfl rfl rfl rfl rfl rfl rfl rfl rfl trivial ?_)
        | refine XO.ent Ent.front5 (XO.storeL TT_ok trivial rfl rfl rfl rfl rfl rfl rfl rfl rfl rfl trivial ?_)
        | refine XO.box trivial rfl rfl rfl rfl rfl (fun _ => trivial) (fun bb => ?_)
        | refine XO.alloc TT_ok trivial rfl rfl rfl rfl rfl (fun _ => trivial) (fun bb => ?_)
        | refine XO.build TT_ok rfl rfl rfl rfl rfl ?_
        | refine XO.lenSlice TT_ok rfl rfl rfl rfl rfl rfl ?_
        | refine XO.lenString TT_ok rfl rfl rfl rfl rfl rfl ?_
        | refine XO.indexStr TT_ok rfl rfl rfl rfl rfl rfl (by omega) (by omega) ?_
        | refine XO.indexAddr TT_ok rfl rfl rfl rfl rfl rfl rfl (by omega) (by omega) ?_
        | refine XO.addStr rfl rfl rfl rfl rfl (by omega) ?_
        | refine XO.buildSlice TT_ok trivial rfl rfl rfl rfl rfl rfl rfl rfl rfl rfl rfl rfl (fun _ => trivial) (fun bb => ?_)
        | refine XO.callF rfl rfl rfl (by kernel_rfl) rfl ?_)
      exact ih (k + 1, aset tm (k : Int) (A + k % 97)) _ _ ⟨by dsimp only; omega, f2.add⟩ (by dsimp only; omega) ⟨rfl, rfl, rfl, trivial⟩ (Ent.refl _)
    · obtain rfl : k = 4096 := by omega
      clear ih
      refine XS.winv (fun fc => ?_)
      have hl := f2.1
      have gA : OkAt 0 (A : Int) := by unfold OkAt; omega
      have h7 : aget tm 7 = some (A + 7) := (f2.2 7 (A + 7)).2 ⟨7, by omega, rfl, rfl⟩
      have hn4 : aget tm 4096 = none := f2.none (fun i hi => by omega)
      have ht2 : ∀ j b, aget (aset (adel tm 7) 7 A) j = some b → (j = 7 ∧ b = A) ∨ (∃ i : Nat, i < 4096 ∧ i ≠ 7 ∧ j = i ∧ b = A + i % 97) := fun j b hb => by
        rw [aget_set, aget_del fc.keys] at hb
        split at hb
        · injection hb with hb; exact .inl ⟨by assumption, hb.symm⟩
        · rename_i hne
          obtain ⟨i, h1, h2, h3⟩ := (f2.2 j b).1 hb
          exact .inr ⟨i, h1, fun e => hne (by rw [h2, e]; rfl), h2, h3⟩
      have hk2 : ((aset (adel tm 7) 7 A).map (·.1)).Nodup := nodup_set (nodup_del fc.keys)
      have hl2 : (aset (adel tm 7) 7 A).length = 4096 := by
        rw [len_set, aget_del fc.keys, if_pos rfl, len_del h7, hl]; rfl
      have hF0 : First (aset (adel tm 7) 7 A) 0 A := by
        refine ⟨by rw [aget_set, if_neg (by omega), aget_del fc.keys, if_neg (by omega)]; exact (f2.2 0 A).2 ⟨0, by omega, rfl, rfl⟩, fun j b hb => ?_⟩
        rcases ht2 j b hb with ⟨h1, h2⟩ | ⟨i, h1, h2, h3, h4⟩ <;> omega
      have hF7 : First (adel (aset (adel tm 7) 7 A) 0) 7 A := by
        refine ⟨by rw [aget_del hk2, if_neg (by omega), aget_set, if_pos rfl], fun j b hb => ?_⟩
        rw [aget_del hk2] at hb
        split at hb
        · cases hb
        · rename_i hne
          rcases ht2 j b hb with ⟨h1, h2⟩ | ⟨i, h1, h2, h3, h4⟩
          · omega
          · have : i ≠ 0 := fun e => hne (by rw [h3, e]; rfl)
            by_cases hi : i % 97 = 0
            · have : 97 ≤ i := by omega
              omega
            · omega
      have hdue : ∀ j b, aget (aset (adel tm 7) 7 A) j = some b → b ≤ A + 96 := fun j b hb => by
        rcases ht2 j b hb with ⟨h1, h2⟩ | ⟨i, h1, h2, h3, h4⟩ <;> omega
      have h96 : (A : Int) + 96 = ((A + 96 : Nat) : Int) := by omega
      have hout : ∀ out rest, Adv (A + 96) (aset (adel tm 7) 7 A) out rest → ∃ o2, out = (0, A) :: (7, A) :: o2 ∧ out.length = 4096 ∧ rest = [] := fun out rest hA => by
        obtain ⟨o1, e1, h1⟩ := hA.cons_of_first hF0 (by omega)
        obtain ⟨o2, e2, _⟩ := h1.cons_of_first hF7 (by omega)
        have hr := hA.all hdue hk2
        have hle := hA.len
        rw [hr, hl2] at hle
        exact ⟨o2, by rw [e1, e2], by simpa using hle, hr⟩
      clear ht2 hF0 hF7 hdue hk2
      have hm1 : ¬ OkId (-1) := by unfold OkId; omega
      have hb5 : ¬ OkAt (A + 96) (A : Int) := by unfold OkAt; omega
      obtain ⟨tm2, e2⟩ : ∃ x, aset (adel tm 7) 7 A = x := ⟨_, rfl⟩
      rw [e2] at hl2 hout
      repeat' (first
        | refine XO.q TT_ok rfl rfl rfl rfl rfl ?_
        | refine XO.nil ?_
        | refine set_bad (by omega) (fun q => absurd (go 4096 (by omega)) q) (fun _ q => absurd gA q) (fun _ _ _ _ => ?_) (fun q => by have := q.2.2 hn4; omega)
        | (refine set_good (by omega) (go 7 (by omega)) gA (fun q => absurd (q.symm.trans h7) (by simp)) ?_; rw [e2])
        | refine len_at 4096 hl2 ?_
        | refine set_bad (by omega) (fun _ => ?_) (fun q => absurd q hm1) (fun q => absurd q hm1) (fun q => hm1 q.1)
        | (rw [h96]; refine adv_good db (by omega) (by omega) (by omega) (fun x cp out rest hA => ?_); obtain ⟨o2, e1, e3, e4⟩ := hout out rest hA; subst e1; subst e4; rw [e3])
        | (refine XO.rowOpen (by decide) (fun g hg => ?_); subst hg)
        | refine XO.indexOwn (i := 0) TT_ok rfl rfl rfl rfl rfl rfl rfl (by decide) ?_
        | refine XO.indexOwn (i := 1) TT_ok rfl rfl rfl rfl rfl rfl rfl (by decide) ?_
        | refine XO.load TT_ok rfl rfl rfl rfl rfl rfl (Reads.rowFlat tenc_len (i := 0) (j := 0) rfl rfl) ?_
        | refine XO.load TT_ok rfl rfl rfl rfl rfl rfl (Reads.rowFlat tenc_len (i := 1) (j := 0) rfl rfl) ?_
        | refine set_bad (by simp) (fun q => absurd (go 5 (by omega)) q) (fun _ _ => ?_) (fun _ q => absurd q hb5) (fun q => hb5 q.2.1)
        | refine Tri.ent Ent.front1 (set_bad (by simp) (fun q => absurd (go 5 (by omega)) q) (fun _ _ => ?_) (fun _ q => absurd q hb5) (fun q => hb5 q.2.1))
        | refine Tri.ent Ent.front2 (set_bad (by simp) (fun q => absurd (go 5 (by omega)) q) (fun _ _ => ?_) (fun _ q => absurd q hb5) (fun q => hb5 q.2.1))
        | refine Tri.ent Ent.front3 (set_bad (by simp) (fun q => absurd (go 5 (by omega)) q) (fun _ _ => ?_) (fun _ q => absurd q hb5) (fun q => hb5 q.2.1))
        | refine Tri.ent Ent.front4 (set_bad (by simp) (fun q => absurd (go 5 (by omega)) q) (fun _ _ => ?_) (fun _ q => absurd q hb5) (fun q => hb5 q.2.1))
        | refine XS.seq ?_
        | refine XS.region (T := TT) ?_
        | refine XS.draw (T := TT) follows_ok (by decide +kernel) ?_
        | refine XS.block ?_
        | refine XS.inBlock ?_
        | refine XS.exit rfl ?_
        | refine XS.condT rfl ?_
        | refine XS.condF rfl ?_
        | refine XS.skip ?_
        | refine XS.label ?_
        | refine XO.load TT_ok rfl rfl rfl rfl rfl rfl (Reads.here rfl) ?_
        | refine XO.load TT_ok rfl rfl rfl rfl rfl rfl (Reads.skip (Reads.here rfl)) ?_
        | refine XO.load TT_ok rfl rfl rfl rfl rfl rfl (Reads.skip (Reads.skip (Reads.here rfl))) ?_
        | refine XO.load TT_ok rfl rfl rfl rfl rfl rfl (Reads.skip (Reads.skip (Reads.skip (Reads.here rfl)))) ?_
        | refine XO.load TT_ok rfl rfl rfl rfl rfl rfl (Reads.skip (Reads.skip (Reads.skip (Reads.skip (Reads.here rfl))))) ?_
        | refine XO.load TT_ok rfl rfl rfl rfl rfl rfl (Reads.skip (Reads.skip (Reads.skip (Reads.skip (Reads.skip (Reads.here rfl)))))) ?_
        | refine XO.no rfl rfl ?_
        | (refine XO.cmpI TT_ok rfl rfl rfl rfl rfl rfl rfl (fun hc => ?_) (fun hc => ?_) <;> (try (exfalso; omega)))
        | refine XO.pT TT_ok rfl rfl rfl rfl rfl ?_
        | refine XO.pF TT_ok rfl rfl rfl rfl rfl ?_
        | refine XO.cmp TT_ok rfl rfl rfl rfl rfl (fun hc => ?_) (fun hc => ?_)
        | refine XO.add64 TT_ok rfl rfl rfl rfl rfl rfl (by omega) (by omega) ?_
        | refine XO.sub64 TT_ok rfl rfl rfl rfl rfl rfl (by omega) (by omega) ?_
        | refine XO.mul64 TT_ok rfl rfl rfl rfl rfl rfl (by omega) (by omega) ?_
        | refine XO.quo64 rfl rfl rfl rfl rfl (by omega) (by omega) (by omega) ?_
        | refine XO.rem64 rfl rfl rfl rfl rfl (by omega) (by omega) ?_
        | refine XO.p TT_ok rfl rfl rfl rfl ?_
        | refine XO.storeL TT_ok trivial rfl rfl rfl rfl rfl rfl rfl rfl rfl rfl trivial ?_
        | refine XO.ent Ent.front1 (XO.storeL TT_ok trivial rfl rfl rfl rfl rfl rfl rfl rfl rfl rfl trivial ?_)
        | refine XO.ent Ent.front2 (XO.storeL TT_ok trivial rfl rfl rfl rfl rfl rfl rfl rfl rfl rfl trivial ?_)
        | refine XO.ent Ent.front3 (XO.storeL TT_ok trivial rfl rfl rfl rfl rfl rfl rfl rfl rfl rfl trivial ?_)
        | refine XO.ent Ent.front4 (XO.storeL TT_ok trivial rfl rfl rfl rfl rfl rfl rfl rfl rfl rfl trivial ?_)
        | refine XO.ent Ent.front5 (XO.storeL TT_ok trivial rfl rfl rfl rfl rfl rfl rfl rfl rfl rfl trivial ?_)
        | refine XO.box trivial rfl rfl rfl rfl rfl (fun _ => trivial) (fun bb => ?_)
        | refine XO.alloc TT_ok trivial rfl rfl rfl rfl rfl (fun _ => trivial) (fun bb => ?_)
        | refine XO.build TT_ok rfl rfl rfl rfl rfl ?_
        | refine XO.lenSlice TT_ok rfl rfl rfl rfl rfl rfl ?_
        | refine XO.lenString TT_ok rfl rfl rfl rfl rfl rfl ?_
        | refine XO.indexStr TT_ok rfl rfl rfl rfl rfl rfl (by omega) (by omega) ?_
        | refine XO.indexAddr TT_ok rfl rfl rfl rfl rfl rfl rfl (by omega) (by omega) ?_
        | refine XO.addStr rfl rfl rfl rfl rfl (by omega) ?_
        | refine XO.buildSlice TT_ok trivial rfl rfl rfl rfl rfl rfl rfl rfl rfl rfl rfl rfl (fun _ => trivial) (fun bb => ?_)
        | refine XO.callF rfl rfl rfl (by kernel_rfl) rfl ?_)
      all_goals exact XS.ret1 Tryd.func5 rfl Tryd.results5 rfl (Ent.refl _) rfl
  · by_cases hB : OkAt 0 at'
    · obtain ⟨A, rfl⟩ := Int.eq_ofNat_of_zero_le (show 0 ≤ at' by unfold OkAt at hB; omega)
      repeat' (first
        | refine XO.q TT_ok rfl rfl rfl rfl rfl ?_
        | refine XO.nil ?_
        | refine wanchor_spec db (fun H' => ?_)
        | refine wnew_spec (fun b => ?_)
        | refine set_new (a := A) rfl rfl (by decide) (go 1 (by omega)) hB ?_
        | refine XS.seq ?_
        | refine XS.region (T := TT) ?_
        | refine XS.draw (T := TT) follows_ok (by decide +kernel) ?_
        | refine XS.block ?_
        | refine XS.inBlock ?_
        | refine XS.exit rfl ?_
        | refine XS.condT rfl ?_
        | refine XS.condF rfl ?_
        | refine XS.skip ?_
        | refine XS.label ?_
        | refine XO.load TT_ok rfl rfl rfl rfl rfl rfl (Reads.here rfl) ?_
        | refine XO.load TT_ok rfl rfl rfl rfl rfl rfl (Reads.skip (Reads.here rfl)) ?_
        | refine XO.load TT_ok rfl rfl rfl rfl rfl rfl (Reads.skip (Reads.skip (Reads.here rfl))) ?_
        | refine XO.load TT_ok rfl rfl rfl rfl rfl rfl (Reads.skip (Reads.skip (Reads.skip (Reads.here rfl)))) ?_
        | refine XO.load TT_ok rfl rfl rfl rfl rfl rfl (Reads.skip (Reads.skip (Reads.skip (Reads.skip (Reads.here rfl))))) ?_
        | refine XO.load TT_ok rfl rfl rfl rfl rfl rfl (Reads.skip (Reads.skip (Reads.skip (Reads.skip (Reads.skip (Reads.here rfl)))))) ?_
        | refine XO.no rfl rfl ?_
        | (refine XO.cmpI TT_ok rfl rfl rfl rfl rfl rfl rfl (fun hc => ?_) (fun hc => ?_) <;> (try (exfalso; omega)))
        | refine XO.pT TT_ok rfl rfl rfl rfl rfl ?_
        | refine XO.pF TT_ok rfl rfl rfl rfl rfl ?_
        | refine XO.cmp TT_ok rfl rfl rfl rfl rfl (fun hc => ?_) (fun hc => ?_)
        | refine XO.add64 TT_ok rfl rfl rfl rfl rfl rfl (by omega) (by omega) ?_
        | refine XO.sub64 TT_ok rfl rfl rfl rfl rfl rfl (by omega) (by omega) ?_
        | refine XO.mul64 TT_ok rfl rfl rfl rfl rfl rfl (by omega) (by omega) ?_
        | refine XO.quo64 rfl rfl rfl rfl rfl (by omega) (by omega) (by omega) ?_
        | refine XO.rem64 rfl rfl rfl rfl rfl (by omega) (by omega) ?_
        | refine XO.p TT_ok rfl rfl rfl rfl ?_
        | refine XO.storeL TT_ok trivial rfl rfl rfl rfl rfl rfl rfl rfl rfl rfl trivial ?_
        | refine XO.ent Ent.front1 (XO.storeL TT_ok trivial rfl rfl rfl rfl rfl rfl rfl rfl rfl rfl trivial ?_)
        | refine XO.ent Ent.front2 (XO.storeL TT_ok trivial rfl rfl rfl rfl rfl rfl rfl rfl rfl rfl trivial ?_)
        | refine XO.ent Ent.front3 (XO.storeL TT_ok trivial rfl rfl rfl rfl rfl rfl rfl rfl rfl rfl trivial ?_)
        | refine XO.ent Ent.front4 (XO.storeL TT_ok trivial rfl rfl rfl rfl rfl rfl rfl rfl rfl rfl trivial ?_)
        | refine XO.ent Ent.front5 (XO.storeL TT_ok trivial rfl rfl rfl rfl rfl rfl rfl rfl rfl rfl trivial ?_)
        | refine XO.box trivial rfl rfl rfl rfl rfl (fun _ => trivial) (fun bb => ?_)
        | refine XO.alloc TT_ok trivial rfl rfl rfl rfl rfl (fun _ => trivial) (fun bb => ?_)
        | refine XO.build TT_ok rfl rfl rfl rfl rfl ?_
        | refine XO.lenSlice TT_ok rfl rfl rfl rfl rfl rfl ?_
        | refine XO.lenString TT_ok rfl rfl rfl rfl rfl rfl ?_
        | refine XO.indexStr TT_ok rfl rfl rfl rfl rfl rfl (by omega) (by omega) ?_
        | refine XO.indexAddr TT_ok rfl rfl rfl rfl rfl rfl rfl (by omega) (by omega) ?_
        | refine XO.addStr rfl rfl rfl rfl rfl (by omega) ?_
        | refine XO.buildSlice TT_ok trivial rfl rfl rfl rfl rfl rfl rfl rfl rfl rfl rfl rfl (fun _ => trivial) (fun bb => ?_)
        | refine XO.callF rfl rfl rfl (by kernel_rfl) rfl ?_)
      all_goals exact XS.ret1 Tryd.func5 rfl Tryd.results5 rfl (Ent.refl _) rfl
    · have hB' := hB
      unfold OkAt at hB'
      repeat' (first
        | refine XO.q TT_ok rfl rfl rfl rfl rfl ?_
        | refine XO.nil ?_
        | refine wanchor_spec db (fun H' => ?_)
        | refine wnew_spec (fun b => ?_)
        | refine set_bad (by decide) (fun q => absurd (go 1 (by omega)) q) (fun _ _ => ?_) (fun _ q => absurd q hB) (fun q => hB q.2.1)
        | refine XS.seq ?_
        | refine XS.region (T := TT) ?_
        | refine XS.draw (T := TT) follows_ok (by decide +kernel) ?_
        | refine XS.block ?_
        | refine XS.inBlock ?_
        | refine XS.exit rfl ?_
        | refine XS.condT rfl ?_
        | refine XS.condF rfl ?_
        | refine XS.skip ?_
        | refine XS.label ?_
        | refine XO.load TT_ok rfl rfl rfl rfl rfl rfl (Reads.here rfl) ?_
        | refine XO.load TT_ok rfl rfl rfl rfl rfl rfl (Reads.skip (Reads.here rfl)) ?_
        | refine XO.load TT_ok rfl rfl rfl rfl rfl rfl (Reads.skip (Reads.skip (Reads.here rfl))) ?_
        | refine XO.load TT_ok rfl rfl rfl rfl rfl rfl (Reads.skip (Reads.skip (Reads.skip (Reads.here rfl)))) ?_
        | refine XO.load TT_ok rfl rfl rfl rfl rfl rfl (Reads.skip (Reads.skip (Reads.skip (Reads.skip (Reads.here rfl))))) ?_
        | refine XO.load TT_ok rfl rfl rfl rfl rfl rfl (Reads.skip (Reads.skip (Reads.skip (Reads.skip (Reads.skip (Reads.here rfl)))))) ?_
        | refine XO.no rfl rfl ?_
        | (refine XO.cmpI TT_ok rfl rfl rfl rfl rfl rfl rfl (fun hc => ?_) (fun hc => ?_) <;> (try (exfalso; omega)))
        | refine XO.pT TT_ok rfl rfl rfl rfl rfl ?_
        | refine XO.pF TT_ok rfl rfl rfl rfl rfl ?_
        | refine XO.cmp TT_ok rfl rfl rfl rfl rfl (fun hc => ?_) (fun hc => ?_)
        | refine XO.add64 TT_ok rfl rfl rfl rfl rfl rfl (by omega) (by omega) ?_
        | refine XO.sub64 TT_ok rfl rfl rfl rfl rfl rfl (by omega) (by omega) ?_
        | refine XO.mul64 TT_ok rfl rfl rfl rfl rfl rfl (by omega) (by omega) ?_
        | refine XO.quo64 rfl rfl rfl rfl rfl (by omega) (by omega) (by omega) ?_
        | refine XO.rem64 rfl rfl rfl rfl rfl (by omega) (by omega) ?_
        | refine XO.p TT_ok rfl rfl rfl rfl ?_
        | refine XO.storeL TT_ok trivial rfl rfl rfl rfl rfl rfl rfl rfl rfl rfl trivial ?_
        | refine XO.ent Ent.front1 (XO.storeL TT_ok trivial rfl rfl rfl rfl rfl rfl rfl rfl rfl rfl trivial ?_)
        | refine XO.ent Ent.front2 (XO.storeL TT_ok trivial rfl rfl rfl rfl rfl rfl rfl rfl rfl rfl trivial ?_)
        | refine XO.ent Ent.front3 (XO.storeL TT_ok trivial rfl rfl rfl rfl rfl rfl rfl rfl rfl rfl trivial ?_)
        | refine XO.ent Ent.front4 (XO.storeL TT_ok trivial rfl rfl rfl rfl rfl rfl rfl rfl rfl rfl trivial ?_)
        | refine XO.ent Ent.front5 (XO.storeL TT_ok trivial rfl rfl rfl rfl rfl rfl rfl rfl rfl rfl trivial ?_)
        | refine XO.box trivial rfl rfl rfl rfl rfl (fun _ => trivial) (fun bb => ?_)
        | refine XO.alloc TT_ok trivial rfl rfl rfl rfl rfl (fun _ => trivial) (fun bb => ?_)
        | refine XO.build TT_ok rfl rfl rfl rfl rfl ?_
        | refine XO.lenSlice TT_ok rfl rfl rfl rfl rfl rfl ?_
        | refine XO.lenString TT_ok rfl rfl rfl rfl rfl rfl ?_
        | refine XO.indexStr TT_ok rfl rfl rfl rfl rfl rfl (by omega) (by omega) ?_
        | refine XO.indexAddr TT_ok rfl rfl rfl rfl rfl rfl rfl (by omega) (by omega) ?_
        | refine XO.addStr rfl rfl rfl rfl rfl (by omega) ?_
        | refine XO.buildSlice TT_ok trivial rfl rfl rfl rfl rfl rfl rfl rfl rfl rfl rfl rfl (fun _ => trivial) (fun bb => ?_)
        | refine XO.callF rfl rfl rfl (by kernel_rfl) rfl ?_)
      all_goals exact XS.ret1 Tryd.func5 rfl Tryd.results5 rfl (Ent.refl _) rfl
end Go.Proofs.YtnpnfgnhgjmlbaaDoor
