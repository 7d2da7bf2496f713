/- What the document's functions of the wheel come to. Conditions: numbers are of their kinds. -/
import Derived.Test.YtnpnfgnhgjmlbaaDoorWheelQ
namespace Go.Proofs.YtnpnfgnhgjmlbaaDoor
open Go Go.Sx Go.WheelM
variable {w0 : World} {F H : List HProp} {K : Value → List HProp → Prop}
def rwheel (b : Nat) (t : Nat) (all : Tm) : HProp := hex fun x : Option Addr × Nat => stars [cel b 44 [kI (t : Nat), .slice x.1 all.length x.2], Row x.1 x.2 68 2 all.length (flat tenc all)]
theorem rwheel_mk {b t k : Nat} {a : Option Addr} {cap : Nat} {all : Tm} {l : List Value} (h1 : all.length = k) (h2 : flat tenc all = l) : Ent (cel b 44 [kI (t : Nat), .slice a k cap] :: Row a cap 68 2 k l :: F) (rwheel b t all :: F) := by
  subst h1 h2
  exact Ent.trans Ent.pack2 (Ent.hex (f := fun x : Option Addr × Nat => stars [cel b 44 [kI (t : Nat), .slice x.1 all.length x.2], Row x.1 x.2 68 2 all.length (flat tenc all)]) (a, cap))
/-- The place of a key. -/
def KeyAt (all : Tm) (id : Int) (i : Nat) (a : Nat) : Prop := all[i]? = some (id, a) ∧ ∀ j p, j < i → all[j]? = some p → p.1 ≠ id
theorem KeyAt.get {id : Int} {a : Nat} : ∀ {all : Tm} {i : Nat}, KeyAt all id i a → aget all id = some a ∧ all.take i ++ all.drop (i + 1) = adel all id ∧ ∀ c, all.set i (id, c) = aset all id c
  | [], i, h => by have := h.1; simp at this
  | p :: l, 0, h => by
    have := h.1
    simp at this
    subst this
    simp [aget, adel, aset]
  | p :: l, i + 1, h => by
    have h0 : id ≠ p.1 := fun e => h.2 0 p (by omega) (by simp) e.symm
    obtain ⟨q1, q2, q3⟩ := KeyAt.get (all := l) (i := i) (id := id) (a := a) ⟨by simpa using h.1, fun j p' hj hp => h.2 (j + 1) p' (by omega) (by simpa using hp)⟩
    refine ⟨by rw [aget, if_neg h0]; exact q1, ?_, fun c => ?_⟩
    · rw [adel, if_neg h0, ← q2]; simp
    · rw [aset, if_neg h0, ← q3]; simp
theorem aset_new {id : Int} {a : Nat} : ∀ {all : Tm}, aget all id = none → aset all id a = all ++ [(id, a)]
  | [], _ => rfl
  | p :: l, h => by
    simp only [aget] at h
    split at h
    · cases h
    · rename_i hne; rw [aset, if_neg hne, aset_new h]; rfl
set_option maxHeartbeats 1000000 in
theorem rat_spec {b t : Nat} {all : Tm} {id : Int} (hl : all.length ≤ 1048576) (h1 : ∀ i a, KeyAt all id i a → K (kI (i : Nat)) (rwheel b t all :: F)) (h2 : aget all id = none → K (kI (-1)) (rwheel b t all :: F)) : Tri Tryd.prog 28 #[ptr b, kI id] w0 (rwheel b t all :: F) K := by
  refine Tri.enter Tryd.func28 rfl Tryd.ntmps28 rfl ?_
  unfold rwheel
  refine XS.hex (fun y => XS.ent Ent.unpack2 ?_)
  obtain ⟨a, cap⟩ := y
  simp only
  repeat' (first
    | refine XO.q TT_ok rfl rfl rfl rfl rfl ?_
    | refine XO.nil ?_
    | refine XS.seq ?_
    | refine XS.region (T := TT) ?_
    | refine XS.draw (T := TT) follows_ok (by decide +kernel) ?_
    | refine XS.block ?_
    | refine XS.inBlock ?_
    | refine XS.exit rfl ?_
    | refine XS.condT rfl ?_
    | refine XS.condF rfl ?_
    | refine XS.skip ?_
    | refine XS.label ?_
    | refine XO.load TT_ok rfl rfl rfl rfl rfl rfl (Reads.here rfl) ?_
    | refine XO.load TT_ok rfl rfl rfl rfl rfl rfl (Reads.skip (Reads.here rfl)) ?_
    | refine XO.load TT_ok rfl rfl rfl rfl rfl rfl (Reads.skip (Reads.skip (Reads.here rfl))) ?_
    | refine XO.load TT_ok rfl rfl rfl rfl rfl rfl (Reads.skip (Reads.skip (Reads.skip (Reads.here rfl)))) ?_
    | refine XO.load TT_ok rfl rfl rfl rfl rfl rfl (Reads.skip (Reads.skip (Reads.skip (Reads.skip (Reads.here rfl))))) ?_
    | refine XO.load TT_ok rfl rfl rfl rfl rfl rfl (Reads.skip (Reads.skip (Reads.skip (Reads.skip (Reads.skip (Reads.here rfl)))))) ?_
    | refine XO.no rfl rfl ?_
    | (refine XO.cmpI TT_ok rfl rfl rfl rfl rfl rfl rfl (fun hc => ?_) (fun hc => ?_) <;> (try (exfalso; omega)))
    | refine XO.pT TT_ok rfl rfl rfl rfl rfl ?_
    | refine XO.pF TT_ok rfl rfl rfl rfl rfl ?_
    | refine XO.cmp TT_ok rfl rfl rfl rfl rfl (fun hc => ?_) (fun hc => ?_)
    | refine XO.add64 TT_ok rfl rfl rfl rfl rfl rfl (by omega) (by omega) ?_
    | refine XO.sub64 TT_ok rfl rfl rfl rfl rfl rfl (by omega) (by omega) ?_
    | refine XO.mul64 TT_ok rfl rfl rfl rfl rfl rfl (by omega) (by omega) ?_
    | refine XO.quo64 rfl rfl rfl rfl rfl (by omega) (by omega) (by omega) ?_
    | refine XO.rem64 rfl rfl rfl rfl rfl (by omega) (by omega) ?_
    | refine XO.p TT_ok rfl rfl rfl rfl ?_
    | refine XO.storeL TT_ok trivial rfl rfl rfl rfl rfl rfl rfl rfl rfl rfl trivial ?_
    | refine XO.ent Ent.front1 (XO.storeL TT_ok trivial rfl rfl rfl rfl rfl rfl rfl rfl rfl rfl trivial ?_)
    | refine XO.ent Ent.front2 (XO.storeL TT_ok trivial rfl rfl rfl rfl rfl rfl rfl rfl rfl rfl trivial ?_)
    | refine XO.ent Ent.front3 (XO.storeL TT_ok trivial rfl rfl rfl rfl rfl rfl rfl rfl rfl rfl trivial ?_)
    | refine XO.ent Ent.front4 (XO.storeL TT_ok trivial rfl rfl rfl rfl rfl rfl rfl rfl rfl rfl trivial ?_)
    | refine XO.ent Ent.front5 (XO.storeL TT_ok trivial rfl rfl rfl rfl rfl rfl rfl rfl rfl rfl trivial ?_)
    | refine XO.box trivial rfl rfl rfl rfl rfl (fun _ => trivial) (fun bb => ?_)
    | refine XO.alloc TT_ok trivial rfl rfl rfl rfl rfl (fun _ => trivial) (fun bb => ?_)
    | refine XO.build TT_ok rfl rfl rfl rfl rfl ?_
    | refine XO.lenSlice TT_ok rfl rfl rfl rfl rfl rfl ?_
    | refine XO.lenString TT_ok rfl rfl rfl rfl rfl rfl ?_
    | refine XO.indexStr TT_ok rfl rfl rfl rfl rfl rfl (by omega) (by omega) ?_
    | refine XO.indexAddr TT_ok rfl rfl rfl rfl rfl rfl rfl (by omega) (by omega) ?_
    | refine XO.addStr rfl rfl rfl rfl rfl (by omega) ?_
    | refine XO.buildSlice TT_ok trivial rfl rfl rfl rfl rfl rfl rfl rfl rfl rfl rfl rfl (fun _ => trivial) (fun bb => ?_)
    | refine XO.callF rfl rfl rfl (by kernel_rfl) rfl ?_)
  refine XS.loopI (ι := Nat) (fun k => [(0, ptr b), (1, kI id), (5, kI k)]) (fun _ => cel b 44 [kI (t : Nat), .slice a all.length cap] :: Row a cap 68 2 all.length (flat tenc all) :: F) (fun k => k ≤ all.length ∧ ∀ j p, j < k → all[j]? = some p → p.1 ≠ id) (fun k => all.length - k) 0
    ⟨Nat.zero_le _, fun j p hj => absurd hj (Nat.not_lt_zero _)⟩ ⟨rfl, rfl, rfl, trivial⟩ (Ent.refl _) ?_
  rintro k e ⟨g1, g2⟩ ih
  by_cases hlt : k < all.length
  · obtain ⟨⟨z, c⟩, hz⟩ : ∃ z, all[k]? = some z := ⟨_, List.getElem?_eq_getElem hlt⟩
    refine XS.ent Ent.front1 (XS.rowOpen (by omega) (fun g hg => ?_))
    subst hg
    repeat' (first
      | refine XO.q TT_ok rfl rfl rfl rfl rfl ?_
      | refine XO.nil ?_
      | refine XO.load TT_ok rfl rfl rfl rfl rfl rfl (Reads.rowFlat tenc_len (j := 0) hz rfl) ?_
      | refine XO.indexOwn TT_ok rfl rfl rfl rfl rfl rfl rfl hlt ?_
      | refine XS.seq ?_
      | refine XS.region (T := TT) ?_
      | refine XS.draw (T := TT) follows_ok (by decide +kernel) ?_
      | refine XS.block ?_
      | refine XS.inBlock ?_
      | refine XS.exit rfl ?_
      | refine XS.condT rfl ?_
      | refine XS.condF rfl ?_
      | refine XS.skip ?_
      | refine XS.label ?_
      | refine XO.load TT_ok rfl rfl rfl rfl rfl rfl (Reads.here rfl) ?_
      | refine XO.load TT_ok rfl rfl rfl rfl rfl rfl (Reads.skip (Reads.here rfl)) ?_
      | refine XO.load TT_ok rfl rfl rfl rfl rfl rfl (Reads.skip (Reads.skip (Reads.here rfl))) ?_
      | refine XO.load TT_ok rfl rfl rfl rfl rfl rfl (Reads.skip (Reads.skip (Reads.skip (Reads.here rfl)))) ?_
      | refine XO.load TT_ok rfl rfl rfl rfl rfl rfl (Reads.skip (Reads.skip (Reads.skip (Reads.skip (Reads.here rfl))))) ?_
      | refine XO.load TT_ok rfl rfl rfl rfl rfl rfl (Reads.skip (Reads.skip (Reads.skip (Reads.skip (Reads.skip (Reads.here rfl)))))) ?_
      | refine XO.no rfl rfl ?_
      | (refine XO.cmpI TT_ok rfl rfl rfl rfl rfl rfl rfl (fun hc => ?_) (fun hc => ?_) <;> (try (exfalso; omega)))
      | refine XO.pT TT_ok rfl rfl rfl rfl rfl ?_
      | refine XO.pF TT_ok rfl rfl rfl rfl rfl ?_
      | refine XO.cmp TT_ok rfl rfl rfl rfl rfl (fun hc => ?_) (fun hc => ?_)
      | refine XO.add64 TT_ok rfl rfl rfl rfl rfl rfl (by omega) (by omega) ?_
      | refine XO.sub64 TT_ok rfl rfl rfl rfl rfl rfl (by omega) (by omega) ?_
      | refine XO.mul64 TT_ok rfl rfl rfl rfl rfl rfl (by omega) (by omega) ?_
      | refine XO.quo64 rfl rfl rfl rfl rfl (by omega) (by omega) (by omega) ?_
      | refine XO.rem64 rfl rfl rfl rfl rfl (by omega) (by omega) ?_
      | refine XO.p TT_ok rfl rfl rfl rfl ?_
      | refine XO.storeL TT_ok trivial rfl rfl rfl rfl rfl rfl rfl rfl rfl rfl trivial ?_
      | refine XO.ent Ent.front1 (XO.storeL TT_ok trivial rfl rfl rfl rfl rfl rfl rfl rfl rfl rfl trivial ?_)
      | refine XO.ent Ent.front2 (XO.storeL TT_ok trivial rfl rfl rfl rfl rfl rfl rfl rfl rfl rfl trivial ?_)
      | refine XO.ent Ent.front3 (XO.storeL TT_ok trivial rfl rfl rfl rfl rfl rfl rfl rfl rfl rfl trivial ?_)
      | refine XO.ent Ent.front4 (XO.storeL TT_ok trivial rfl rfl rfl rfl rfl rfl rfl rfl rfl rfl trivial ?_)
      | refine XO.ent Ent.front5 (XO.storeL TT_ok trivial rfl rfl rfl rfl rfl rfl rfl rfl rfl rfl trivial ?_)
      | refine XO.box trivial rfl rfl rfl rfl rfl (fun _ => trivial) (fun bb => ?_)
      | refine XO.alloc TT_ok trivial rfl rfl rfl rfl rfl (fun _ => trivial) (fun bb => ?_)
      | refine XO.build TT_ok rfl rfl rfl rfl rfl ?_
      | refine XO.lenSlice TT_ok rfl rfl rfl rfl rfl rfl ?_
      | refine XO.lenString TT_ok rfl rfl rfl rfl rfl rfl ?_
      | refine XO.indexStr TT_ok rfl rfl rfl rfl rfl rfl (by omega) (by omega) ?_
      | refine XO.indexAddr TT_ok rfl rfl rfl rfl rfl rfl rfl (by omega) (by omega) ?_
      | refine XO.addStr rfl rfl rfl rfl rfl (by omega) ?_
      | refine XO.buildSlice TT_ok trivial rfl rfl rfl rfl rfl rfl rfl rfl rfl rfl rfl rfl (fun _ => trivial) (fun bb => ?_)
      | refine XO.callF rfl rfl rfl (by kernel_rfl) rfl ?_)
    · have hzx := hc
      exact XS.ret1 Tryd.func28 rfl Tryd.results28 rfl (Ent.trans (Ent.trans Row.of_at Ent.front1) (rwheel_mk rfl rfl)) (h1 k c ⟨by rw [hz, hzx], g2⟩)
    · have hzx := hc
      exact ih (k + 1) _ _ ⟨by omega, fun j p hj hp => by
        by_cases e : j = k
        · subst e; rw [hz] at hp; injection hp with hp; subst hp; exact hzx
        · exact g2 j p (by omega) hp⟩ (by omega) ⟨rfl, rfl, rfl, trivial⟩ (Ent.trans (Ent.trans Row.of_at Ent.front1) (Ent.refl _))
  · repeat' (first
      | refine XO.q TT_ok rfl rfl rfl rfl rfl ?_
      | refine XO.nil ?_
      | refine XS.seq ?_
      | refine XS.region (T := TT) ?_
      | refine XS.draw (T := TT) follows_ok (by decide +kernel) ?_
      | refine XS.block ?_
      | refine XS.inBlock ?_
      | refine XS.exit rfl ?_
      | refine XS.condT rfl ?_
      | refine XS.condF rfl ?_
      | refine XS.skip ?_
      | refine XS.label ?_
      | refine XO.load TT_ok rfl rfl rfl rfl rfl rfl (Reads.here rfl) ?_
      | refine XO.load TT_ok rfl rfl rfl rfl rfl rfl (Reads.skip (Reads.here rfl)) ?_
      | refine XO.load TT_ok rfl rfl rfl rfl rfl rfl (Reads.skip (Reads.skip (Reads.here rfl))) ?_
      | refine XO.load TT_ok rfl rfl rfl rfl rfl rfl (Reads.skip (Reads.skip (Reads.skip (Reads.here rfl)))) ?_
      | refine XO.load TT_ok rfl rfl rfl rfl rfl rfl (Reads.skip (Reads.skip (Reads.skip (Reads.skip (Reads.here rfl))))) ?_
      | refine XO.load TT_ok rfl rfl rfl rfl rfl rfl (Reads.skip (Reads.skip (Reads.skip (Reads.skip (Reads.skip (Reads.here rfl)))))) ?_
      | refine XO.no rfl rfl ?_
      | (refine XO.cmpI TT_ok rfl rfl rfl rfl rfl rfl rfl (fun hc => ?_) (fun hc => ?_) <;> (try (exfalso; omega)))
      | refine XO.pT TT_ok rfl rfl rfl rfl rfl ?_
      | refine XO.pF TT_ok rfl rfl rfl rfl rfl ?_
      | refine XO.cmp TT_ok rfl rfl rfl rfl rfl (fun hc => ?_) (fun hc => ?_)
      | refine XO.add64 TT_ok rfl rfl rfl rfl rfl rfl (by omega) (by omega) ?_
      | refine XO.sub64 TT_ok rfl rfl rfl rfl rfl rfl (by omega) (by omega) ?_
      | refine XO.mul64 TT_ok rfl rfl rfl rfl rfl rfl (by omega) (by omega) ?_
      | refine XO.quo64 rfl rfl rfl rfl rfl (by omega) (by omega) (by omega) ?_
      | refine XO.rem64 rfl rfl rfl rfl rfl (by omega) (by omega) ?_
      | refine XO.p TT_ok rfl rfl rfl rfl ?_
      | refine XO.storeL TT_ok trivial rfl rfl rfl rfl rfl rfl rfl rfl rfl rfl trivial ?_
      | refine XO.ent Ent.front1 (XO.storeL TT_ok trivial rfl rfl rfl rfl rfl rfl rfl rfl rfl rfl trivial ?_)
      | refine XO.ent Ent.front2 (XO.storeL TT_ok trivial rfl rfl rfl rfl rfl rfl rfl rfl rfl rfl trivial ?_)
      | refine XO.ent Ent.front3 (XO.storeL TT_ok trivial rfl rfl rfl rfl rfl rfl rfl rfl rfl rfl trivial ?_)
      | refine XO.ent Ent.front4 (XO.storeL TT_ok trivial rfl rfl rfl rfl rfl rfl rfl rfl rfl rfl trivial ?_)
      | refine XO.ent Ent.front5 (XO.storeL TT_ok trivial rfl rfl rfl rfl rfl rfl rfl rfl rfl rfl trivial ?_)
      | refine XO.box trivial rfl rfl rfl rfl rfl (fun _ => trivial) (fun bb => ?_)
      | refine XO.alloc TT_ok trivial rfl rfl rfl rfl rfl (fun _ => trivial) (fun bb => ?_)
      | refine XO.build TT_ok rfl rfl rfl rfl rfl ?_
      | refine XO.lenSlice TT_ok rfl rfl rfl rfl rfl rfl ?_
      | refine XO.lenString TT_ok rfl rfl rfl rfl rfl rfl ?_
      | refine XO.indexStr TT_ok rfl rfl rfl rfl rfl rfl (by omega) (by omega) ?_
      | refine XO.indexAddr TT_ok rfl rfl rfl rfl rfl rfl rfl (by omega) (by omega) ?_
      | refine XO.addStr rfl rfl rfl rfl rfl (by omega) ?_
      | refine XO.buildSlice TT_ok trivial rfl rfl rfl rfl rfl rfl rfl rfl rfl rfl rfl rfl (fun _ => trivial) (fun bb => ?_)
      | refine XO.callF rfl rfl rfl (by kernel_rfl) rfl ?_)
    refine XS.ret1 Tryd.func28 rfl Tryd.results28 rfl (rwheel_mk rfl rfl) (h2 ?_)
    rw [aget_none]
    intro hm
    obtain ⟨p, hp, rfl⟩ := List.mem_map.1 hm
    obtain ⟨j, hj, he⟩ := List.getElem_of_mem hp
    exact g2 j p (by omega) (by rw [List.getElem?_eq_getElem hj, he]) rfl
set_option maxHeartbeats 4000000 in
theorem rdrop_spec {b t i : Nat} {all : Tm} (hl : all.length ≤ 1048576) (hi : i < all.length) (h : K (.tuple #[]) (rwheel b t (all.take i ++ all.drop (i + 1)) :: F)) : Tri Tryd.prog 39 #[ptr b, kI i] w0 (rwheel b t all :: F) K := by
  refine Tri.enter Tryd.func39 rfl Tryd.ntmps39 rfl ?_
  unfold rwheel
  refine XS.hex (fun y => XS.ent Ent.unpack2 ?_)
  obtain ⟨a, cap⟩ := y
  simp only
  refine XS.ent Ent.front1 (XS.rowOpen (by omega) (fun g hg => ?_))
  subst hg
  have l1 : (flat tenc (all.take i)).length = i * 2 := by rw [flat_length tenc_len, List.length_take]; omega
  have l2 : (flat tenc (all.drop (i + 1))).length = (all.length - (i + 1)) * 2 := by rw [flat_length tenc_len, List.length_drop]
  repeat' (first
    | refine XO.q TT_ok rfl rfl rfl rfl rfl ?_
    | refine XO.nil ?_
    | (refine XO.rowLe (fun hle => ?_); refine XO.sliceHi TT_ok rfl rfl rfl rfl rfl rfl rfl (by omega) ?_)
    | (refine XO.ent Ent.front1 (XO.rowLe (fun hle => ?_)); refine XO.sliceLo TT_ok rfl rfl rfl rfl rfl rfl rfl (show i + 1 ≤ all.length by omega) hle (fun ad had => ?_); refine XO.ent Ent.front1 ?_)
    | refine XO.ent (Row.nil 68 2 _) (XO.appendN (k := 0) (l := []) (a := none) (m := i) (N := 2097152) TT_ok trivial rfl rfl rfl rfl rfl rfl rfl rfl rfl rfl rfl (fun _ => ⟨_, rfl, ReadsL.skip (ReadsL.rowTake i)⟩) l1 (flat_all tenc_all _) (by omega) rfl rfl (fun _ _ => trivial) (fun a1 cap1 => ?_))
    | refine XO.appendN (m := all.length - (i + 1)) (N := 2097152) TT_ok trivial rfl rfl rfl rfl rfl rfl rfl rfl rfl rfl rfl (fun hm => ⟨⟨g, (i + 1) * 2, none⟩, (by rw [had (Nat.lt_of_sub_pos hm), Nat.zero_add]), ReadsL.skip (ReadsL.rowDrop (i + 1) tenc_len)⟩) l2 (flat_all tenc_all _) (by omega) rfl rfl (fun _ _ => trivial) (fun a2 cap2 => ?_)
    | refine XS.seq ?_
    | refine XS.region (T := TT) ?_
    | refine XS.draw (T := TT) follows_ok (by decide +kernel) ?_
    | refine XS.block ?_
    | refine XS.inBlock ?_
    | refine XS.exit rfl ?_
    | refine XS.condT rfl ?_
    | refine XS.condF rfl ?_
    | refine XS.skip ?_
    | refine XS.label ?_
    | refine XO.load TT_ok rfl rfl rfl rfl rfl rfl (Reads.here rfl) ?_
    | refine XO.load TT_ok rfl rfl rfl rfl rfl rfl (Reads.skip (Reads.here rfl)) ?_
    | refine XO.load TT_ok rfl rfl rfl rfl rfl rfl (Reads.skip (Reads.skip (Reads.here rfl))) ?_
    | refine XO.load TT_ok rfl rfl rfl rfl rfl rfl (Reads.skip (Reads.skip (Reads.skip (Reads.here rfl)))) ?_
    | refine XO.load TT_ok rfl rfl rfl rfl rfl rfl (Reads.skip (Reads.skip (Reads.skip (Reads.skip (Reads.here rfl))))) ?_
    | refine XO.load TT_ok rfl rfl rfl rfl rfl rfl (Reads.skip (Reads.skip (Reads.skip (Reads.skip (Reads.skip (Reads.here rfl)))))) ?_
    | refine XO.no rfl rfl ?_
    | (refine XO.cmpI TT_ok rfl rfl rfl rfl rfl rfl rfl (fun hc => ?_) (fun hc => ?_) <;> (try (exfalso; omega)))
    | refine XO.pT TT_ok rfl rfl rfl rfl rfl ?_
    | refine XO.pF TT_ok rfl rfl rfl rfl rfl ?_
    | refine XO.cmp TT_ok rfl rfl rfl rfl rfl (fun hc => ?_) (fun hc => ?_)
    | refine XO.add64 TT_ok rfl rfl rfl rfl rfl rfl (by omega) (by omega) ?_
    | refine XO.sub64 TT_ok rfl rfl rfl rfl rfl rfl (by omega) (by omega) ?_
    | refine XO.mul64 TT_ok rfl rfl rfl rfl rfl rfl (by omega) (by omega) ?_
    | refine XO.quo64 rfl rfl rfl rfl rfl (by omega) (by omega) (by omega) ?_
    | refine XO.rem64 rfl rfl rfl rfl rfl (by omega) (by omega) ?_
    | refine XO.p TT_ok rfl rfl rfl rfl ?_
    | refine XO.storeL TT_ok trivial rfl rfl rfl rfl rfl rfl rfl rfl rfl rfl trivial ?_
    | refine XO.ent Ent.front1 (XO.storeL TT_ok trivial rfl rfl rfl rfl rfl rfl rfl rfl rfl rfl trivial ?_)
    | refine XO.ent Ent.front2 (XO.storeL TT_ok trivial rfl rfl rfl rfl rfl rfl rfl rfl rfl rfl trivial ?_)
    | refine XO.ent Ent.front3 (XO.storeL TT_ok trivial rfl rfl rfl rfl rfl rfl rfl rfl rfl rfl trivial ?_)
    | refine XO.ent Ent.front4 (XO.storeL TT_ok trivial rfl rfl rfl rfl rfl rfl rfl rfl rfl rfl trivial ?_)
    | refine XO.ent Ent.front5 (XO.storeL TT_ok trivial rfl rfl rfl rfl rfl rfl rfl rfl rfl rfl trivial ?_)
    | refine XO.box trivial rfl rfl rfl rfl rfl (fun _ => trivial) (fun bb => ?_)
    | refine XO.alloc TT_ok trivial rfl rfl rfl rfl rfl (fun _ => trivial) (fun bb => ?_)
    | refine XO.build TT_ok rfl rfl rfl rfl rfl ?_
    | refine XO.lenSlice TT_ok rfl rfl rfl rfl rfl rfl ?_
    | refine XO.lenString TT_ok rfl rfl rfl rfl rfl rfl ?_
    | refine XO.indexStr TT_ok rfl rfl rfl rfl rfl rfl (by omega) (by omega) ?_
    | refine XO.indexAddr TT_ok rfl rfl rfl rfl rfl rfl rfl (by omega) (by omega) ?_
    | refine XO.addStr rfl rfl rfl rfl rfl (by omega) ?_
    | refine XO.buildSlice TT_ok trivial rfl rfl rfl rfl rfl rfl rfl rfl rfl rfl rfl rfl (fun _ => trivial) (fun bb => ?_)
    | refine XO.callF rfl rfl rfl (by kernel_rfl) rfl ?_)
  have e1 : flat tenc (all.take i ++ all.drop (i + 1)) = [] ++ flat tenc (all.take i) ++ flat tenc (all.drop (i + 1)) := by rw [flat_append, List.nil_append]
  have e2 : (all.take i ++ all.drop (i + 1)).length = 0 + i + (all.length - (i + 1)) := by simp; omega
  exact XS.nil0 Tryd.func39 rfl Tryd.results39 (Ent.trans (rwheel_mk e2 e1) (Ent.cons _ (Ent.drop _ _))) h
end Go.Proofs.YtnpnfgnhgjmlbaaDoor
