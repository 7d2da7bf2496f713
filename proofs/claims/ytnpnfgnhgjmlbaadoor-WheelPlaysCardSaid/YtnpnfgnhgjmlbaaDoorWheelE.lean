/- What striking, setting and moving come to. Conditions: numbers are of their kinds. -/
import Derived.Test.YtnpnfgnhgjmlbaaDoorWheelD
namespace Go.Proofs.YtnpnfgnhgjmlbaaDoor
open Go Go.Sx Go.WheelM
variable {w0 : World} {F H : List HProp} {K : Value → List HProp → Prop}
theorem no_len {y : Int} {ids : List Int} : (no y ids).length = 0 ↔ no y ids = [] := List.length_eq_zero_iff
set_option maxHeartbeats 4000000 in
theorem cancel_spec {b t : Nat} {tm : Tm} {id : Int} (hn : tm.length ≤ 4096) (hnone : aget tm id = none → K (.bool false) (wheelP b t tm [] :: F)) (hsome : ∀ a, aget tm id = some a → K (.bool true) (wheelP b t (adel tm id) [] :: F)) :
    Tri Tryd.prog 15 #[ptr b, kI id] w0 (wheelP b t tm [] :: F) K := by
  refine Tri.enter Tryd.func15 rfl Tryd.ntmps15 rfl ?_
  refine XS.wheel (fun m sl full ra rc rd I => ?_)
  have h1 : sl.length = 448 := by have := I.lsn; rwa [List.length_map] at this
  have h2 := I.fulln
  have hl := I.rd_len
  have hle3 : 457 + 1 ≤ (wcells t m sl full (.slice ra rd.length rc)).length := by rw [wc_len h1 h2]; exact Nat.le_refl 458
  cases haa : aget tm id with
  | none =>
    have hm : mget (enc tm) id = none := by rw [mget_enc, haa]; rfl
    repeat' (first
      | refine XO.q TT_ok rfl rfl rfl rfl rfl ?_
      | refine XO.nil ?_
      | refine XO.lookupOk keyI64 TT_ok rfl rfl rfl rfl rfl rfl rfl rfl rfl (fun _ h => ⟨_, h.ent Ent.front1⟩) (fun v hv => absurd (hv.symm.trans hm) (by simp)) (fun _ => ?_)
      | refine XS.seq ?_
      | refine XS.region (T := TT) ?_
      | refine XS.draw (T := TT) follows_ok (by decide +kernel) ?_
      | refine XS.block ?_
      | refine XS.inBlock ?_
      | refine XS.exit rfl ?_
      | refine XS.condT rfl ?_
      | refine XS.condF rfl ?_
      | refine XS.skip ?_
      | refine XS.label ?_
      | refine XO.load TT_ok rfl rfl rfl rfl rfl rfl (Reads.here rfl) ?_
      | refine XO.load TT_ok rfl rfl rfl rfl rfl rfl (Reads.skip (Reads.here rfl)) ?_
      | refine XO.load TT_ok rfl rfl rfl rfl rfl rfl (Reads.skip (Reads.skip (Reads.here rfl))) ?_
      | refine XO.load TT_ok rfl rfl rfl rfl rfl rfl (Reads.skip (Reads.skip (Reads.skip (Reads.here rfl)))) ?_
      | refine XO.load TT_ok rfl rfl rfl rfl rfl rfl (Reads.skip (Reads.skip (Reads.skip (Reads.skip (Reads.here rfl))))) ?_
      | refine XO.load TT_ok rfl rfl rfl rfl rfl rfl (Reads.skip (Reads.skip (Reads.skip (Reads.skip (Reads.skip (Reads.here rfl)))))) ?_
      | refine XO.no rfl rfl ?_
      | (refine XO.cmpI TT_ok rfl rfl rfl rfl rfl rfl rfl (fun hc => ?_) (fun hc => ?_) <;> (try (exfalso; omega)))
      | refine XO.pT TT_ok rfl rfl rfl rfl rfl ?_
      | refine XO.pF TT_ok rfl rfl rfl rfl rfl ?_
      | refine XO.cmp TT_ok rfl rfl rfl rfl rfl (fun hc => ?_) (fun hc => ?_)
      | refine XO.add64 TT_ok rfl rfl rfl rfl rfl rfl (by omega) (by omega) ?_
      | refine XO.sub64 TT_ok rfl rfl rfl rfl rfl rfl (by omega) (by omega) ?_
      | refine XO.mul64 TT_ok rfl rfl rfl rfl rfl rfl (by omega) (by omega) ?_
      | refine XO.quo64 rfl rfl rfl rfl rfl (by omega) (by omega) (by omega) ?_
      | refine XO.rem64 rfl rfl rfl rfl rfl (by omega) (by omega) ?_
      | refine XO.p TT_ok rfl rfl rfl rfl ?_
      | refine XO.storeL TT_ok trivial rfl rfl rfl rfl rfl rfl rfl rfl rfl rfl trivial ?_
      | refine XO.ent Ent.front1 (XO.storeL TT_ok trivial rfl rfl rfl rfl rfl rfl rfl rfl rfl rfl trivial ?_)
      | refine XO.ent Ent.front2 (XO.storeL TT_ok trivial rfl rfl rfl rfl rfl rfl rfl rfl rfl rfl trivial ?_)
      | refine XO.ent Ent.front3 (XO.storeL TT_ok trivial rfl rfl rfl rfl rfl rfl rfl rfl rfl rfl trivial ?_)
      | refine XO.ent Ent.front4 (XO.storeL TT_ok trivial rfl rfl rfl rfl rfl rfl rfl rfl rfl rfl trivial ?_)
      | refine XO.ent Ent.front5 (XO.storeL TT_ok trivial rfl rfl rfl rfl rfl rfl rfl rfl rfl rfl trivial ?_)
      | refine XO.box trivial rfl rfl rfl rfl rfl (fun _ => trivial) (fun bb => ?_)
      | refine XO.alloc TT_ok trivial rfl rfl rfl rfl rfl (fun _ => trivial) (fun bb => ?_)
      | refine XO.build TT_ok rfl rfl rfl rfl rfl ?_
      | refine XO.lenSlice TT_ok rfl rfl rfl rfl rfl rfl ?_
      | refine XO.lenString TT_ok rfl rfl rfl rfl rfl rfl ?_
      | refine XO.indexStr TT_ok rfl rfl rfl rfl rfl rfl (by omega) (by omega) ?_
      | refine XO.indexAddr TT_ok rfl rfl rfl rfl rfl rfl rfl (by omega) (by omega) ?_
      | refine XO.addStr rfl rfl rfl rfl rfl (by omega) ?_
      | refine XO.buildSlice TT_ok trivial rfl rfl rfl rfl rfl rfl rfl rfl rfl rfl rfl rfl (fun _ => trivial) (fun bb => ?_)
      | refine XO.callF rfl rfl rfl (by kernel_rfl) rfl ?_)
    exact XS.ret1 Tryd.func15 rfl Tryd.results15 rfl (wheel_mk (rd := ⟨ra, rc, rd⟩) I) (hnone haa)
  | some a =>
    have h := hsome a haa
    have hm : mget (enc tm) id = some (kI (a : Nat)) := by rw [mget_enc, haa]; rfl
    by_cases hat : a = t
    · subst hat
      have hid : id ∈ rd := (I.rdm id).2 ⟨haa, List.not_mem_nil⟩
      refine XS.ent Ent.front3 (XS.rowOpen (List.length_pos_of_mem hid) (fun g hg => ?_))
      subst hg
      have hr := wc_rd (t := a) (m := m) (r := .slice (some ⟨g, 0, none⟩) rd.length rc) h1 h2
      repeat' (first
        | refine XO.q TT_ok rfl rfl rfl rfl rfl ?_
        | refine XO.nil ?_
        | (refine XO.lookupOk keyI64 TT_ok rfl rfl rfl rfl rfl rfl rfl rfl rfl (fun _ h => ⟨_, h.ent Ent.front2⟩) (fun v hv => ?_) (fun hv => absurd (hv.symm.trans hm) (by simp)); obtain rfl : kI (a : Nat) = v := Option.some.inj (hm.symm.trans hv))
        | (refine XO.ent Ent.front2 (XO.mapDel keyI64 TT_ok trivial rfl rfl rfl rfl rfl rfl rfl trivial ?_); rw [mdel_enc]; refine XO.ent Ent.back2 ?_)
        | refine XO.load TT_ok rfl rfl rfl rfl rfl rfl (Reads.skip (Reads.here hr)) ?_
        | refine without_spec (by omega) hid ?_
        | refine XO.ent Ent.front1 (XO.storeW (wc_set_rd h1 h2) hle3 TT_ok trivial rfl rfl rfl rfl rfl rfl rfl rfl trivial ?_)
        | refine XS.seq ?_
        | refine XS.region (T := TT) ?_
        | refine XS.draw (T := TT) follows_ok (by decide +kernel) ?_
        | refine XS.block ?_
        | refine XS.inBlock ?_
        | refine XS.exit rfl ?_
        | refine XS.condT rfl ?_
        | refine XS.condF rfl ?_
        | refine XS.skip ?_
        | refine XS.label ?_
        | refine XO.load TT_ok rfl rfl rfl rfl rfl rfl (Reads.here rfl) ?_
        | refine XO.load TT_ok rfl rfl rfl rfl rfl rfl (Reads.skip (Reads.here rfl)) ?_
        | refine XO.load TT_ok rfl rfl rfl rfl rfl rfl (Reads.skip (Reads.skip (Reads.here rfl))) ?_
        | refine XO.load TT_ok rfl rfl rfl rfl rfl rfl (Reads.skip (Reads.skip (Reads.skip (Reads.here rfl)))) ?_
        | refine XO.load TT_ok rfl rfl rfl rfl rfl rfl (Reads.skip (Reads.skip (Reads.skip (Reads.skip (Reads.here rfl))))) ?_
        | refine XO.load TT_ok rfl rfl rfl rfl rfl rfl (Reads.skip (Reads.skip (Reads.skip (Reads.skip (Reads.skip (Reads.here rfl)))))) ?_
        | refine XO.no rfl rfl ?_
        | (refine XO.cmpI TT_ok rfl rfl rfl rfl rfl rfl rfl (fun hc => ?_) (fun hc => ?_) <;> (try (exfalso; omega)))
        | refine XO.pT TT_ok rfl rfl rfl rfl rfl ?_
        | refine XO.pF TT_ok rfl rfl rfl rfl rfl ?_
        | refine XO.cmp TT_ok rfl rfl rfl rfl rfl (fun hc => ?_) (fun hc => ?_)
        | refine XO.add64 TT_ok rfl rfl rfl rfl rfl rfl (by omega) (by omega) ?_
        | refine XO.sub64 TT_ok rfl rfl rfl rfl rfl rfl (by omega) (by omega) ?_
        | refine XO.mul64 TT_ok rfl rfl rfl rfl rfl rfl (by omega) (by omega) ?_
        | refine XO.quo64 rfl rfl rfl rfl rfl (by omega) (by omega) (by omega) ?_
        | refine XO.rem64 rfl rfl rfl rfl rfl (by omega) (by omega) ?_
        | refine XO.p TT_ok rfl rfl rfl rfl ?_
        | refine XO.storeL TT_ok trivial rfl rfl rfl rfl rfl rfl rfl rfl rfl rfl trivial ?_
        | refine XO.ent Ent.front1 (XO.storeL TT_ok trivial rfl rfl rfl rfl rfl rfl rfl rfl rfl rfl trivial ?_)
        | refine XO.ent Ent.front2 (XO.storeL TT_ok trivial rfl rfl rfl rfl rfl rfl rfl rfl rfl rfl trivial ?_)
        | refine XO.ent Ent.front3 (XO.storeL TT_ok trivial rfl rfl rfl rfl rfl rfl rfl rfl rfl rfl trivial ?_)
        | refine XO.ent Ent.front4 (XO.storeL TT_ok trivial rfl rfl rfl rfl rfl rfl rfl rfl rfl rfl trivial ?_)
        | refine XO.ent Ent.front5 (XO.storeL TT_ok trivial rfl rfl rfl rfl rfl rfl rfl rfl rfl rfl trivial ?_)
        | refine XO.box trivial rfl rfl rfl rfl rfl (fun _ => trivial) (fun bb => ?_)
        | refine XO.alloc TT_ok trivial rfl rfl rfl rfl rfl (fun _ => trivial) (fun bb => ?_)
        | refine XO.build TT_ok rfl rfl rfl rfl rfl ?_
        | refine XO.lenSlice TT_ok rfl rfl rfl rfl rfl rfl ?_
        | refine XO.lenString TT_ok rfl rfl rfl rfl rfl rfl ?_
        | refine XO.indexStr TT_ok rfl rfl rfl rfl rfl rfl (by omega) (by omega) ?_
        | refine XO.indexAddr TT_ok rfl rfl rfl rfl rfl rfl rfl (by omega) (by omega) ?_
        | refine XO.addStr rfl rfl rfl rfl rfl (by omega) ?_
        | refine XO.buildSlice TT_ok trivial rfl rfl rfl rfl rfl rfl rfl rfl rfl rfl rfl rfl (fun _ => trivial) (fun bb => ?_)
        | refine XO.callF rfl rfl rfl (by kernel_rfl) rfl ?_)
      have hw := wheel_mk (F := F) (b := b) (m := m) (rd := ⟨some ⟨g, 0, none⟩, rc, no id rd⟩) (I.cancel_now haa)
      exact XS.ret1 Tryd.func15 rfl Tryd.results15 rfl (Ent.trans (Ent.cons _ (Ent.trans Row.of_at Ent.back2)) hw) h
    · have hlv := lev_lt (I.time id a haa).2 I.now hat
      have hdg := dig_lt a (lev a t)
      have hk := slot_lt (I.time id a haa).2 I.now hat
      obtain ⟨⟨xa, xc, xids⟩, hx⟩ : ∃ x, sl[slot a t]? = some x := ⟨_, List.getElem?_eq_getElem (by omega)⟩
      obtain ⟨f, hf⟩ : ∃ f, full[lev a t]? = some f := ⟨_, List.getElem?_eq_getElem (by omega)⟩
      have hxm : (sl.map (·.ids))[slot a t]? = some xids := by rw [List.getElem?_map, hx]; rfl
      have hxl := I.sl_len hxm
      have hid : id ∈ xids := (I.slm _ _ hxm id).2 ⟨a, haa, hat, rfl, List.not_mem_nil⟩
      have hf64 := I.big _ _ hf
      have hp64 : 2 ^ dig a (lev a t) < 2 ^ 64 := Nat.pow_lt_pow_right (by omega) hdg
      have eo : 0 + 2 + lev a t * 64 + dig a (lev a t) * 1 = 2 + slot a t := by unfold slot; omega
      have hout : ∀ G : List HProp, Ent (bag slrow sl :: G) (Row xa xc 3 1 xids.length (flat ienc xids) :: bag slrow (sl.eraseIdx (slot a t)) :: G) := fun G => bag_out hx
      refine XS.ent (Ent.trans (Ent.cons _ (Ent.cons _ (hout _))) Ent.front2) (XS.rowOpen (List.length_pos_of_mem hid) (fun g hg => ?_))
      subst hg
      have hI := I.cancel_slot haa hat hxm hf
      have hrs : (wcells t m sl full (.slice ra rd.length rc))[0 + 2 + lev a t * 64 + dig a (lev a t) * 1]? = some (.slice (some ⟨g, 0, none⟩) xids.length xc) := by rw [eo]; exact wc_sl hx
      have hx' : (sl.set (slot a t) ⟨some ⟨g, 0, none⟩, xc, no id xids⟩)[slot a t]? = some ⟨some ⟨g, 0, none⟩, xc, no id xids⟩ := set_at _ (by omega)
      have h1' : (sl.set (slot a t) ⟨some ⟨g, 0, none⟩, xc, no id xids⟩).length = 448 := by rw [List.length_set]; exact h1
      have hrs' : (wcells t m (sl.set (slot a t) ⟨some ⟨g, 0, none⟩, xc, no id xids⟩) full (.slice ra rd.length rc))[0 + 2 + lev a t * 64 + dig a (lev a t) * 1]? = some (.slice (some ⟨g, 0, none⟩) (no id xids).length xc) := by rw [eo]; exact wc_sl hx'
      have hws : wr (wcells t m sl full (.slice ra rd.length rc)) (0 + 2 + lev a t * 64 + dig a (lev a t) * 1) [.slice (some ⟨g, 0, none⟩) (no id xids).length xc] = wcells t m (sl.set (slot a t) ⟨some ⟨g, 0, none⟩, xc, no id xids⟩) full (.slice ra rd.length rc) := by
        rw [eo]; exact wc_set_sl (x := ⟨some ⟨g, 0, none⟩, xc, no id xids⟩) (show slot a t < sl.length by omega)
      have hrf : (wcells t m (sl.set (slot a t) ⟨some ⟨g, 0, none⟩, xc, no id xids⟩) full (.slice ra rd.length rc))[0 + 450 + lev a t * 1]? = some (kU f) := by
        rw [show 0 + 450 + lev a t * 1 = 450 + lev a t by omega]; exact wc_full h1' hf
      have hwf : wr (wcells t m (sl.set (slot a t) ⟨some ⟨g, 0, none⟩, xc, no id xids⟩) full (.slice ra rd.length rc)) (0 + 450 + lev a t * 1) [kU (Sx.without f (2 ^ dig a (lev a t)))] = wcells t m (sl.set (slot a t) ⟨some ⟨g, 0, none⟩, xc, no id xids⟩) (full.set (lev a t) (Sx.without f (2 ^ dig a (lev a t)))) (.slice ra rd.length rc) := by
        rw [show 0 + 450 + lev a t * 1 = 450 + lev a t by omega]; exact wc_set_full h1' (by omega)
      have hle1 : 0 + 2 + lev a t * 64 + dig a (lev a t) * 1 + 1 ≤ (wcells t m sl full (.slice ra rd.length rc)).length := by rw [wc_len h1 h2]; omega
      have hle2 : 0 + 450 + lev a t * 1 + 1 ≤ (wcells t m (sl.set (slot a t) ⟨some ⟨g, 0, none⟩, xc, no id xids⟩) full (.slice ra rd.length rc)).length := by rw [wc_len h1' h2]; omega
      have hin : ∀ G : List HProp, Ent (slrow ⟨some ⟨g, 0, none⟩, xc, no id xids⟩ :: bag slrow (sl.eraseIdx (slot a t)) :: G) (bag slrow (sl.set (slot a t) ⟨some ⟨g, 0, none⟩, xc, no id xids⟩) :: G) := fun G => bag_in (by omega)
      have hE : ∀ X M B R : HProp, Ent (X :: RowAt g xc 3 1 (no id xids).length (flat ienc (no id xids)) :: M :: bag slrow (sl.eraseIdx (slot a t)) :: R :: F) (X :: M :: bag slrow (sl.set (slot a t) ⟨some ⟨g, 0, none⟩, xc, no id xids⟩) :: R :: F) := fun X M _ R =>
        Ent.cons _ (Ent.trans Row.of_at (Ent.trans Ent.front1 (Ent.cons _ (hin _))))
      repeat' (first
        | refine XO.q TT_ok rfl rfl rfl rfl rfl ?_
        | refine XO.nil ?_
        | (refine XO.lookupOk keyI64 TT_ok rfl rfl rfl rfl rfl rfl rfl rfl rfl (fun _ h => ⟨_, h.ent Ent.front2⟩) (fun v hv => ?_) (fun hv => absurd (hv.symm.trans hm) (by simp)); obtain rfl : kI (a : Nat) = v := Option.some.inj (hm.symm.trans hv))
        | (refine XO.ent Ent.front2 (XO.mapDel keyI64 TT_ok trivial rfl rfl rfl rfl rfl rfl rfl trivial ?_); rw [mdel_enc]; refine XO.ent Ent.back2 ?_)
        | refine where_spec hat (I.time id a haa).2 I.now ?_
        | refine Tri.ent Ent.front1 (where_spec hat (I.time id a haa).2 I.now ?_)
        | refine Tri.ent Ent.front2 (where_spec hat (I.time id a haa).2 I.now ?_)
        | refine Tri.ent Ent.front3 (where_spec hat (I.time id a haa).2 I.now ?_)
        | refine Tri.ent Ent.front4 (where_spec hat (I.time id a haa).2 I.now ?_)
        | refine XO.indexArrN TT_ok rfl rfl rfl rfl rfl rfl rfl hlv ?_
        | refine XO.indexArrN TT_ok rfl rfl rfl rfl rfl rfl rfl hdg ?_
        | refine XO.load TT_ok rfl rfl rfl rfl rfl rfl (Reads.skip (Reads.here hrs)) ?_
        | refine XO.load TT_ok rfl rfl rfl rfl rfl rfl (Reads.here hrs) ?_
        | refine XO.load TT_ok rfl rfl rfl rfl rfl rfl (Reads.here hrs') ?_
        | refine XO.load TT_ok rfl rfl rfl rfl rfl rfl (Reads.here hrf) ?_
        | refine without_spec (by omega) hid ?_
        | refine Tri.ent Ent.front1 (without_spec (by omega) hid ?_)
        | refine Tri.ent Ent.front2 (without_spec (by omega) hid ?_)
        | refine Tri.ent Ent.front3 (without_spec (by omega) hid ?_)
        | refine Tri.ent Ent.front4 (without_spec (by omega) hid ?_)
        | refine XO.convN 63 TT_ok rfl rfl rfl rfl rfl rfl rfl rfl (by omega) ?_
        | refine XO.shl1 TT_ok rfl rfl rfl rfl rfl rfl hdg ?_
        | refine XO.andNotN TT_ok rfl rfl rfl rfl rfl rfl hf64 hp64 ?_
        | refine XO.storeW hws hle1 TT_ok trivial rfl rfl rfl rfl rfl rfl rfl rfl trivial ?_
        | refine XO.ent Ent.front1 (XO.storeW hws hle1 TT_ok trivial rfl rfl rfl rfl rfl rfl rfl rfl trivial ?_)
        | refine XO.storeW hwf hle2 TT_ok trivial rfl rfl rfl rfl rfl rfl rfl rfl trivial ?_
        | refine XS.seq ?_
        | refine XS.region (T := TT) ?_
        | refine XS.draw (T := TT) follows_ok (by decide +kernel) ?_
        | refine XS.block ?_
        | refine XS.inBlock ?_
        | refine XS.exit rfl ?_
        | refine XS.condT rfl ?_
        | refine XS.condF rfl ?_
        | refine XS.skip ?_
        | refine XS.label ?_
        | refine XO.load TT_ok rfl rfl rfl rfl rfl rfl (Reads.here rfl) ?_
        | refine XO.load TT_ok rfl rfl rfl rfl rfl rfl (Reads.skip (Reads.here rfl)) ?_
        | refine XO.load TT_ok rfl rfl rfl rfl rfl rfl (Reads.skip (Reads.skip (Reads.here rfl))) ?_
        | refine XO.load TT_ok rfl rfl rfl rfl rfl rfl (Reads.skip (Reads.skip (Reads.skip (Reads.here rfl)))) ?_
        | refine XO.load TT_ok rfl rfl rfl rfl rfl rfl (Reads.skip (Reads.skip (Reads.skip (Reads.skip (Reads.here rfl))))) ?_
        | refine XO.load TT_ok rfl rfl rfl rfl rfl rfl (Reads.skip (Reads.skip (Reads.skip (Reads.skip (Reads.skip (Reads.here rfl)))))) ?_
        | refine XO.no rfl rfl ?_
        | (refine XO.cmpI TT_ok rfl rfl rfl rfl rfl rfl rfl (fun hc => ?_) (fun hc => ?_) <;> (try (exfalso; omega)))
        | refine XO.pT TT_ok rfl rfl rfl rfl rfl ?_
        | refine XO.pF TT_ok rfl rfl rfl rfl rfl ?_
        | refine XO.cmp TT_ok rfl rfl rfl rfl rfl (fun hc => ?_) (fun hc => ?_)
        | refine XO.add64 TT_ok rfl rfl rfl rfl rfl rfl (by omega) (by omega) ?_
        | refine XO.sub64 TT_ok rfl rfl rfl rfl rfl rfl (by omega) (by omega) ?_
        | refine XO.mul64 TT_ok rfl rfl rfl rfl rfl rfl (by omega) (by omega) ?_
        | refine XO.quo64 rfl rfl rfl rfl rfl (by omega) (by omega) (by omega) ?_
        | refine XO.rem64 rfl rfl rfl rfl rfl (by omega) (by omega) ?_
        | refine XO.p TT_ok rfl rfl rfl rfl ?_
        | refine XO.storeL TT_ok trivial rfl rfl rfl rfl rfl rfl rfl rfl rfl rfl trivial ?_
        | refine XO.ent Ent.front1 (XO.storeL TT_ok trivial rfl rfl rfl rfl rfl rfl rfl rfl rfl rfl trivial ?_)
        | refine XO.ent Ent.front2 (XO.storeL TT_ok trivial rfl rfl rfl rfl rfl rfl rfl rfl rfl rfl trivial ?_)
        | refine XO.ent Ent.front3 (XO.storeL TT_ok trivial rfl rfl rfl rfl rfl rfl rfl rfl rfl rfl trivial ?_)
        | refine XO.ent Ent.front4 (XO.storeL TT_ok trivial rfl rfl rfl rfl rfl rfl rfl rfl rfl rfl trivial ?_)
        | refine XO.ent Ent.front5 (XO.storeL TT_ok trivial rfl rfl rfl rfl rfl rfl rfl rfl rfl rfl trivial ?_)
        | refine XO.box trivial rfl rfl rfl rfl rfl (fun _ => trivial) (fun bb => ?_)
        | refine XO.alloc TT_ok trivial rfl rfl rfl rfl rfl (fun _ => trivial) (fun bb => ?_)
        | refine XO.build TT_ok rfl rfl rfl rfl rfl ?_
        | refine XO.lenSlice TT_ok rfl rfl rfl rfl rfl rfl ?_
        | refine XO.lenString TT_ok rfl rfl rfl rfl rfl rfl ?_
        | refine XO.indexStr TT_ok rfl rfl rfl rfl rfl rfl (by omega) (by omega) ?_
        | refine XO.indexAddr TT_ok rfl rfl rfl rfl rfl rfl rfl (by omega) (by omega) ?_
        | refine XO.addStr rfl rfl rfl rfl rfl (by omega) ?_
        | refine XO.buildSlice TT_ok trivial rfl rfl rfl rfl rfl rfl rfl rfl rfl rfl rfl rfl (fun _ => trivial) (fun bb => ?_)
        | refine XO.callF rfl rfl rfl (by kernel_rfl) rfl ?_)
      · have hc0 : ((no id xids).length : Int) = 0 := hc
        have he : no id xids = [] := no_len.1 (show (no id xids).length = 0 by omega)
        rw [clr, if_pos he] at hI
        have hw := wheel_mk (F := F) (b := b) (m := m) (sl := sl.set (slot a t) ⟨some ⟨g, 0, none⟩, xc, no id xids⟩) (rd := ⟨ra, rc, rd⟩) (by rw [List.map_set]; exact hI)
        exact XS.ret1 Tryd.func15 rfl Tryd.results15 rfl (Ent.trans (hE _ _ (cel 0 0 []) _) hw) h
      · have he : no id xids ≠ [] := fun e => hc (by rw [e]; rfl)
        rw [clr, if_neg he, ← set_self hf] at hI
        have hw := wheel_mk (F := F) (b := b) (m := m) (sl := sl.set (slot a t) ⟨some ⟨g, 0, none⟩, xc, no id xids⟩) (rd := ⟨ra, rc, rd⟩) (by rw [List.map_set]; exact hI)
        exact XS.ret1 Tryd.func15 rfl Tryd.results15 rfl (Ent.trans (hE _ _ (cel 0 0 []) _) hw) h
/-- A time may be set. -/
def OkAt (t : Nat) (at' : Int) : Prop := (t : Int) ≤ at' ∧ at' ≤ 1099511627776
def OkId (id : Int) : Prop := 0 ≤ id ∧ id ≤ 1099511627776
set_option maxHeartbeats 4000000 in
theorem set_bad {b t : Nat} {tm : Tm} {id at' : Int} (hn : tm.length ≤ 4096) (h21 : ¬ OkId id → K (kI 21) (wheelP b t tm [] :: F)) (h20 : OkId id → ¬ OkAt t at' → K (kI 20) (wheelP b t tm [] :: F))
    (h22 : OkId id → OkAt t at' → aget tm id = none → 4096 ≤ tm.length → K (kI 22) (wheelP b t tm [] :: F)) (hbad : ¬ (OkId id ∧ OkAt t at' ∧ (aget tm id = none → tm.length < 4096))) :
    Tri Tryd.prog 12 #[ptr b, kI id, kI at'] w0 (wheelP b t tm [] :: F) K := by
  refine Tri.enter Tryd.func12 rfl Tryd.ntmps12 rfl ?_
  refine XS.wheel (fun m sl full ra rc rd I => ?_)
  have hlen : ((enc tm).length : Int) = tm.length := by rw [enc, List.length_map]
  have hend := wheel_mk (F := F) (b := b) (m := m) (rd := ⟨ra, rc, rd⟩) I
  cases haa : aget tm id with
  | none =>
    have hm : mget (enc tm) id = none := by rw [mget_enc, haa]; rfl
    have hbad' : ¬ OkId id ∨ ¬ OkAt t at' ∨ 4096 ≤ tm.length := by
      by_cases q1 : OkId id
      · by_cases q2 : OkAt t at'
        · exact .inr (.inr (Nat.le_of_not_lt fun q => hbad ⟨q1, q2, fun _ => q⟩))
        · exact .inr (.inl q2)
      · exact .inl q1
    clear hbad
    unfold OkId OkAt at *
    repeat' (first
      | refine XO.q TT_ok rfl rfl rfl rfl rfl ?_
      | refine XO.nil ?_
      | refine XO.lookupOk keyI64 TT_ok rfl rfl rfl rfl rfl rfl rfl rfl rfl (fun _ h => ⟨_, h.ent Ent.front1⟩) (fun v hv => absurd (hv.symm.trans hm) (by simp)) (fun _ => ?_)
      | refine XO.lenMap (es := enc tm) TT_ok rfl rfl rfl rfl rfl rfl (fun _ h => ⟨_, h.ent Ent.front1⟩) ?_
      | refine XS.seq ?_
      | refine XS.region (T := TT) ?_
      | refine XS.draw (T := TT) follows_ok (by decide +kernel) ?_
      | refine XS.block ?_
      | refine XS.inBlock ?_
      | refine XS.exit rfl ?_
      | refine XS.condT rfl ?_
      | refine XS.condF rfl ?_
      | refine XS.skip ?_
      | refine XS.label ?_
      | refine XO.load TT_ok rfl rfl rfl rfl rfl rfl (Reads.here rfl) ?_
      | refine XO.load TT_ok rfl rfl rfl rfl rfl rfl (Reads.skip (Reads.here rfl)) ?_
      | refine XO.load TT_ok rfl rfl rfl rfl rfl rfl (Reads.skip (Reads.skip (Reads.here rfl))) ?_
      | refine XO.load TT_ok rfl rfl rfl rfl rfl rfl (Reads.skip (Reads.skip (Reads.skip (Reads.here rfl)))) ?_
      | refine XO.load TT_ok rfl rfl rfl rfl rfl rfl (Reads.skip (Reads.skip (Reads.skip (Reads.skip (Reads.here rfl))))) ?_
      | refine XO.load TT_ok rfl rfl rfl rfl rfl rfl (Reads.skip (Reads.skip (Reads.skip (Reads.skip (Reads.skip (Reads.here rfl)))))) ?_
      | refine XO.no rfl rfl ?_
      | (refine XO.cmpI TT_ok rfl rfl rfl rfl rfl rfl rfl (fun hc => ?_) (fun hc => ?_) <;> (try (exfalso; omega)))
      | refine XO.pT TT_ok rfl rfl rfl rfl rfl ?_
      | refine XO.pF TT_ok rfl rfl rfl rfl rfl ?_
      | refine XO.cmp TT_ok rfl rfl rfl rfl rfl (fun hc => ?_) (fun hc => ?_)
      | refine XO.add64 TT_ok rfl rfl rfl rfl rfl rfl (by omega) (by omega) ?_
      | refine XO.sub64 TT_ok rfl rfl rfl rfl rfl rfl (by omega) (by omega) ?_
      | refine XO.mul64 TT_ok rfl rfl rfl rfl rfl rfl (by omega) (by omega) ?_
      | refine XO.quo64 rfl rfl rfl rfl rfl (by omega) (by omega) (by omega) ?_
      | refine XO.rem64 rfl rfl rfl rfl rfl (by omega) (by omega) ?_
      | refine XO.p TT_ok rfl rfl rfl rfl ?_
      | refine XO.storeL TT_ok trivial rfl rfl rfl rfl rfl rfl rfl rfl rfl rfl trivial ?_
      | refine XO.ent Ent.front1 (XO.storeL TT_ok trivial rfl rfl rfl rfl rfl rfl rfl rfl rfl rfl trivial ?_)
      | refine XO.ent Ent.front2 (XO.storeL TT_ok trivial rfl rfl rfl rfl rfl rfl rfl rfl rfl rfl trivial ?_)
      | refine XO.ent Ent.front3 (XO.storeL TT_ok trivial rfl rfl rfl rfl rfl rfl rfl rfl rfl rfl trivial ?_)
      | refine XO.ent Ent.front4 (XO.storeL TT_ok trivial rfl rfl rfl rfl rfl rfl rfl rfl rfl rfl trivial ?_)
      | refine XO.ent Ent.front5 (XO.storeL TT_ok trivial rfl rfl rfl rfl rfl rfl rfl rfl rfl rfl trivial ?_)
      | refine XO.box trivial rfl rfl rfl rfl rfl (fun _ => trivial) (fun bb => ?_)
      | refine XO.alloc TT_ok trivial rfl rfl rfl rfl rfl (fun _ => trivial) (fun bb => ?_)
      | refine XO.build TT_ok rfl rfl rfl rfl rfl ?_
      | refine XO.lenSlice TT_ok rfl rfl rfl rfl rfl rfl ?_
      | refine XO.lenString TT_ok rfl rfl rfl rfl rfl rfl ?_
      | refine XO.indexStr TT_ok rfl rfl rfl rfl rfl rfl (by omega) (by omega) ?_
      | refine XO.indexAddr TT_ok rfl rfl rfl rfl rfl rfl rfl (by omega) (by omega) ?_
      | refine XO.addStr rfl rfl rfl rfl rfl (by omega) ?_
      | refine XO.buildSlice TT_ok trivial rfl rfl rfl rfl rfl rfl rfl rfl rfl rfl rfl rfl (fun _ => trivial) (fun bb => ?_)
      | refine XO.callF rfl rfl rfl (by kernel_rfl) rfl ?_)
    all_goals first
      | exact XS.ret1 Tryd.func12 rfl Tryd.results12 rfl hend (h21 (by omega))
      | exact XS.ret1 Tryd.func12 rfl Tryd.results12 rfl hend (h20 (by omega) (by omega))
      | exact XS.ret1 Tryd.func12 rfl Tryd.results12 rfl hend (h22 (by omega) (by omega) haa (by omega))
  | some a =>
    have hm : mget (enc tm) id = some (kI (a : Nat)) := by rw [mget_enc, haa]; rfl
    have hbad' : ¬ OkId id ∨ ¬ OkAt t at' := by
      by_cases q1 : OkId id
      · exact .inr fun q2 => hbad ⟨q1, q2, fun e => by rw [haa] at e; cases e⟩
      · exact .inl q1
    clear hbad
    unfold OkId OkAt at *
    repeat' (first
      | refine XO.q TT_ok rfl rfl rfl rfl rfl ?_
      | refine XO.nil ?_
      | (refine XO.lookupOk keyI64 TT_ok rfl rfl rfl rfl rfl rfl rfl rfl rfl (fun _ h => ⟨_, h.ent Ent.front1⟩) (fun v hv => ?_) (fun hv => absurd (hv.symm.trans hm) (by simp)); obtain rfl : kI (a : Nat) = v := Option.some.inj (hm.symm.trans hv))
      | refine XS.seq ?_
      | refine XS.region (T := TT) ?_
      | refine XS.draw (T := TT) follows_ok (by decide +kernel) ?_
      | refine XS.block ?_
      | refine XS.inBlock ?_
      | refine XS.exit rfl ?_
      | refine XS.condT rfl ?_
      | refine XS.condF rfl ?_
      | refine XS.skip ?_
      | refine XS.label ?_
      | refine XO.load TT_ok rfl rfl rfl rfl rfl rfl (Reads.here rfl) ?_
      | refine XO.load TT_ok rfl rfl rfl rfl rfl rfl (Reads.skip (Reads.here rfl)) ?_
      | refine XO.load TT_ok rfl rfl rfl rfl rfl rfl (Reads.skip (Reads.skip (Reads.here rfl))) ?_
      | refine XO.load TT_ok rfl rfl rfl rfl rfl rfl (Reads.skip (Reads.skip (Reads.skip (Reads.here rfl)))) ?_
      | refine XO.load TT_ok rfl rfl rfl rfl rfl rfl (Reads.skip (Reads.skip (Reads.skip (Reads.skip (Reads.here rfl))))) ?_
      | refine XO.load TT_ok rfl rfl rfl rfl rfl rfl (Reads.skip (Reads.skip (Reads.skip (Reads.skip (Reads.skip (Reads.here rfl)))))) ?_
      | refine XO.no rfl rfl ?_
      | (refine XO.cmpI TT_ok rfl rfl rfl rfl rfl rfl rfl (fun hc => ?_) (fun hc => ?_) <;> (try (exfalso; omega)))
      | refine XO.pT TT_ok rfl rfl rfl rfl rfl ?_
      | refine XO.pF TT_ok rfl rfl rfl rfl rfl ?_
      | refine XO.cmp TT_ok rfl rfl rfl rfl rfl (fun hc => ?_) (fun hc => ?_)
      | refine XO.add64 TT_ok rfl rfl rfl rfl rfl rfl (by omega) (by omega) ?_
      | refine XO.sub64 TT_ok rfl rfl rfl rfl rfl rfl (by omega) (by omega) ?_
      | refine XO.mul64 TT_ok rfl rfl rfl rfl rfl rfl (by omega) (by omega) ?_
      | refine XO.quo64 rfl rfl rfl rfl rfl (by omega) (by omega) (by omega) ?_
      | refine XO.rem64 rfl rfl rfl rfl rfl (by omega) (by omega) ?_
      | refine XO.p TT_ok rfl rfl rfl rfl ?_
      | refine XO.storeL TT_ok trivial rfl rfl rfl rfl rfl rfl rfl rfl rfl rfl trivial ?_
      | refine XO.ent Ent.front1 (XO.storeL TT_ok trivial rfl rfl rfl rfl rfl rfl rfl rfl rfl rfl trivial ?_)
      | refine XO.ent Ent.front2 (XO.storeL TT_ok trivial rfl rfl rfl rfl rfl rfl rfl rfl rfl rfl trivial ?_)
      | refine XO.ent Ent.front3 (XO.storeL TT_ok trivial rfl rfl rfl rfl rfl rfl rfl rfl rfl rfl trivial ?_)
      | refine XO.ent Ent.front4 (XO.storeL TT_ok trivial rfl rfl rfl rfl rfl rfl rfl rfl rfl rfl trivial ?_)
      | refine XO.ent Ent.front5 (XO.storeL TT_ok trivial rfl rfl rfl rfl rfl rfl rfl rfl rfl rfl trivial ?_)
      | refine XO.box trivial rfl rfl rfl rfl rfl (fun _ => trivial) (fun bb => ?_)
      | refine XO.alloc TT_ok trivial rfl rfl rfl rfl rfl (fun _ => trivial) (fun bb => ?_)
      | refine XO.build TT_ok rfl rfl rfl rfl rfl ?_
      | refine XO.lenSlice TT_ok rfl rfl rfl rfl rfl rfl ?_
      | refine XO.lenString TT_ok rfl rfl rfl rfl rfl rfl ?_
      | refine XO.indexStr TT_ok rfl rfl rfl rfl rfl rfl (by omega) (by omega) ?_
      | refine XO.indexAddr TT_ok rfl rfl rfl rfl rfl rfl rfl (by omega) (by omega) ?_
      | refine XO.addStr rfl rfl rfl rfl rfl (by omega) ?_
      | refine XO.buildSlice TT_ok trivial rfl rfl rfl rfl rfl rfl rfl rfl rfl rfl rfl rfl (fun _ => trivial) (fun bb => ?_)
      | refine XO.callF rfl rfl rfl (by kernel_rfl) rfl ?_)
    all_goals first
      | exact XS.ret1 Tryd.func12 rfl Tryd.results12 rfl hend (h21 (by omega))
      | exact XS.ret1 Tryd.func12 rfl Tryd.results12 rfl hend (h20 (by omega) (by omega))
theorem adel_none {tm : Tm} {id : Int} (h : aget tm id = none) : adel tm id = tm := by
  induction tm with
  | nil => rfl
  | cons p l ih =>
    simp only [aget] at h
    split at h
    · cases h
    · rename_i hne; rw [adel, if_neg hne, ih h]
set_option maxHeartbeats 4000000 in
theorem set_good {b t a : Nat} {tm : Tm} {id : Int} (hn : tm.length ≤ 4096) (g1 : OkId id) (g2 : OkAt t a) (g3 : aget tm id = none → tm.length < 4096) (h : K (kI 0) (wheelP b t (aset (adel tm id) id a) [] :: F)) :
    Tri Tryd.prog 12 #[ptr b, kI id, kI a] w0 (wheelP b t tm [] :: F) K := by
  refine Tri.enter Tryd.func12 rfl Tryd.ntmps12 rfl ?_
  refine XS.wheel (fun m sl full ra rc rd I => ?_)
  have hlen : ((enc tm).length : Int) = tm.length := by rw [enc, List.length_map]
  have hdn : aget (adel tm id) id = none := by rw [aget_del I.keys, if_pos rfl]
  have hdl : (aset (adel tm id) id a).length ≤ 4096 := by
    rw [len_set, hdn]
    cases haa : aget tm id with
    | none => have := g3 haa; rw [adel_none haa]; simp; omega
    | some c => rw [len_del haa]; have := List.length_pos_of_mem (aget_mem haa); simp; omega
  have hga : aget (aset (adel tm id) id a) id = some a := by rw [aget_set, if_pos rfl]
  unfold OkId OkAt at *
  have h1 : t ≤ a := by omega
  have h2 : a ≤ 1099511627776 := by omega
  have hkeep := I
  cases haa : aget tm id with
  | none =>
    have hm : mget (enc tm) id = none := by rw [mget_enc, haa]; rfl
    have g3' := g3 haa
    rw [adel_none haa] at hdn hdl hga h
    repeat' (first
      | refine XO.q TT_ok rfl rfl rfl rfl rfl ?_
      | refine XO.nil ?_
      | refine XO.lookupOk keyI64 TT_ok rfl rfl rfl rfl rfl rfl rfl rfl rfl (fun _ h => ⟨_, h.ent Ent.front1⟩) (fun v hv => absurd (hv.symm.trans hm) (by simp)) (fun _ => ?_)
      | refine XO.lenMap (es := enc tm) TT_ok rfl rfl rfl rfl rfl rfl (fun _ h => ⟨_, h.ent Ent.front1⟩) ?_
      | refine Tri.ent (wheel_mk (rd := ⟨ra, rc, rd⟩) hkeep) (cancel_spec hn (fun _ => ?_) (fun a' ha' => absurd (ha'.symm.trans haa) (by simp)))
      | refine XO.wheel (fun m sl full ra rc rd I => ?_)
      | (refine XO.ent Ent.front1 (XO.mapSet keyI64 TT_ok trivial rfl rfl rfl rfl rfl rfl rfl rfl trivial ?_); rw [mset_enc]; have I2 := I.add hdn h1 h2; refine XO.ent Ent.front1 ?_)
      | refine Tri.ent (wheel_mk (rd := ⟨ra, rc, rd⟩) I2) (place_spec hdl (List.not_mem_nil) hga ?_)
      | refine XO.callV rfl rfl rfl (by kernel_rfl) rfl ?_
      | refine XS.seq ?_
      | refine XS.region (T := TT) ?_
      | refine XS.draw (T := TT) follows_ok (by decide +kernel) ?_
      | refine XS.block ?_
      | refine XS.inBlock ?_
      | refine XS.exit rfl ?_
      | refine XS.condT rfl ?_
      | refine XS.condF rfl ?_
      | refine XS.skip ?_
      | refine XS.label ?_
      | refine XO.load TT_ok rfl rfl rfl rfl rfl rfl (Reads.here rfl) ?_
      | refine XO.load TT_ok rfl rfl rfl rfl rfl rfl (Reads.skip (Reads.here rfl)) ?_
      | refine XO.load TT_ok rfl rfl rfl rfl rfl rfl (Reads.skip (Reads.skip (Reads.here rfl))) ?_
      | refine XO.load TT_ok rfl rfl rfl rfl rfl rfl (Reads.skip (Reads.skip (Reads.skip (Reads.here rfl)))) ?_
      | refine XO.load TT_ok rfl rfl rfl rfl rfl rfl (Reads.skip (Reads.skip (Reads.skip (Reads.skip (Reads.here rfl))))) ?_
      | refine XO.load TT_ok rfl rfl rfl rfl rfl rfl (Reads.skip (Reads.skip (Reads.skip (Reads.skip (Reads.skip (Reads.here rfl)))))) ?_
      | refine XO.no rfl rfl ?_
      | (refine XO.cmpI TT_ok rfl rfl rfl rfl rfl rfl rfl (fun hc => ?_) (fun hc => ?_) <;> (try (exfalso; omega)))
      | refine XO.pT TT_ok rfl rfl rfl rfl rfl ?_
      | refine XO.pF TT_ok rfl rfl rfl rfl rfl ?_
      | refine XO.cmp TT_ok rfl rfl rfl rfl rfl (fun hc => ?_) (fun hc => ?_)
      | refine XO.add64 TT_ok rfl rfl rfl rfl rfl rfl (by omega) (by omega) ?_
      | refine XO.sub64 TT_ok rfl rfl rfl rfl rfl rfl (by omega) (by omega) ?_
      | refine XO.mul64 TT_ok rfl rfl rfl rfl rfl rfl (by omega) (by omega) ?_
      | refine XO.quo64 rfl rfl rfl rfl rfl (by omega) (by omega) (by omega) ?_
      | refine XO.rem64 rfl rfl rfl rfl rfl (by omega) (by omega) ?_
      | refine XO.p TT_ok rfl rfl rfl rfl ?_
      | refine XO.storeL TT_ok trivial rfl rfl rfl rfl rfl rfl rfl rfl rfl rfl trivial ?_
      | refine XO.ent Ent.front1 (XO.storeL TT_ok trivial rfl rfl rfl rfl rfl rfl rfl rfl rfl rfl trivial ?_)
      | refine XO.ent Ent.front2 (XO.storeL TT_ok trivial rfl rfl rfl rfl rfl rfl rfl rfl rfl rfl trivial ?_)
      | refine XO.ent Ent.front3 (XO.storeL TT_ok trivial rfl rfl rfl rfl rfl rfl rfl rfl rfl rfl trivial ?_)
      | refine XO.ent Ent.front4 (XO.storeL TT_ok trivial rfl rfl rfl rfl rfl rfl rfl rfl rfl rfl trivial ?_)
      | refine XO.ent Ent.front5 (XO.storeL TT_ok trivial rfl rfl rfl rfl rfl rfl rfl rfl rfl rfl trivial ?_)
      | refine XO.box trivial rfl rfl rfl rfl rfl (fun _ => trivial) (fun bb => ?_)
      | refine XO.alloc TT_ok trivial rfl rfl rfl rfl rfl (fun _ => trivial) (fun bb => ?_)
      | refine XO.build TT_ok rfl rfl rfl rfl rfl ?_
      | refine XO.lenSlice TT_ok rfl rfl rfl rfl rfl rfl ?_
      | refine XO.lenString TT_ok rfl rfl rfl rfl rfl rfl ?_
      | refine XO.indexStr TT_ok rfl rfl rfl rfl rfl rfl (by omega) (by omega) ?_
      | refine XO.indexAddr TT_ok rfl rfl rfl rfl rfl rfl rfl (by omega) (by omega) ?_
      | refine XO.addStr rfl rfl rfl rfl rfl (by omega) ?_
      | refine XO.buildSlice TT_ok trivial rfl rfl rfl rfl rfl rfl rfl rfl rfl rfl rfl rfl (fun _ => trivial) (fun bb => ?_)
      | refine XO.callF rfl rfl rfl (by kernel_rfl) rfl ?_)
    exact XS.ret1 Tryd.func12 rfl Tryd.results12 rfl (Ent.refl _) h
  | some c =>
    have hm : mget (enc tm) id = some (kI (c : Nat)) := by rw [mget_enc, haa]; rfl
    repeat' (first
      | refine XO.q TT_ok rfl rfl rfl rfl rfl ?_
      | refine XO.nil ?_
      | (refine XO.lookupOk keyI64 TT_ok rfl rfl rfl rfl rfl rfl rfl rfl rfl (fun _ h => ⟨_, h.ent Ent.front1⟩) (fun v hv => ?_) (fun hv => absurd (hv.symm.trans hm) (by simp)); obtain rfl : kI (c : Nat) = v := Option.some.inj (hm.symm.trans hv))
      | refine Tri.ent (wheel_mk (rd := ⟨ra, rc, rd⟩) hkeep) (cancel_spec hn (fun ha' => absurd (ha'.symm.trans haa) (by simp)) (fun _ _ => ?_))
      | refine XO.wheel (fun m sl full ra rc rd I => ?_)
      | (refine XO.ent Ent.front1 (XO.mapSet keyI64 TT_ok trivial rfl rfl rfl rfl rfl rfl rfl rfl trivial ?_); rw [mset_enc]; have I2 := I.add hdn h1 h2; refine XO.ent Ent.front1 ?_)
      | refine Tri.ent (wheel_mk (rd := ⟨ra, rc, rd⟩) I2) (place_spec hdl (List.not_mem_nil) hga ?_)
      | refine XO.callV rfl rfl rfl (by kernel_rfl) rfl ?_
      | refine XS.seq ?_
      | refine XS.region (T := TT) ?_
      | refine XS.draw (T := TT) follows_ok (by decide +kernel) ?_
      | refine XS.block ?_
      | refine XS.inBlock ?_
      | refine XS.exit rfl ?_
      | refine XS.condT rfl ?_
      | refine XS.condF rfl ?_
      | refine XS.skip ?_
      | refine XS.label ?_
      | refine XO.load TT_ok rfl rfl rfl rfl rfl rfl (Reads.here rfl) ?_
      | refine XO.load TT_ok rfl rfl rfl rfl rfl rfl (Reads.skip (Reads.here rfl)) ?_
      | refine XO.load TT_ok rfl rfl rfl rfl rfl rfl (Reads.skip (Reads.skip (Reads.here rfl))) ?_
      | refine XO.load TT_ok rfl rfl rfl rfl rfl rfl (Reads.skip (Reads.skip (Reads.skip (Reads.here rfl)))) ?_
      | refine XO.load TT_ok rfl rfl rfl rfl rfl rfl (Reads.skip (Reads.skip (Reads.skip (Reads.skip (Reads.here rfl))))) ?_
      | refine XO.load TT_ok rfl rfl rfl rfl rfl rfl (Reads.skip (Reads.skip (Reads.skip (Reads.skip (Reads.skip (Reads.here rfl)))))) ?_
      | refine XO.no rfl rfl ?_
      | (refine XO.cmpI TT_ok rfl rfl rfl rfl rfl rfl rfl (fun hc => ?_) (fun hc => ?_) <;> (try (exfalso; omega)))
      | refine XO.pT TT_ok rfl rfl rfl rfl rfl ?_
      | refine XO.pF TT_ok rfl rfl rfl rfl rfl ?_
      | refine XO.cmp TT_ok rfl rfl rfl rfl rfl (fun hc => ?_) (fun hc => ?_)
      | refine XO.add64 TT_ok rfl rfl rfl rfl rfl rfl (by omega) (by omega) ?_
      | refine XO.sub64 TT_ok rfl rfl rfl rfl rfl rfl (by omega) (by omega) ?_
      | refine XO.mul64 TT_ok rfl rfl rfl rfl rfl rfl (by omega) (by omega) ?_
      | refine XO.quo64 rfl rfl rfl rfl rfl (by omega) (by omega) (by omega) ?_
      | refine XO.rem64 rfl rfl rfl rfl rfl (by omega) (by omega) ?_
      | refine XO.p TT_ok rfl rfl rfl rfl ?_
      | refine XO.storeL TT_ok trivial rfl rfl rfl rfl rfl rfl rfl rfl rfl rfl trivial ?_
      | refine XO.ent Ent.front1 (XO.storeL TT_ok trivial rfl rfl rfl rfl rfl rfl rfl rfl rfl rfl trivial ?_)
      | refine XO.ent Ent.front2 (XO.storeL TT_ok trivial rfl rfl rfl rfl rfl rfl rfl rfl rfl rfl trivial ?_)
      | refine XO.ent Ent.front3 (XO.storeL TT_ok trivial rfl rfl rfl rfl rfl rfl rfl rfl rfl rfl trivial ?_)
      | refine XO.ent Ent.front4 (XO.storeL TT_ok trivial rfl rfl rfl rfl rfl rfl rfl rfl rfl rfl trivial ?_)
      | refine XO.ent Ent.front5 (XO.storeL TT_ok trivial rfl rfl rfl rfl rfl rfl rfl rfl rfl rfl trivial ?_)
      | refine XO.box trivial rfl rfl rfl rfl rfl (fun _ => trivial) (fun bb => ?_)
      | refine XO.alloc TT_ok trivial rfl rfl rfl rfl rfl (fun _ => trivial) (fun bb => ?_)
      | refine XO.build TT_ok rfl rfl rfl rfl rfl ?_
      | refine XO.lenSlice TT_ok rfl rfl rfl rfl rfl rfl ?_
      | refine XO.lenString TT_ok rfl rfl rfl rfl rfl rfl ?_
      | refine XO.indexStr TT_ok rfl rfl rfl rfl rfl rfl (by omega) (by omega) ?_
      | refine XO.indexAddr TT_ok rfl rfl rfl rfl rfl rfl rfl (by omega) (by omega) ?_
      | refine XO.addStr rfl rfl rfl rfl rfl (by omega) ?_
      | refine XO.buildSlice TT_ok trivial rfl rfl rfl rfl rfl rfl rfl rfl rfl rfl rfl rfl (fun _ => trivial) (fun bb => ?_)
      | refine XO.callF rfl rfl rfl (by kernel_rfl) rfl ?_)
    exact XS.ret1 Tryd.func12 rfl Tryd.results12 rfl (Ent.refl _) h
theorem drop_nodup {l : List Int} {j : Nat} {z : Int} (hz : l[j]? = some z) (hn : l.Nodup) : l.drop j = z :: l.drop (j + 1) ∧ z ∉ l.drop (j + 1) := by
  have hlt := (List.getElem?_eq_some_iff.1 hz).1
  have e : l.drop j = z :: l.drop (j + 1) := by
    rw [List.drop_eq_getElem_cons hlt]; congr 1; exact (List.getElem?_eq_some_iff.1 hz).2
  have hd : (l.drop j).Nodup := hn.sublist (List.drop_sublist _ _)
  rw [e, List.nodup_cons] at hd
  exact ⟨e, hd.1⟩
set_option maxHeartbeats 4000000 in
theorem move_spec {b t to : Nat} {tm : Tm} (hn : tm.length ≤ 4096) (h1 : t ≤ to) (h2 : to ≤ 1099511627776) (hno : ∀ id a, aget tm id = some a → to ≤ a) (h : K (.tuple #[]) (wheelP b to tm [] :: F)) :
    Tri Tryd.prog 21 #[ptr b, kI to] w0 (wheelP b t tm [] :: F) K := by
  refine Tri.enter Tryd.func21 rfl Tryd.ntmps21 rfl ?_
  refine XS.wheel (fun m sl full ra rc rd I => ?_)
  have k1 : sl.length = 448 := by have := I.lsn; rwa [List.length_map] at this
  have k2 := I.fulln
  by_cases hto : to = t
  · subst hto
    repeat' (first
      | refine XO.q TT_ok rfl rfl rfl rfl rfl ?_
      | refine XO.nil ?_
      | refine XS.seq ?_
      | refine XS.region (T := TT) ?_
      | refine XS.draw (T := TT) follows_ok (by decide +kernel) ?_
      | refine XS.block ?_
      | refine XS.inBlock ?_
      | refine XS.exit rfl ?_
      | refine XS.condT rfl ?_
      | refine XS.condF rfl ?_
      | refine XS.skip ?_
      | refine XS.label ?_
      | refine XO.load TT_ok rfl rfl rfl rfl rfl rfl (Reads.here rfl) ?_
      | refine XO.load TT_ok rfl rfl rfl rfl rfl rfl (Reads.skip (Reads.here rfl)) ?_
      | refine XO.load TT_ok rfl rfl rfl rfl rfl rfl (Reads.skip (Reads.skip (Reads.here rfl))) ?_
      | refine XO.load TT_ok rfl rfl rfl rfl rfl rfl (Reads.skip (Reads.skip (Reads.skip (Reads.here rfl)))) ?_
      | refine XO.load TT_ok rfl rfl rfl rfl rfl rfl (Reads.skip (Reads.skip (Reads.skip (Reads.skip (Reads.here rfl))))) ?_
      | refine XO.load TT_ok rfl rfl rfl rfl rfl rfl (Reads.skip (Reads.skip (Reads.skip (Reads.skip (Reads.skip (Reads.here rfl)))))) ?_
      | refine XO.no rfl rfl ?_
      | (refine XO.cmpI TT_ok rfl rfl rfl rfl rfl rfl rfl (fun hc => ?_) (fun hc => ?_) <;> (try (exfalso; omega)))
      | refine XO.pT TT_ok rfl rfl rfl rfl rfl ?_
      | refine XO.pF TT_ok rfl rfl rfl rfl rfl ?_
      | refine XO.cmp TT_ok rfl rfl rfl rfl rfl (fun hc => ?_) (fun hc => ?_)
      | refine XO.add64 TT_ok rfl rfl rfl rfl rfl rfl (by omega) (by omega) ?_
      | refine XO.sub64 TT_ok rfl rfl rfl rfl rfl rfl (by omega) (by omega) ?_
      | refine XO.mul64 TT_ok rfl rfl rfl rfl rfl rfl (by omega) (by omega) ?_
      | refine XO.quo64 rfl rfl rfl rfl rfl (by omega) (by omega) (by omega) ?_
      | refine XO.rem64 rfl rfl rfl rfl rfl (by omega) (by omega) ?_
      | refine XO.p TT_ok rfl rfl rfl rfl ?_
      | refine XO.storeL TT_ok trivial rfl rfl rfl rfl rfl rfl rfl rfl rfl rfl trivial ?_
      | refine XO.ent Ent.front1 (XO.storeL TT_ok trivial rfl rfl rfl rfl rfl rfl rfl rfl rfl rfl trivial ?_)
      | refine XO.ent Ent.front2 (XO.storeL TT_ok trivial rfl rfl rfl rfl rfl rfl rfl rfl rfl rfl trivial ?_)
      | refine XO.ent Ent.front3 (XO.storeL TT_ok trivial rfl rfl rfl rfl rfl rfl rfl rfl rfl rfl trivial ?_)
      | refine XO.ent Ent.front4 (XO.storeL TT_ok trivial rfl rfl rfl rfl rfl rfl rfl rfl rfl rfl trivial ?_)
      | refine XO.ent Ent.front5 (XO.storeL TT_ok trivial rfl rfl rfl rfl rfl rfl rfl rfl rfl rfl trivial ?_)
      | refine XO.box trivial rfl rfl rfl rfl rfl (fun _ => trivial) (fun bb => ?_)
      | refine XO.alloc TT_ok trivial rfl rfl rfl rfl rfl (fun _ => trivial) (fun bb => ?_)
      | refine XO.build TT_ok rfl rfl rfl rfl rfl ?_
      | refine XO.lenSlice TT_ok rfl rfl rfl rfl rfl rfl ?_
      | refine XO.lenString TT_ok rfl rfl rfl rfl rfl rfl ?_
      | refine XO.indexStr TT_ok rfl rfl rfl rfl rfl rfl (by omega) (by omega) ?_
      | refine XO.indexAddr TT_ok rfl rfl rfl rfl rfl rfl rfl (by omega) (by omega) ?_
      | refine XO.addStr rfl rfl rfl rfl rfl (by omega) ?_
      | refine XO.buildSlice TT_ok trivial rfl rfl rfl rfl rfl rfl rfl rfl rfl rfl rfl rfl (fun _ => trivial) (fun bb => ?_)
      | refine XO.callF rfl rfl rfl (by kernel_rfl) rfl ?_)
    exact XS.ret0k Tryd.func21 rfl Tryd.results21 (wheel_mk (rd := ⟨ra, rc, rd⟩) I) h
  · have hlv := lev_lt h2 I.now hto
    have hdg := dig_lt to (lev to t)
    have hk := slot_lt h2 I.now hto
    obtain ⟨⟨xa, xc, xids⟩, hx⟩ : ∃ x, sl[slot to t]? = some x := ⟨_, List.getElem?_eq_getElem (by omega)⟩
    obtain ⟨f, hf⟩ : ∃ f, full[lev to t]? = some f := ⟨_, List.getElem?_eq_getElem (by omega)⟩
    have hxm : (sl.map (·.ids))[slot to t]? = some xids := by rw [List.getElem?_map, hx]; rfl
    have hxl := I.sl_len hxm
    have hxn := I.sln _ _ hxm
    have hxg : ∀ z ∈ xids, ∃ a, aget tm z = some a := fun z hz => let ⟨a, ha, _⟩ := (I.slm _ _ hxm z).1 hz; ⟨a, ha⟩
    have hf64 := I.big _ _ hf
    have hp64 : 2 ^ dig to (lev to t) < 2 ^ 64 := Nat.pow_lt_pow_right (by omega) hdg
    have eo : 0 + 2 + lev to t * 64 + dig to (lev to t) * 1 = 2 + slot to t := by unfold slot; omega
    have k1' : (sl.set (slot to t) ⟨none, 0, []⟩).length = 448 := by rw [List.length_set]; exact k1
    have hI := I.move (by omega) h2 hno hxm hf
    have hrs : (wcells to m sl full (.slice ra rd.length rc))[0 + 2 + lev to t * 64 + dig to (lev to t) * 1]? = some (.slice xa xids.length xc) := by rw [eo]; exact wc_sl hx
    have hws : wr (wcells to m sl full (.slice ra rd.length rc)) (0 + 2 + lev to t * 64 + dig to (lev to t) * 1) [.slice none 0 0] = wcells to m (sl.set (slot to t) ⟨none, 0, []⟩) full (.slice ra rd.length rc) := by
      rw [eo]; exact wc_set_sl (x := ⟨none, 0, []⟩) (show slot to t < sl.length by omega)
    have hrf : (wcells to m (sl.set (slot to t) ⟨none, 0, []⟩) full (.slice ra rd.length rc))[0 + 450 + lev to t * 1]? = some (kU f) := by
      rw [show 0 + 450 + lev to t * 1 = 450 + lev to t by omega]; exact wc_full k1' hf
    have hwf : wr (wcells to m (sl.set (slot to t) ⟨none, 0, []⟩) full (.slice ra rd.length rc)) (0 + 450 + lev to t * 1) [kU (Sx.without f (2 ^ dig to (lev to t)))] = wcells to m (sl.set (slot to t) ⟨none, 0, []⟩) (full.set (lev to t) (Sx.without f (2 ^ dig to (lev to t)))) (.slice ra rd.length rc) := by
      rw [show 0 + 450 + lev to t * 1 = 450 + lev to t by omega]; exact wc_set_full k1' (by omega)
    have hle1 : 0 + 2 + lev to t * 64 + dig to (lev to t) * 1 + 1 ≤ (wcells to m sl full (.slice ra rd.length rc)).length := by rw [wc_len k1 k2]; omega
    have hle2 : 0 + 450 + lev to t * 1 + 1 ≤ (wcells to m (sl.set (slot to t) ⟨none, 0, []⟩) full (.slice ra rd.length rc)).length := by rw [wc_len k1' k2]; omega
    have hw0 : wr (wcells t m sl full (.slice ra rd.length rc)) 0 [kI (to : Nat)] = wcells to m sl full (.slice ra rd.length rc) := rfl
    have hle0 : 0 + 1 ≤ (wcells t m sl full (.slice ra rd.length rc)).length := by rw [wc_len k1 k2]; omega
    have hE : ∀ X M R : HProp, Ent (X :: M :: bag slrow sl :: R :: F) (X :: M :: bag slrow (sl.set (slot to t) ⟨none, 0, []⟩) :: R :: Row xa xc 3 1 xids.length (flat ienc xids) :: F) := fun X M R => by
      refine Ent.cons _ (Ent.cons _ ?_)
      refine Ent.trans (bag_out hx) ?_
      refine Ent.trans Ent.back2 ?_
      refine Ent.trans (Row.nil 3 1 _) ?_
      exact bag_in (f := slrow) (x := (⟨none, 0, []⟩ : Sl)) (show slot to t < sl.length by omega)
    repeat' (first
      | refine XO.q TT_ok rfl rfl rfl rfl rfl ?_
      | refine XO.nil ?_
      | refine where_spec hto h2 I.now ?_
      | refine Tri.ent Ent.front1 (where_spec hto h2 I.now ?_)
      | refine Tri.ent Ent.front2 (where_spec hto h2 I.now ?_)
      | refine Tri.ent Ent.front3 (where_spec hto h2 I.now ?_)
      | refine Tri.ent Ent.front4 (where_spec hto h2 I.now ?_)
      | refine XO.indexArrN TT_ok rfl rfl rfl rfl rfl rfl rfl hlv ?_
      | refine XO.indexArrN TT_ok rfl rfl rfl rfl rfl rfl rfl hdg ?_
      | refine XO.storeW hw0 hle0 TT_ok trivial rfl rfl rfl rfl rfl rfl rfl rfl trivial ?_
      | refine XO.load TT_ok rfl rfl rfl rfl rfl rfl (Reads.here hrs) ?_
      | refine XO.load TT_ok rfl rfl rfl rfl rfl rfl (Reads.here hrf) ?_
      | refine XO.convN 63 TT_ok rfl rfl rfl rfl rfl rfl rfl rfl (by omega) ?_
      | refine XO.shl1 TT_ok rfl rfl rfl rfl rfl rfl hdg ?_
      | refine XO.andNotN TT_ok rfl rfl rfl rfl rfl rfl hf64 hp64 ?_
      | refine XO.storeW hws hle1 TT_ok trivial rfl rfl rfl rfl rfl rfl rfl rfl trivial ?_
      | refine XO.storeW hwf hle2 TT_ok trivial rfl rfl rfl rfl rfl rfl rfl rfl trivial ?_
      | refine XS.seq ?_
      | refine XS.region (T := TT) ?_
      | refine XS.draw (T := TT) follows_ok (by decide +kernel) ?_
      | refine XS.block ?_
      | refine XS.inBlock ?_
      | refine XS.exit rfl ?_
      | refine XS.condT rfl ?_
      | refine XS.condF rfl ?_
      | refine XS.skip ?_
      | refine XS.label ?_
      | refine XO.load TT_ok rfl rfl rfl rfl rfl rfl (Reads.here rfl) ?_
      | refine XO.load TT_ok rfl rfl rfl rfl rfl rfl (Reads.skip (Reads.here rfl)) ?_
      | refine XO.load TT_ok rfl rfl rfl rfl rfl rfl (Reads.skip (Reads.skip (Reads.here rfl))) ?_
      | refine XO.load TT_ok rfl rfl rfl rfl rfl rfl (Reads.skip (Reads.skip (Reads.skip (Reads.here rfl)))) ?_
      | refine XO.load TT_ok rfl rfl rfl rfl rfl rfl (Reads.skip (Reads.skip (Reads.skip (Reads.skip (Reads.here rfl))))) ?_
      | refine XO.load TT_ok rfl rfl rfl rfl rfl rfl (Reads.skip (Reads.skip (Reads.skip (Reads.skip (Reads.skip (Reads.here rfl)))))) ?_
      | refine XO.no rfl rfl ?_
      | (refine XO.cmpI TT_ok rfl rfl rfl rfl rfl rfl rfl (fun hc => ?_) (fun hc => ?_) <;> (try (exfalso; omega)))
      | refine XO.pT TT_ok rfl rfl rfl rfl rfl ?_
      | refine XO.pF TT_ok rfl rfl rfl rfl rfl ?_
      | refine XO.cmp TT_ok rfl rfl rfl rfl rfl (fun hc => ?_) (fun hc => ?_)
      | refine XO.add64 TT_ok rfl rfl rfl rfl rfl rfl (by omega) (by omega) ?_
      | refine XO.sub64 TT_ok rfl rfl rfl rfl rfl rfl (by omega) (by omega) ?_
      | refine XO.mul64 TT_ok rfl rfl rfl rfl rfl rfl (by omega) (by omega) ?_
      | refine XO.quo64 rfl rfl rfl rfl rfl (by omega) (by omega) (by omega) ?_
      | refine XO.rem64 rfl rfl rfl rfl rfl (by omega) (by omega) ?_
      | refine XO.p TT_ok rfl rfl rfl rfl ?_
      | refine XO.storeL TT_ok trivial rfl rfl rfl rfl rfl rfl rfl rfl rfl rfl trivial ?_
      | refine XO.ent Ent.front1 (XO.storeL TT_ok trivial rfl rfl rfl rfl rfl rfl rfl rfl rfl rfl trivial ?_)
      | refine XO.ent Ent.front2 (XO.storeL TT_ok trivial rfl rfl rfl rfl rfl rfl rfl rfl rfl rfl trivial ?_)
      | refine XO.ent Ent.front3 (XO.storeL TT_ok trivial rfl rfl rfl rfl rfl rfl rfl rfl rfl rfl trivial ?_)
      | refine XO.ent Ent.front4 (XO.storeL TT_ok trivial rfl rfl rfl rfl rfl rfl rfl rfl rfl rfl trivial ?_)
      | refine XO.ent Ent.front5 (XO.storeL TT_ok trivial rfl rfl rfl rfl rfl rfl rfl rfl rfl rfl trivial ?_)
      | refine XO.box trivial rfl rfl rfl rfl rfl (fun _ => trivial) (fun bb => ?_)
      | refine XO.alloc TT_ok trivial rfl rfl rfl rfl rfl (fun _ => trivial) (fun bb => ?_)
      | refine XO.build TT_ok rfl rfl rfl rfl rfl ?_
      | refine XO.lenSlice TT_ok rfl rfl rfl rfl rfl rfl ?_
      | refine XO.lenString TT_ok rfl rfl rfl rfl rfl rfl ?_
      | refine XO.indexStr TT_ok rfl rfl rfl rfl rfl rfl (by omega) (by omega) ?_
      | refine XO.indexAddr TT_ok rfl rfl rfl rfl rfl rfl rfl (by omega) (by omega) ?_
      | refine XO.addStr rfl rfl rfl rfl rfl (by omega) ?_
      | refine XO.buildSlice TT_ok trivial rfl rfl rfl rfl rfl rfl rfl rfl rfl rfl rfl rfl (fun _ => trivial) (fun bb => ?_)
      | refine XO.callF rfl rfl rfl (by kernel_rfl) rfl ?_)
    have hw := wheel_mk (F := Row xa xc 3 1 xids.length (flat ienc xids) :: F) (b := b) (m := m) (sl := sl.set (slot to t) ⟨none, 0, []⟩) (rd := ⟨ra, rc, rd⟩) (by rw [List.map_set]; exact hI)
    refine XS.loopI (ι := Nat) (fun j => [(0, ptr b), (53, .slice xa xids.length xc), (54, kI xids.length), (55, kI j)]) (fun j => wheelP b to tm (xids.drop j) :: Row xa xc 3 1 xids.length (flat ienc xids) :: F) (fun j => j ≤ xids.length) (fun j => xids.length - j) 0
      (Nat.zero_le _) ⟨rfl, rfl, rfl, rfl, trivial⟩ (Ent.trans (hE _ _ _) hw) ?_
    clear hw hE hle0 hw0 hle1 hle2 hwf hrf hws hrs hI
    intro j e hj ih
    by_cases hlt : j < xids.length
    · obtain ⟨z, hz⟩ : ∃ z, xids[j]? = some z := ⟨_, List.getElem?_eq_getElem hlt⟩
      obtain ⟨e1, e2⟩ := drop_nodup hz hxn
      obtain ⟨az, haz⟩ := hxg z (List.mem_of_getElem? hz)
      refine XS.ent Ent.front1 (XS.rowOpen (by omega) (fun g hg => ?_))
      subst hg
      rw [e1]
      repeat' (first
        | refine XO.q TT_ok rfl rfl rfl rfl rfl ?_
        | refine XO.nil ?_
        | refine XO.load TT_ok rfl rfl rfl rfl rfl rfl (Reads.rowFlat0 ienc_len hz rfl) ?_
        | refine XO.indexOwn TT_ok rfl rfl rfl rfl rfl rfl rfl hlt ?_
        | refine XO.callV rfl rfl rfl (by kernel_rfl) rfl ?_
        | refine Tri.ent Ent.front1 (place_spec hn e2 haz ?_)
        | refine XS.seq ?_
        | refine XS.region (T := TT) ?_
        | refine XS.draw (T := TT) follows_ok (by decide +kernel) ?_
        | refine XS.block ?_
        | refine XS.inBlock ?_
        | refine XS.exit rfl ?_
        | refine XS.condT rfl ?_
        | refine XS.condF rfl ?_
        | refine XS.skip ?_
        | refine XS.label ?_
        | refine XO.load TT_ok rfl rfl rfl rfl rfl rfl (Reads.here rfl) ?_
        | refine XO.load TT_ok rfl rfl rfl rfl rfl rfl (Reads.skip (Reads.here rfl)) ?_
        | refine XO.load TT_ok rfl rfl rfl rfl rfl rfl (Reads.skip (Reads.skip (Reads.here rfl))) ?_
        | refine XO.load TT_ok rfl rfl rfl rfl rfl rfl (Reads.skip (Reads.skip (Reads.skip (Reads.here rfl)))) ?_
        | refine XO.load TT_ok rfl rfl rfl rfl rfl rfl (Reads.skip (Reads.skip (Reads.skip (Reads.skip (Reads.here rfl))))) ?_
        | refine XO.load TT_ok rfl rfl rfl rfl rfl rfl (Reads.skip (Reads.skip (Reads.skip (Reads.skip (Reads.skip (Reads.here rfl)))))) ?_
        | refine XO.no rfl rfl ?_
        | (refine XO.cmpI TT_ok rfl rfl rfl rfl rfl rfl rfl (fun hc => ?_) (fun hc => ?_) <;> (try (exfalso; omega)))
        | refine XO.pT TT_ok rfl rfl rfl rfl rfl ?_
        | refine XO.pF TT_ok rfl rfl rfl rfl rfl ?_
        | refine XO.cmp TT_ok rfl rfl rfl rfl rfl (fun hc => ?_) (fun hc => ?_)
        | refine XO.add64 TT_ok rfl rfl rfl rfl rfl rfl (by omega) (by omega) ?_
        | refine XO.sub64 TT_ok rfl rfl rfl rfl rfl rfl (by omega) (by omega) ?_
        | refine XO.mul64 TT_ok rfl rfl rfl rfl rfl rfl (by omega) (by omega) ?_
        | refine XO.quo64 rfl rfl rfl rfl rfl (by omega) (by omega) (by omega) ?_
        | refine XO.rem64 rfl rfl rfl rfl rfl (by omega) (by omega) ?_
        | refine XO.p TT_ok rfl rfl rfl rfl ?_
        | refine XO.storeL TT_ok trivial rfl rfl rfl rfl rfl rfl rfl rfl rfl rfl trivial ?_
        | refine XO.ent Ent.front1 (XO.storeL TT_ok trivial rfl rfl rfl rfl rfl rfl rfl rfl rfl rfl trivial ?_)
        | refine XO.ent Ent.front2 (XO.storeL TT_ok trivial rfl rfl rfl rfl rfl rfl rfl rfl rfl rfl trivial ?_)
        | refine XO.ent Ent.front3 (XO.storeL TT_ok trivial rfl rfl rfl rfl rfl rfl rfl rfl rfl rfl trivial ?_)
        | refine XO.ent Ent.front4 (XO.storeL TT_ok trivial rfl rfl rfl rfl rfl rfl rfl rfl rfl rfl trivial ?_)
        | refine XO.ent Ent.front5 (XO.storeL TT_ok trivial rfl rfl rfl rfl rfl rfl rfl rfl rfl rfl trivial ?_)
        | refine XO.box trivial rfl rfl rfl rfl rfl (fun _ => trivial) (fun bb => ?_)
        | refine XO.alloc TT_ok trivial rfl rfl rfl rfl rfl (fun _ => trivial) (fun bb => ?_)
        | refine XO.build TT_ok rfl rfl rfl rfl rfl ?_
        | refine XO.lenSlice TT_ok rfl rfl rfl rfl rfl rfl ?_
        | refine XO.lenString TT_ok rfl rfl rfl rfl rfl rfl ?_
        | refine XO.indexStr TT_ok rfl rfl rfl rfl rfl rfl (by omega) (by omega) ?_
        | refine XO.indexAddr TT_ok rfl rfl rfl rfl rfl rfl rfl (by omega) (by omega) ?_
        | refine XO.addStr rfl rfl rfl rfl rfl (by omega) ?_
        | refine XO.buildSlice TT_ok trivial rfl rfl rfl rfl rfl rfl rfl rfl rfl rfl rfl rfl (fun _ => trivial) (fun bb => ?_)
        | refine XO.callF rfl rfl rfl (by kernel_rfl) rfl ?_)
      exact ih (j + 1) _ _ (by omega) (by omega) ⟨rfl, rfl, rfl, rfl, trivial⟩ (Ent.cons _ Row.of_at)
    · rw [List.drop_eq_nil_of_le (by omega)]
      repeat' (first
        | refine XO.q TT_ok rfl rfl rfl rfl rfl ?_
        | refine XO.nil ?_
        | refine XS.seq ?_
        | refine XS.region (T := TT) ?_
        | refine XS.draw (T := TT) follows_ok (by decide +kernel) ?_
        | refine XS.block ?_
        | refine XS.inBlock ?_
        | refine XS.exit rfl ?_
        | refine XS.condT rfl ?_
        | refine XS.condF rfl ?_
        | refine XS.skip ?_
        | refine XS.label ?_
        | refine XO.load TT_ok rfl rfl rfl rfl rfl rfl (Reads.here rfl) ?_
        | refine XO.load TT_ok rfl rfl rfl rfl rfl rfl (Reads.skip (Reads.here rfl)) ?_
        | refine XO.load TT_ok rfl rfl rfl rfl rfl rfl (Reads.skip (Reads.skip (Reads.here rfl))) ?_
        | refine XO.load TT_ok rfl rfl rfl rfl rfl rfl (Reads.skip (Reads.skip (Reads.skip (Reads.here rfl)))) ?_
        | refine XO.load TT_ok rfl rfl rfl rfl rfl rfl (Reads.skip (Reads.skip (Reads.skip (Reads.skip (Reads.here rfl))))) ?_
        | refine XO.load TT_ok rfl rfl rfl rfl rfl rfl (Reads.skip (Reads.skip (Reads.skip (Reads.skip (Reads.skip (Reads.here rfl)))))) ?_
        | refine XO.no rfl rfl ?_
        | (refine XO.cmpI TT_ok rfl rfl rfl rfl rfl rfl rfl (fun hc => ?_) (fun hc => ?_) <;> (try (exfalso; omega)))
        | refine XO.pT TT_ok rfl rfl rfl rfl rfl ?_
        | refine XO.pF TT_ok rfl rfl rfl rfl rfl ?_
        | refine XO.cmp TT_ok rfl rfl rfl rfl rfl (fun hc => ?_) (fun hc => ?_)
        | refine XO.add64 TT_ok rfl rfl rfl rfl rfl rfl (by omega) (by omega) ?_
        | refine XO.sub64 TT_ok rfl rfl rfl rfl rfl rfl (by omega) (by omega) ?_
        | refine XO.mul64 TT_ok rfl rfl rfl rfl rfl rfl (by omega) (by omega) ?_
        | refine XO.quo64 rfl rfl rfl rfl rfl (by omega) (by omega) (by omega) ?_
        | refine XO.rem64 rfl rfl rfl rfl rfl (by omega) (by omega) ?_
        | refine XO.p TT_ok rfl rfl rfl rfl ?_
        | refine XO.storeL TT_ok trivial rfl rfl rfl rfl rfl rfl rfl rfl rfl rfl trivial ?_
        | refine XO.ent Ent.front1 (XO.storeL TT_ok trivial rfl rfl rfl rfl rfl rfl rfl rfl rfl rfl trivial ?_)
        | refine XO.ent Ent.front2 (XO.storeL TT_ok trivial rfl rfl rfl rfl rfl rfl rfl rfl rfl rfl trivial ?_)
        | refine XO.ent Ent.front3 (XO.storeL TT_ok trivial rfl rfl rfl rfl rfl rfl rfl rfl rfl rfl trivial ?_)
        | refine XO.ent Ent.front4 (XO.storeL TT_ok trivial rfl rfl rfl rfl rfl rfl rfl rfl rfl rfl trivial ?_)
        | refine XO.ent Ent.front5 (XO.storeL TT_ok trivial rfl rfl rfl rfl rfl rfl rfl rfl rfl rfl trivial ?_)
        | refine XO.box trivial rfl rfl rfl rfl rfl (fun _ => trivial) (fun bb => ?_)
        | refine XO.alloc TT_ok trivial rfl rfl rfl rfl rfl (fun _ => trivial) (fun bb => ?_)
        | refine XO.build TT_ok rfl rfl rfl rfl rfl ?_
        | refine XO.lenSlice TT_ok rfl rfl rfl rfl rfl rfl ?_
        | refine XO.lenString TT_ok rfl rfl rfl rfl rfl rfl ?_
        | refine XO.indexStr TT_ok rfl rfl rfl rfl rfl rfl (by omega) (by omega) ?_
        | refine XO.indexAddr TT_ok rfl rfl rfl rfl rfl rfl rfl (by omega) (by omega) ?_
        | refine XO.addStr rfl rfl rfl rfl rfl (by omega) ?_
        | refine XO.buildSlice TT_ok trivial rfl rfl rfl rfl rfl rfl rfl rfl rfl rfl rfl rfl (fun _ => trivial) (fun bb => ?_)
        | refine XO.callF rfl rfl rfl (by kernel_rfl) rfl ?_)
      exact XS.nil0 Tryd.func21 rfl Tryd.results21 (Ent.cons _ (Ent.drop _ _)) h
end Go.Proofs.YtnpnfgnhgjmlbaaDoor
