/- What the wheel's steps come to. Conditions: numbers are of their kinds. -/
import Derived.Test.YtnpnfgnhgjmlbaaDoorWheelC
import Derived.Test.YtnpnfgnhgjmlbaaDoorWheelI
namespace Go.Proofs.YtnpnfgnhgjmlbaaDoor
open Go Go.Sx Go.WheelM
variable {w0 : World} {F H : List HProp} {K : Value → List HProp → Prop}
/-- A list of the wheel's. -/
structure Sl where
  a : Option Addr
  cap : Nat
  ids : List Int
def sv : Sl → Value
  | ⟨a, cap, ids⟩ => .slice a ids.length cap
def slrow : Sl → HProp
  | ⟨a, cap, ids⟩ => Row a cap 3 1 ids.length (flat ienc ids)
abbrev kU (z : Nat) : Value := .int .u64 (z : Int)
def wcells (t m : Nat) (sl : List Sl) (full : List Nat) (r : Value) : List Value := kI (t : Nat) :: .map (some m) :: (sl.map sv ++ (full.map kU ++ [r]))
section
variable {t m : Nat} {sl : List Sl} {full : List Nat} {r : Value}
theorem wc_len (h1 : sl.length = 448) (h2 : full.length = 7) : (wcells t m sl full r).length = 458 := by simp [wcells, h1, h2]
theorem wc_sl {i : Nat} {x : Sl} (h : sl[i]? = some x) : (wcells t m sl full r)[2 + i]? = some (sv x) := by
  have hl := (List.getElem?_eq_some_iff.1 h).1
  rw [wcells, show 2 + i = i + 1 + 1 by omega, List.getElem?_cons_succ, List.getElem?_cons_succ, List.getElem?_append_left (by simpa using hl), List.getElem?_map, h]; rfl
theorem wc_full {i f : Nat} (h1 : sl.length = 448) (h : full[i]? = some f) : (wcells t m sl full r)[450 + i]? = some (kU f) := by
  have hl := (List.getElem?_eq_some_iff.1 h).1
  rw [wcells, show 450 + i = (448 + i) + 1 + 1 by omega, List.getElem?_cons_succ, List.getElem?_cons_succ, List.getElem?_append_right (by simp [h1]), List.length_map, h1, Nat.add_sub_cancel_left, List.getElem?_append_left (by simpa using hl), List.getElem?_map, h]; rfl
theorem wc_rd (h1 : sl.length = 448) (h2 : full.length = 7) : (wcells t m sl full r)[457]? = some r := by
  rw [wcells, show 457 = 455 + 1 + 1 by omega, List.getElem?_cons_succ, List.getElem?_cons_succ, List.getElem?_append_right (by simp [h1]), List.length_map, h1, List.getElem?_append_right (by simp [h2]), List.length_map, h2]; rfl
theorem wc_set_sl {i : Nat} {x : Sl} (h : i < sl.length) : wr (wcells t m sl full r) (2 + i) [sv x] = wcells t m (sl.set i x) full r := by
  simp only [wr]
  rw [wcells, show 2 + i = i + 1 + 1 by omega, List.set_cons_succ, List.set_cons_succ, List.set_append_left _ _ (by simpa using h), ← List.map_set]; rfl
theorem wc_set_full {i f : Nat} (h1 : sl.length = 448) (h : i < full.length) : wr (wcells t m sl full r) (450 + i) [kU f] = wcells t m sl (full.set i f) r := by
  simp only [wr]
  rw [wcells, show 450 + i = (448 + i) + 1 + 1 by omega, List.set_cons_succ, List.set_cons_succ, List.set_append_right _ _ (by simp [h1]), List.length_map, h1, Nat.add_sub_cancel_left, List.set_append_left _ _ (by simpa using h), ← List.map_set]; rfl
theorem wc_set_rd {v : Value} (h1 : sl.length = 448) (h2 : full.length = 7) : wr (wcells t m sl full r) 457 [v] = wcells t m sl full v := by
  simp only [wr]
  rw [wcells, show 457 = 455 + 1 + 1 by omega, List.set_cons_succ, List.set_cons_succ, List.set_append_right _ _ (by simp [h1]), List.length_map, h1, List.set_append_right _ _ (by simp [h2]), List.length_map, h2]; rfl
end
theorem Ent.pack4 {a b c d : HProp} {F : List HProp} : Ent (a :: b :: c :: d :: F) (stars [a, b, c, d] :: F) := Ent.pack (L := [a, b, c, d])
theorem Ent.unpack4 {a b c d : HProp} {F : List HProp} : Ent (stars [a, b, c, d] :: F) (a :: b :: c :: d :: F) := Ent.unpack (L := [a, b, c, d])
structure WX (t : Nat) (tm : Tm) (pend : List Int) where
  m : Nat
  sl : List Sl
  full : List Nat
  rd : Sl
  inv : InvP t tm pend (sl.map (·.ids)) full rd.ids
def wstar (b : Nat) (t : Nat) (tm : Tm) (m : Nat) (sl : List Sl) (full : List Nat) (rd : Sl) : HProp := stars [cel b 58 (wcells t m sl full (sv rd)), mapc m kI (enc tm), bag slrow sl, slrow rd]
def wheelP (b t : Nat) (tm : Tm) (pend : List Int) : HProp := hex fun x : WX t tm pend => wstar b t tm x.m x.sl x.full x.rd
theorem wheel_mk {b t m : Nat} {tm : Tm} {pend : List Int} {sl : List Sl} {full : List Nat} {rd : Sl} (I : InvP t tm pend (sl.map (·.ids)) full rd.ids) :
    Ent (cel b 58 (wcells t m sl full (sv rd)) :: mapc m kI (enc tm) :: bag slrow sl :: slrow rd :: F) (wheelP b t tm pend :: F) :=
  Ent.trans Ent.pack4 (Ent.hex (f := fun x : WX t tm pend => wstar b t tm x.m x.sl x.full x.rd) ⟨m, sl, full, rd, I⟩)
theorem XS.wheel {P : Program} {n : Nat} {fr : Frame} {R : Value → List HProp → Prop} {k : List Item} {e : Env} {b t : Nat} {tm : Tm} {pend : List Int}
    (h : ∀ (m : Nat) (sl : List Sl) (full : List Nat) (ra : Option Addr) (rc : Nat) (rd : List Int), InvP t tm pend (sl.map (·.ids)) full rd → XS P w0 fr n R k e (cel b 58 (wcells t m sl full (.slice ra rd.length rc)) :: mapc m kI (enc tm) :: bag slrow sl :: Row ra rc 3 1 rd.length (flat ienc rd) :: F)) : XS P w0 fr n R k e (wheelP b t tm pend :: F) :=
  XS.hex fun x => by
    obtain ⟨m, sl, full, ⟨ra, rc, rd⟩, I⟩ := x
    exact XS.ent Ent.unpack4 (h m sl full ra rc rd I)
theorem XO.wheel {P : Program} {T : Tbl} {n : Nat} {HL : Held} {ops : Array Oper} {J : Env → List HProp → Prop} {ix : Nat} {l : List Oper} {e : Env} {b t : Nat} {tm : Tm} {pend : List Int}
    (h : ∀ (m : Nat) (sl : List Sl) (full : List Nat) (ra : Option Addr) (rc : Nat) (rd : List Int), InvP t tm pend (sl.map (·.ids)) full rd → XO P T w0 n HL ops J ix l e (cel b 58 (wcells t m sl full (.slice ra rd.length rc)) :: mapc m kI (enc tm) :: bag slrow sl :: Row ra rc 3 1 rd.length (flat ienc rd) :: F)) : XO P T w0 n HL ops J ix l e (wheelP b t tm pend :: F) :=
  XO.hex fun x => by
    obtain ⟨m, sl, full, ⟨ra, rc, rd⟩, I⟩ := x
    exact XO.ent Ent.unpack4 (h m sl full ra rc rd I)
theorem mem_cons_ne {pend : List Int} {id : Int} (h : id ∉ pend) (j : Int) : j ∈ pend ↔ j ∈ id :: pend ∧ j ≠ id := by
  constructor
  · intro hj; exact ⟨List.mem_cons_of_mem _ hj, fun e => h (e ▸ hj)⟩
  · rintro ⟨h1, h2⟩; exact (List.mem_cons.1 h1).resolve_left h2
theorem _root_.Go.Sx.XS.ret0k {P : Program} {n : Nat} {fr : Frame} {R : Value → List HProp → Prop} {e : Env} {fn : Func} {k : List Item} {H' : List HProp} (hf : P.funcs[fr.fn]? = some fn) (hk : fr.kind = .normal) (hres : fn.results = #[]) (x : Ent H H') (h : R (.tuple #[]) H') : XS P w0 fr n R (.code .ret :: k) e H :=
  .ret hf hk (fun w => by simp [results, hres]) x h
theorem slrow_snoc (a' : Option Addr) (cap' : Nat) (ids : List Int) (id : Int) {l : List Value} (h : l = [kI id]) : slrow ⟨a', cap', ids ++ [id]⟩ = Row a' cap' 3 1 (ids.length + 1) (flat ienc ids ++ l) := by
  subst h
  simp only [slrow, flat_snoc, List.length_append, List.length_singleton]; rfl
set_option maxHeartbeats 2000000 in
theorem place_spec {b t : Nat} {tm : Tm} {pend : List Int} {id : Int} {a : Nat} (hn : tm.length ≤ 4096) (hp : id ∉ pend) (ha : aget tm id = some a) (h : K (.tuple #[]) (wheelP b t tm pend :: F)) :
    Tri Tryd.prog 20 #[ptr b, kI id] w0 (wheelP b t tm (id :: pend) :: F) K := by
  have hm : mget (enc tm) id = some (kI (a : Nat)) := by rw [mget_enc, ha]; rfl
  refine Tri.enter Tryd.func20 rfl Tryd.ntmps20 rfl ?_
  refine XS.wheel (fun m sl full ra rc rd I => ?_)
  have h1 : sl.length = 448 := by have := I.lsn; rwa [List.length_map] at this
  have h2 := I.fulln
  have hl := I.rd_len
  have hr := wc_rd (t := t) (m := m) (r := .slice ra rd.length rc) h1 h2
  by_cases hat : a = t
  · subst hat
    repeat' (first
      | refine XO.q TT_ok rfl rfl rfl rfl rfl ?_
      | refine XO.nil ?_
      | refine XO.lookupS hm keyI64 TT_ok rfl rfl rfl rfl rfl rfl rfl rfl rfl (fun _ h => ⟨_, h.ent Ent.front1⟩) ?_
      | refine XO.load TT_ok rfl rfl rfl rfl rfl rfl (Reads.here hr) ?_
      | refine XO.ent Ent.front4 (XO.append (m := 1) (N := 8192) TT_ok trivial rfl rfl rfl rfl rfl rfl rfl rfl rfl rfl rfl (ReadsL.skip (ReadsL.here 1)) rfl (by decide) rfl (by omega) rfl rfl (fun _ _ => trivial) (fun a' cap' => ?_))
      | refine XO.ent Ent.front2 (XO.storeW (wc_set_rd h1 h2) (by rw [wc_len h1 h2]; exact Nat.le_refl 458) TT_ok trivial rfl rfl rfl rfl rfl rfl rfl rfl trivial ?_)
      | refine XS.seq ?_
      | refine XS.region (T := TT) ?_
      | refine XS.draw (T := TT) follows_ok (by decide +kernel) ?_
      | refine XS.block ?_
      | refine XS.inBlock ?_
      | refine XS.exit rfl ?_
      | refine XS.condT rfl ?_
      | refine XS.condF rfl ?_
      | refine XS.skip ?_
      | refine XS.label ?_
      | refine XO.load TT_ok rfl rfl rfl rfl rfl rfl (Reads.here rfl) ?_
      | refine XO.load TT_ok rfl rfl rfl rfl rfl rfl (Reads.skip (Reads.here rfl)) ?_
      | refine XO.load TT_ok rfl rfl rfl rfl rfl rfl (Reads.skip (Reads.skip (Reads.here rfl))) ?_
      | refine XO.load TT_ok rfl rfl rfl rfl rfl rfl (Reads.skip (Reads.skip (Reads.skip (Reads.here rfl)))) ?_
      | refine XO.load TT_ok rfl rfl rfl rfl rfl rfl (Reads.skip (Reads.skip (Reads.skip (Reads.skip (Reads.here rfl))))) ?_
      | refine XO.load TT_ok rfl rfl rfl rfl rfl rfl (Reads.skip (Reads.skip (Reads.skip (Reads.skip (Reads.skip (Reads.here rfl)))))) ?_
      | refine XO.no rfl rfl ?_
      | (refine XO.cmpI TT_ok rfl rfl rfl rfl rfl rfl rfl (fun hc => ?_) (fun hc => ?_) <;> (try (exfalso; omega)))
      | refine XO.pT TT_ok rfl rfl rfl rfl rfl ?_
      | refine XO.pF TT_ok rfl rfl rfl rfl rfl ?_
      | refine XO.cmp TT_ok rfl rfl rfl rfl rfl (fun hc => ?_) (fun hc => ?_)
      | refine XO.add64 TT_ok rfl rfl rfl rfl rfl rfl (by omega) (by omega) ?_
      | refine XO.sub64 TT_ok rfl rfl rfl rfl rfl rfl (by omega) (by omega) ?_
      | refine XO.mul64 TT_ok rfl rfl rfl rfl rfl rfl (by omega) (by omega) ?_
      | refine XO.quo64 rfl rfl rfl rfl rfl (by omega) (by omega) (by omega) ?_
      | refine XO.rem64 rfl rfl rfl rfl rfl (by omega) (by omega) ?_
      | refine XO.p TT_ok rfl rfl rfl rfl ?_
      | refine XO.storeL TT_ok trivial rfl rfl rfl rfl rfl rfl rfl rfl rfl rfl trivial ?_
      | refine XO.ent Ent.front1 (XO.storeL TT_ok trivial rfl rfl rfl rfl rfl rfl rfl rfl rfl rfl trivial ?_)
      | refine XO.ent Ent.front2 (XO.storeL TT_ok trivial rfl rfl rfl rfl rfl rfl rfl rfl rfl rfl trivial ?_)
      | refine XO.ent Ent.front3 (XO.storeL TT_ok trivial rfl rfl rfl rfl rfl rfl rfl rfl rfl rfl trivial ?_)
      | refine XO.ent Ent.front4 (XO.storeL TT_ok trivial rfl rfl rfl rfl rfl rfl rfl rfl rfl rfl trivial ?_)
      | refine XO.ent Ent.front5 (XO.storeL TT_ok trivial rfl rfl rfl rfl rfl rfl rfl rfl rfl rfl trivial ?_)
      | refine XO.box trivial rfl rfl rfl rfl rfl (fun _ => trivial) (fun bb => ?_)
      | refine XO.alloc TT_ok trivial rfl rfl rfl rfl rfl (fun _ => trivial) (fun bb => ?_)
      | refine XO.build TT_ok rfl rfl rfl rfl rfl ?_
      | refine XO.lenSlice TT_ok rfl rfl rfl rfl rfl rfl ?_
      | refine XO.lenString TT_ok rfl rfl rfl rfl rfl rfl ?_
      | refine XO.indexStr TT_ok rfl rfl rfl rfl rfl rfl (by omega) (by omega) ?_
      | refine XO.indexAddr TT_ok rfl rfl rfl rfl rfl rfl rfl (by omega) (by omega) ?_
      | refine XO.addStr rfl rfl rfl rfl rfl (by omega) ?_
      | refine XO.buildSlice TT_ok trivial rfl rfl rfl rfl rfl rfl rfl rfl rfl rfl rfl rfl (fun _ => trivial) (fun bb => ?_)
      | refine XO.callF rfl rfl rfl (by kernel_rfl) rfl ?_)
    have e1 := slrow_snoc a' cap' rd id rfl
    have e2 : sv ⟨a', cap', rd ++ [id]⟩ = .slice a' (rd.length + 1) cap' := by simp [sv]
    have hw := wheel_mk (F := F) (b := b) (m := m) (rd := ⟨a', cap', rd ++ [id]⟩) (I.place_now (List.mem_cons_self ..) ha (mem_cons_ne hp))
    rw [e1, e2] at hw
    exact XS.ret0k Tryd.func20 rfl Tryd.results20 (Ent.trans (Ent.cons _ (Ent.trans (Ent.cons _ (Ent.drop _ _)) Ent.back2)) hw) h
  · have hlv := lev_lt (I.time id a ha).2 I.now hat
    have hdg := dig_lt a (lev a t)
    have hk := slot_lt (I.time id a ha).2 I.now hat
    obtain ⟨⟨xa, xc, xids⟩, hx⟩ : ∃ x, sl[slot a t]? = some x := ⟨_, List.getElem?_eq_getElem (by omega)⟩
    obtain ⟨f, hf⟩ : ∃ f, full[lev a t]? = some f := ⟨_, List.getElem?_eq_getElem (by omega)⟩
    have hxm : (sl.map (·.ids))[slot a t]? = some xids := by rw [List.getElem?_map, hx]; rfl
    have hxl := I.sl_len hxm
    have hf64 := I.big _ _ hf
    have hp64 : 2 ^ dig a (lev a t) < 2 ^ 64 := Nat.pow_lt_pow_right (by omega) hdg
    have eo : 0 + 2 + lev a t * 64 + dig a (lev a t) * 1 = 2 + slot a t := by unfold slot; omega
    have hrs : (wcells t m sl full (.slice ra rd.length rc))[0 + 2 + lev a t * 64 + dig a (lev a t) * 1]? = some (.slice xa xids.length xc) := by rw [eo]; exact wc_sl hx
    have hrf : ∀ sl' : List Sl, sl'.length = 448 → (wcells t m sl' full (.slice ra rd.length rc))[0 + 450 + lev a t * 1]? = some (kU f) := fun sl' h => by
      rw [show 0 + 450 + lev a t * 1 = 450 + lev a t by omega]; exact wc_full h hf
    have hws : ∀ (a' : Option Addr) (cap' : Nat), wr (wcells t m sl full (.slice ra rd.length rc)) (0 + 2 + lev a t * 64 + dig a (lev a t) * 1) [.slice a' (xids.length + 1) cap'] = wcells t m (sl.set (slot a t) ⟨a', cap', xids ++ [id]⟩) full (.slice ra rd.length rc) := fun a' cap' => by
      have := wc_set_sl (t := t) (m := m) (full := full) (r := .slice ra rd.length rc) (x := ⟨a', cap', xids ++ [id]⟩) (show slot a t < sl.length by omega)
      rw [eo, ← this]; simp [sv]
    have hwf : ∀ sl' : List Sl, sl'.length = 448 → wr (wcells t m sl' full (.slice ra rd.length rc)) (0 + 450 + lev a t * 1) [kU (f ||| 2 ^ dig a (lev a t))] = wcells t m sl' (full.set (lev a t) (f ||| 2 ^ dig a (lev a t))) (.slice ra rd.length rc) := fun sl' h => by
      rw [show 0 + 450 + lev a t * 1 = 450 + lev a t by omega]; exact wc_set_full h (by omega)
    have h1' : ∀ x : Sl, (sl.set (slot a t) x).length = 448 := fun x => by rw [List.length_set]; exact h1
    have hle1 : 0 + 2 + lev a t * 64 + dig a (lev a t) * 1 + 1 ≤ (wcells t m sl full (.slice ra rd.length rc)).length := by rw [wc_len h1 h2]; omega
    have hle2 : ∀ sl' : List Sl, sl'.length = 448 → 0 + 450 + lev a t * 1 + 1 ≤ (wcells t m sl' full (.slice ra rd.length rc)).length := fun sl' h => by rw [wc_len h h2]; omega
    have hout : ∀ G : List HProp, Ent (bag slrow sl :: G) (Row xa xc 3 1 xids.length (flat ienc xids) :: bag slrow (sl.eraseIdx (slot a t)) :: G) := fun G => bag_out hx
    refine XS.ent (Ent.cons _ (Ent.cons _ (hout _))) ?_
    repeat' (first
      | refine XO.q TT_ok rfl rfl rfl rfl rfl ?_
      | refine XO.nil ?_
      | refine XO.lookupS hm keyI64 TT_ok rfl rfl rfl rfl rfl rfl rfl rfl rfl (fun _ h => ⟨_, h.ent Ent.front1⟩) ?_
      | refine where_spec hat (I.time id a ha).2 I.now ?_
      | (refine XO.indexArrN TT_ok rfl rfl rfl rfl rfl rfl rfl hlv ?_)
      | (refine XO.indexArrN TT_ok rfl rfl rfl rfl rfl rfl rfl hdg ?_)
      | refine XO.loadH TT_ok rfl rfl rfl rfl rfl rfl (Reads.here hrs) ?_
      | refine XS.draw (T := TT) follows_ok (by decide +kernel) ?_
      | refine XS.drawH (T := TT) [(10, [12], heldC ⟨b, 0 + 2 + lev a t * 64 + dig a (lev a t) * 1, none⟩ (.slice xa xids.length xc))] [(10, [12])] rfl follows_ok (by decide +kernel) ?_
      | refine XO.buildSlice TT_ok (by exact And.intro (Reads.here hrs) trivial) rfl rfl rfl rfl rfl rfl rfl rfl rfl rfl rfl rfl (fun _ => by exact And.intro (Reads.skip (Reads.here hrs)) trivial) (fun bb => ?_)
      | refine XO.load TT_ok rfl rfl rfl rfl rfl rfl (Reads.here (hrf _ (h1' _))) ?_
      | refine XO.convN 63 TT_ok rfl rfl rfl rfl rfl rfl rfl rfl (by omega) ?_
      | refine XO.shl1 TT_ok rfl rfl rfl rfl rfl rfl hdg ?_
      | refine XO.orN 64 TT_ok rfl rfl rfl rfl rfl rfl rfl hf64 hp64 ?_
      | refine XO.andNotN TT_ok rfl rfl rfl rfl rfl rfl hf64 hp64 ?_
      | refine XO.ent Ent.front3 (XO.append (m := 1) (N := 8192) TT_ok trivial rfl rfl rfl rfl rfl rfl rfl rfl rfl rfl rfl (ReadsL.skip (ReadsL.here 1)) rfl (by decide) rfl (by omega) rfl rfl (fun _ _ => trivial) (fun a' cap' => ?_))
      | refine XO.ent Ent.front2 (XO.storeW (hws _ _) hle1 TT_ok trivial rfl rfl rfl rfl rfl rfl rfl rfl trivial ?_)
      | refine XO.storeW (hwf _ (h1' _)) (hle2 _ (h1' _)) TT_ok trivial rfl rfl rfl rfl rfl rfl rfl rfl trivial ?_
      | refine XS.seq ?_
      | refine XS.region (T := TT) ?_
      | refine XS.draw (T := TT) follows_ok (by decide +kernel) ?_
      | refine XS.block ?_
      | refine XS.inBlock ?_
      | refine XS.exit rfl ?_
      | refine XS.condT rfl ?_
      | refine XS.condF rfl ?_
      | refine XS.skip ?_
      | refine XS.label ?_
      | refine XO.load TT_ok rfl rfl rfl rfl rfl rfl (Reads.here rfl) ?_
      | refine XO.load TT_ok rfl rfl rfl rfl rfl rfl (Reads.skip (Reads.here rfl)) ?_
      | refine XO.load TT_ok rfl rfl rfl rfl rfl rfl (Reads.skip (Reads.skip (Reads.here rfl))) ?_
      | refine XO.load TT_ok rfl rfl rfl rfl rfl rfl (Reads.skip (Reads.skip (Reads.skip (Reads.here rfl)))) ?_
      | refine XO.load TT_ok rfl rfl rfl rfl rfl rfl (Reads.skip (Reads.skip (Reads.skip (Reads.skip (Reads.here rfl))))) ?_
      | refine XO.load TT_ok rfl rfl rfl rfl rfl rfl (Reads.skip (Reads.skip (Reads.skip (Reads.skip (Reads.skip (Reads.here rfl)))))) ?_
      | refine XO.no rfl rfl ?_
      | (refine XO.cmpI TT_ok rfl rfl rfl rfl rfl rfl rfl (fun hc => ?_) (fun hc => ?_) <;> (try (exfalso; omega)))
      | refine XO.pT TT_ok rfl rfl rfl rfl rfl ?_
      | refine XO.pF TT_ok rfl rfl rfl rfl rfl ?_
      | refine XO.cmp TT_ok rfl rfl rfl rfl rfl (fun hc => ?_) (fun hc => ?_)
      | refine XO.add64 TT_ok rfl rfl rfl rfl rfl rfl (by omega) (by omega) ?_
      | refine XO.sub64 TT_ok rfl rfl rfl rfl rfl rfl (by omega) (by omega) ?_
      | refine XO.mul64 TT_ok rfl rfl rfl rfl rfl rfl (by omega) (by omega) ?_
      | refine XO.quo64 rfl rfl rfl rfl rfl (by omega) (by omega) (by omega) ?_
      | refine XO.rem64 rfl rfl rfl rfl rfl (by omega) (by omega) ?_
      | refine XO.p TT_ok rfl rfl rfl rfl ?_
      | refine XO.storeL TT_ok trivial rfl rfl rfl rfl rfl rfl rfl rfl rfl rfl trivial ?_
      | refine XO.ent Ent.front1 (XO.storeL TT_ok trivial rfl rfl rfl rfl rfl rfl rfl rfl rfl rfl trivial ?_)
      | refine XO.ent Ent.front2 (XO.storeL TT_ok trivial rfl rfl rfl rfl rfl rfl rfl rfl rfl rfl trivial ?_)
      | refine XO.ent Ent.front3 (XO.storeL TT_ok trivial rfl rfl rfl rfl rfl rfl rfl rfl rfl rfl trivial ?_)
      | refine XO.ent Ent.front4 (XO.storeL TT_ok trivial rfl rfl rfl rfl rfl rfl rfl rfl rfl rfl trivial ?_)
      | refine XO.ent Ent.front5 (XO.storeL TT_ok trivial rfl rfl rfl rfl rfl rfl rfl rfl rfl rfl trivial ?_)
      | refine XO.box trivial rfl rfl rfl rfl rfl (fun _ => trivial) (fun bb => ?_)
      | refine XO.alloc TT_ok trivial rfl rfl rfl rfl rfl (fun _ => trivial) (fun bb => ?_)
      | refine XO.build TT_ok rfl rfl rfl rfl rfl ?_
      | refine XO.lenSlice TT_ok rfl rfl rfl rfl rfl rfl ?_
      | refine XO.lenString TT_ok rfl rfl rfl rfl rfl rfl ?_
      | refine XO.indexStr TT_ok rfl rfl rfl rfl rfl rfl (by omega) (by omega) ?_
      | refine XO.indexAddr TT_ok rfl rfl rfl rfl rfl rfl rfl (by omega) (by omega) ?_
      | refine XO.addStr rfl rfl rfl rfl rfl (by omega) ?_
      | refine XO.buildSlice TT_ok trivial rfl rfl rfl rfl rfl rfl rfl rfl rfl rfl rfl rfl (fun _ => trivial) (fun bb => ?_)
      | refine XO.callF rfl rfl rfl (by kernel_rfl) rfl ?_)
    have e1 := slrow_snoc a' cap' xids id rfl
    have hin : ∀ G : List HProp, Ent (slrow ⟨a', cap', xids ++ [id]⟩ :: bag slrow (sl.eraseIdx (slot a t)) :: G) (bag slrow (sl.set (slot a t) ⟨a', cap', xids ++ [id]⟩) :: G) := fun G => bag_in (by omega)
    rw [e1] at hin
    have hw := wheel_mk (F := F) (b := b) (m := m) (sl := sl.set (slot a t) ⟨a', cap', xids ++ [id]⟩) (rd := ⟨ra, rc, rd⟩) (by rw [List.map_set]; exact I.place_slot (List.mem_cons_self ..) ha hat (mem_cons_ne hp) hxm hf)

    exact XS.nil0 Tryd.func20 rfl Tryd.results20 (Ent.trans (Ent.cons _ (Ent.trans (Ent.cons _ (Ent.drop _ _)) (Ent.trans Ent.front1 (Ent.cons _ (hin _))))) hw) h
end Go.Proofs.YtnpnfgnhgjmlbaaDoor
