/- Rules: maps whose values are of one Lean type. Conditions: the table 'T' fits the program. -/
import Derived.Test.YtngicmoadobgpaaDoorSxX
import Derived.Test.YtngicmoadobgpaaDoorWheelM
namespace Go.Sx
open Go Go.RowKit Go.WheelM
/-- A chunk is among those that are there. -/
def Has (c : HProp) (H : List HProp) : Prop := Ent H [c]
theorem Has.here {c : HProp} {F : List HProp} : Has c (c :: F) := Ent.cons _ (Ent.dropAll _)
theorem Has.skip {c d : HProp} {F : List HProp} (h : Has c F) : Has c (d :: F) := Ent.trans (Ent.drop _ _) h
section
variable {κ β : Type} [DecidableEq κ] {ve : β → Value}
def menc (ve : β → Value) (es : List (κ × β)) : List (κ × Value) := es.map fun p => (p.1, ve p.2)
theorem mget_menc {k : κ} : ∀ {es : List (κ × β)}, mget (menc ve es) k = (aget es k).map ve
  | [] => rfl
  | p :: l => by
    simp only [menc, List.map_cons, mget, aget]
    split
    · rfl
    · exact mget_menc (es := l)
theorem mset_menc {k : κ} {v : β} : ∀ {es : List (κ × β)}, mset (menc ve es) k (ve v) = menc ve (aset es k v)
  | [] => rfl
  | p :: l => by
    have ih := mset_menc (k := k) (v := v) (es := l)
    simp only [menc] at ih
    simp only [menc, List.map_cons, mset, aset]
    split
    · rfl
    · simp only [ih, List.map_cons]
theorem mdel_menc {k : κ} : ∀ {es : List (κ × β)}, mdel (menc ve es) k = menc ve (adel es k)
  | [] => rfl
  | p :: l => by
    have ih := mdel_menc (k := k) (es := l)
    simp only [menc] at ih
    simp only [menc, List.map_cons, mdel, adel]
    split
    · rfl
    · simp only [ih, List.map_cons]
omit [DecidableEq κ] in
theorem menc_length (es : List (κ × β)) : (menc ve es).length = es.length := by simp [menc]
end
def tmap {κ β : Type} (b : Nat) (kv : κ → Value) (ve : β → Value) (es : List (κ × β)) : HProp := mapc b kv (menc ve es)
def trange {κ β : Type} (b r : Nat) (kv : κ → Value) (ve : β → Value) (es left : List (κ × β)) (cur : Option (κ × β)) : HProp := mrange b r kv (menc ve es) (menc ve left) (cur.map fun p => (p.1, ve p.2))
section
variable {κ β : Type} {kv : κ → Value} {ve : β → Value} {b r : Nat} {es left : List (κ × β)} {cur : Option (κ × β)} {F : List HProp}
theorem trange_done : Ent (trange b r kv ve es left cur :: F) (tmap b kv ve es :: F) := mrange_done
theorem Has.rg : Has (tmap b kv ve es) (trange b r kv ve es left cur :: F) := Ent.trans trange_done Has.here
end
/-- A chunk is taken out. -/
def Sel (c : HProp) (H H' : List HProp) : Prop := Ent H (c :: H')
theorem Sel.here {c : HProp} {F : List HProp} : Sel c (c :: F) F := Ent.refl _
theorem Sel.skip {c d : HProp} {F F' : List HProp} (h : Sel c F F') : Sel c (d :: F) (d :: F') := Ent.trans (Ent.cons d h) Ent.front1
theorem Sel.row {b cap : Nat} {t : TypeId} {es n : Nat} {l : List Value} {F : List HProp} : Sel (Row (some ⟨b, 0, none⟩) cap t es n l) (RowAt b cap t es n l :: F) F := Row.of_at
theorem Sel.rg {κ β : Type} {kv : κ → Value} {ve : β → Value} {b r : Nat} {es left : List (κ × β)} {cur : Option (κ × β)} {F : List HProp} : Sel (tmap b kv ve es) (trange b r kv ve es left cur :: F) F := trange_done
theorem selA {c : HProp} {H H' : List HProp} (h : Sel c H H' := by (first | exact Sel.here | exact Sel.row | exact Sel.rg | (apply Sel.skip; (first | exact Sel.here | exact Sel.row | exact Sel.rg | (apply Sel.skip; (first | exact Sel.here | exact Sel.row | exact Sel.rg | (apply Sel.skip; (first | exact Sel.here | exact Sel.row | exact Sel.rg | (apply Sel.skip; (first | exact Sel.here | exact Sel.row | exact Sel.rg | (apply Sel.skip; (first | exact Sel.here | exact Sel.row | exact Sel.rg | (apply Sel.skip; (first | exact Sel.here | exact Sel.row | exact Sel.rg | (apply Sel.skip; (first | exact Sel.here | exact Sel.row | exact Sel.rg | (apply Sel.skip; (first | exact Sel.here | exact Sel.row | exact Sel.rg | (apply Sel.skip; (first | exact Sel.here | exact Sel.row | exact Sel.rg | (apply Sel.skip; (first | exact Sel.here | exact Sel.row | exact Sel.rg | (apply Sel.skip; (first | exact Sel.here | exact Sel.row | exact Sel.rg | (apply Sel.skip; (first | exact Sel.here | exact Sel.row | exact Sel.rg | fail)) | fail)) | fail)) | fail)) | fail)) | fail)) | fail)) | fail)) | fail)) | fail)) | fail)) | fail)) | fail)) : Sel c H H' := h
/-- The rest is let go. -/
theorem dropA {H F : List HProp} (h : Ent H F := by (first | exact Ent.refl _ | (refine Ent.trans (Ent.drop _ _) ?_; first | exact Ent.refl _ | (refine Ent.trans (Ent.drop _ _) ?_; first | exact Ent.refl _ | (refine Ent.trans (Ent.drop _ _) ?_; first | exact Ent.refl _ | (refine Ent.trans (Ent.drop _ _) ?_; first | exact Ent.refl _ | (refine Ent.trans (Ent.drop _ _) ?_; first | exact Ent.refl _ | (refine Ent.trans (Ent.drop _ _) ?_; first | exact Ent.refl _ | (refine Ent.trans (Ent.drop _ _) ?_; exact Ent.refl _) | fail) | fail) | fail) | fail) | fail) | fail) | fail)) : Ent H F := h
theorem Tri.sel1 {P : Program} {w0 : World} {f : FuncId} {args : Array Value} {K : Value → List HProp → Prop} {c : HProp} {H H1 : List HProp} (h : Tri P f args w0 (c :: H1) K) (s : Sel c H H1 := by exact selA) : Tri P f args w0 H K := Tri.ent s h
theorem Tri.sel2 {P : Program} {w0 : World} {f : FuncId} {args : Array Value} {K : Value → List HProp → Prop} {c c2 : HProp} {H H1 H2 : List HProp} (h : Tri P f args w0 (c :: c2 :: H2) K) (s : Sel c H H1 := by exact selA) (s2 : Sel c2 H1 H2 := by exact selA) : Tri P f args w0 H K := Tri.ent (Ent.trans s (Ent.cons _ s2)) h
theorem Tri.sel3 {P : Program} {w0 : World} {f : FuncId} {args : Array Value} {K : Value → List HProp → Prop} {c c2 c3 : HProp} {H H1 H2 H3 : List HProp} (h : Tri P f args w0 (c :: c2 :: c3 :: H3) K) (s : Sel c H H1 := by exact selA) (s2 : Sel c2 H1 H2 := by exact selA) (s3 : Sel c3 H2 H3 := by exact selA) : Tri P f args w0 H K := Tri.ent (Ent.trans s (Ent.cons _ (Ent.trans s2 (Ent.cons _ s3)))) h
theorem Tri.rowOpen {P : Program} {w0 : World} {f : FuncId} {args : Array Value} {K : Value → List HProp → Prop} {F : List HProp} {a : Option Addr} {cap : Nat} {t : TypeId} {es m : Nat} {l : List Value} (hm : 0 < m) (h : ∀ g, a = some ⟨g, 0, none⟩ → Tri P f args w0 (RowAt g cap t es m l :: F) K) : Tri P f args w0 (Row a cap t es m l :: F) K :=
  .ex (ι := { g : Nat // a = some ⟨g, 0, none⟩ }) (H' := fun g => RowAt g.1 cap t es m l :: F) (fun _ hr => let ⟨g, hg, h⟩ := hr.row_open hm; ⟨⟨g, hg⟩, h⟩) (fun g => h g.1 g.2)
theorem Out.under {R : Value → List HProp → Prop} {v : Value} {c : HProp} {H H0 : List HProp} (h : Out (fun v X => R v (c :: X)) v H0) (s : Sel c H H0 := by exact selA) : Out R v H := let ⟨H', x, hR⟩ := h; ⟨c :: H', Ent.trans s (Ent.cons c x), hR⟩
theorem Out.s0 {R : Value → List HProp → Prop} {v : Value} {H F : List HProp} (h : R v F) (x : Ent H F := by exact dropA) : Out R v H := Out.e h x
theorem Out.s1 {R : Value → List HProp → Prop} {v : Value} {c1 : HProp} {H H1 F : List HProp} (h : R v (c1 :: F)) (s1 : Sel c1 H H1 := by exact selA) (x : Ent H1 F := by exact dropA) : Out R v H := Out.e h (Ent.trans s1 (Ent.cons _ x))
theorem Out.s2 {R : Value → List HProp → Prop} {v : Value} {c1 c2 : HProp} {H H1 H2 F : List HProp} (h : R v (c1 :: c2 :: F)) (s1 : Sel c1 H H1 := by exact selA) (s2 : Sel c2 H1 H2 := by exact selA) (x : Ent H2 F := by exact dropA) : Out R v H := Out.e h (Ent.trans s1 (Ent.cons _ (Ent.trans s2 (Ent.cons _ x))))
theorem Out.s3 {R : Value → List HProp → Prop} {v : Value} {c1 c2 c3 : HProp} {H H1 H2 H3 F : List HProp} (h : R v (c1 :: c2 :: c3 :: F)) (s1 : Sel c1 H H1 := by exact selA) (s2 : Sel c2 H1 H2 := by exact selA) (s3 : Sel c3 H2 H3 := by exact selA) (x : Ent H3 F := by exact dropA) : Out R v H :=
  Out.e h (Ent.trans s1 (Ent.cons _ (Ent.trans s2 (Ent.cons _ (Ent.trans s3 (Ent.cons _ x))))))
theorem XO.sel1 {P : Program} {T : Tbl} {w0 : World} {n : Nat} {HL : Held} {ops : Array Oper} {J : Env → List HProp → Prop} {ix : Nat} {l : List Oper} {e : Env} {c : HProp} {H H1 : List HProp} (h : XO P T w0 n HL ops J ix l e (c :: H1)) (s : Sel c H H1 := by exact selA) : XO P T w0 n HL ops J ix l e H := .ent s h
theorem XS.sel1 {P : Program} {w0 : World} {n : Nat} {b : Frame} {R : Value → List HProp → Prop} {k : List Item} {e : Env} {c : HProp} {H H1 : List HProp} (h : XS P w0 b n R k e (c :: H1)) (s : Sel c H H1 := by exact selA) : XS P w0 b n R k e H := .ent s h
theorem hasA {c : HProp} {H : List HProp} (h : Has c H := by (first | exact Has.here | exact Has.rg | (apply Has.skip; (first | exact Has.here | exact Has.rg | (apply Has.skip; (first | exact Has.here | exact Has.rg | (apply Has.skip; (first | exact Has.here | exact Has.rg | (apply Has.skip; (first | exact Has.here | exact Has.rg | (apply Has.skip; (first | exact Has.here | exact Has.rg | (apply Has.skip; (first | exact Has.here | exact Has.rg | (apply Has.skip; (first | exact Has.here | exact Has.rg | (apply Has.skip; (first | exact Has.here | exact Has.rg | (apply Has.skip; (first | exact Has.here | exact Has.rg | fail)) | fail)) | fail)) | fail)) | fail)) | fail)) | fail)) | fail)) | fail)) | fail)) : Has c H := h
section
variable {P : Program} {T : Tbl} {w0 : World} {n : Nat} {HL : Held} {ops : Array Oper} {J : Env → List HProp → Prop} {ix : Nat} {rest : List Oper} {o : Oper} {e : Env} {H F : List HProp} {κ β : Type} [DecidableEq κ] {D : TypeDesc} {kv : κ → Value} {ve : β → Value} {b r : Nat} {es left : List (κ × β)} {cur : Option (κ × β)}
/-- 'm[k]': the two ways. -/
theorem XO.getT {t kt vt : TypeId} {x y : Operand} {k : κ} {z : Value} {d : Nat} (hT : T.Ok P) (hop : o.op = .lookup t x y false) (hh : heldAt HL ix = none) (hg : wantedE ops e n o = true) (hd : o.dst = some d) (hu : T.und t = some (.map kt vt)) (hkd : T.und kt = some D) (hz : T.zero vt = some z)
    (hx : e.ev n x = .map (some b)) (hr : Has (tmap b kv ve es) H) (hK : KeyOk D kv) (hy : e.ev n y = kv k)
    (h1 : ∀ v, aget es k = some v → XO P T w0 n HL ops J (ix + 1) rest (e.upd d (ve v)) H) (h2 : aget es k = none → XO P T w0 n HL ops J (ix + 1) rest (e.upd d z) H) : XO P T w0 n HL ops J ix (o :: rest) e H := by
  refine .lookup1 (es := menc ve es) hK hT hh hg hd hop hu hkd hz hx hy (fun w h => ⟨[], h.ent hr⟩) ?_
  rw [mget_menc]
  cases ha : aget es k with
  | none => exact h2 ha
  | some v => exact h1 v ha
theorem XO.getOkT {t kt vt : TypeId} {x y : Operand} {k : κ} {z : Value} {d : Nat} (hT : T.Ok P) (hop : o.op = .lookup t x y true) (hh : heldAt HL ix = none) (hg : wantedE ops e n o = true) (hd : o.dst = some d) (hu : T.und t = some (.map kt vt)) (hkd : T.und kt = some D) (hz : T.zero vt = some z)
    (hx : e.ev n x = .map (some b)) (hr : Has (tmap b kv ve es) H) (hK : KeyOk D kv) (hy : e.ev n y = kv k)
    (h1 : ∀ v, aget es k = some v → XO P T w0 n HL ops J (ix + 1) rest (e.upd d (.tuple #[ve v, .bool true])) H) (h2 : aget es k = none → XO P T w0 n HL ops J (ix + 1) rest (e.upd d (.tuple #[z, .bool false])) H) : XO P T w0 n HL ops J ix (o :: rest) e H :=
  .lookupOk (es := menc ve es) hK hT hh hg hd hop hu hkd hz hx hy (fun w h => ⟨[], h.ent hr⟩)
    (fun v hv => by rw [mget_menc, Option.map_eq_some_iff] at hv; obtain ⟨u, hu, rfl⟩ := hv; exact h1 u hu) (fun hv => by rw [mget_menc, Option.map_eq_none_iff] at hv; exact h2 hv)
omit [DecidableEq κ] in
theorem XO.lenT {t kt vt : TypeId} {x : Operand} {d : Nat} (hT : T.Ok P) (hop : o.op = .call { callee := .builtin .len, args := #[x], argTypes := #[t] }) (hh : heldAt HL ix = none) (hg : wantedE ops e n o = true) (hd : o.dst = some d) (hu : T.und t = some (.map kt vt))
    (hx : e.ev n x = .map (some b)) (hr : Has (tmap b kv ve es) H) (h : XO P T w0 n HL ops J (ix + 1) rest (e.upd d (.int .i64 es.length)) H) : XO P T w0 n HL ops J ix (o :: rest) e H :=
  .lenMap (es := menc ve es) hT hh hg hd hop hu hx (fun w h => ⟨[], h.ent hr⟩) (by rw [menc_length]; exact h)
theorem XO.setT {t kt vt : TypeId} {x y z : Operand} {k : κ} {v : β} (hT : T.Ok P) (hop : o.op = .mapUpdate t x y z) (hk0 : Keeps w0 (tmap b kv ve es :: F) (keptBy HL ix)) (hg : wantedE ops e n o = true) (hd : o.dst = none) (hu : T.und t = some (.map kt vt)) (hkd : T.und kt = some D)
    (hx : e.ev n x = .map (some b)) (hK : KeyOk D kv) (hy : e.ev n y = kv k) (hz : e.ev n z = ve v) (hk : Keeps w0 (tmap b kv ve (aset es k v) :: F) (keptBy HL ix)) (h : XO P T w0 n HL ops J (ix + 1) rest e (tmap b kv ve (aset es k v) :: F)) : XO P T w0 n HL ops J ix (o :: rest) e (tmap b kv ve es :: F) :=
  .mapSet (es := menc ve es) (v := ve v) hK hT hk0 hg hd hop hu hkd hx hy (by rw [hz, Hd_eq]) (by rw [mset_menc]; exact hk) (by rw [mset_menc]; exact h)
theorem XO.delT {t kt vt t2 : TypeId} {x y : Operand} {k : κ} (hT : T.Ok P) (hop : o.op = .call { callee := .builtin .delete, args := #[x, y], argTypes := #[t, t2] }) (hk0 : Keeps w0 (tmap b kv ve es :: F) (keptBy HL ix)) (hg : wantedE ops e n o = true) (hd : o.dst = none) (hu : T.und t = some (.map kt vt)) (hkd : T.und kt = some D)
    (hx : e.ev n x = .map (some b)) (hK : KeyOk D kv) (hy : e.ev n y = kv k) (hk : Keeps w0 (tmap b kv ve (adel es k) :: F) (keptBy HL ix)) (h : XO P T w0 n HL ops J (ix + 1) rest e (tmap b kv ve (adel es k) :: F)) : XO P T w0 n HL ops J ix (o :: rest) e (tmap b kv ve es :: F) :=
  .mapDel (es := menc ve es) hK hT hk0 hg hd hop hu hkd hx hy (by rw [mdel_menc]; exact hk) (by rw [mdel_menc]; exact h)
omit [DecidableEq κ] in
theorem XO.rangeT {t kt vt : TypeId} {x : Operand} {d : Nat} (hT : T.Ok P) (hop : o.op = .range t x) (hk0 : Keeps w0 (tmap b kv ve es :: F) (keptBy HL ix)) (hg : wantedE ops e n o = true) (hd : o.dst = some d) (hu : T.und t = some (.map kt vt)) (hx : e.ev n x = .map (some b))
    (hk : ∀ r, Keeps w0 (trange b r kv ve es es none :: F) (keptBy HL ix)) (h : ∀ r, XO P T w0 n HL ops J (ix + 1) rest (e.upd d (.pointer (some ⟨r, 0, none⟩))) (trange b r kv ve es es none :: F)) : XO P T w0 n HL ops J ix (o :: rest) e (tmap b kv ve es :: F) :=
  .rangeM hT hk0 hg hd hop hu hx hk h
omit [DecidableEq κ] in
theorem XO.nextT {x : Operand} {d : Nat} (hop : o.op = .next x false) (hx : e.ev n x = .pointer (some ⟨r, 0, none⟩)) (hk0 : Keeps w0 (trange b r kv ve es left cur :: F) (keptBy HL ix)) (hg : wantedE ops e n o = true) (hd : o.dst = some d)
    (hk1 : Keeps w0 (tmap b kv ve es :: F) (keptBy HL ix)) (hk2 : ∀ left' p, Keeps w0 (mrange b r kv (menc ve es) left' (some p) :: F) (keptBy HL ix))
    (h1 : left = [] → XO P T w0 n HL ops J (ix + 1) rest (e.upd d (.tuple #[.bool false])) (tmap b kv ve es :: F))
    (h2 : ∀ i p, left[i]? = some p → XO P T w0 n HL ops J (ix + 1) rest (e.upd d (.tuple #[.bool true, kv p.1, ve p.2])) (trange b r kv ve es (left.eraseIdx i) (some p) :: F)) : XO P T w0 n HL ops J ix (o :: rest) e (trange b r kv ve es left cur :: F) := by
  refine .nextM hk0 hg hd hop hx hk1 hk2 (fun h => h1 (by simpa [menc] using h)) (fun i p hp => ?_)
  simp only [menc, List.getElem?_map, Option.map_eq_some_iff] at hp
  obtain ⟨q, hq, rfl⟩ := hp
  have := h2 i q hq
  simp only [trange, menc, map_erase, Option.map_some] at this
  exact this
omit [DecidableEq κ] in
theorem XO.entryT {x : Operand} {d : Nat} {p : κ × β} (hop : o.op = .entry x) (hx : e.ev n x = .pointer (some ⟨r, 0, none⟩)) (hk0 : Keeps w0 (trange b r kv ve es left (some p) :: F) (keptBy HL ix)) (hg : wantedE ops e n o = true) (hd : o.dst = some d)
    (h : XO P T w0 n HL ops J (ix + 1) rest (e.upd d (.tuple #[kv p.1, ve p.2])) (trange b r kv ve es left (some p) :: F)) : XO P T w0 n HL ops J ix (o :: rest) e (trange b r kv ve es left (some p) :: F) :=
  .entryM (p := (p.1, ve p.2)) hk0 hg hd hop hx h
end
end Go.Sx
