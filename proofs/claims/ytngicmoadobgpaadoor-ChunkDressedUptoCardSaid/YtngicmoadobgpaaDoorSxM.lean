/- Rules for maps whose keys are numbers or strings. Conditions: the table 'T' fits the program. -/
import Derived.Test.YtngicmoadobgpaaDoorSxH
import Derived.MapKept
import Derived.Laws.Small
namespace Go.Sx
open Go Go.RowKit

/-- Keys of one kind. -/
structure KeyOk {κ : Type} [DecidableEq κ] (D : TypeDesc) (kv : κ → Value) : Prop where
  same : ∀ a b, Instr.sameNow D (kv a) (kv b) = some (decide (a = b))
  key : ∀ a, Go.MapKept.IsKey D (kv a)
  bits : ∀ a, Instr.sameBits 10000 (kv a) (kv a) = true
theorem keyI64 : KeyOk (.int .i64) (fun z : Int => Value.int .i64 z) := ⟨fun a b => by simp [Instr.sameNow, BEq.beq], fun a => by simp [Go.MapKept.IsKey], fun a => by simp [Instr.sameBits]⟩

/-- The entries of a map, each by its key and its value. -/
def mapc {κ : Type} (b : Nat) (kv : κ → Value) (es : List (κ × Value)) : HProp := fun h =>
  ∃ (arr : Array MapEntry) (clock : Nat), h b = some (.map arr clock) ∧ arr.toList.map (fun e => (e.key, e.val)) = es.map (fun p => (kv p.1, p.2)) ∧ MapKept.Stamped arr clock
def mget {κ : Type} [DecidableEq κ] : List (κ × Value) → κ → Option Value
  | [], _ => none
  | p :: l, k => if k = p.1 then some p.2 else mget l k
def mset {κ : Type} [DecidableEq κ] : List (κ × Value) → κ → Value → List (κ × Value)
  | [], k, v => [(k, v)]
  | p :: l, k, v => if k = p.1 then (p.1, v) :: l else p :: mset l k v
def mdel {κ : Type} [DecidableEq κ] : List (κ × Value) → κ → List (κ × Value)
  | [], _ => []
  | p :: l, k => if k = p.1 then l else p :: mdel l k

section
variable {κ : Type} [DecidableEq κ] {D : TypeDesc} {kv : κ → Value}
theorem findNow_none (hk : KeyOk D kv) {k : κ} : ∀ {l : List MapEntry} {es : List (κ × Value)} (n : Nat), l.map (fun e => (e.key, e.val)) = es.map (fun p => (kv p.1, p.2)) → mget es k = none → Instr.findNow D (kv k) l n = some none
  | [], [], n, _, _ => rfl
  | [], _ :: _, n, h, _ => by simp at h
  | _ :: _, [], n, h, _ => by simp at h
  | e :: l, p :: es, n, h, hg => by
    simp only [List.map_cons, List.cons.injEq, Prod.mk.injEq] at h
    obtain ⟨⟨h1, h2⟩, h3⟩ := h
    simp only [mget] at hg
    split at hg
    · cases hg
    · rename_i hne
      simp only [Instr.findNow, h1, hk.same, decide_eq_false hne]
      exact findNow_none hk (n + 1) h3 hg
theorem findNow_some (hk : KeyOk D kv) {k : κ} {v : Value} : ∀ {l : List MapEntry} {es : List (κ × Value)} (n : Nat), l.map (fun e => (e.key, e.val)) = es.map (fun p => (kv p.1, p.2)) → mget es k = some v →
    ∃ j e, Instr.findNow D (kv k) l n = some (some (n + j, v)) ∧ l[j]? = some e ∧ e.key = kv k ∧
      (∀ v' : Value, (l.modify j fun e => { e with key := kv k, val := v' }).map (fun e => (e.key, e.val)) = (mset es k v').map (fun p => (kv p.1, p.2))) ∧ (l.eraseIdx j).map (fun e => (e.key, e.val)) = (mdel es k).map (fun p => (kv p.1, p.2))
  | [], [], n, _, hg => by cases hg
  | [], _ :: _, n, h, _ => by simp at h
  | _ :: _, [], n, h, _ => by simp at h
  | e :: l, p :: es, n, h, hg => by
    simp only [List.map_cons, List.cons.injEq, Prod.mk.injEq] at h
    obtain ⟨⟨h1, h2⟩, h3⟩ := h
    simp only [mget] at hg
    split at hg
    · rename_i he
      injection hg with hg
      subst he
      refine ⟨0, e, by simp only [Instr.findNow, h1, hk.same, decide_true, h2, hg, Nat.add_zero], rfl, h1, fun v' => ?_, ?_⟩
      · simp [mset, h3]
      · simp [mdel, h3]
    · rename_i hne
      obtain ⟨j, e', g1, g2, g3, g4, g5⟩ := findNow_some hk (n + 1) h3 hg
      refine ⟨j + 1, e', by simp only [Instr.findNow, h1, hk.same, decide_eq_false hne, g1]; congr 3; omega, g2, g3, fun v' => ?_, ?_⟩
      · simp only [mset, if_neg hne, List.modify_succ_cons, List.map_cons, g4, h1, h2]
      · simp only [mdel, if_neg hne, List.eraseIdx_cons_succ, List.map_cons, g5, h1, h2]
theorem KeyOk.inj (hk : KeyOk D kv) {a b : κ} (h : kv a = kv b) : a = b := by
  have h1 := hk.same a b
  have h2 := hk.same b b
  rw [h, h2] at h1
  simpa using h1
theorem keys_other (hk : KeyOk D kv) {k : κ} {arr : Array MapEntry} {es : List (κ × Value)} (he : arr.toList.map (fun e => (e.key, e.val)) = es.map (fun p => (kv p.1, p.2))) (hm : mget es k = none) : ∀ x ∈ arr.toList, x.key ≠ kv k := by
  intro x hx
  have hx' : (x.key, x.val) ∈ es.map (fun p => (kv p.1, p.2)) := by rw [← he]; exact List.mem_map.2 ⟨x, hx, rfl⟩
  obtain ⟨p, hp, h1⟩ := List.mem_map.1 hx'
  simp only [Prod.mk.injEq] at h1
  rw [← h1.1]
  intro h
  have := hk.inj h
  clear he hx hx' h1 h
  induction es with
  | nil => cases hp
  | cons q es ih =>
    simp only [mget] at hm
    split at hm
    · cases hm
    · rename_i hne
      rcases List.mem_cons.1 hp with rfl | hp
      · exact hne this.symm
      · exact ih hm hp
theorem mset_new {k : κ} {v : Value} : ∀ {es : List (κ × Value)}, mget es k = none → mset es k v = es ++ [(k, v)]
  | [], _ => rfl
  | p :: es, h => by
    simp only [mget] at h
    split at h
    · cases h
    · rename_i hne
      simp only [mset, if_neg hne, mset_new h, List.cons_append]
theorem mdel_none {k : κ} : ∀ {es : List (κ × Value)}, mget es k = none → mdel es k = es
  | [], _ => rfl
  | p :: es, h => by
    simp only [mget] at h
    split at h
    · cases h
    · rename_i hne
      simp only [mdel, if_neg hne, mdel_none h]
omit [DecidableEq κ] in
theorem Rel.map_get {w0 w : World} {b : Nat} {es : List (κ × Value)} {F : List HProp} (h : Rel w0 (mapc b kv es :: F) w) :
    ∃ arr clock, w.heap[b]? = some (.map arr clock) ∧ arr.toList.map (fun e => (e.key, e.val)) = es.map (fun p => (kv p.1, p.2)) ∧ Rel w0 (blk b (.map arr clock) :: F) w ∧ MapKept.Stamped arr clock := by
  obtain ⟨x, ⟨h1, h2, d, l1, l2, ⟨arr, clock, hb, he, hs⟩, s⟩, g⟩ := h.heap
  exact ⟨arr, clock, (g _ _ (l1 _ _ hb)).2, he, ⟨h.below, x, ⟨h1, h2, d, l1, l2, hb, s⟩, g⟩, hs⟩
omit [DecidableEq κ] in
theorem Ent.mapc {b : Nat} {es : List (κ × Value)} {arr : Array MapEntry} {clock : Nat} {F : List HProp} (he : arr.toList.map (fun e => (e.key, e.val)) = es.map (fun p => (kv p.1, p.2))) (hs : MapKept.Stamped arr clock) : Ent (blk b (.map arr clock) :: F) (Go.Sx.mapc b kv es :: F) :=
  fun _ ⟨h1, h2, d, l1, l2, hc, s⟩ => ⟨h1, h2, d, l1, l2, ⟨arr, clock, hc, he, hs⟩, s⟩
omit [DecidableEq κ] in
theorem Rel.map_set {w0 w : World} {b : Nat} {arr arr' : Array MapEntry} {clock clock' : Nat} {es : List (κ × Value)} {F : List HProp} (h : Rel w0 (blk b (.map arr clock) :: F) w) (he : arr'.toList.map (fun e => (e.key, e.val)) = es.map (fun p => (kv p.1, p.2))) (hs : MapKept.Stamped arr' clock') :
    Rel w0 (mapc b kv es :: F) { w with heap := w.heap.setIfInBounds b (.map arr' clock') } := by
  have hb := h.get
  have hlt : b < w.heap.size := (Array.getElem?_eq_some_iff.1 hb).1
  refine (h.set (w' := { w with heap := w.heap.setIfInBounds b (.map arr' clock') }) (o' := .map arr' clock') rfl rfl rfl (by simp) (by simp [hlt]) (fun k hk => by simp [Ne.symm hk])).ent (Ent.mapc he hs)
end
section
variable {P : Program} {T : Tbl} {w0 : World} {n : Nat} {HL : Held} {ops : Array Oper} {J : Env → List HProp → Prop} {ix : Nat} {rest : List Oper} {o : Oper} {e : Env} {H F : List HProp} {κ : Type} [DecidableEq κ] {D : TypeDesc} {kv : κ → Value}
omit [DecidableEq κ] in
theorem XO.makeMap {t : TypeId} {d : Nat} (kv : κ → Value) (hk0 : Keeps w0 H (keptBy HL ix)) (hg : wantedE ops e n o = true) (hd : o.dst = some d) (hop : o.op = .makeMap t none)
    (hk : ∀ b, Keeps w0 (mapc b kv [] :: H) (keptBy HL ix)) (h : ∀ b, XO P T w0 n HL ops J (ix + 1) rest (e.upd d (.map (some b))) (mapc b kv [] :: H)) : XO P T w0 n HL ops J ix (o :: rest) e H := by
  refine .effOp hk0 hg (by rw [hop]; rfl) (fun w hrel => ?_)
  refine ⟨_, _, _, .inl ?_, (hrel.alloc (.map #[] 0)).ent (Ent.mapc (kv := kv) (es := []) rfl (MapKept.stamped_empty 0)), hk _, by rw [hd]; exact h w.heap.size⟩
  simp [execOp, hop, Instr.makeMap, newObj, Sem.run]
/-- 'v, ok := m[k]': the two ways. -/
theorem XO.lookupOk {t kt vt : TypeId} {x y : Operand} {b : Nat} {k : κ} {es : List (κ × Value)} {z : Value} {d : Nat} (hK : KeyOk D kv) (hT : T.Ok P) (hh : heldAt HL ix = none) (hg : wantedE ops e n o = true) (hd : o.dst = some d) (hop : o.op = .lookup t x y true) (hu : T.und t = some (.map kt vt)) (hkd : T.und kt = some D) (hz : T.zero vt = some z)
    (hx : e.ev n x = .map (some b)) (hy : e.ev n y = kv k) (hr : ∀ w, Rel w0 H w → ∃ F', Rel w0 (mapc b kv es :: F') w)
    (h1 : ∀ v, mget es k = some v → XO P T w0 n HL ops J (ix + 1) rest (e.upd d (.tuple #[v, .bool true])) H) (h2 : mget es k = none → XO P T w0 n HL ops J (ix + 1) rest (e.upd d (.tuple #[z, .bool false])) H) : XO P T w0 n HL ops J ix (o :: rest) e H := by
  cases hm : mget es k with
  | none =>
    refine .readOp (v := .tuple #[z, .bool false]) hh hg (by rw [hop]; rfl) (fun w hrel => ?_) (by rw [hd]; exact h2 hm)
    obtain ⟨F', hrel⟩ := hr w hrel
    obtain ⟨arr, clock, hb, he, _⟩ := hrel.map_get
    have hf := findNow_none hK 0 he hm
    simp only [execOp, hop, hx, hy, Instr.lookup, Sem.run_bind, run_und hT hu, Result.andThen_ok, MapKept.run_getObj_map hb, Sem.run_pure, MapKept.run_checkKey (hT.und _ _ hkd) (hK.key k), MapKept.run_findKey (hT.und _ _ hkd) hf, run_zero hT hz, if_true]
  | some v =>
    refine .readOp (v := .tuple #[v, .bool true]) hh hg (by rw [hop]; rfl) (fun w hrel => ?_) (by rw [hd]; exact h1 v hm)
    obtain ⟨F', hrel⟩ := hr w hrel
    obtain ⟨arr, clock, hb, he, _⟩ := hrel.map_get
    obtain ⟨j, e', hf, _⟩ := findNow_some hK 0 he hm
    simp only [execOp, hop, hx, hy, Instr.lookup, Sem.run_bind, run_und hT hu, Result.andThen_ok, MapKept.run_getObj_map hb, Sem.run_pure, MapKept.run_checkKey (hT.und _ _ hkd) (hK.key k), MapKept.run_findKey (hT.und _ _ hkd) hf, if_true]
omit [DecidableEq κ] in
theorem XO.lenMap {t kt vt : TypeId} {x : Operand} {b : Nat} {es : List (κ × Value)} {d : Nat} (hT : T.Ok P) (hh : heldAt HL ix = none) (hg : wantedE ops e n o = true) (hd : o.dst = some d) (hop : o.op = .call { callee := .builtin .len, args := #[x], argTypes := #[t] }) (hu : T.und t = some (.map kt vt))
    (hx : e.ev n x = .map (some b)) (hr : ∀ w, Rel w0 H w → ∃ F', Rel w0 (mapc b kv es :: F') w) (h : XO P T w0 n HL ops J (ix + 1) rest (e.upd d (.int .i64 es.length)) H) : XO P T w0 n HL ops J ix (o :: rest) e H := by
  refine .readOp (v := .int .i64 es.length) hh hg (by rw [hop]; simp [cls, hu]) (fun w hrel => ?_) (by rw [hd]; exact h)
  obtain ⟨F', hrel⟩ := hr w hrel
  obtain ⟨arr, clock, hb, he, _⟩ := hrel.map_get
  have hl : arr.size = es.length := by have := congrArg List.length he; simpa using this
  simp [execOp, hop, resolve, invoke, builtin, Builtin.len_, run_und hT hu, hx, goInt, MapKept.run_getObj_map hb, hl]
theorem XO.mapSet {t kt vt : TypeId} {x y z : Operand} {b : Nat} {k : κ} {v : Value} {es : List (κ × Value)} (hK : KeyOk D kv) (hT : T.Ok P) (hk0 : Keeps w0 (mapc b kv es :: F) (keptBy HL ix)) (hg : wantedE ops e n o = true) (hd : o.dst = none) (hop : o.op = .mapUpdate t x y z) (hu : T.und t = some (.map kt vt)) (hkd : T.und kt = some D)
    (hx : e.ev n x = .map (some b)) (hy : e.ev n y = kv k) (hz : Hd (e.ev n z) = some v) (hk : Keeps w0 (mapc b kv (mset es k v) :: F) (keptBy HL ix)) (h : XO P T w0 n HL ops J (ix + 1) rest e (mapc b kv (mset es k v) :: F)) : XO P T w0 n HL ops J ix (o :: rest) e (mapc b kv es :: F) := by
  rw [Hd_eq] at hz
  injection hz with hz
  refine .effOp hk0 hg (by rw [hop]; rfl) (fun w hrel => ?_)
  obtain ⟨arr, clock, hb, he, hrel2, hst⟩ := hrel.map_get
  cases hm : mget es k with
  | none =>
    have hf := findNow_none hK 0 he hm
    refine ⟨undef, _, _, .inr ⟨?_, rfl⟩, hrel2.map_set (arr' := arr.push { key := kv k, val := v, born := clock }) (clock' := clock + 1) (es := mset es k v) ?_ (MapKept.stamped_push hst (keys_other hK he hm)), hk, by rw [hd]; exact h⟩
    · simp only [execOp, hop, hx, hy, hz, Instr.mapUpdate, Sem.run_bind, run_und hT hu, Result.andThen_ok, MapKept.run_getObj_map hb, MapKept.run_checkKey (hT.und _ _ hkd) (hK.key k), MapKept.run_findKey (hT.und _ _ hkd) hf, MapKept.run_setObj_map _ hb, Sem.run_pure]
    · rw [mset_new hm]; simp [he]
  | some v0 =>
    obtain ⟨j, e', hf, hj, hkey, hmod, _⟩ := findNow_some hK 0 he hm
    have hj' : arr[j]? = some e' := by simpa using hj
    refine ⟨undef, _, _, .inr ⟨?_, rfl⟩, hrel2.map_set (arr' := arr.modify j fun e => { e with key := kv k, val := v }) (clock' := clock) (es := mset es k v) ?_ (MapKept.stamped_modify hst j _ (fun _ _ => rfl) (fun e _ hej => by rw [hj'] at hej; injection hej with hej; subst hej; exact hkey.symm)), hk, by rw [hd]; exact h⟩
    · simp only [execOp, hop, hx, hy, hz, Instr.mapUpdate, Sem.run_bind, run_und hT hu, Result.andThen_ok, MapKept.run_getObj_map hb, MapKept.run_checkKey (hT.und _ _ hkd) (hK.key k), MapKept.run_findKey (hT.und _ _ hkd) hf, Nat.zero_add, hj', Option.map_some, Option.getD_some, hkey, Instr.keyThatStays, hK.bits, if_true, Sem.run_pure, MapKept.run_setObj_map _ hb]
    · have := hmod v
      simpa using this
theorem XO.mapDel {t kt vt t2 : TypeId} {x y : Operand} {b : Nat} {k : κ} {es : List (κ × Value)} (hK : KeyOk D kv) (hT : T.Ok P) (hk0 : Keeps w0 (mapc b kv es :: F) (keptBy HL ix)) (hg : wantedE ops e n o = true) (hd : o.dst = none) (hop : o.op = .call { callee := .builtin .delete, args := #[x, y], argTypes := #[t, t2] }) (hu : T.und t = some (.map kt vt)) (hkd : T.und kt = some D)
    (hx : e.ev n x = .map (some b)) (hy : e.ev n y = kv k) (hk : Keeps w0 (mapc b kv (mdel es k) :: F) (keptBy HL ix)) (h : XO P T w0 n HL ops J (ix + 1) rest e (mapc b kv (mdel es k) :: F)) : XO P T w0 n HL ops J ix (o :: rest) e (mapc b kv es :: F) := by
  refine .effOp hk0 hg (by rw [hop]; rfl) (fun w hrel => ?_)
  obtain ⟨arr, clock, hb, he, hrel2, hst⟩ := hrel.map_get
  cases hm : mget es k with
  | none =>
    have hf := findNow_none hK 0 he hm
    refine ⟨.tuple #[], _, _, .inl ?_, hrel2.map_set (arr' := arr) (clock' := clock) (es := mdel es k) (by rw [mdel_none hm]; exact he) hst, hk, by rw [hd]; exact h⟩
    simp [execOp, hop, resolve, invoke, builtin, Builtin.delete_, hx, hy, run_und hT hu, MapKept.run_getObj_map hb, MapKept.run_checkKey (hT.und _ _ hkd) (hK.key k), MapKept.run_findKey (hT.und _ _ hkd) hf, MapKept.run_setObj_map _ hb]
  | some v0 =>
    obtain ⟨j, e', hf, hj, hkey, _, hdel⟩ := findNow_some hK 0 he hm
    refine ⟨.tuple #[], _, _, .inl ?_, hrel2.map_set (arr' := arr.eraseIdxIfInBounds j) (clock' := clock) (es := mdel es k) (by simpa using hdel) (MapKept.stamped_erase hst j), hk, by rw [hd]; exact h⟩
    simp [execOp, hop, resolve, invoke, builtin, Builtin.delete_, hx, hy, run_und hT hu, MapKept.run_getObj_map hb, MapKept.run_checkKey (hT.und _ _ hkd) (hK.key k), MapKept.run_findKey (hT.und _ _ hkd) hf, MapKept.run_setObj_map _ hb]
end
/-! ### sets -/
section
variable {P : Program} {T : Tbl} {w0 : World} {n : Nat} {HL : Held} {ops : Array Oper} {J : Env → List HProp → Prop} {ix : Nat} {rest : List Oper} {o : Oper} {e : Env} {H F : List HProp} {κ : Type} [DecidableEq κ] {D : TypeDesc} {kv : κ → Value}
/-- A map all of whose values are one. -/
def setc (b : Nat) (kv : κ → Value) (u : Value) (ids : List κ) : HProp := mapc b kv (ids.map fun z => (z, u))
def insS (ids : List κ) (k : κ) : List κ := if k ∈ ids then ids else ids ++ [k]
theorem mget_set {u : Value} {k : κ} : ∀ {ids : List κ}, mget (ids.map fun z => (z, u)) k = if k ∈ ids then some u else none
  | [] => by simp [mget]
  | z :: ids => by
    simp only [List.map_cons, mget, mget_set, List.mem_cons]
    by_cases h : k = z
    · simp [h]
    · simp [h]
theorem mset_set {u : Value} {k : κ} : ∀ {ids : List κ}, mset (ids.map fun z => (z, u)) k u = (insS ids k).map fun z => (z, u)
  | [] => by simp [mset, insS]
  | z :: ids => by
    have ih := mset_set (u := u) (k := k) (ids := ids)
    by_cases h : k = z
    · simp [mset, insS, h]
    · simp only [List.map_cons, mset, ih, insS, List.mem_cons, if_neg h]
      by_cases h2 : k ∈ ids
      · rw [if_pos h2, if_pos (.inr h2)]; rfl
      · rw [if_neg h2, if_neg (by simp [h, h2])]; rfl
theorem mdel_set {u : Value} {k : κ} : ∀ {ids : List κ}, mdel (ids.map fun z => (z, u)) k = (ids.erase k).map fun z => (z, u)
  | [] => rfl
  | z :: ids => by
    have ih := mdel_set (u := u) (k := k) (ids := ids)
    by_cases h : k = z
    · simp [mdel, h]
    · simp only [List.map_cons, mdel, if_neg h, ih]
      rw [List.erase_cons_tail (by simpa using Ne.symm h)]; rfl
theorem XO.lookupSet {t kt vt : TypeId} {x y : Operand} {b : Nat} {k : κ} {ids : List κ} {z u : Value} {d : Nat} (hK : KeyOk D kv) (hT : T.Ok P) (hh : heldAt HL ix = none) (hg : wantedE ops e n o = true) (hd : o.dst = some d) (hop : o.op = .lookup t x y true) (hu : T.und t = some (.map kt vt)) (hkd : T.und kt = some D) (hz : T.zero vt = some z)
    (hx : e.ev n x = .map (some b)) (hy : e.ev n y = kv k) (hr : ∀ w, Rel w0 H w → ∃ F', Rel w0 (setc b kv u ids :: F') w)
    (h1 : k ∈ ids → XO P T w0 n HL ops J (ix + 1) rest (e.upd d (.tuple #[u, .bool true])) H) (h2 : k ∉ ids → XO P T w0 n HL ops J (ix + 1) rest (e.upd d (.tuple #[z, .bool false])) H) : XO P T w0 n HL ops J ix (o :: rest) e H := by
  refine .lookupOk (es := ids.map fun z => (z, u)) hK hT hh hg hd hop hu hkd hz hx hy hr (fun v hv => ?_) (fun hv => ?_)
  · rw [mget_set] at hv
    split at hv
    · injection hv with hv; subst hv; exact h1 (by assumption)
    · cases hv
  · rw [mget_set] at hv
    split at hv
    · cases hv
    · exact h2 (by assumption)
theorem XO.setAdd {t kt vt : TypeId} {x y z : Operand} {b : Nat} {k : κ} {u : Value} {ids : List κ} (hK : KeyOk D kv) (hT : T.Ok P) (hk0 : Keeps w0 (setc b kv u ids :: F) (keptBy HL ix)) (hg : wantedE ops e n o = true) (hd : o.dst = none) (hop : o.op = .mapUpdate t x y z) (hu : T.und t = some (.map kt vt)) (hkd : T.und kt = some D)
    (hx : e.ev n x = .map (some b)) (hy : e.ev n y = kv k) (hz : Hd (e.ev n z) = some u) (hk : Keeps w0 (setc b kv u (insS ids k) :: F) (keptBy HL ix)) (h : XO P T w0 n HL ops J (ix + 1) rest e (setc b kv u (insS ids k) :: F)) : XO P T w0 n HL ops J ix (o :: rest) e (setc b kv u ids :: F) := by
  refine .mapSet (es := ids.map fun z => (z, u)) hK hT hk0 hg hd hop hu hkd hx hy hz ?_ ?_
  · rw [mset_set]; exact hk
  · rw [mset_set]; exact h
theorem XO.setDel {t kt vt t2 : TypeId} {x y : Operand} {b : Nat} {k : κ} {u : Value} {ids : List κ} (hK : KeyOk D kv) (hT : T.Ok P) (hk0 : Keeps w0 (setc b kv u ids :: F) (keptBy HL ix)) (hg : wantedE ops e n o = true) (hd : o.dst = none) (hop : o.op = .call { callee := .builtin .delete, args := #[x, y], argTypes := #[t, t2] }) (hu : T.und t = some (.map kt vt)) (hkd : T.und kt = some D)
    (hx : e.ev n x = .map (some b)) (hy : e.ev n y = kv k) (hk : Keeps w0 (setc b kv u (ids.erase k) :: F) (keptBy HL ix)) (h : XO P T w0 n HL ops J (ix + 1) rest e (setc b kv u (ids.erase k) :: F)) : XO P T w0 n HL ops J ix (o :: rest) e (setc b kv u ids :: F) := by
  refine .mapDel (es := ids.map fun z => (z, u)) hK hT hk0 hg hd hop hu hkd hx hy ?_ ?_
  · rw [mdel_set]; exact hk
  · rw [mdel_set]; exact h
omit [DecidableEq κ] in
theorem XO.lenSet {t kt vt : TypeId} {x : Operand} {b : Nat} {u : Value} {ids : List κ} {d : Nat} (hT : T.Ok P) (hh : heldAt HL ix = none) (hg : wantedE ops e n o = true) (hd : o.dst = some d) (hop : o.op = .call { callee := .builtin .len, args := #[x], argTypes := #[t] }) (hu : T.und t = some (.map kt vt))
    (hx : e.ev n x = .map (some b)) (hr : ∀ w, Rel w0 H w → ∃ F', Rel w0 (setc b kv u ids :: F') w) (h : XO P T w0 n HL ops J (ix + 1) rest (e.upd d (.int .i64 ids.length)) H) : XO P T w0 n HL ops J ix (o :: rest) e H := by
  refine .lenMap (es := ids.map fun z => (z, u)) hT hh hg hd hop hu hx hr ?_
  rw [List.length_map]; exact h
omit [DecidableEq κ] in
/-- 'min' of two numbers. -/
theorem XO.minI {x y : Operand} {ts : Array TypeId} {a b : Int} {k k' : IntKind} {d : Nat} (hg : wantedE ops e n o = true) (hd : o.dst = some d) (hop : o.op = .call { callee := .builtin .min, args := #[x, y], argTypes := ts }) (hx : e.ev n x = .int k a) (hy : e.ev n y = .int k' b)
    (h1 : a ≤ b → XO P T w0 n HL ops J (ix + 1) rest (e.upd d (.int k a)) H) (h2 : b < a → XO P T w0 n HL ops J (ix + 1) rest (e.upd d (.int k b)) H) : XO P T w0 n HL ops J ix (o :: rest) e H := by
  by_cases h : b < a
  · refine .pureOp (v := .int k b) hg (by rw [hop]; rfl) (fun w => ?_) (by rw [hd]; exact h2 h)
    simp [execOp, hop, resolve, invoke, builtin, hx, hy, run_min_int2, h]
  · refine .pureOp (v := .int k a) hg (by rw [hop]; rfl) (fun w => ?_) (by rw [hd]; exact h1 (by omega))
    simp [execOp, hop, resolve, invoke, builtin, hx, hy, run_min_int2, h]
end
end Go.Sx
