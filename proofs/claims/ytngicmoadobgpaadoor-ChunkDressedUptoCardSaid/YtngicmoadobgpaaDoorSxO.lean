/- Rules: calls of function values, calls without results, results that lie in cells, elements of arrays, reads of maps, clearing. Conditions: the table 'T' fits the program. -/
import Derived.Test.YtngicmoadobgpaaDoorSxN
namespace Go.Sx
open Go Go.RowKit
section
variable {P : Program} {T : Tbl} {w0 : World} {n : Nat} {HL : Held} {ops : Array Oper} {J : Env → List HProp → Prop} {ix : Nat} {rest : List Oper} {o : Oper} {e : Env} {H F : List HProp}
/-- A call of a function value. -/
theorem XO.callC {x : Operand} {f : FuncId} {first cap : Array Value} {as : Array Operand} {ts : Array TypeId} {args : List Value} {d : Nat} (hg : wantedE ops e n o = true) (hd : o.dst = some d) (hop : o.op = .call { callee := .value x, args := as, argTypes := ts }) (hx : e.ev n x = .func (.func f) first cap) (hf : callOk P f = true)
    (ha : evL (e.ev n) as.toList = some args) (h : Tri P f ⟨first.toList ++ args ++ cap.toList⟩ w0 H fun v H' => XO P T w0 n [] ops J (ix + 1) rest (e.upd d v) H') : XO P T w0 n [] ops J ix (o :: rest) e H := by
  refine .call (f := f) (args := ⟨first.toList ++ args ++ cap.toList⟩) trivial hg (by rw [hop]; rfl) (fun w => ?_) (h.mono fun v H' hx => ⟨trivial, by rw [hd]; exact hx⟩)
  have h1 : as.map (e.ev n) = ⟨args⟩ := by apply Array.ext'; simpa using evL_eq ha
  have h2 : first ++ (⟨args⟩ : Array Value) ++ cap = ⟨first.toList ++ args ++ cap.toList⟩ := by apply Array.ext'; simp
  simp [execOp, hop, resolve, hx, Deferred.ofValue, invoke, h1, h2, run_callFunc hf]
/-- A call that gives nothing. -/
theorem XO.callV {f : FuncId} {as : Array Operand} {ts : Array TypeId} {args : List Value} (hg : wantedE ops e n o = true) (hd : o.dst = none) (hop : o.op = .call { callee := .value (.func f), args := as, argTypes := ts }) (hf : callOk P f = true)
    (ha : evL (e.ev n) as.toList = some args) (h : Tri P f ⟨args⟩ w0 H fun _ H' => XO P T w0 n [] ops J (ix + 1) rest e H') : XO P T w0 n [] ops J ix (o :: rest) e H := by
  refine .call (f := f) (args := ⟨args⟩) trivial hg (by rw [hop]; rfl) (fun w => ?_) (h.mono fun v H' hx => ⟨trivial, by rw [hd]; exact hx⟩)
  have : as.map (e.ev n) = ⟨args⟩ := by apply Array.ext'; simpa using evL_eq ha
  simp [execOp, hop, resolve, Env.ev, Deferred.ofValue, invoke, this, run_callFunc hf]
/-- The address of an element of an array. -/
theorem XO.indexArr {x y : Operand} {t u : TypeId} {b off len s : Nat} {k : IntKind} {z : Int} {d : Nat} (hT : T.Ok P) (hg : wantedE ops e n o = true) (hd : o.dst = some d) (hop : o.op = .indexAddr t x y) (hu : T.und t = some (.array len u)) (hs : T.size u = some s)
    (hx : e.ev n x = .pointer (some ⟨b, off, none⟩)) (hy : e.ev n y = .int k z) (h0 : 0 ≤ z) (h1 : z < len) (h : XO P T w0 n HL ops J (ix + 1) rest (e.upd d (.pointer (some ⟨b, off + z.toNat * s, none⟩))) H) : XO P T w0 n HL ops J ix (o :: rest) e H := by
  refine .pureOp (v := .pointer (some ⟨b, off + z.toNat * s, none⟩)) hg (by rw [hop]; rfl) (fun w => ?_) (by rw [hd]; exact h)
  simp [execOp, hop, Instr.indexAt, Instr.sureAddr, run_und hT hu, run_size hT hs, hx, hy, asIntOf, h0, h1, Addr.add_mk]
/-- The same, the number given as a natural one. -/
theorem XO.indexArrN {x y : Operand} {t u : TypeId} {b off len s i : Nat} {k : IntKind} {d : Nat} (hT : T.Ok P) (hg : wantedE ops e n o = true) (hd : o.dst = some d) (hop : o.op = .indexAddr t x y) (hu : T.und t = some (.array len u)) (hs : T.size u = some s)
    (hx : e.ev n x = .pointer (some ⟨b, off, none⟩)) (hy : e.ev n y = .int k (i : Int)) (h1 : i < len) (h : XO P T w0 n HL ops J (ix + 1) rest (e.upd d (.pointer (some ⟨b, off + i * s, none⟩))) H) : XO P T w0 n HL ops J ix (o :: rest) e H :=
  .indexArr hT hg hd hop hu hs hx hy (by omega) (by omega) h
/-- A store, the row behind it given by an equation. -/
theorem XO.storeW {t tb : TypeId} {x y : Operand} {b off : Nat} {l l' cs : List Value} {v : Value} {F : List HProp} (hw : wr l off cs = l') (hl : off + cs.length ≤ l.length) (hT : T.Ok P) (hk0 : Keeps w0 (cel b tb l :: F) (keptBy HL ix)) (hg : wantedE ops e n o = true) (hd : o.dst = none) (hop : o.op = .store t x y) (hx : e.ev n x = .pointer (some ⟨b, off, none⟩))
    (hy : Hd (e.ev n y) = some v) (hcs : v.cells = ⟨cs⟩) (hs : T.size t = some cs.length) (h1 : cs.all (·.oneCell') = true)
    (hk : Keeps w0 (cel b tb l' :: F) (keptBy HL ix)) (h : XO P T w0 n HL ops J (ix + 1) rest e (cel b tb l' :: F)) : XO P T w0 n HL ops J ix (o :: rest) e (cel b tb l :: F) := by
  subst hw
  exact .store hT hk0 hg hd hop hx hy hcs hs h1 hl hk h
theorem zeroCells_length {z : Value} {m s : Nat} (hzs : z.cells.size = s) : (Builtin.zeroCells z.cells m).toList.length = m * s := by
  simp [Builtin.zeroCells, hzs]
theorem zeroCells_all {z : Value} {m : Nat} (h0 : 0 < z.cells.size) (hz : z.cells.toList.all (·.oneCell') = true) : (Builtin.zeroCells z.cells m).toList.all (·.oneCell') = true := by
  rw [List.all_eq_true]
  intro x hx
  simp only [Builtin.zeroCells, Array.toList_map, List.mem_map] at hx
  obtain ⟨i, _, rfl⟩ := hx
  have hlt : i % z.cells.size < z.cells.size := Nat.mod_lt _ h0
  rw [getElem!_pos z.cells _ hlt]
  exact List.all_eq_true.1 hz _ (by simp)
theorem wr_take : ∀ (vs l : List Value) (off i : Nat), i ≤ off → (wr l off vs).take i = l.take i
  | [], _, _, _, _ => rfl
  | v :: vs, l, off, i, h => by
    rw [wr, wr_take vs _ (off + 1) i (by omega), List.take_set_of_le h]
/-- 'clear(s[i:])' of a row whose rest is not needed any more. -/
theorem XO.clearTail {x : Operand} {t u : TypeId} {b cap m i s c r off : Nat} {l : List Value} {z : Value} {ad : Addr} (hr : r = m - i) (hi : i ≤ m) (had : i < m → ad = ⟨b, off, none⟩) (hoff : off = i * s) (hT : T.Ok P) (hk0 : Keeps w0 (RowAt b cap u s m l :: F) (keptBy HL ix)) (hg : wantedE ops e n o = true) (hd : o.dst = none)
    (hop : o.op = .call { callee := .builtin .clear, args := #[x], argTypes := #[t] }) (hu : T.und t = some (.slice u)) (hz : T.zero u = some z) (hzs : Nat.beq z.cells.size s = true) (hs0 : Nat.blt 0 s = true) (hza : z.cells.toList.all (·.oneCell') = true)
    (hx : e.ev n x = .slice (some ad) r c) (hk : Keeps w0 (RowAt b cap u s i (l.take (i * s)) :: F) (keptBy HL ix)) (h : XO P T w0 n HL ops J (ix + 1) rest e (RowAt b cap u s i (l.take (i * s)) :: F)) : XO P T w0 n HL ops J ix (o :: rest) e (RowAt b cap u s m l :: F) := by
  subst hoff hr
  have hzs' := Nat.eq_of_beq_eq_true hzs
  have hs0' : 0 < s := Nat.le_of_ble_eq_true hs0
  refine .effOp hk0 hg (by rw [hop]; rfl) (fun w hrel => ?_)
  obtain ⟨tail, h1, h2, h3, h4, h5⟩ := hrel.rowAt_blk
  have hc : Rel w0 (cel b u (l ++ tail) :: F) w := h1
  have him : i * s ≤ m * s := Nat.mul_le_mul_right _ hi
  have key : ∀ {l2 : List Value} {w' : World}, l2.length = (l ++ tail).length → l2.take (i * s) = l.take (i * s) → Rel w0 (cel b u l2 :: F) w' → Rel w0 (RowAt b cap u s i (l.take (i * s)) :: F) w' := by
    intro l2 w' hl2 htk hr2
    refine Rel.rowAt_mk (tail := l2.drop (i * s)) ?_ ?_ ?_ (by omega) h5
    · rw [← htk, List.take_append_drop]; exact hr2
    · rw [← htk, List.take_append_drop, hl2, h2]
    · rw [List.length_take, h3, Nat.min_eq_left him]
  have htk0 : (l ++ tail).take (i * s) = l.take (i * s) := by rw [List.take_append_of_le_length (by omega)]
  rcases Nat.eq_or_lt_of_le hi with heq | hlt
  · subst heq
    refine ⟨.tuple #[], w, _, .inl ?_, key rfl htk0 hc, hk, by rw [hd]; exact h⟩
    rw [Nat.sub_self] at hx
    simp [execOp, hop, resolve, invoke, builtin, Builtin.clear_, run_und hT hu, hx]
  · have hle : i * s + (Builtin.zeroCells z.cells (m - i)).toList.length ≤ (l ++ tail).length := by
      rw [zeroCells_length hzs', List.length_append, h3, Nat.sub_mul]; omega
    obtain ⟨w', hw, hr'⟩ := storeCells_rel (P := P) b u F (i * s) (Builtin.zeroCells z.cells (m - i)).toList 0 (l ++ tail) w hc (by omega) (zeroCells_all (by omega) hza)
    refine ⟨.tuple #[], w', _, .inl ?_, key (wr_length _ _ _) (by rw [Nat.add_zero, wr_take _ _ _ _ (Nat.le_refl _)]; exact htk0) hr', hk, by rw [hd]; exact h⟩
    obtain ⟨q, hq⟩ : ∃ q, m - i = q + 1 := ⟨m - i - 1, by omega⟩
    rw [had hlt, hq] at hx
    rw [hq] at hw
    simp only [execOp, hop, resolve, invoke, builtin, Builtin.clear_, List.map_toArray, List.map_cons, List.map_nil, hx, Sem.run_bind, run_und hT hu, run_zero hT hz, Sem.run_pure, Result.andThen_ok, List.getElem?_toArray, List.getElem?_cons_zero, hw]
/-- 'm[k]': the two ways. -/
theorem XO.lookup1 {κ : Type} [DecidableEq κ] {D : TypeDesc} {kv : κ → Value} {t kt vt : TypeId} {x y : Operand} {b : Nat} {k : κ} {es : List (κ × Value)} {z : Value} {d : Nat} (hK : KeyOk D kv) (hT : T.Ok P) (hh : heldAt HL ix = none) (hg : wantedE ops e n o = true) (hd : o.dst = some d) (hop : o.op = .lookup t x y false) (hu : T.und t = some (.map kt vt)) (hkd : T.und kt = some D) (hz : T.zero vt = some z)
    (hx : e.ev n x = .map (some b)) (hy : e.ev n y = kv k) (hr : ∀ w, Rel w0 H w → ∃ F', Rel w0 (mapc b kv es :: F') w)
    (h : XO P T w0 n HL ops J (ix + 1) rest (e.upd d ((mget es k).getD z)) H) : XO P T w0 n HL ops J ix (o :: rest) e H := by
  cases hm : mget es k with
  | none =>
    rw [hm] at h
    refine .readOp (v := z) hh hg (by rw [hop]; rfl) (fun w hrel => ?_) (by rw [hd]; exact h)
    obtain ⟨F', hrel⟩ := hr w hrel
    obtain ⟨arr, clock, hb, he, _⟩ := hrel.map_get
    have hf := findNow_none hK 0 he hm
    simp [execOp, hop, hx, hy, Instr.lookup, Sem.run_bind, run_und hT hu, Result.andThen_ok, MapKept.run_getObj_map hb, MapKept.run_checkKey (hT.und _ _ hkd) (hK.key k), MapKept.run_findKey (hT.und _ _ hkd) hf, run_zero hT hz]
  | some v =>
    rw [hm] at h
    refine .readOp (v := v) hh hg (by rw [hop]; rfl) (fun w hrel => ?_) (by rw [hd]; exact h)
    obtain ⟨F', hrel⟩ := hr w hrel
    obtain ⟨arr, clock, hb, he, _⟩ := hrel.map_get
    obtain ⟨j, e', hf, _⟩ := findNow_some hK 0 he hm
    simp [execOp, hop, hx, hy, Instr.lookup, Sem.run_bind, run_und hT hu, Result.andThen_ok, MapKept.run_getObj_map hb, Sem.run_pure, MapKept.run_checkKey (hT.und _ _ hkd) (hK.key k), MapKept.run_findKey (hT.und _ _ hkd) hf]
/-- A map that is held. -/
def heldM {κ : Type} (b : Nat) (kv : κ → Value) (es : List (κ × Value)) : Fact := fun w => ∃ (arr : Array MapEntry) (clock : Nat), w.heap[b]? = some (.map arr clock) ∧ arr.toList.map (fun e => (e.key, e.val)) = es.map fun p => (kv p.1, p.2)
theorem heldM_here {κ : Type} {b : Nat} {kv : κ → Value} {es : List (κ × Value)} {w : World} (h : Rel w0 (mapc b kv es :: F) w) : heldM b kv es w :=
  let ⟨arr, clock, hb, he, _⟩ := h.map_get
  ⟨arr, clock, hb, he⟩
theorem heldM_0 {κ : Type} {b : Nat} {kv : κ → Value} {es : List (κ × Value)} : ∀ w, Rel w0 (mapc b kv es :: F) w → heldM b kv es w := fun _ h => heldM_here h
theorem heldM_1 {κ : Type} {b : Nat} {kv : κ → Value} {es : List (κ × Value)} {x1 : HProp} : ∀ w, Rel w0 (x1 :: mapc b kv es :: F) w → heldM b kv es w := fun _ h => heldM_here (h.ent Ent.front1)
theorem heldM_2 {κ : Type} {b : Nat} {kv : κ → Value} {es : List (κ × Value)} {x1 x2 : HProp} : ∀ w, Rel w0 (x1 :: x2 :: mapc b kv es :: F) w → heldM b kv es w := fun _ h => heldM_here (h.ent Ent.front2)
theorem heldM_3 {κ : Type} {b : Nat} {kv : κ → Value} {es : List (κ × Value)} {x1 x2 x3 : HProp} : ∀ w, Rel w0 (x1 :: x2 :: x3 :: mapc b kv es :: F) w → heldM b kv es w := fun _ h => heldM_here (h.ent Ent.front3)
theorem heldM_4 {κ : Type} {b : Nat} {kv : κ → Value} {es : List (κ × Value)} {x1 x2 x3 x4 : HProp} : ∀ w, Rel w0 (x1 :: x2 :: x3 :: x4 :: mapc b kv es :: F) w → heldM b kv es w := fun _ h => heldM_here (h.ent Ent.front4)
/-- 'm[k]' of a key that is there, the map held. -/
theorem XO.lookupH {κ : Type} [DecidableEq κ] {D : TypeDesc} {kv : κ → Value} {t kt vt : TypeId} {x y : Operand} {b : Nat} {k : κ} {es : List (κ × Value)} {v : Value} {d : Nat} (hm : mget es k = some v) (hK : KeyOk D kv) (hT : T.Ok P) (hh : heldAt HL ix = some (heldM b kv es)) (hg : wantedE ops e n o = true) (hd : o.dst = some d) (hop : o.op = .lookup t x y false) (hu : T.und t = some (.map kt vt)) (hkd : T.und kt = some D)
    (hx : e.ev n x = .map (some b)) (hy : e.ev n y = kv k) (hr : ∀ w, Rel w0 H w → heldM b kv es w)
    (h : XO P T w0 n HL ops J (ix + 1) rest (e.upd d v) H) : XO P T w0 n HL ops J ix (o :: rest) e H := by
  refine .holdOp (v := v) hh hg (by rw [hop]; rfl) (fun w ⟨arr, clock, hb, he⟩ => ?_) hr (by rw [hd]; exact h)
  obtain ⟨j, e', hf, _⟩ := findNow_some hK 0 he hm
  simp [execOp, hop, hx, hy, Instr.lookup, Sem.run_bind, run_und hT hu, Result.andThen_ok, MapKept.run_getObj_map hb, Sem.run_pure, MapKept.run_checkKey (hT.und _ _ hkd) (hK.key k), MapKept.run_findKey (hT.und _ _ hkd) hf]
end
section
variable {P : Program} {T : Tbl} {w0 : World} {n : Nat} {b : Frame} {R : Value → List HProp → Prop} {e : Env} {H H' : List HProp} {fn : Func}
/-- The end: the results, of which some lie in memory. -/
theorem XS.retM {k : List Item} {v : Value} (hf : P.funcs[b.fn]? = some fn) (hk : b.kind = .normal) (hr : ∀ w, Rel w0 H w → (results fn (e.act n).tmps).run P w = .ok v w) (x : Ent H H') (h : R v H') :
    XS P w0 b n R (.code .ret :: k) e H := ⟨fun _ w hrel =>
  ⟨v, w, _, H', h, hrel.ent x, .one step_ret, rfl, rfl, rfl, hk, fn, hf, hr w hrel⟩⟩
theorem run_loadVar_agg (hT : T.Ok P) {t : TypeId} {a : Addr} {l : List Value} (ha : aggT T t = some true) (hs : T.size t = some l.length) (hr : ReadsL w0 H a l) {w : World} (hrel : Rel w0 H w) : (loadVar t a).run P w = .ok (.agg ⟨l⟩) w := by
  simp only [loadVar, Sem.run_bind, Sem.run_pure, Result.andThen_ok, run_isAgg hT ha, if_true, run_size hT hs, run_loadCells_list w a l (fun j v hj => hr j v hj w hrel)]
/-- One result, a struct in a cell. -/
theorem XS.retC1 {k : List Item} {c : Nat} {t : TypeId} {a : Addr} {l : List Value} (hT : T.Ok P) (hf : P.funcs[b.fn]? = some fn) (hk : b.kind = .normal) (hres : fn.results = #[.cell c t]) (hv : e.ev n (.tmp c) = .pointer (some a)) (ha : aggT T t = some true) (hs : T.size t = some l.length) (hr : ReadsL w0 H a l)
    (x : Ent H H') (h : R (.agg ⟨l⟩) H') : XS P w0 b n R (.code .ret :: k) e H :=
  .retM hf hk (fun w hrel => by
    have hl := run_loadVar_agg hT ha hs hr hrel
    have hv' : (e.act n).tmps[c]?.getD undef = .pointer (some a) := by rw [← Array.getD_eq_getD_getElem?, getD_act]; exact hv
    simp [results, hres, hv', asAddr, hl]) x h
/-- Two results, the first a struct in a cell. -/
theorem XS.retC2 {k : List Item} {c u : Nat} {t : TypeId} {a : Addr} {l : List Value} {v : Value} (hT : T.Ok P) (hf : P.funcs[b.fn]? = some fn) (hk : b.kind = .normal) (hres : fn.results = #[.cell c t, .tmp u]) (hv : e.ev n (.tmp c) = .pointer (some a)) (hu : Hd (e.ev n (.tmp u)) = some v) (ha : aggT T t = some true) (hs : T.size t = some l.length) (hr : ReadsL w0 H a l)
    (x : Ent H H') (h : R (.tuple #[.agg ⟨l⟩, v]) H') : XS P w0 b n R (.code .ret :: k) e H :=
  .retM hf hk (fun w hrel => by
    have hl := run_loadVar_agg hT ha hs hr hrel
    have hv' : (e.act n).tmps[c]?.getD undef = .pointer (some a) := by rw [← Array.getD_eq_getD_getElem?, getD_act]; exact hv
    rw [Hd_eq] at hu; injection hu with hu
    have hu' : (e.act n).tmps[u]?.getD undef = v := by rw [← Array.getD_eq_getD_getElem?, getD_act]; exact hu
    simp [results, hres, hv', hu', asAddr, hl]) x h
end
end Go.Sx
