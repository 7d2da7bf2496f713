/- Some texts put together: lemmas and contracts for the law. Conditions: as each text says. -/
import Derived.Test.YtngicmoadobgpaaDoorU7
/- Rules: calls of function values, calls without results, results that lie in cells, elements of arrays, reads of maps, clearing. Conditions: the table 'T' fits the program. -/
namespace Go.Sx
open Go Go.RowKit
section
variable {P : Program} {T : Tbl} {w0 : World} {n : Nat} {HL : Held} {ops : Array Oper} {J : Env → List HProp → Prop} {ix : Nat} {rest : List Oper} {o : Oper} {e : Env} {H F : List HProp}
/-- A call of a function value. -/
theorem XO.callC {x : Operand} {f : FuncId} {first cap : Array Value} {ars : Array Operand} {ts : Array TypeId} {args : List Value} {d : Nat} (hg : wantedE ops e n o = true) (hd : o.dst = some d) (hop : o.op = .call { callee := .value x, args := ars, argTypes := ts }) (hx : e.ev n x = .func (.func f) first cap) (hf : callOk P f = true)
    (ha : evL (e.ev n) ars.toList = some args) (h : Tri P f ⟨first.toList ++ args ++ cap.toList⟩ w0 H fun v H' => XO P T w0 n [] ops J (ix + 1) rest (e.upd d v) H') : XO P T w0 n [] ops J ix (o :: rest) e H := by
  refine .call (f := f) (args := ⟨first.toList ++ args ++ cap.toList⟩) trivial hg (by rw [hop]; rfl) (fun w => ?_) (h.mono fun v H' hx => ⟨trivial, by rw [hd]; exact hx⟩)
  have h1 : ars.map (e.ev n) = ⟨args⟩ := by apply Array.ext'; simpa using evL_eq ha
  have h2 : first ++ (⟨args⟩ : Array Value) ++ cap = ⟨first.toList ++ args ++ cap.toList⟩ := by apply Array.ext'; simp
  simp [execOp, hop, resolve, hx, Deferred.ofValue, invoke, h1, h2, run_callFunc hf]
/-- A call that gives nothing. -/
theorem XO.callV {f : FuncId} {ars : Array Operand} {ts : Array TypeId} {args : List Value} (hg : wantedE ops e n o = true) (hd : o.dst = none) (hop : o.op = .call { callee := .value (.func f), args := ars, argTypes := ts }) (hf : callOk P f = true)
    (ha : evL (e.ev n) ars.toList = some args) (h : Tri P f ⟨args⟩ w0 H fun _ H' => XO P T w0 n [] ops J (ix + 1) rest e H') : XO P T w0 n [] ops J ix (o :: rest) e H := by
  refine .call (f := f) (args := ⟨args⟩) trivial hg (by rw [hop]; rfl) (fun w => ?_) (h.mono fun v H' hx => ⟨trivial, by rw [hd]; exact hx⟩)
  have : ars.map (e.ev n) = ⟨args⟩ := by apply Array.ext'; simpa using evL_eq ha
  simp [execOp, hop, resolve, Env.ev, Deferred.ofValue, invoke, this, run_callFunc hf]
/-- The address of an element of an array. -/
theorem XO.indexArr {x y : Operand} {t u : TypeId} {b off len s : Nat} {k : IntKind} {z : Int} {d : Nat} (hT : T.Ok P) (hg : wantedE ops e n o = true) (hd : o.dst = some d) (hop : o.op = .indexAddr t x y) (hu : T.und t = some (.array len u)) (hs : T.size u = some s)
    (hx : e.ev n x = .pointer (some ⟨b, off, none⟩)) (hy : e.ev n y = .int k z) (h0 : 0 ≤ z) (h1 : z < len) (h : XO P T w0 n HL ops J (ix + 1) rest (e.upd d (.pointer (some ⟨b, off + z.toNat * s, none⟩))) H) : XO P T w0 n HL ops J ix (o :: rest) e H := by
  refine .pureOp (v := .pointer (some ⟨b, off + z.toNat * s, none⟩)) hg (by rw [hop]; rfl) (fun w => ?_) (by rw [hd]; exact h)
  simp [execOp, hop, Instr.indexAt, Instr.sureAddr, run_und hT hu, run_size hT hs, hx, hy, asIntOf, h0, h1, Addr.add_mk]
/-- The same, the number given as a natural one. -/
theorem XO.indexArrN {x y : Operand} {t u : TypeId} {b off len s i : Nat} {k : IntKind} {d : Nat} (hT : T.Ok P) (hg : wantedE ops e n o = true) (hd : o.dst = some d) (hop : o.op = .indexAddr t x y) (hu : T.und t = some (.array len u)) (hs : T.size u = some s)
    (hx : e.ev n x = .pointer (some ⟨b, off, none⟩)) (hy : e.ev n y = .int k (i : Int)) (h1 : i < len) (h : XO P T w0 n HL ops J (ix + 1) rest (e.upd d (.pointer (some ⟨b, off + i * s, none⟩))) H) : XO P T w0 n HL ops J ix (o :: rest) e H :=
  .indexArr hT hg hd hop hu hs hx hy (by omega) (by omega) h
/-- A store, the row behind it given by an equation. -/
theorem XO.storeW {t tb : TypeId} {x y : Operand} {b off : Nat} {l l' cs : List Value} {v : Value} {F : List HProp} (hw : wr l off cs = l') (hl : off + cs.length ≤ l.length) (hT : T.Ok P) (hk0 : Keeps w0 (cel b tb l :: F) (keptBy HL ix)) (hg : wantedE ops e n o = true) (hd : o.dst = none) (hop : o.op = .store t x y) (hx : e.ev n x = .pointer (some ⟨b, off, none⟩))
    (hy : Hd (e.ev n y) = some v) (hcs : v.cells = ⟨cs⟩) (hs : T.size t = some cs.length) (h1 : cs.all (·.oneCell') = true)
    (hk : Keeps w0 (cel b tb l' :: F) (keptBy HL ix)) (h : XO P T w0 n HL ops J (ix + 1) rest e (cel b tb l' :: F)) : XO P T w0 n HL ops J ix (o :: rest) e (cel b tb l :: F) := by
  subst hw
  exact .store hT hk0 hg hd hop hx hy hcs hs h1 hl hk h
theorem zeroCells_length {z : Value} {m s : Nat} (hzs : z.cells.size = s) : (Builtin.zeroCells z.cells m).toList.length = m * s := by
  simp [Builtin.zeroCells, hzs]
theorem zeroCells_all {z : Value} {m : Nat} (h0 : 0 < z.cells.size) (hz : z.cells.toList.all (·.oneCell') = true) : (Builtin.zeroCells z.cells m).toList.all (·.oneCell') = true := by
  rw [List.all_eq_true]
  intro x hx
  simp only [Builtin.zeroCells, Array.toList_map, List.mem_map] at hx
  obtain ⟨i, _, rfl⟩ := hx
  have hlt : i % z.cells.size < z.cells.size := Nat.mod_lt _ h0
  rw [getElem!_pos z.cells _ hlt]
  exact List.all_eq_true.1 hz _ (by simp)
theorem wr_take : ∀ (vs l : List Value) (off i : Nat), i ≤ off → (wr l off vs).take i = l.take i
  | [], _, _, _, _ => rfl
  | v :: vs, l, off, i, h => by
    rw [wr, wr_take vs _ (off + 1) i (by omega), List.take_set_of_le h]
/-- 'clear(s[i:])' of a row whose rest is not needed any more. -/
theorem XO.clearTail {x : Operand} {t u : TypeId} {b cap m i s c r off : Nat} {l : List Value} {z : Value} {ad : Addr} (hr : r = m - i) (hi : i ≤ m) (had : i < m → ad = ⟨b, off, none⟩) (hoff : off = i * s) (hT : T.Ok P) (hk0 : Keeps w0 (RowAt b cap u s m l :: F) (keptBy HL ix)) (hg : wantedE ops e n o = true) (hd : o.dst = none)
    (hop : o.op = .call { callee := .builtin .clear, args := #[x], argTypes := #[t] }) (hu : T.und t = some (.slice u)) (hz : T.zero u = some z) (hzs : Nat.beq z.cells.size s = true) (hs0 : Nat.blt 0 s = true) (hza : z.cells.toList.all (·.oneCell') = true)
    (hx : e.ev n x = .slice (some ad) r c) (hk : Keeps w0 (RowAt b cap u s i (l.take (i * s)) :: F) (keptBy HL ix)) (h : XO P T w0 n HL ops J (ix + 1) rest e (RowAt b cap u s i (l.take (i * s)) :: F)) : XO P T w0 n HL ops J ix (o :: rest) e (RowAt b cap u s m l :: F) := by
  subst hoff hr
  have hzs' := Nat.eq_of_beq_eq_true hzs
  have hs0' : 0 < s := Nat.le_of_ble_eq_true hs0
  refine .effOp hk0 hg (by rw [hop]; rfl) (fun w hrel => ?_)
  obtain ⟨tail, h1, h2, h3, h4, h5⟩ := hrel.rowAt_blk
  have hc : Rel w0 (cel b u (l ++ tail) :: F) w := h1
  have him : i * s ≤ m * s := Nat.mul_le_mul_right _ hi
  have key : ∀ {l2 : List Value} {w' : World}, l2.length = (l ++ tail).length → l2.take (i * s) = l.take (i * s) → Rel w0 (cel b u l2 :: F) w' → Rel w0 (RowAt b cap u s i (l.take (i * s)) :: F) w' := by
    intro l2 w' hl2 htk hr2
    refine Rel.rowAt_mk (tail := l2.drop (i * s)) ?_ ?_ ?_ (by omega) h5
    · rw [← htk, List.take_append_drop]; exact hr2
    · rw [← htk, List.take_append_drop, hl2, h2]
    · rw [List.length_take, h3, Nat.min_eq_left him]
  have htk0 : (l ++ tail).take (i * s) = l.take (i * s) := by rw [List.take_append_of_le_length (by omega)]
  rcases Nat.eq_or_lt_of_le hi with heq | hlt
  · subst heq
    refine ⟨.tuple #[], w, _, .inl ?_, key rfl htk0 hc, hk, by rw [hd]; exact h⟩
    rw [Nat.sub_self] at hx
    simp [execOp, hop, resolve, invoke, builtin, Builtin.clear_, run_und hT hu, hx]
  · have hle : i * s + (Builtin.zeroCells z.cells (m - i)).toList.length ≤ (l ++ tail).length := by
      rw [zeroCells_length hzs', List.length_append, h3, Nat.sub_mul]; omega
    obtain ⟨w', hw, hr'⟩ := storeCells_rel (P := P) b u F (i * s) (Builtin.zeroCells z.cells (m - i)).toList 0 (l ++ tail) w hc (by omega) (zeroCells_all (by omega) hza)
    refine ⟨.tuple #[], w', _, .inl ?_, key (wr_length _ _ _) (by rw [Nat.add_zero, wr_take _ _ _ _ (Nat.le_refl _)]; exact htk0) hr', hk, by rw [hd]; exact h⟩
    obtain ⟨q, hq⟩ : ∃ q, m - i = q + 1 := ⟨m - i - 1, by omega⟩
    rw [had hlt, hq] at hx
    rw [hq] at hw
    simp only [execOp, hop, resolve, invoke, builtin, Builtin.clear_, List.map_toArray, List.map_cons, List.map_nil, hx, Sem.run_bind, run_und hT hu, run_zero hT hz, Sem.run_pure, Result.andThen_ok, List.getElem?_toArray, List.getElem?_cons_zero, hw]
/-- 'm[k]': the two ways. -/
theorem XO.lookup1 {κ : Type} [DecidableEq κ] {D : TypeDesc} {kv : κ → Value} {t kt vt : TypeId} {x y : Operand} {b : Nat} {k : κ} {es : List (κ × Value)} {z : Value} {d : Nat} (hK : KeyOk D kv) (hT : T.Ok P) (hh : heldAt HL ix = none) (hg : wantedE ops e n o = true) (hd : o.dst = some d) (hop : o.op = .lookup t x y false) (hu : T.und t = some (.map kt vt)) (hkd : T.und kt = some D) (hz : T.zero vt = some z)
    (hx : e.ev n x = .map (some b)) (hy : e.ev n y = kv k) (hr : ∀ w, Rel w0 H w → ∃ F', Rel w0 (mapc b kv es :: F') w)
    (h : XO P T w0 n HL ops J (ix + 1) rest (e.upd d ((mget es k).getD z)) H) : XO P T w0 n HL ops J ix (o :: rest) e H := by
  cases hm : mget es k with
  | none =>
    rw [hm] at h
    refine .readOp (v := z) hh hg (by rw [hop]; rfl) (fun w hrel => ?_) (by rw [hd]; exact h)
    obtain ⟨F', hrel⟩ := hr w hrel
    obtain ⟨arr, clock, hb, he, _⟩ := hrel.map_get
    have hf := findNow_none hK 0 he hm
    simp [execOp, hop, hx, hy, Instr.lookup, Sem.run_bind, run_und hT hu, Result.andThen_ok, MapKept.run_getObj_map hb, MapKept.run_checkKey (hT.und _ _ hkd) (hK.key k), MapKept.run_findKey (hT.und _ _ hkd) hf, run_zero hT hz]
  | some v =>
    rw [hm] at h
    refine .readOp (v := v) hh hg (by rw [hop]; rfl) (fun w hrel => ?_) (by rw [hd]; exact h)
    obtain ⟨F', hrel⟩ := hr w hrel
    obtain ⟨arr, clock, hb, he, _⟩ := hrel.map_get
    obtain ⟨j, e', hf, _⟩ := findNow_some hK 0 he hm
    simp [execOp, hop, hx, hy, Instr.lookup, Sem.run_bind, run_und hT hu, Result.andThen_ok, MapKept.run_getObj_map hb, Sem.run_pure, MapKept.run_checkKey (hT.und _ _ hkd) (hK.key k), MapKept.run_findKey (hT.und _ _ hkd) hf]
/-- A map that is held. -/
def heldM {κ : Type} (b : Nat) (kv : κ → Value) (es : List (κ × Value)) : Fact := fun w => ∃ (arr : Array MapEntry) (clock : Nat), w.heap[b]? = some (.map arr clock) ∧ arr.toList.map (fun e => (e.key, e.val)) = es.map fun p => (kv p.1, p.2)
theorem heldM_here {κ : Type} {b : Nat} {kv : κ → Value} {es : List (κ × Value)} {w : World} (h : Rel w0 (mapc b kv es :: F) w) : heldM b kv es w :=
  let ⟨arr, clock, hb, he, _⟩ := h.map_get
  ⟨arr, clock, hb, he⟩
theorem heldM_0 {κ : Type} {b : Nat} {kv : κ → Value} {es : List (κ × Value)} : ∀ w, Rel w0 (mapc b kv es :: F) w → heldM b kv es w := fun _ h => heldM_here h
theorem heldM_1 {κ : Type} {b : Nat} {kv : κ → Value} {es : List (κ × Value)} {x1 : HProp} : ∀ w, Rel w0 (x1 :: mapc b kv es :: F) w → heldM b kv es w := fun _ h => heldM_here (h.ent Ent.front1)
theorem heldM_2 {κ : Type} {b : Nat} {kv : κ → Value} {es : List (κ × Value)} {x1 x2 : HProp} : ∀ w, Rel w0 (x1 :: x2 :: mapc b kv es :: F) w → heldM b kv es w := fun _ h => heldM_here (h.ent Ent.front2)
theorem heldM_3 {κ : Type} {b : Nat} {kv : κ → Value} {es : List (κ × Value)} {x1 x2 x3 : HProp} : ∀ w, Rel w0 (x1 :: x2 :: x3 :: mapc b kv es :: F) w → heldM b kv es w := fun _ h => heldM_here (h.ent Ent.front3)
theorem heldM_4 {κ : Type} {b : Nat} {kv : κ → Value} {es : List (κ × Value)} {x1 x2 x3 x4 : HProp} : ∀ w, Rel w0 (x1 :: x2 :: x3 :: x4 :: mapc b kv es :: F) w → heldM b kv es w := fun _ h => heldM_here (h.ent Ent.front4)
/-- 'm[k]' of a key that is there, the map held. -/
theorem XO.lookupH {κ : Type} [DecidableEq κ] {D : TypeDesc} {kv : κ → Value} {t kt vt : TypeId} {x y : Operand} {b : Nat} {k : κ} {es : List (κ × Value)} {v : Value} {d : Nat} (hm : mget es k = some v) (hK : KeyOk D kv) (hT : T.Ok P) (hh : heldAt HL ix = some (heldM b kv es)) (hg : wantedE ops e n o = true) (hd : o.dst = some d) (hop : o.op = .lookup t x y false) (hu : T.und t = some (.map kt vt)) (hkd : T.und kt = some D)
    (hx : e.ev n x = .map (some b)) (hy : e.ev n y = kv k) (hr : ∀ w, Rel w0 H w → heldM b kv es w)
    (h : XO P T w0 n HL ops J (ix + 1) rest (e.upd d v) H) : XO P T w0 n HL ops J ix (o :: rest) e H := by
  refine .holdOp (v := v) hh hg (by rw [hop]; rfl) (fun w ⟨arr, clock, hb, he⟩ => ?_) hr (by rw [hd]; exact h)
  obtain ⟨j, e', hf, _⟩ := findNow_some hK 0 he hm
  simp [execOp, hop, hx, hy, Instr.lookup, Sem.run_bind, run_und hT hu, Result.andThen_ok, MapKept.run_getObj_map hb, Sem.run_pure, MapKept.run_checkKey (hT.und _ _ hkd) (hK.key k), MapKept.run_findKey (hT.und _ _ hkd) hf]
end
section
variable {P : Program} {T : Tbl} {w0 : World} {n : Nat} {b : Frame} {R : Value → List HProp → Prop} {e : Env} {H H' : List HProp} {fn : Func}
/-- The end: the results, of which some lie in memory. -/
theorem XS.retM {k : List Item} {v : Value} (hf : P.funcs[b.fn]? = some fn) (hk : b.kind = .normal) (hr : ∀ w, Rel w0 H w → (results fn (e.act n).tmps).run P w = .ok v w) (x : Ent H H') (h : R v H') :
    XS P w0 b n R (.code .ret :: k) e H := ⟨fun _ w hrel =>
  ⟨v, w, _, H', h, hrel.ent x, .one step_ret, rfl, rfl, rfl, hk, fn, hf, hr w hrel⟩⟩
theorem run_loadVar_agg (hT : T.Ok P) {t : TypeId} {a : Addr} {l : List Value} (ha : aggT T t = some true) (hs : T.size t = some l.length) (hr : ReadsL w0 H a l) {w : World} (hrel : Rel w0 H w) : (loadVar t a).run P w = .ok (.agg ⟨l⟩) w := by
  simp only [loadVar, Sem.run_bind, Sem.run_pure, Result.andThen_ok, run_isAgg hT ha, if_true, run_size hT hs, run_loadCells_list w a l (fun j v hj => hr j v hj w hrel)]
/-- One result, a struct in a cell. -/
theorem XS.retC1 {k : List Item} {c : Nat} {t : TypeId} {a : Addr} {l : List Value} (hT : T.Ok P) (hf : P.funcs[b.fn]? = some fn) (hk : b.kind = .normal) (hres : fn.results = #[.cell c t]) (hv : e.ev n (.tmp c) = .pointer (some a)) (ha : aggT T t = some true) (hs : T.size t = some l.length) (hr : ReadsL w0 H a l)
    (x : Ent H H') (h : R (.agg ⟨l⟩) H') : XS P w0 b n R (.code .ret :: k) e H :=
  .retM hf hk (fun w hrel => by
    have hl := run_loadVar_agg hT ha hs hr hrel
    have hv' : (e.act n).tmps[c]?.getD undef = .pointer (some a) := by rw [← Array.getD_eq_getD_getElem?, getD_act]; exact hv
    simp [results, hres, hv', asAddr, hl]) x h
/-- Two results, the first a struct in a cell. -/
theorem XS.retC2 {k : List Item} {c u : Nat} {t : TypeId} {a : Addr} {l : List Value} {v : Value} (hT : T.Ok P) (hf : P.funcs[b.fn]? = some fn) (hk : b.kind = .normal) (hres : fn.results = #[.cell c t, .tmp u]) (hv : e.ev n (.tmp c) = .pointer (some a)) (hu : Hd (e.ev n (.tmp u)) = some v) (ha : aggT T t = some true) (hs : T.size t = some l.length) (hr : ReadsL w0 H a l)
    (x : Ent H H') (h : R (.tuple #[.agg ⟨l⟩, v]) H') : XS P w0 b n R (.code .ret :: k) e H :=
  .retM hf hk (fun w hrel => by
    have hl := run_loadVar_agg hT ha hs hr hrel
    have hv' : (e.act n).tmps[c]?.getD undef = .pointer (some a) := by rw [← Array.getD_eq_getD_getElem?, getD_act]; exact hv
    rw [Hd_eq] at hu; injection hu with hu
    have hu' : (e.act n).tmps[u]?.getD undef = v := by rw [← Array.getD_eq_getD_getElem?, getD_act]; exact hu
    simp [results, hres, hv', hu', asAddr, hl]) x h
end
end Go.Sx

/- Rules: bits of natural numbers. Conditions: the table 'T' fits the program. -/
namespace Go.Sx
open Go
/-- The kind holds the numbers below a power of 2. -/
def fits : IntKind → Nat → Bool
  | .i64, m => Nat.ble m 63
  | .u64, m => Nat.ble m 64
  | .u8, m => Nat.ble m 8
  | _, _ => false
theorem wrapN {k : IntKind} {m x : Nat} (hf : fits k m = true) (hx : x < 2 ^ m) : k.wrap (x : Int) = x := by
  have key : ∀ q, m ≤ q → x < 2 ^ q := fun q hq => Nat.lt_of_lt_of_le hx (Nat.pow_le_pow_right (by omega) hq)
  cases k <;> simp only [fits] at hf <;> try (exact absurd hf Bool.false_ne_true)
  · have h := key 63 (Nat.le_of_ble_eq_true hf)
    have h2 : (2 : Nat) ^ 63 = 9223372036854775808 := by decide
    exact wrap64_id (by omega) (by omega)
  · have h := key 8 (Nat.le_of_ble_eq_true hf)
    have h2 : (2 : Nat) ^ 8 = 256 := by decide
    simp only [IntKind.wrap, IntKind.bits, IntKind.signed, Bool.false_and, Bool.false_eq_true, if_false]
    have : ((2 : Int) ^ 8) = 256 := by decide
    omega
  · have h := key 64 (Nat.le_of_ble_eq_true hf)
    have h2 : (2 : Nat) ^ 64 = 18446744073709551616 := by decide
    simp only [IntKind.wrap, IntKind.bits, IntKind.signed, Bool.false_and, Bool.false_eq_true, if_false]
    have : ((2 : Int) ^ 64) = 18446744073709551616 := by decide
    omega
theorem bv_nat {k : IntKind} {m x : Nat} (hf : fits k m = true) (hx : x < 2 ^ m) : (BitVec.ofInt k.bits (x : Int)).toNat = x := by
  rw [BitVec.ofInt_natCast, BitVec.toNat_ofNat]
  refine Nat.mod_eq_of_lt (Nat.lt_of_lt_of_le hx (Nat.pow_le_pow_right (by omega) ?_))
  cases k <;> simp only [fits] at hf <;> first | exact absurd hf Bool.false_ne_true | (have := Nat.le_of_ble_eq_true hf; simp only [IntKind.bits]; omega)
section
variable {P : Program} {T : Tbl} {w0 : World} {n : Nat} {HL : Held} {ops : Array Oper} {J : Env → List HProp → Prop} {ix : Nat} {rest : List Oper} {o : Oper} {e : Env} {H : List HProp}
theorem isShift_and : isShift .and = false := rfl
theorem XO.binN {x y : Operand} {t t' : TypeId} {op : BinOp} {k : IntKind} {a b z : Nat} {d : Nat} (hT : T.Ok P) (hh : heldAt HL ix = none) (hg : wantedE ops e n o = true) (hd : o.dst = some d) (hop : o.op = .binOp op t x y t') (hx : e.ev n x = .int k (a : Int)) (hy : e.ev n y = .int k (b : Int))
    (hs : isShift op = false) (hz : sameKind k k = true → binI op k a b = some (.int k (z : Int))) (h : XO P T w0 n HL ops J (ix + 1) rest (e.upd d (.int k (z : Int))) H) : XO P T w0 n HL ops J ix (o :: rest) e H := by
  have hk : sameKind k k = true := by cases k <;> rfl
  refine .p hT hh hg hd (v := .int k z) ?_ h
  rw [hop]
  simp only [pev, hx, hy, binV, hs, cond_false, hk, cond_true, hz hk]
theorem XO.xorN (m : Nat) {x y : Operand} {t t' : TypeId} {k : IntKind} {a b : Nat} {d : Nat} (hT : T.Ok P) (hh : heldAt HL ix = none) (hg : wantedE ops e n o = true) (hd : o.dst = some d) (hop : o.op = .binOp .xor t x y t') (hx : e.ev n x = .int k (a : Int)) (hy : e.ev n y = .int k (b : Int))
    (hf : fits k m = true) (ha : a < 2 ^ m) (hb : b < 2 ^ m) (h : XO P T w0 n HL ops J (ix + 1) rest (e.upd d (.int k ((a ^^^ b : Nat) : Int))) H) : XO P T w0 n HL ops J ix (o :: rest) e H :=
  .binN hT hh hg hd hop hx hy rfl (fun _ => by simp only [binI, BitVec.toNat_xor, bv_nat hf ha, bv_nat hf hb, wrapN hf (Nat.xor_lt_two_pow ha hb)]) h
theorem XO.orN (m : Nat) {x y : Operand} {t t' : TypeId} {k : IntKind} {a b : Nat} {d : Nat} (hT : T.Ok P) (hh : heldAt HL ix = none) (hg : wantedE ops e n o = true) (hd : o.dst = some d) (hop : o.op = .binOp .or t x y t') (hx : e.ev n x = .int k (a : Int)) (hy : e.ev n y = .int k (b : Int))
    (hf : fits k m = true) (ha : a < 2 ^ m) (hb : b < 2 ^ m) (h : XO P T w0 n HL ops J (ix + 1) rest (e.upd d (.int k ((a ||| b : Nat) : Int))) H) : XO P T w0 n HL ops J ix (o :: rest) e H :=
  .binN hT hh hg hd hop hx hy rfl (fun _ => by simp only [binI, BitVec.toNat_or, bv_nat hf ha, bv_nat hf hb, wrapN hf (Nat.or_lt_two_pow ha hb)]) h
theorem XO.andN (m : Nat) {x y : Operand} {t t' : TypeId} {k : IntKind} {a b : Nat} {d : Nat} (hT : T.Ok P) (hh : heldAt HL ix = none) (hg : wantedE ops e n o = true) (hd : o.dst = some d) (hop : o.op = .binOp .and t x y t') (hx : e.ev n x = .int k (a : Int)) (hy : e.ev n y = .int k (b : Int))
    (hf : fits k m = true) (ha : a < 2 ^ m) (hb : b < 2 ^ m) (h : XO P T w0 n HL ops J (ix + 1) rest (e.upd d (.int k ((a &&& b : Nat) : Int))) H) : XO P T w0 n HL ops J ix (o :: rest) e H :=
  .binN hT hh hg hd hop hx hy rfl (fun _ => by simp only [binI, BitVec.toNat_and, bv_nat hf ha, bv_nat hf hb, wrapN hf (Nat.and_lt_two_pow a hb)]) h
/-- What is left of a number without another one's bits. -/
def without (a b : Nat) : Nat := a &&& (2 ^ 64 - 1 - b)
theorem without_bit {a b i : Nat} (hb : b < 2 ^ 64) (hi : i < 64) : (without a b).testBit i = (a.testBit i && !b.testBit i) := by
  rw [without, Nat.testBit_and]
  congr 1
  rw [show 2 ^ 64 - 1 - b = 2 ^ 64 - (b + 1) by omega, Nat.testBit_two_pow_sub_succ hb]
  simp [hi]
theorem without_lt {a b : Nat} (ha : a < 2 ^ 64) : without a b < 2 ^ 64 := Nat.lt_of_le_of_lt Nat.and_le_left ha
theorem XO.andNotN {x y : Operand} {t t' : TypeId} {a b : Nat} {d : Nat} (hT : T.Ok P) (hh : heldAt HL ix = none) (hg : wantedE ops e n o = true) (hd : o.dst = some d) (hop : o.op = .binOp .andNot t x y t') (hx : e.ev n x = .int .u64 (a : Int)) (hy : e.ev n y = .int .u64 (b : Int))
    (ha : a < 2 ^ 64) (hb : b < 2 ^ 64) (h : XO P T w0 n HL ops J (ix + 1) rest (e.upd d (.int .u64 ((without a b : Nat) : Int))) H) : XO P T w0 n HL ops J ix (o :: rest) e H :=
  .binN hT hh hg hd hop hx hy rfl (fun _ => by
    have hf : fits .u64 64 = true := rfl
    have e1 := bv_nat hf ha
    have e2 := bv_nat hf hb
    simp only [binI, BitVec.toNat_and, BitVec.toNat_not, e1, e2]
    rw [show (2 ^ IntKind.u64.bits - 1 - b : Nat) = 2 ^ 64 - 1 - b from rfl]
    exact congrArg (fun z => some (Value.int .u64 z)) (wrapN hf (without_lt (b := b) ha))) h
/-- A shift to the right. -/
theorem XO.shrN (m : Nat) {x y : Operand} {t t' : TypeId} {k k' : IntKind} {a : Nat} {d : Nat} (hT : T.Ok P) (hh : heldAt HL ix = none) (hg : wantedE ops e n o = true) (hd : o.dst = some d) (hop : o.op = .binOp .shr t x y t') (hx : e.ev n x = .int k (a : Int)) (hy : e.ev n y = .int k' (m : Int))
    (hm : m ≤ k.bits) (h : XO P T w0 n HL ops J (ix + 1) rest (e.upd d (.int k ((a / 2 ^ m : Nat) : Int))) H) : XO P T w0 n HL ops J ix (o :: rest) e H := by
  refine .p hT hh hg hd (v := .int k ((a / 2 ^ m : Nat) : Int)) ?_ h
  rw [hop]
  have e1 : min m k.bits = m := Nat.min_eq_left hm
  simp only [pev, hx, hy, binV, isShift, cond_true]
  show shf .shr k a m = _
  simp only [shf, e1]
  rw [Int.fdiv_eq_ediv_of_nonneg _ (by exact Int.le_of_lt (Int.pow_pos (by decide)))]
  simp
/-- A power of 2. -/
theorem XO.shl1 {x y : Operand} {t t' : TypeId} {k' : IntKind} {m : Nat} {d : Nat} (hT : T.Ok P) (hh : heldAt HL ix = none) (hg : wantedE ops e n o = true) (hd : o.dst = some d) (hop : o.op = .binOp .shl t x y t') (hx : e.ev n x = .int .u64 1) (hy : e.ev n y = .int k' (m : Int))
    (hm : m < 64) (h : XO P T w0 n HL ops J (ix + 1) rest (e.upd d (.int .u64 ((2 ^ m : Nat) : Int))) H) : XO P T w0 n HL ops J ix (o :: rest) e H := by
  refine .p hT hh hg hd (v := .int .u64 ((2 ^ m : Nat) : Int)) ?_ h
  rw [hop]
  simp only [pev, hx, hy, binV, isShift, cond_true]
  show shf .shl .u64 1 m = _
  have e1 : min m IntKind.u64.bits = m := Nat.min_eq_left (by simp only [IntKind.bits]; omega)
  simp only [shf, e1, Int.one_mul]
  have : ((2 : Int) ^ m) = ((2 ^ m : Nat) : Int) := by simp
  rw [this, wrapN (m := 64) rfl (Nat.pow_lt_pow_right (by omega) hm)]
/-- A number of another kind. -/
theorem XO.convN (m : Nat) {s t : TypeId} {x : Operand} {k k' : IntKind} {a : Nat} {k0 : IntKind} {d : Nat} (hT : T.Ok P) (hh : heldAt HL ix = none) (hg : wantedE ops e n o = true) (hd : o.dst = some d) (hop : o.op = .convert s t x) (hs : T.und s = some (.int k0)) (ht : T.und t = some (.int k)) (hx : e.ev n x = .int k' (a : Int))
    (hf : fits k m = true) (ha : a < 2 ^ m) (h : XO P T w0 n HL ops J (ix + 1) rest (e.upd d (.int k (a : Int))) H) : XO P T w0 n HL ops J ix (o :: rest) e H := by
  refine .p hT hh hg hd (v := .int k (a : Int)) ?_ h
  rw [hop]
  simp only [pev, hs, ht, hx, wrapN hf ha]
/-- A number taken from nought. -/
theorem XO.negN {x : Operand} {t : TypeId} {a : Nat} {d : Nat} (hT : T.Ok P) (hh : heldAt HL ix = none) (hg : wantedE ops e n o = true) (hd : o.dst = some d) (hop : o.op = .unOp .neg t x) (hx : e.ev n x = .int .u64 (a : Int)) (h0 : 0 < a) (ha : a < 2 ^ 64) (h : XO P T w0 n HL ops J (ix + 1) rest (e.upd d (.int .u64 ((2 ^ 64 - a : Nat) : Int))) H) : XO P T w0 n HL ops J ix (o :: rest) e H := by
  refine .p hT hh hg hd (v := .int .u64 ((2 ^ 64 - a : Nat) : Int)) ?_ h
  rw [hop]
  simp only [pev, hx]
  refine congrArg (fun z => some (Value.int .u64 z)) ?_
  have h2 : (2 : Nat) ^ 64 = 18446744073709551616 := by decide
  have h3 : ((2 : Int) ^ 64) = 18446744073709551616 := by decide
  simp only [IntKind.wrap, IntKind.bits, IntKind.signed, Bool.false_and, Bool.false_eq_true, if_false]
  omega
/-- A product of numbers of 64 bits. -/
theorem XO.mulU {x y : Operand} {t t' : TypeId} {a b : Nat} {d : Nat} (hT : T.Ok P) (hh : heldAt HL ix = none) (hg : wantedE ops e n o = true) (hd : o.dst = some d) (hop : o.op = .binOp .mul t x y t') (hx : e.ev n x = .int .u64 (a : Int)) (hy : e.ev n y = .int .u64 (b : Int))
    (h : XO P T w0 n HL ops J (ix + 1) rest (e.upd d (.int .u64 ((a * b % 2 ^ 64 : Nat) : Int))) H) : XO P T w0 n HL ops J ix (o :: rest) e H :=
  .binN hT hh hg hd hop hx hy rfl (fun _ => by
    simp only [binI]
    refine congrArg (fun z => some (Value.int .u64 z)) ?_
    simp only [IntKind.wrap, IntKind.bits, IntKind.signed, Bool.false_and, Bool.false_eq_true, if_false]
    rw [Int.natCast_emod, Int.natCast_mul]; rfl) h
end
/-! ### an element of a row is written whole -/
theorem wr_all : ∀ (vs l : List Value) (o : Nat), l.length = o + vs.length → wr l o vs = l.take o ++ vs
  | [], l, o, h => by simp at h; simp [wr, ← h]
  | v :: vs, l, o, h => by
    simp only [List.length_cons] at h
    rw [wr, wr_all vs _ (o + 1) (by rw [List.length_set]; omega), List.take_add_one, List.take_set_of_le (Nat.le_refl _), List.getElem?_set_self (by omega)]
    simp
section
variable {P : Program} {T : Tbl} {w0 : World} {n : Nat} {HL : Held} {ops : Array Oper} {J : Env → List HProp → Prop} {ix : Nat} {rest : List Oper} {o : Oper} {e : Env} {F : List HProp} {α : Type} {enc : α → List Value} {es : Nat}
theorem XO.storeRowE {t tb : TypeId} {x y : Operand} {b i cap k : Nat} {xs : List α} {v : Value} (p : α) (he : ∀ x, (enc x).length = es) (hi : i < xs.length) (hT : T.Ok P) (hk0 : Keeps w0 (RowAt b cap tb es k (flat enc xs) :: F) (keptBy HL ix)) (hg : wantedE ops e n o = true) (hd : o.dst = none) (hop : o.op = .store t x y) (hx : e.ev n x = .pointer (some ⟨b, i * es, none⟩))
    (hy : Hd (e.ev n y) = some v) (hcs : v.cells = ⟨enc p⟩) (hs : T.size t = some (enc p).length) (h1 : (enc p).all (·.oneCell') = true)
    (hk : Keeps w0 (RowAt b cap tb es k (flat enc (xs.set i p)) :: F) (keptBy HL ix)) (h : XO P T w0 n HL ops J (ix + 1) rest e (RowAt b cap tb es k (flat enc (xs.set i p)) :: F)) : XO P T w0 n HL ops J ix (o :: rest) e (RowAt b cap tb es k (flat enc xs) :: F) := by
  have hq : wr (flat enc xs) (i * es) (enc p) = flat enc (xs.set i p) := by
    have := flat_wr (enc := enc) (es := es) (j := 0) (cs := enc p) (x' := p) he (List.getElem?_eq_getElem hi) (by rw [he]; omega) (by rw [wr_all _ _ _ (by rw [he, he]; omega)]; simp)
    rwa [Nat.add_zero] at this
  refine .storeRow hT hk0 hg hd hop hx hy hcs hs h1 ?_ (by rw [hq]; exact hk) (by rw [hq]; exact h)
  have hlt : (i + 1) * es ≤ xs.length * es := Nat.mul_le_mul_right _ (by omega)
  rw [Nat.add_mul, Nat.one_mul] at hlt
  rw [flat_length he, he]
  omega
end
/-! ### the lowest bit -/
theorem low_bit : ∀ x : Nat, 0 < x → ∃ k q, x = 2 ^ (k + 1) * q + 2 ^ k := by
  intro x
  induction x using Nat.strongRecOn with
  | ind x ih =>
    intro h
    rcases Nat.mod_two_eq_zero_or_one x with h2 | h2
    · obtain ⟨k, q, e⟩ := ih (x / 2) (by omega) (by omega)
      refine ⟨k + 1, q, ?_⟩
      rw [Nat.pow_succ 2 (k + 1), Nat.pow_succ 2 k, Nat.mul_right_comm, ← Nat.add_mul]
      rw [Nat.pow_succ] at e
      omega
    · exact ⟨0, x / 2, by omega⟩
theorem low_at {k q : Nat} (i : Nat) : (2 ^ (k + 1) * q + 2 ^ k).testBit i = if i < k + 1 then decide (k = i) else q.testBit (i - (k + 1)) := by
  rw [Nat.testBit_two_pow_mul_add _ (Nat.pow_lt_pow_right (by omega) (by omega)), Nat.testBit_two_pow]
theorem low_pred {k q : Nat} (i : Nat) : (2 ^ (k + 1) * q + 2 ^ k - 1).testBit i = if i < k + 1 then decide (i < k) else q.testBit (i - (k + 1)) := by
  have hp : 0 < 2 ^ k := Nat.pow_pos (by omega)
  have hl : 2 ^ k < 2 ^ (k + 1) := Nat.pow_lt_pow_right (by omega) (by omega)
  rw [Nat.add_sub_assoc hp, Nat.testBit_two_pow_mul_add _ (by omega), Nat.testBit_two_pow_sub_one]
theorem low_and {x k q : Nat} (hx : x = 2 ^ (k + 1) * q + 2 ^ k) (h : x < 2 ^ 64) : x &&& (2 ^ 64 - x) = 2 ^ k := by
  have hp : 0 < 2 ^ k := Nat.pow_pos (by omega)
  have hk : k < 64 := by
    rcases Nat.lt_or_ge k 64 with g | g
    · exact g
    · have := Nat.pow_le_pow_right (n := 2) (by omega) g; omega
  apply Nat.eq_of_testBit_eq
  intro i
  rw [Nat.testBit_and, show 2 ^ 64 - x = 2 ^ 64 - ((x - 1) + 1) by omega, Nat.testBit_two_pow_sub_succ (by omega), hx, low_at, low_pred, Nat.testBit_two_pow]
  by_cases h1 : i < k + 1
  · simp only [if_pos h1]
    by_cases h2 : k = i
    · subst h2; simp [hk]
    · simp [h2]
  · simp only [if_neg h1]
    rw [show decide (k = i) = false from decide_eq_false (by omega)]
    cases q.testBit (i - (k + 1)) <;> simp
/-! ### chunks go to the back -/
theorem Ent.back2 {a b c : HProp} {F : List HProp} : Ent (a :: b :: c :: F) (b :: c :: a :: F) := Ent.trans Ent.front1 (Ent.cons _ Ent.front1)
theorem Ent.back3 {a b c d : HProp} {F : List HProp} : Ent (a :: b :: c :: d :: F) (b :: c :: d :: a :: F) := Ent.trans Ent.front1 (Ent.cons _ Ent.back2)
theorem Ent.back4 {a b c d e : HProp} {F : List HProp} : Ent (a :: b :: c :: d :: e :: F) (b :: c :: d :: e :: a :: F) := Ent.trans Ent.front1 (Ent.cons _ Ent.back3)
section
variable {P : Program} {T : Tbl} {w0 : World} {n : Nat} {HL : Held} {ops : Array Oper} {J : Env → List HProp → Prop} {ix : Nat} {rest : List Oper} {o : Oper} {e : Env} {H : List HProp}
/-- 'm[k]' of a key that is there. -/
theorem XO.lookupS {κ : Type} [DecidableEq κ] {D : TypeDesc} {kv : κ → Value} {t kt vt : TypeId} {x y : Operand} {b : Nat} {k : κ} {es : List (κ × Value)} {z v : Value} {d : Nat} (hm : mget es k = some v) (hK : KeyOk D kv) (hT : T.Ok P) (hh : heldAt HL ix = none) (hg : wantedE ops e n o = true) (hd : o.dst = some d) (hop : o.op = .lookup t x y false) (hu : T.und t = some (.map kt vt)) (hkd : T.und kt = some D) (hz : T.zero vt = some z)
    (hx : e.ev n x = .map (some b)) (hy : e.ev n y = kv k) (hr : ∀ w, Rel w0 H w → ∃ F', Rel w0 (mapc b kv es :: F') w)
    (h : XO P T w0 n HL ops J (ix + 1) rest (e.upd d v) H) : XO P T w0 n HL ops J ix (o :: rest) e H :=
  .lookup1 hK hT hh hg hd hop hu hkd hz hx hy hr (by rw [hm]; exact h)
end
end Go.Sx

/- From a contract of the kit's own to a triple. Conditions: none. -/
namespace Go.Sx
open Go
variable {P : Program} {w0 : World} {f : FuncId} {args : Array Value} {H : List HProp} {R : Value → List HProp → Prop} {v : Value}
/-- A callee that leaves the world as it is. -/
theorem Tri.ofCalls (h : ∀ w, Rel w0 H w → Calls P f args w fun e w' => e = .returned v ∧ w' = w) (hR : R v H) : Tri P f args w0 H R :=
  ⟨fun w hr => (h w hr).mono fun _ _ ⟨he, hw⟩ => ⟨v, H, he, by rw [hw]; exact hr, hR⟩⟩
/-- A callee that writes one block. -/
theorem Tri.ofSet {b : Nat} {o o' : Obj} {F : List HProp} (h : ∀ w, Rel w0 (blk b o :: F) w → Calls P f args w fun e w' => e = .returned v ∧ w'.os = w.os ∧ w'.tape = w.tape ∧ w'.output = w.output ∧ w'.heap.size = w.heap.size ∧ w'.heap[b]? = some o' ∧ ∀ k, k ≠ b → w'.heap[k]? = w.heap[k]?) (hR : R v (blk b o' :: F)) : Tri P f args w0 (blk b o :: F) R :=
  ⟨fun w hr => (h w hr).mono fun _ _ ⟨he, h1, h2, h3, h4, h5, h6⟩ => ⟨v, _, he, hr.set h1 h2 h3 h4 h5 h6, hR⟩⟩
end Go.Sx

/- The words of a walk that goes by itself: a function's frame whose results are known, ends, leaves that are gathered. Conditions: the table 'T' fits the program. -/
namespace Go.Sx
open Go Go.RowKit
/-- Two things that are to be shown. -/
structure Tw (A B : Prop) : Prop where
  l : A
  r : B
/-- What is to be shown, put aside. -/
structure Bx (L : Prop) : Prop where
  o : L
theorem wseq {G : Prop} (_ : True) (g : G) : G := g
/-- A frame whose function's results are known. -/
def Fr (P : Program) (b : Frame) (rs : List ResultVar) : Prop := b.kind = .normal ∧ ∃ fn, P.funcs[b.fn]? = some fn ∧ fn.results = ⟨rs⟩
/-- A function that is called through a value. -/
structure COk (P : Program) (f : FuncId) : Prop where
  ok : callOk P f = true
/-- Chunks in another order, some of them dropped. -/
theorem entA {H H' : List HProp} (h : Ent H H' := by repeat' (first | exact Ent.refl _ | exact Ent.dropAll _ | refine Ent.cons _ ?_ | refine Ent.trans Ent.front1 (Ent.cons _ ?_) | refine Ent.trans Ent.front2 (Ent.cons _ ?_) | refine Ent.trans Ent.front3 (Ent.cons _ ?_) | refine Ent.trans Ent.front4 (Ent.cons _ ?_) | refine Ent.trans Ent.front5 (Ent.cons _ ?_) | refine Ent.trans Row.of_at (Ent.cons _ ?_) | refine Ent.trans Ent.front1 (Ent.trans Row.of_at (Ent.cons _ ?_)) | refine Ent.trans Ent.front2 (Ent.trans Row.of_at (Ent.cons _ ?_)) | refine Ent.trans Ent.front3 (Ent.trans Row.of_at (Ent.cons _ ?_)) | refine Ent.trans Ent.front4 (Ent.trans Row.of_at (Ent.cons _ ?_)) | refine Ent.trans (Ent.drop _ _) ?_)) : Ent H H' := h
/-- What an end asks. -/
def Out (R : Value → List HProp → Prop) (v : Value) (H : List HProp) : Prop := ∃ H', Ent H H' ∧ R v H'
theorem Out.i {R : Value → List HProp → Prop} {v : Value} {H : List HProp} (h : R v H) : Out R v H := ⟨H, Ent.refl H, h⟩
theorem Out.e {R : Value → List HProp → Prop} {v : Value} {H H' : List HProp} (h : R v H') (x : Ent H H') : Out R v H := ⟨H', x, h⟩
def tup : List Value → Value
  | [v] => v
  | vs => .tuple ⟨vs⟩
/-- Cells in a row, read together. -/
def ReadsN (w0 : World) (H : List HProp) (a : Addr) (s : Nat) (l : List Value) : Prop := l.length = s ∧ ReadsL w0 H a l
def dropN : List Value → Nat → List Value
  | l, 0 => l
  | [], _ + 1 => []
  | _ :: l, k + 1 => dropN l k
def takeN : List Value → Nat → Option (List Value)
  | _, 0 => some []
  | [], _ + 1 => none
  | v :: l, k + 1 => match takeN l k with
    | some r => some (v :: r)
    | none => none
theorem dropN_eq : ∀ (l : List Value) (k : Nat), dropN l k = l.drop k
  | _, 0 => by simp [dropN]
  | [], _ + 1 => by simp [dropN]
  | _ :: l, k + 1 => by simp [dropN, dropN_eq l k]
theorem takeN_eq : ∀ {l : List Value} {k : Nat} {r : List Value}, takeN l k = some r → r = l.take k ∧ r.length = k
  | _, 0, r, h => by simp [takeN] at h; subst h; simp
  | [], _ + 1, _, h => by cases h
  | v :: l, k + 1, r, h => by
    simp only [takeN] at h
    split at h
    · rename_i r2 h2
      injection h with h; subst h
      obtain ⟨h3, h4⟩ := takeN_eq h2
      simp [h3.symm, h4]
    · cases h
theorem ReadsN.skip {w0 : World} {c : HProp} {F : List HProp} {a : Addr} {s : Nat} {l : List Value} (h : ReadsN w0 F a s l) : ReadsN w0 (c :: F) a s l := ⟨h.1, h.2.skip⟩
theorem ReadsN.here {w0 : World} {b : Nat} {t : TypeId} {l r : List Value} {F : List HProp} {off s : Nat} (h : takeN (dropN l off) s = some r) : ReadsN w0 (cel b t l :: F) ⟨b, off, none⟩ s r := by
  obtain ⟨h1, h2⟩ := takeN_eq h
  rw [dropN_eq] at h1
  exact ⟨h2, by rw [h1]; exact ReadsL.here s⟩
theorem ReadsN.rowFlat {w0 : World} {α : Type} {enc : α → List Value} {es b cap n : Nat} {t : TypeId} {xs : List α} {F : List HProp} {i : Nat} {x : α} (he : ∀ x, (enc x).length = es) (h : xs[i]? = some x) : ReadsN w0 (RowAt b cap t es n (flat enc xs) :: F) ⟨b, i * es, none⟩ es (enc x) := ⟨he x, ReadsL.rowFlat he h⟩
section
variable {P : Program} {T : Tbl} {w0 : World}
theorem Tri.enterF {f : FuncId} {args : Array Value} {fn : Func} {c : Code} {H : List HProp} {R : Value → List HProp → Prop} {n : Nat} {rs : Array ResultVar} (hf : P.funcs[f]? = some fn) (hn : fn.ntmps = n) (hr : fn.results = rs) (hb : fn.body = some c) (hle : Nat.ble args.size n = true)
    (h : ∀ b, Fr P b rs.toList → XS P w0 b n R [.code c] (env args.toList) H) : Tri P f args w0 H R :=
  Tri.enter hf hb hn hle (h (frm f) ⟨rfl, fn, hf, by simp [hr]⟩)
/-- The results, one by one. -/
inductive ResOk (T : Tbl) (w0 : World) (H : List HProp) (e : Env) (n : Nat) : List ResultVar → List Value → Prop
  | nil : ResOk T w0 H e n [] []
  | tmp {t : Nat} {v : Value} {rs : List ResultVar} {vs : List Value} (h : Hd (e.ev n (.tmp t)) = some v) (r : ResOk T w0 H e n rs vs) : ResOk T w0 H e n (.tmp t :: rs) (v :: vs)
  | cell {c : Nat} {t : TypeId} {a : Addr} {v : Value} {rs : List ResultVar} {vs : List Value} (hv : e.ev n (.tmp c) = .pointer (some a)) (ha : aggT T t = some false) (hr : Reads w0 H a v) (r : ResOk T w0 H e n rs vs) : ResOk T w0 H e n (.cell c t :: rs) (v :: vs)
  | agg {c : Nat} {t : TypeId} {a : Addr} {l : List Value} {s : Nat} {rs : List ResultVar} {vs : List Value} (hv : e.ev n (.tmp c) = .pointer (some a)) (ha : aggT T t = some true) (hs : T.size t = some s) (hr : ReadsN w0 H a s l) (r : ResOk T w0 H e n rs vs) :
      ResOk T w0 H e n (.cell c t :: rs) (.agg ⟨l⟩ :: vs)
def resV (tmps : Array Value) : ResultVar → Sem Value
  | .tmp t => pure (tmps.getD t undef)
  | .cell a t => do loadVar t (← asAddr (tmps.getD a undef))
theorem results_eq (fn : Func) (tmps : Array Value) : results fn tmps = (do let vs ← fn.results.mapM (resV tmps); pure (if h : vs.size = 1 then vs[0] else .tuple vs)) := by
  unfold results
  congr 2
theorem ResOk.run (hT : T.Ok P) {H : List HProp} {e : Env} {n : Nat} {w : World} (hw : Rel w0 H w) : ∀ {rs : List ResultVar} {vs : List Value}, ResOk T w0 H e n rs vs → (rs.mapM (resV (e.act n).tmps)).run P w = .ok vs w
  | _, _, .nil => rfl
  | _, _, .tmp h r => by
    rw [Hd_eq] at h; injection h with h
    simp only [List.mapM_cons, Sem.run_bind, Sem.run_pure, Result.andThen_ok, ResOk.run hT hw r, resV, getD_act, h]
  | _, _, .cell hv ha hr r => by
    simp only [List.mapM_cons, Sem.run_bind, Sem.run_pure, Result.andThen_ok, ResOk.run hT hw r, resV, getD_act, hv, asAddr, loadVar, run_isAgg hT ha, Bool.false_eq_true, if_false, run_load, hr w hw]
  | _, _, .agg hv ha hs hr r => by
    have hl := run_loadVar_agg hT ha (hs.trans (congrArg some hr.1.symm)) hr.2 hw
    simp only [List.mapM_cons, Sem.run_bind, Sem.run_pure, Result.andThen_ok, ResOk.run hT hw r, resV, getD_act, hv, asAddr, hl]
theorem XS.retG {b : Frame} {n : Nat} {R : Value → List HProp → Prop} {e : Env} {H : List HProp} {k : List Item} {rs : List ResultVar} {vs : List Value} (hT : T.Ok P) (hF : Fr P b rs) (hR : ResOk T w0 H e n rs vs) (h : Out R (tup vs) H) : XS P w0 b n R (.code .ret :: k) e H := by
  obtain ⟨hk, fn, hf, hres⟩ := hF
  obtain ⟨H', x, h⟩ := h
  refine .retM hf hk (fun w hw => ?_) x h
  have := ResOk.run hT hw hR
  rw [results_eq, hres, Sem.run_bind, Array.mapM_eq_mapM_toList, Sem.run_map, this]
  cases vs with
  | nil => rfl
  | cons v vs => cases vs <;> simp [tup]
theorem XS.ret0F {b : Frame} {n : Nat} {R : Value → List HProp → Prop} {e : Env} {H : List HProp} {k : List Item} (hT : T.Ok P) (hF : Fr P b []) (hR : ResOk T w0 H e n [] []) (h : Out R (.tuple #[]) H) : XS P w0 b n R (.code .ret :: k) e H := .retG hT hF hR h
theorem XS.ret1F {b : Frame} {n : Nat} {R : Value → List HProp → Prop} {e : Env} {H : List HProp} {k : List Item} {r1 : ResultVar} {v1 : Value} (hT : T.Ok P) (hF : Fr P b [r1]) (hR : ResOk T w0 H e n [r1] [v1]) (h : Out R v1 H) : XS P w0 b n R (.code .ret :: k) e H := .retG hT hF hR h
theorem XS.ret2F {b : Frame} {n : Nat} {R : Value → List HProp → Prop} {e : Env} {H : List HProp} {k : List Item} {r1 r2 : ResultVar} {v1 v2 : Value} (hT : T.Ok P) (hF : Fr P b [r1, r2]) (hR : ResOk T w0 H e n [r1, r2] [v1, v2]) (h : Out R (.tuple #[v1, v2]) H) : XS P w0 b n R (.code .ret :: k) e H := .retG hT hF hR h
theorem XS.ret3F {b : Frame} {n : Nat} {R : Value → List HProp → Prop} {e : Env} {H : List HProp} {k : List Item} {r1 r2 r3 : ResultVar} {v1 v2 v3 : Value} (hT : T.Ok P) (hF : Fr P b [r1, r2, r3]) (hR : ResOk T w0 H e n [r1, r2, r3] [v1, v2, v3]) (h : Out R (.tuple #[v1, v2, v3]) H) : XS P w0 b n R (.code .ret :: k) e H := .retG hT hF hR h
theorem XS.ret4F {b : Frame} {n : Nat} {R : Value → List HProp → Prop} {e : Env} {H : List HProp} {k : List Item} {r1 r2 r3 r4 : ResultVar} {v1 v2 v3 v4 : Value} (hT : T.Ok P) (hF : Fr P b [r1, r2, r3, r4]) (hR : ResOk T w0 H e n [r1, r2, r3, r4] [v1, v2, v3, v4]) (h : Out R (.tuple #[v1, v2, v3, v4]) H) : XS P w0 b n R (.code .ret :: k) e H := .retG hT hF hR h
theorem XS.nilM {b : Frame} {n : Nat} {R : Value → List HProp → Prop} {e : Env} {H H' : List HProp} {fn : Func} {v : Value} (hf : P.funcs[b.fn]? = some fn) (hk : b.kind = .normal) (hr : ∀ w, Rel w0 H w → (results fn (e.act n).tmps).run P w = .ok v w) (x : Ent H H') (h : R v H') : XS P w0 b n R [] e H := ⟨fun _ w hrel =>
  ⟨v, w, _, H', h, hrel.ent x, .one step_end, rfl, rfl, rfl, hk, fn, hf, hr w hrel⟩⟩
theorem XS.nilG {b : Frame} {n : Nat} {R : Value → List HProp → Prop} {e : Env} {H : List HProp} (hF : Fr P b []) (h : Out R (.tuple #[]) H) : XS P w0 b n R [] e H := by
  obtain ⟨hk, fn, hf, hres⟩ := hF
  obtain ⟨H', x, h⟩ := h
  exact .nilM hf hk (fun w _ => by simp [results, hres]) x h
/-- Of what kind an operation is. -/
def kindOf : Op → Nat
  | .load .. => 1
  | .store .. => 2
  | .call { callee := .builtin _, .. } => 3
  | .call .. => 4
  | .binOp .. => 5
  | .alloc .. => 6
  | .box .. => 7
  | .build .. => 8
  | .buildSlice .. => 9
  | .index .. => 10
  | .indexAddr .. => 11
  | .lookup .. => 12
  | .mapUpdate .. => 13
  | .makeMap .. => 14
  | .makeSlice .. => 15
  | .slice .. => 16
  | .convert .. => 17
  | .range .. => 18
  | .next .. => 19
  | .entry .. => 20
  | _ => 0
/-- A cell of the memory that came in. -/
structure RdB (w0 : World) (a : Addr) (v : Value) : Prop where
  h : ∀ H, Reads w0 H a v
structure RdN (w0 : World) (a : Addr) (s : Nat) (l : List Value) : Prop where
  h : ∀ H, ReadsN w0 H a s l
theorem RdB.r {H : List HProp} {a : Addr} {v : Value} (h : RdB w0 a v) : Reads w0 H a v := h.h H
theorem RdN.r {H : List HProp} {a : Addr} {s : Nat} {l : List Value} (h : RdN w0 a s l) : ReadsN w0 H a s l := h.h H
/-- Where a cell is read. -/
theorem readA {H : List HProp} {a : Addr} {v : Value} (h : Reads w0 H a v := by (first | exact RdB.r (by assumption) | exact Reads.here rfl | exact Reads.rowFlat0 (fun _ => rfl) (by assumption) rfl | exact Reads.rowFlat (fun _ => rfl) (by assumption) rfl | (apply Reads.skip; (first | exact Reads.here rfl | exact Reads.rowFlat0 (fun _ => rfl) (by assumption) rfl | exact Reads.rowFlat (fun _ => rfl) (by assumption) rfl | (apply Reads.skip; (first | exact Reads.here rfl | exact Reads.rowFlat0 (fun _ => rfl) (by assumption) rfl | exact Reads.rowFlat (fun _ => rfl) (by assumption) rfl | (apply Reads.skip; (first | exact Reads.here rfl | exact Reads.rowFlat0 (fun _ => rfl) (by assumption) rfl | exact Reads.rowFlat (fun _ => rfl) (by assumption) rfl | (apply Reads.skip; (first | exact Reads.here rfl | exact Reads.rowFlat0 (fun _ => rfl) (by assumption) rfl | exact Reads.rowFlat (fun _ => rfl) (by assumption) rfl | (apply Reads.skip; (first | exact Reads.here rfl | exact Reads.rowFlat0 (fun _ => rfl) (by assumption) rfl | exact Reads.rowFlat (fun _ => rfl) (by assumption) rfl | (apply Reads.skip; (first | exact Reads.here rfl | exact Reads.rowFlat0 (fun _ => rfl) (by assumption) rfl | exact Reads.rowFlat (fun _ => rfl) (by assumption) rfl | (apply Reads.skip; (first | exact Reads.here rfl | exact Reads.rowFlat0 (fun _ => rfl) (by assumption) rfl | exact Reads.rowFlat (fun _ => rfl) (by assumption) rfl | (apply Reads.skip; (first | exact Reads.here rfl | exact Reads.rowFlat0 (fun _ => rfl) (by assumption) rfl | exact Reads.rowFlat (fun _ => rfl) (by assumption) rfl | (apply Reads.skip; (first | exact Reads.here rfl | exact Reads.rowFlat0 (fun _ => rfl) (by assumption) rfl | exact Reads.rowFlat (fun _ => rfl) (by assumption) rfl | fail)) | fail)) | fail)) | fail)) | fail)) | fail)) | fail)) | fail)) | fail)) | fail)) : Reads w0 H a v := h
theorem readNA {H : List HProp} {a : Addr} {s : Nat} {l : List Value} (h : ReadsN w0 H a s l := by (first | exact RdN.r (by assumption) | exact ReadsN.here rfl | exact ReadsN.rowFlat (fun _ => rfl) (by assumption) | (apply ReadsN.skip; (first | exact ReadsN.here rfl | exact ReadsN.rowFlat (fun _ => rfl) (by assumption) | (apply ReadsN.skip; (first | exact ReadsN.here rfl | exact ReadsN.rowFlat (fun _ => rfl) (by assumption) | (apply ReadsN.skip; (first | exact ReadsN.here rfl | exact ReadsN.rowFlat (fun _ => rfl) (by assumption) | (apply ReadsN.skip; (first | exact ReadsN.here rfl | exact ReadsN.rowFlat (fun _ => rfl) (by assumption) | (apply ReadsN.skip; (first | exact ReadsN.here rfl | exact ReadsN.rowFlat (fun _ => rfl) (by assumption) | (apply ReadsN.skip; (first | exact ReadsN.here rfl | exact ReadsN.rowFlat (fun _ => rfl) (by assumption) | (apply ReadsN.skip; (first | exact ReadsN.here rfl | exact ReadsN.rowFlat (fun _ => rfl) (by assumption) | (apply ReadsN.skip; (first | exact ReadsN.here rfl | exact ReadsN.rowFlat (fun _ => rfl) (by assumption) | (apply ReadsN.skip; (first | exact ReadsN.here rfl | exact ReadsN.rowFlat (fun _ => rfl) (by assumption) | fail)) | fail)) | fail)) | fail)) | fail)) | fail)) | fail)) | fail)) | fail)) | fail)) : ReadsN w0 H a s l := h
theorem resA0 {H : List HProp} {e : Env} {n : Nat} : ResOk T w0 H e n [] [] := .nil
theorem resA1 {H : List HProp} {e : Env} {n : Nat} {r0 : ResultVar} {v0 : Value} (h : ResOk T w0 H e n [r0] [v0] := by first | exact ResOk.tmp rfl resA0 | exact ResOk.cell rfl rfl readA resA0 | exact ResOk.agg rfl rfl rfl readNA resA0 | fail) : ResOk T w0 H e n [r0] [v0] := h
theorem resA2 {H : List HProp} {e : Env} {n : Nat} {r0 r1 : ResultVar} {v0 v1 : Value} (h : ResOk T w0 H e n [r0, r1] [v0, v1] := by first | exact ResOk.tmp rfl resA1 | exact ResOk.cell rfl rfl readA resA1 | exact ResOk.agg rfl rfl rfl readNA resA1 | fail) : ResOk T w0 H e n [r0, r1] [v0, v1] := h
theorem resA3 {H : List HProp} {e : Env} {n : Nat} {r0 r1 r2 : ResultVar} {v0 v1 v2 : Value} (h : ResOk T w0 H e n [r0, r1, r2] [v0, v1, v2] := by first | exact ResOk.tmp rfl resA2 | exact ResOk.cell rfl rfl readA resA2 | exact ResOk.agg rfl rfl rfl readNA resA2 | fail) : ResOk T w0 H e n [r0, r1, r2] [v0, v1, v2] := h
theorem resA4 {H : List HProp} {e : Env} {n : Nat} {r0 r1 r2 r3 : ResultVar} {v0 v1 v2 v3 : Value} (h : ResOk T w0 H e n [r0, r1, r2, r3] [v0, v1, v2, v3] := by first | exact ResOk.tmp rfl resA3 | exact ResOk.cell rfl rfl readA resA3 | exact ResOk.agg rfl rfl rfl readNA resA3 | fail) : ResOk T w0 H e n [r0, r1, r2, r3] [v0, v1, v2, v3] := h
theorem aggT_bool {t : TypeId} (h : T.und t = some .bool) : aggT T t = some false := by simp [aggT, h]
/-- A bool is read: one that is written out, and one that is not, which is parted. -/
theorem XO.loadL (c : Bool) {n : Nat} {HL : Held} {ops : Array Oper} {J : Env → List HProp → Prop} {ix : Nat} {rest : List Oper} {o : Oper} {e : Env} {H : List HProp} {t : TypeId} {x : Operand} {a : Addr} {d : Nat} (hT : T.Ok P) (hop : o.op = .load t x) (hb : T.und t = some .bool) (hh : heldAt HL ix = none) (hg : wantedE ops e n o = true) (hd : o.dst = some d) (hx : e.ev n x = .pointer (some a))
    (hr : Reads w0 H a (.bool c)) (h : XO P T w0 n HL ops J (ix + 1) rest (e.upd d (.bool c)) H) : XO P T w0 n HL ops J ix (o :: rest) e H := .load hT hh hg hd hop hx (aggT_bool hb) hr h
theorem XO.loadB {n : Nat} {HL : Held} {ops : Array Oper} {J : Env → List HProp → Prop} {ix : Nat} {rest : List Oper} {o : Oper} {e : Env} {H : List HProp} {t : TypeId} {x : Operand} {a : Addr} {c : Bool} {d : Nat} (hT : T.Ok P) (hop : o.op = .load t x) (hb : T.und t = some .bool) (hh : heldAt HL ix = none) (hg : wantedE ops e n o = true) (hd : o.dst = some d) (hx : e.ev n x = .pointer (some a))
    (hr : Reads w0 H a (.bool c)) (h1 : c = true → XO P T w0 n HL ops J (ix + 1) rest (e.upd d (.bool true)) H) (h2 : c = false → XO P T w0 n HL ops J (ix + 1) rest (e.upd d (.bool false)) H) : XO P T w0 n HL ops J ix (o :: rest) e H := .loadBool hT hh hg hd hop hx (aggT_bool hb) hr h1 h2
theorem XO.loadN {n : Nat} {HL : Held} {ops : Array Oper} {J : Env → List HProp → Prop} {ix : Nat} {rest : List Oper} {o : Oper} {e : Env} {H : List HProp} {t : TypeId} {x : Operand} {a : Addr} {s : Nat} {l : List Value} {d : Nat} (hT : T.Ok P) (hop : o.op = .load t x) (ha : aggT T t = some true) (hs : T.size t = some s) (hh : heldAt HL ix = none) (hg : wantedE ops e n o = true) (hd : o.dst = some d) (hx : e.ev n x = .pointer (some a))
    (hr : ReadsN w0 H a s l) (h : XO P T w0 n HL ops J (ix + 1) rest (e.upd d (.agg ⟨l⟩)) H) : XO P T w0 n HL ops J ix (o :: rest) e H := .loadAgg hT hh hg hd hop hx ha (hs.trans (congrArg some hr.1.symm)) hr.2 h
/-- What stands behind a piece of code, shown once for all the ways that come to it. -/
structure Join (P : Program) (w0 : World) (b : Frame) (n : Nat) (R : Value → List HProp → Prop) (k : List Item) (Q : Env → List HProp → Prop) : Prop where
  h : ∀ e H, Q e H → XS P w0 b n R k e H
theorem XS.jn {b : Frame} {n : Nat} {R : Value → List HProp → Prop} {e : Env} {H : List HProp} {k : List Item} {Q : Env → List HProp → Prop} (j : Join P w0 b n R k Q) (h : Q e H) : XS P w0 b n R k e H := j.h e H h
theorem XS.joinB {b : Frame} {n : Nat} {R : Value → List HProp → Prop} {e : Env} {H : List HProp} {k : List Item} {id : Nat} {c : Code} (Q : Env → List HProp → Prop) (h2 : ∀ e H, Q e H → XS P w0 b n R k e H) (h1 : Join P w0 b n R k Q → XS P w0 b n R (.code (.block id c) :: k) e H) : XS P w0 b n R (.code (.block id c) :: k) e H := h1 ⟨h2⟩
/-- The same, what the ways have in common: some slots, some chunks, a fact on a thing. -/
def Meet {ι : Type} (l : ι → List (Nat × Value)) (Hf : ι → List HProp) (pre : ι → Prop) (e : Env) (H : List HProp) : Prop := ∃ x, pre x ∧ Slots e (l x) ∧ Ent H (Hf x)
theorem XS.joinM {b : Frame} {n : Nat} {R : Value → List HProp → Prop} {e : Env} {H : List HProp} {k : List Item} {id : Nat} {c : Code} {ι : Type} (l : ι → List (Nat × Value)) (Hf : ι → List HProp) (pre : ι → Prop) (h2 : ∀ x e, pre x → XS P w0 b n R k (Env.ups e (l x)) (Hf x)) (h1 : Join P w0 b n R k (Meet l Hf pre) → XS P w0 b n R (.code (.block id c) :: k) e H) : XS P w0 b n R (.code (.block id c) :: k) e H :=
  XS.joinB _ (fun e H ⟨x, hp, hs, hE⟩ => by have := h2 x e hp; rw [ups_self hs] at this; exact this.ent hE) h1
theorem XS.g {b : Frame} {n : Nat} {R : Value → List HProp → Prop} {e : Env} {H : List HProp} {k : List Item} (h : XS P w0 b n R k e H) : XS P w0 b n R k e H := h
theorem XO.g0 {n : Nat} {HL : Held} {ops : Array Oper} {J : Env → List HProp → Prop} {ix : Nat} {rest : List Oper} {e : Env} {H : List HProp} (h : XO P T w0 n HL ops J ix rest e H) : XO P T w0 n HL ops J ix rest e H := h
theorem XO.g (k : Nat) {n : Nat} {HL : Held} {ops : Array Oper} {J : Env → List HProp → Prop} {ix : Nat} {rest : List Oper} {o : Oper} {e : Env} {H : List HProp} (_ : kindOf o.op = k) (h : XO P T w0 n HL ops J ix (o :: rest) e H) : XO P T w0 n HL ops J ix (o :: rest) e H := h
end
end Go.Sx
