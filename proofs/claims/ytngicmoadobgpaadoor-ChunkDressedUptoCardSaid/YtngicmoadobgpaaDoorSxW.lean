/- The words of a walk that goes by itself: a function's frame whose results are known, ends, leaves that are gathered. Conditions: the table 'T' fits the program. -/
import Derived.Test.YtngicmoadobgpaaDoorSxS
namespace Go.Sx
open Go Go.RowKit
/-- Two things that are to be shown. -/
structure Tw (A B : Prop) : Prop where
  l : A
  r : B
/-- What is to be shown, put aside. -/
structure Bx (L : Prop) : Prop where
  o : L
theorem wseq {G : Prop} (_ : True) (g : G) : G := g
/-- A frame whose function's results are known. -/
def Fr (P : Program) (b : Frame) (rs : List ResultVar) : Prop := b.kind = .normal ∧ ∃ fn, P.funcs[b.fn]? = some fn ∧ fn.results = ⟨rs⟩
/-- A function that is called through a value. -/
structure COk (P : Program) (f : FuncId) : Prop where
  ok : callOk P f = true
/-- Chunks in another order, some of them dropped. -/
theorem entA {H H' : List HProp} (h : Ent H H' := by repeat' (first | exact Ent.refl _ | exact Ent.dropAll _ | refine Ent.cons _ ?_ | refine Ent.trans Ent.front1 (Ent.cons _ ?_) | refine Ent.trans Ent.front2 (Ent.cons _ ?_) | refine Ent.trans Ent.front3 (Ent.cons _ ?_) | refine Ent.trans Ent.front4 (Ent.cons _ ?_) | refine Ent.trans Ent.front5 (Ent.cons _ ?_) | refine Ent.trans Row.of_at (Ent.cons _ ?_) | refine Ent.trans Ent.front1 (Ent.trans Row.of_at (Ent.cons _ ?_)) | refine Ent.trans Ent.front2 (Ent.trans Row.of_at (Ent.cons _ ?_)) | refine Ent.trans Ent.front3 (Ent.trans Row.of_at (Ent.cons _ ?_)) | refine Ent.trans Ent.front4 (Ent.trans Row.of_at (Ent.cons _ ?_)) | refine Ent.trans (Ent.drop _ _) ?_)) : Ent H H' := h
/-- What an end asks. -/
def Out (R : Value → List HProp → Prop) (v : Value) (H : List HProp) : Prop := ∃ H', Ent H H' ∧ R v H'
theorem Out.i {R : Value → List HProp → Prop} {v : Value} {H : List HProp} (h : R v H) : Out R v H := ⟨H, Ent.refl H, h⟩
theorem Out.e {R : Value → List HProp → Prop} {v : Value} {H H' : List HProp} (h : R v H') (x : Ent H H') : Out R v H := ⟨H', x, h⟩
def tup : List Value → Value
  | [v] => v
  | vs => .tuple ⟨vs⟩
/-- Cells in a row, read together. -/
def ReadsN (w0 : World) (H : List HProp) (a : Addr) (s : Nat) (l : List Value) : Prop := l.length = s ∧ ReadsL w0 H a l
def dropN : List Value → Nat → List Value
  | l, 0 => l
  | [], _ + 1 => []
  | _ :: l, k + 1 => dropN l k
def takeN : List Value → Nat → Option (List Value)
  | _, 0 => some []
  | [], _ + 1 => none
  | v :: l, k + 1 => match takeN l k with
    | some r => some (v :: r)
    | none => none
theorem dropN_eq : ∀ (l : List Value) (k : Nat), dropN l k = l.drop k
  | _, 0 => by simp [dropN]
  | [], _ + 1 => by simp [dropN]
  | _ :: l, k + 1 => by simp [dropN, dropN_eq l k]
theorem takeN_eq : ∀ {l : List Value} {k : Nat} {r : List Value}, takeN l k = some r → r = l.take k ∧ r.length = k
  | _, 0, r, h => by simp [takeN] at h; subst h; simp
  | [], _ + 1, _, h => by cases h
  | v :: l, k + 1, r, h => by
    simp only [takeN] at h
    split at h
    · rename_i r2 h2
      injection h with h; subst h
      obtain ⟨h3, h4⟩ := takeN_eq h2
      simp [h3.symm, h4]
    · cases h
theorem ReadsN.skip {w0 : World} {c : HProp} {F : List HProp} {a : Addr} {s : Nat} {l : List Value} (h : ReadsN w0 F a s l) : ReadsN w0 (c :: F) a s l := ⟨h.1, h.2.skip⟩
theorem ReadsN.here {w0 : World} {b : Nat} {t : TypeId} {l r : List Value} {F : List HProp} {off s : Nat} (h : takeN (dropN l off) s = some r) : ReadsN w0 (cel b t l :: F) ⟨b, off, none⟩ s r := by
  obtain ⟨h1, h2⟩ := takeN_eq h
  rw [dropN_eq] at h1
  exact ⟨h2, by rw [h1]; exact ReadsL.here s⟩
theorem ReadsN.rowFlat {w0 : World} {α : Type} {enc : α → List Value} {es b cap n : Nat} {t : TypeId} {xs : List α} {F : List HProp} {i : Nat} {x : α} (he : ∀ x, (enc x).length = es) (h : xs[i]? = some x) : ReadsN w0 (RowAt b cap t es n (flat enc xs) :: F) ⟨b, i * es, none⟩ es (enc x) := ⟨he x, ReadsL.rowFlat he h⟩
section
variable {P : Program} {T : Tbl} {w0 : World}
theorem Tri.enterF {f : FuncId} {args : Array Value} {fn : Func} {c : Code} {H : List HProp} {R : Value → List HProp → Prop} {n : Nat} {rs : Array ResultVar} (hf : P.funcs[f]? = some fn) (hn : fn.ntmps = n) (hr : fn.results = rs) (hb : fn.body = some c) (hle : Nat.ble args.size n = true)
    (h : ∀ b, Fr P b rs.toList → XS P w0 b n R [.code c] (env args.toList) H) : Tri P f args w0 H R :=
  Tri.enter hf hb hn hle (h (frm f) ⟨rfl, fn, hf, by simp [hr]⟩)
/-- The results, one by one. -/
inductive ResOk (T : Tbl) (w0 : World) (H : List HProp) (e : Env) (n : Nat) : List ResultVar → List Value → Prop
  | nil : ResOk T w0 H e n [] []
  | tmp {t : Nat} {v : Value} {rs : List ResultVar} {vs : List Value} (h : Hd (e.ev n (.tmp t)) = some v) (r : ResOk T w0 H e n rs vs) : ResOk T w0 H e n (.tmp t :: rs) (v :: vs)
  | cell {c : Nat} {t : TypeId} {a : Addr} {v : Value} {rs : List ResultVar} {vs : List Value} (hv : e.ev n (.tmp c) = .pointer (some a)) (ha : aggT T t = some false) (hr : Reads w0 H a v) (r : ResOk T w0 H e n rs vs) : ResOk T w0 H e n (.cell c t :: rs) (v :: vs)
  | agg {c : Nat} {t : TypeId} {a : Addr} {l : List Value} {s : Nat} {rs : List ResultVar} {vs : List Value} (hv : e.ev n (.tmp c) = .pointer (some a)) (ha : aggT T t = some true) (hs : T.size t = some s) (hr : ReadsN w0 H a s l) (r : ResOk T w0 H e n rs vs) :
      ResOk T w0 H e n (.cell c t :: rs) (.agg ⟨l⟩ :: vs)
def resV (tmps : Array Value) : ResultVar → Sem Value
  | .tmp t => pure (tmps.getD t undef)
  | .cell a t => do loadVar t (← asAddr (tmps.getD a undef))
theorem results_eq (fn : Func) (tmps : Array Value) : results fn tmps = (do let vs ← fn.results.mapM (resV tmps); pure (if h : vs.size = 1 then vs[0] else .tuple vs)) := by
  unfold results
  congr 2
theorem ResOk.run (hT : T.Ok P) {H : List HProp} {e : Env} {n : Nat} {w : World} (hw : Rel w0 H w) : ∀ {rs : List ResultVar} {vs : List Value}, ResOk T w0 H e n rs vs → (rs.mapM (resV (e.act n).tmps)).run P w = .ok vs w
  | _, _, .nil => rfl
  | _, _, .tmp h r => by
    rw [Hd_eq] at h; injection h with h
    simp only [List.mapM_cons, Sem.run_bind, Sem.run_pure, Result.andThen_ok, ResOk.run hT hw r, resV, getD_act, h]
  | _, _, .cell hv ha hr r => by
    simp only [List.mapM_cons, Sem.run_bind, Sem.run_pure, Result.andThen_ok, ResOk.run hT hw r, resV, getD_act, hv, asAddr, loadVar, run_isAgg hT ha, Bool.false_eq_true, if_false, run_load, hr w hw]
  | _, _, .agg hv ha hs hr r => by
    have hl := run_loadVar_agg hT ha (hs.trans (congrArg some hr.1.symm)) hr.2 hw
    simp only [List.mapM_cons, Sem.run_bind, Sem.run_pure, Result.andThen_ok, ResOk.run hT hw r, resV, getD_act, hv, asAddr, hl]
theorem XS.retG {b : Frame} {n : Nat} {R : Value → List HProp → Prop} {e : Env} {H : List HProp} {k : List Item} {rs : List ResultVar} {vs : List Value} (hT : T.Ok P) (hF : Fr P b rs) (hR : ResOk T w0 H e n rs vs) (h : Out R (tup vs) H) : XS P w0 b n R (.code .ret :: k) e H := by
  obtain ⟨hk, fn, hf, hres⟩ := hF
  obtain ⟨H', x, h⟩ := h
  refine .retM hf hk (fun w hw => ?_) x h
  have := ResOk.run hT hw hR
  rw [results_eq, hres, Sem.run_bind, Array.mapM_eq_mapM_toList, Sem.run_map, this]
  cases vs with
  | nil => rfl
  | cons v vs => cases vs <;> simp [tup]
theorem XS.ret0F {b : Frame} {n : Nat} {R : Value → List HProp → Prop} {e : Env} {H : List HProp} {k : List Item} (hT : T.Ok P) (hF : Fr P b []) (hR : ResOk T w0 H e n [] []) (h : Out R (.tuple #[]) H) : XS P w0 b n R (.code .ret :: k) e H := .retG hT hF hR h
theorem XS.ret1F {b : Frame} {n : Nat} {R : Value → List HProp → Prop} {e : Env} {H : List HProp} {k : List Item} {r1 : ResultVar} {v1 : Value} (hT : T.Ok P) (hF : Fr P b [r1]) (hR : ResOk T w0 H e n [r1] [v1]) (h : Out R v1 H) : XS P w0 b n R (.code .ret :: k) e H := .retG hT hF hR h
theorem XS.ret2F {b : Frame} {n : Nat} {R : Value → List HProp → Prop} {e : Env} {H : List HProp} {k : List Item} {r1 r2 : ResultVar} {v1 v2 : Value} (hT : T.Ok P) (hF : Fr P b [r1, r2]) (hR : ResOk T w0 H e n [r1, r2] [v1, v2]) (h : Out R (.tuple #[v1, v2]) H) : XS P w0 b n R (.code .ret :: k) e H := .retG hT hF hR h
theorem XS.ret3F {b : Frame} {n : Nat} {R : Value → List HProp → Prop} {e : Env} {H : List HProp} {k : List Item} {r1 r2 r3 : ResultVar} {v1 v2 v3 : Value} (hT : T.Ok P) (hF : Fr P b [r1, r2, r3]) (hR : ResOk T w0 H e n [r1, r2, r3] [v1, v2, v3]) (h : Out R (.tuple #[v1, v2, v3]) H) : XS P w0 b n R (.code .ret :: k) e H := .retG hT hF hR h
theorem XS.ret4F {b : Frame} {n : Nat} {R : Value → List HProp → Prop} {e : Env} {H : List HProp} {k : List Item} {r1 r2 r3 r4 : ResultVar} {v1 v2 v3 v4 : Value} (hT : T.Ok P) (hF : Fr P b [r1, r2, r3, r4]) (hR : ResOk T w0 H e n [r1, r2, r3, r4] [v1, v2, v3, v4]) (h : Out R (.tuple #[v1, v2, v3, v4]) H) : XS P w0 b n R (.code .ret :: k) e H := .retG hT hF hR h
theorem XS.nilM {b : Frame} {n : Nat} {R : Value → List HProp → Prop} {e : Env} {H H' : List HProp} {fn : Func} {v : Value} (hf : P.funcs[b.fn]? = some fn) (hk : b.kind = .normal) (hr : ∀ w, Rel w0 H w → (results fn (e.act n).tmps).run P w = .ok v w) (x : Ent H H') (h : R v H') : XS P w0 b n R [] e H := ⟨fun _ w hrel =>
  ⟨v, w, _, H', h, hrel.ent x, .one step_end, rfl, rfl, rfl, hk, fn, hf, hr w hrel⟩⟩
theorem XS.nilG {b : Frame} {n : Nat} {R : Value → List HProp → Prop} {e : Env} {H : List HProp} (hF : Fr P b []) (h : Out R (.tuple #[]) H) : XS P w0 b n R [] e H := by
  obtain ⟨hk, fn, hf, hres⟩ := hF
  obtain ⟨H', x, h⟩ := h
  exact .nilM hf hk (fun w _ => by simp [results, hres]) x h
/-- Of what kind an operation is. -/
def kindOf : Op → Nat
  | .load .. => 1
  | .store .. => 2
  | .call { callee := .builtin _, .. } => 3
  | .call .. => 4
  | .binOp .. => 5
  | .alloc .. => 6
  | .box .. => 7
  | .build .. => 8
  | .buildSlice .. => 9
  | .index .. => 10
  | .indexAddr .. => 11
  | .lookup .. => 12
  | .mapUpdate .. => 13
  | .makeMap .. => 14
  | .makeSlice .. => 15
  | .slice .. => 16
  | .convert .. => 17
  | .range .. => 18
  | .next .. => 19
  | .entry .. => 20
  | _ => 0
/-- A cell of the memory that came in. -/
structure RdB (w0 : World) (a : Addr) (v : Value) : Prop where
  h : ∀ H, Reads w0 H a v
structure RdN (w0 : World) (a : Addr) (s : Nat) (l : List Value) : Prop where
  h : ∀ H, ReadsN w0 H a s l
theorem RdB.r {H : List HProp} {a : Addr} {v : Value} (h : RdB w0 a v) : Reads w0 H a v := h.h H
theorem RdN.r {H : List HProp} {a : Addr} {s : Nat} {l : List Value} (h : RdN w0 a s l) : ReadsN w0 H a s l := h.h H
/-- Where a cell is read. -/
theorem readA {H : List HProp} {a : Addr} {v : Value} (h : Reads w0 H a v := by (first | exact RdB.r (by assumption) | exact Reads.here rfl | exact Reads.rowFlat0 (fun _ => rfl) (by assumption) rfl | exact Reads.rowFlat (fun _ => rfl) (by assumption) rfl | (apply Reads.skip; (first | exact Reads.here rfl | exact Reads.rowFlat0 (fun _ => rfl) (by assumption) rfl | exact Reads.rowFlat (fun _ => rfl) (by assumption) rfl | (apply Reads.skip; (first | exact Reads.here rfl | exact Reads.rowFlat0 (fun _ => rfl) (by assumption) rfl | exact Reads.rowFlat (fun _ => rfl) (by assumption) rfl | (apply Reads.skip; (first | exact Reads.here rfl | exact Reads.rowFlat0 (fun _ => rfl) (by assumption) rfl | exact Reads.rowFlat (fun _ => rfl) (by assumption) rfl | (apply Reads.skip; (first | exact Reads.here rfl | exact Reads.rowFlat0 (fun _ => rfl) (by assumption) rfl | exact Reads.rowFlat (fun _ => rfl) (by assumption) rfl | (apply Reads.skip; (first | exact Reads.here rfl | exact Reads.rowFlat0 (fun _ => rfl) (by assumption) rfl | exact Reads.rowFlat (fun _ => rfl) (by assumption) rfl | (apply Reads.skip; (first | exact Reads.here rfl | exact Reads.rowFlat0 (fun _ => rfl) (by assumption) rfl | exact Reads.rowFlat (fun _ => rfl) (by assumption) rfl | (apply Reads.skip; (first | exact Reads.here rfl | exact Reads.rowFlat0 (fun _ => rfl) (by assumption) rfl | exact Reads.rowFlat (fun _ => rfl) (by assumption) rfl | (apply Reads.skip; (first | exact Reads.here rfl | exact Reads.rowFlat0 (fun _ => rfl) (by assumption) rfl | exact Reads.rowFlat (fun _ => rfl) (by assumption) rfl | (apply Reads.skip; (first | exact Reads.here rfl | exact Reads.rowFlat0 (fun _ => rfl) (by assumption) rfl | exact Reads.rowFlat (fun _ => rfl) (by assumption) rfl | fail)) | fail)) | fail)) | fail)) | fail)) | fail)) | fail)) | fail)) | fail)) | fail)) : Reads w0 H a v := h
theorem readNA {H : List HProp} {a : Addr} {s : Nat} {l : List Value} (h : ReadsN w0 H a s l := by (first | exact RdN.r (by assumption) | exact ReadsN.here rfl | exact ReadsN.rowFlat (fun _ => rfl) (by assumption) | (apply ReadsN.skip; (first | exact ReadsN.here rfl | exact ReadsN.rowFlat (fun _ => rfl) (by assumption) | (apply ReadsN.skip; (first | exact ReadsN.here rfl | exact ReadsN.rowFlat (fun _ => rfl) (by assumption) | (apply ReadsN.skip; (first | exact ReadsN.here rfl | exact ReadsN.rowFlat (fun _ => rfl) (by assumption) | (apply ReadsN.skip; (first | exact ReadsN.here rfl | exact ReadsN.rowFlat (fun _ => rfl) (by assumption) | (apply ReadsN.skip; (first | exact ReadsN.here rfl | exact ReadsN.rowFlat (fun _ => rfl) (by assumption) | (apply ReadsN.skip; (first | exact ReadsN.here rfl | exact ReadsN.rowFlat (fun _ => rfl) (by assumption) | (apply ReadsN.skip; (first | exact ReadsN.here rfl | exact ReadsN.rowFlat (fun _ => rfl) (by assumption) | (apply ReadsN.skip; (first | exact ReadsN.here rfl | exact ReadsN.rowFlat (fun _ => rfl) (by assumption) | (apply ReadsN.skip; (first | exact ReadsN.here rfl | exact ReadsN.rowFlat (fun _ => rfl) (by assumption) | fail)) | fail)) | fail)) | fail)) | fail)) | fail)) | fail)) | fail)) | fail)) | fail)) : ReadsN w0 H a s l := h
theorem resA0 {H : List HProp} {e : Env} {n : Nat} : ResOk T w0 H e n [] [] := .nil
theorem resA1 {H : List HProp} {e : Env} {n : Nat} {r0 : ResultVar} {v0 : Value} (h : ResOk T w0 H e n [r0] [v0] := by first | exact ResOk.tmp rfl resA0 | exact ResOk.cell rfl rfl readA resA0 | exact ResOk.agg rfl rfl rfl readNA resA0 | fail) : ResOk T w0 H e n [r0] [v0] := h
theorem resA2 {H : List HProp} {e : Env} {n : Nat} {r0 r1 : ResultVar} {v0 v1 : Value} (h : ResOk T w0 H e n [r0, r1] [v0, v1] := by first | exact ResOk.tmp rfl resA1 | exact ResOk.cell rfl rfl readA resA1 | exact ResOk.agg rfl rfl rfl readNA resA1 | fail) : ResOk T w0 H e n [r0, r1] [v0, v1] := h
theorem resA3 {H : List HProp} {e : Env} {n : Nat} {r0 r1 r2 : ResultVar} {v0 v1 v2 : Value} (h : ResOk T w0 H e n [r0, r1, r2] [v0, v1, v2] := by first | exact ResOk.tmp rfl resA2 | exact ResOk.cell rfl rfl readA resA2 | exact ResOk.agg rfl rfl rfl readNA resA2 | fail) : ResOk T w0 H e n [r0, r1, r2] [v0, v1, v2] := h
theorem resA4 {H : List HProp} {e : Env} {n : Nat} {r0 r1 r2 r3 : ResultVar} {v0 v1 v2 v3 : Value} (h : ResOk T w0 H e n [r0, r1, r2, r3] [v0, v1, v2, v3] := by first | exact ResOk.tmp rfl resA3 | exact ResOk.cell rfl rfl readA resA3 | exact ResOk.agg rfl rfl rfl readNA resA3 | fail) : ResOk T w0 H e n [r0, r1, r2, r3] [v0, v1, v2, v3] := h
theorem aggT_bool {t : TypeId} (h : T.und t = some .bool) : aggT T t = some false := by simp [aggT, h]
/-- A bool is read: one that is written out, and one that is not, which is parted. -/
theorem XO.loadL (c : Bool) {n : Nat} {HL : Held} {ops : Array Oper} {J : Env → List HProp → Prop} {ix : Nat} {rest : List Oper} {o : Oper} {e : Env} {H : List HProp} {t : TypeId} {x : Operand} {a : Addr} {d : Nat} (hT : T.Ok P) (hop : o.op = .load t x) (hb : T.und t = some .bool) (hh : heldAt HL ix = none) (hg : wantedE ops e n o = true) (hd : o.dst = some d) (hx : e.ev n x = .pointer (some a))
    (hr : Reads w0 H a (.bool c)) (h : XO P T w0 n HL ops J (ix + 1) rest (e.upd d (.bool c)) H) : XO P T w0 n HL ops J ix (o :: rest) e H := .load hT hh hg hd hop hx (aggT_bool hb) hr h
theorem XO.loadB {n : Nat} {HL : Held} {ops : Array Oper} {J : Env → List HProp → Prop} {ix : Nat} {rest : List Oper} {o : Oper} {e : Env} {H : List HProp} {t : TypeId} {x : Operand} {a : Addr} {c : Bool} {d : Nat} (hT : T.Ok P) (hop : o.op = .load t x) (hb : T.und t = some .bool) (hh : heldAt HL ix = none) (hg : wantedE ops e n o = true) (hd : o.dst = some d) (hx : e.ev n x = .pointer (some a))
    (hr : Reads w0 H a (.bool c)) (h1 : c = true → XO P T w0 n HL ops J (ix + 1) rest (e.upd d (.bool true)) H) (h2 : c = false → XO P T w0 n HL ops J (ix + 1) rest (e.upd d (.bool false)) H) : XO P T w0 n HL ops J ix (o :: rest) e H := .loadBool hT hh hg hd hop hx (aggT_bool hb) hr h1 h2
theorem XO.loadN {n : Nat} {HL : Held} {ops : Array Oper} {J : Env → List HProp → Prop} {ix : Nat} {rest : List Oper} {o : Oper} {e : Env} {H : List HProp} {t : TypeId} {x : Operand} {a : Addr} {s : Nat} {l : List Value} {d : Nat} (hT : T.Ok P) (hop : o.op = .load t x) (ha : aggT T t = some true) (hs : T.size t = some s) (hh : heldAt HL ix = none) (hg : wantedE ops e n o = true) (hd : o.dst = some d) (hx : e.ev n x = .pointer (some a))
    (hr : ReadsN w0 H a s l) (h : XO P T w0 n HL ops J (ix + 1) rest (e.upd d (.agg ⟨l⟩)) H) : XO P T w0 n HL ops J ix (o :: rest) e H := .loadAgg hT hh hg hd hop hx ha (hs.trans (congrArg some hr.1.symm)) hr.2 h
/-- What stands behind a piece of code, shown once for all the ways that come to it. -/
structure Join (P : Program) (w0 : World) (b : Frame) (n : Nat) (R : Value → List HProp → Prop) (k : List Item) (Q : Env → List HProp → Prop) : Prop where
  h : ∀ e H, Q e H → XS P w0 b n R k e H
theorem XS.jn {b : Frame} {n : Nat} {R : Value → List HProp → Prop} {e : Env} {H : List HProp} {k : List Item} {Q : Env → List HProp → Prop} (j : Join P w0 b n R k Q) (h : Q e H) : XS P w0 b n R k e H := j.h e H h
theorem XS.joinB {b : Frame} {n : Nat} {R : Value → List HProp → Prop} {e : Env} {H : List HProp} {k : List Item} {id : Nat} {c : Code} (Q : Env → List HProp → Prop) (h2 : ∀ e H, Q e H → XS P w0 b n R k e H) (h1 : Join P w0 b n R k Q → XS P w0 b n R (.code (.block id c) :: k) e H) : XS P w0 b n R (.code (.block id c) :: k) e H := h1 ⟨h2⟩
/-- The same, what the ways have in common: some slots, some chunks, a fact on a thing. -/
def Meet {ι : Type} (l : ι → List (Nat × Value)) (Hf : ι → List HProp) (pre : ι → Prop) (e : Env) (H : List HProp) : Prop := ∃ x, pre x ∧ Slots e (l x) ∧ Ent H (Hf x)
theorem XS.joinM {b : Frame} {n : Nat} {R : Value → List HProp → Prop} {e : Env} {H : List HProp} {k : List Item} {id : Nat} {c : Code} {ι : Type} (l : ι → List (Nat × Value)) (Hf : ι → List HProp) (pre : ι → Prop) (h2 : ∀ x e, pre x → XS P w0 b n R k (Env.ups e (l x)) (Hf x)) (h1 : Join P w0 b n R k (Meet l Hf pre) → XS P w0 b n R (.code (.block id c) :: k) e H) : XS P w0 b n R (.code (.block id c) :: k) e H :=
  XS.joinB _ (fun e H ⟨x, hp, hs, hE⟩ => by have := h2 x e hp; rw [ups_self hs] at this; exact this.ent hE) h1
theorem XS.g {b : Frame} {n : Nat} {R : Value → List HProp → Prop} {e : Env} {H : List HProp} {k : List Item} (h : XS P w0 b n R k e H) : XS P w0 b n R k e H := h
theorem XO.g0 {n : Nat} {HL : Held} {ops : Array Oper} {J : Env → List HProp → Prop} {ix : Nat} {rest : List Oper} {e : Env} {H : List HProp} (h : XO P T w0 n HL ops J ix rest e H) : XO P T w0 n HL ops J ix rest e H := h
theorem XO.g (k : Nat) {n : Nat} {HL : Held} {ops : Array Oper} {J : Env → List HProp → Prop} {ix : Nat} {rest : List Oper} {o : Oper} {e : Env} {H : List HProp} (_ : kindOf o.op = k) (h : XO P T w0 n HL ops J ix (o :: rest) e H) : XO P T w0 n HL ops J ix (o :: rest) e H := h
end
end Go.Sx
