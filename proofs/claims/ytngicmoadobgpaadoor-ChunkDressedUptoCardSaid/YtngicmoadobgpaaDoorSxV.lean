/- Rules: structs are compared. Conditions: the table 'T' fits the program. -/
import Derived.Test.YtngicmoadobgpaaDoorSxT
namespace Go.Sx
open Go Go.RowKit
/-- '==' of numbers, texts and bools. -/
def eqB (T : Tbl) (t : TypeId) (x y : Value) : Option Bool :=
  match x, y with
  | .int k a, .int k' b => match T.und t with
    | some (.int _) => bif sameKind k k' then some (a == b) else none
    | _ => none
  | .string a, .string b => match T.und t with
    | some .string => some (a == b)
    | _ => none
  | .bool a, .bool b => match T.und t with
    | some .bool => some (a == b)
    | _ => none
  | _, _ => none
def eqFs (T : Tbl) (xs ys : Array Value) : List Field → Option Bool
  | [] => some true
  | f :: fs => match (f.name == "_"), partT T f.type xs f.offset, partT T f.type ys f.offset, eqFs T xs ys fs with
    | false, some a, some b, some r => match eqB T f.type a b with
      | some c => some (c && r)
      | none => none
    | _, _, _, _ => none
section
variable {P : Program} {T : Tbl}
theorem eqB_run (hT : T.Ok P) {d : Nat} {t : TypeId} {x y : Value} {c : Bool} {w : World} (h : eqB T t x y = some c) : (Op.equalIn (d + 1) t x y).run P w = .ok c w := by
  unfold eqB at h
  split at h
  · split at h
    · rename_i hu
      rename_i k a k' b _ _
      cases hk : sameKind k k' with
      | false => rw [hk] at h; cases h
      | true =>
        rw [hk] at h
        have := sameKind_eq hk
        subst this
        injection h with h; subst h
        rw [Op.equalIn]
        simp only [Sem.run_bind, run_und hT hu, Result.andThen_ok]
        simp
    · cases h
  · split at h
    · rename_i hu
      injection h with h; subst h
      rw [Op.equalIn]
      simp only [Sem.run_bind, run_und hT hu, Result.andThen_ok, Sem.run_pure]
    · cases h
  · split at h
    · rename_i hu
      injection h with h; subst h
      rw [Op.equalIn]
      simp only [Sem.run_bind, run_und hT hu, Result.andThen_ok, Sem.run_pure]
    · cases h
  · cases h
theorem eqS_run (hT : T.Ok P) {d : Nat} {t : TypeId} {fs : Array Field} {xs ys : Array Value} {c : Bool} {w : World} (hu : T.und t = some (.struct fs)) (hst : P.stoodInHeld t = false) (h : eqFs T xs ys fs.toList = some c) : (Op.equalIn (d + 2) t (.agg xs) (.agg ys)).run P w = .ok c w := by
  have key : ∀ (l : List Field) (c : Bool), eqFs T xs ys l = some c → (Sem.run P (forIn l ((none : Option Bool), ()) fun f __s =>
            if f.name ≠ "_" then do
              let __do_lift ← part f.type xs f.offset
              let __do_lift_1 ← part f.type ys f.offset
              let __do_lift ← Op.equalIn (d + 1) f.type __do_lift __do_lift_1
              if (!__do_lift) = true then pure (ForInStep.done (some false, ())) else pure (ForInStep.yield (none, ()))
            else pure (ForInStep.yield (none, ()))) w) = .ok (if c then (none, ()) else (some false, ())) w := by
    intro l
    induction l with
    | nil => intro c hc; injection hc with hc; subst hc; simp
    | cons f fs ih =>
      intro c hc
      simp only [eqFs] at hc
      split at hc
      · rename_i a b r hn ha hb hr
        split at hc
        · rename_i c1 h1
          injection hc with hc; subst hc
          have hne : f.name ≠ "_" := by simpa using hn
          rw [List.forIn_cons]
          simp only [hne, ne_eq, not_false_eq_true, if_true, Sem.run_bind, partT_sound hT ha, partT_sound hT hb, Result.andThen_ok, eqB_run hT h1]
          cases c1 with
          | false => simp
          | true =>
            simp only [Bool.not_true, Bool.false_eq_true, if_false, Sem.run_pure, Result.andThen_ok, Bool.true_and]
            exact ih r hr
        · cases hc
      · cases hc
  rw [Op.equalIn]
  simp only [Sem.run_bind, run_und hT hu, Result.andThen_ok, run_program, hst, Bool.false_eq_true, if_false, ← Array.forIn_toList]
  rw [key fs.toList c h]
  cases c <;> rfl
end
section
variable {P : Program} {T : Tbl} {w0 : World} {n : Nat} {HL : Held} {ops : Array Oper} {J : Env → List HProp → Prop} {ix : Nat} {rest : List Oper} {o : Oper} {e : Env} {H : List HProp}
theorem guardS {op : BinOp} {t : TypeId} {x y : Operand} {xs ys : Array Value} {w : World} (hg : P.eqGuardType P.depth t = false) : (eqGuard op t x y (.agg xs) (.agg ys)).run P w = .ok () w := by
  unfold eqGuard
  cases op <;> simp [hg]
theorem XO.eqS {t t' : TypeId} {fs : Array Field} {x y : Operand} {xs ys : Array Value} {c : Bool} {k : Nat} (hT : T.Ok P) (hop : o.op = .binOp .eql t x y t') (hu : T.und t = some (.struct fs)) (hst : P.stoodInHeld t = false) (hgt : P.eqGuardType P.depth t = false) (hh : heldAt HL ix = none) (hg : wantedE ops e n o = true) (hd : o.dst = some k)
    (hx : e.ev n x = .agg xs) (hy : e.ev n y = .agg ys) (hc : eqFs T xs ys fs.toList = some c) (h1 : c = true → XO P T w0 n HL ops J (ix + 1) rest (e.upd k (.bool true)) H) (h2 : c = false → XO P T w0 n HL ops J (ix + 1) rest (e.upd k (.bool false)) H) : XO P T w0 n HL ops J ix (o :: rest) e H := by
  have hcls : cls T o.op ≠ .eff := by rw [hop]; simp only [cls]; split <;> simp
  have hrun : ∀ w, (execOp (e.ev n) o).run P w = .ok (.value (.bool c)) w := fun w => by
    have := eqS_run hT (d := 9998) (w := w) hu hst hc
    simp only [execOp, hop, hx, hy, Sem.run_bind, guardS hgt, Result.andThen_ok, binOp, Op.equal, Op.maxDepth, this, Sem.run_pure]
  cases c with
  | true => exact XO.valOp (v := .bool true) hh hg hcls hrun (by rw [hd]; exact h1 rfl)
  | false => exact XO.valOp (v := .bool false) hh hg hcls hrun (by rw [hd]; exact h2 rfl)
theorem XO.neS {t t' : TypeId} {fs : Array Field} {x y : Operand} {xs ys : Array Value} {c : Bool} {k : Nat} (hT : T.Ok P) (hop : o.op = .binOp .neq t x y t') (hu : T.und t = some (.struct fs)) (hst : P.stoodInHeld t = false) (hgt : P.eqGuardType P.depth t = false) (hh : heldAt HL ix = none) (hg : wantedE ops e n o = true) (hd : o.dst = some k)
    (hx : e.ev n x = .agg xs) (hy : e.ev n y = .agg ys) (hc : eqFs T xs ys fs.toList = some c) (h1 : c = true → XO P T w0 n HL ops J (ix + 1) rest (e.upd k (.bool false)) H) (h2 : c = false → XO P T w0 n HL ops J (ix + 1) rest (e.upd k (.bool true)) H) : XO P T w0 n HL ops J ix (o :: rest) e H := by
  have hcls : cls T o.op ≠ .eff := by rw [hop]; simp only [cls]; split <;> simp
  have hrun : ∀ w, (execOp (e.ev n) o).run P w = .ok (.value (.bool !c)) w := fun w => by
    have := eqS_run hT (d := 9998) (w := w) hu hst hc
    simp only [execOp, hop, hx, hy, Sem.run_bind, guardS hgt, Result.andThen_ok, binOp, Op.equal, Op.maxDepth, this, Sem.run_pure]
  cases c with
  | true => exact XO.valOp (v := .bool false) hh hg hcls hrun (by rw [hd]; exact h1 rfl)
  | false => exact XO.valOp (v := .bool true) hh hg hcls hrun (by rw [hd]; exact h2 rfl)
end
end Go.Sx
