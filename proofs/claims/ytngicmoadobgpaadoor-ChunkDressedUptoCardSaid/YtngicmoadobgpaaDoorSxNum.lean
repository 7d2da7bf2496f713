/- Rules: small numbers, calls of functions that the model stands in for. Conditions: the table 'T' fits the program. -/
import Derived.Test.YtngicmoadobgpaaDoorSxStr
import Derived.Laws.Externs
namespace Go.Sx
open Go Go.RowKit
abbrev kI (z : Int) : Value := .int .i64 z
abbrev ptr (b : Nat) : Value := .pointer (some ⟨b, 0, none⟩)
theorem u8_lt (c : UInt8) : c.toNat < 2 ^ 8 := UInt8.toNat_lt c
section
variable {P : Program} {T : Tbl} {w0 : World} {n : Nat} {HL : Held} {ops : Array Oper} {J : Env → List HProp → Prop} {ix : Nat} {rest : List Oper} {o : Oper} {e : Env} {H F : List HProp}
theorem XO.addN (m : Nat) {x y : Operand} {t t' : TypeId} {k : IntKind} {a b : Nat} {d : Nat} (hT : T.Ok P) (hh : heldAt HL ix = none) (hg : wantedE ops e n o = true) (hd : o.dst = some d) (hop : o.op = .binOp .add t x y t') (hx : e.ev n x = .int k (a : Int)) (hy : e.ev n y = .int k (b : Int))
    (hf : fits k m = true) (ha : a + b < 2 ^ m) (h : XO P T w0 n HL ops J (ix + 1) rest (e.upd d (.int k ((a + b : Nat) : Int))) H) : XO P T w0 n HL ops J ix (o :: rest) e H :=
  .binN hT hh hg hd hop hx hy rfl (fun _ => by simp only [binI]; rw [← Int.natCast_add, wrapN hf ha]) h
theorem XO.subN (m : Nat) {x y : Operand} {t t' : TypeId} {k : IntKind} {a b : Nat} {d : Nat} (hT : T.Ok P) (hh : heldAt HL ix = none) (hg : wantedE ops e n o = true) (hd : o.dst = some d) (hop : o.op = .binOp .sub t x y t') (hx : e.ev n x = .int k (a : Int)) (hy : e.ev n y = .int k (b : Int))
    (hf : fits k m = true) (hb : b ≤ a) (ha : a < 2 ^ m) (h : XO P T w0 n HL ops J (ix + 1) rest (e.upd d (.int k ((a - b : Nat) : Int))) H) : XO P T w0 n HL ops J ix (o :: rest) e H :=
  .binN hT hh hg hd hop hx hy rfl (fun _ => by simp only [binI]; rw [← Int.natCast_sub hb, wrapN hf (by omega)]) h
/-- The same, a constant. -/
theorem XO.addC (m : Nat) {x y : Operand} {t t' : TypeId} {k : IntKind} {a : Nat} {z : Int} {d : Nat} (hT : T.Ok P) (hh : heldAt HL ix = none) (hg : wantedE ops e n o = true) (hd : o.dst = some d) (hop : o.op = .binOp .add t x y t') (hx : e.ev n x = .int k (a : Int)) (hy : e.ev n y = .int k z)
    (hf : fits k m = true) (hz : 0 ≤ z) (ha : a + z.toNat < 2 ^ m) (h : XO P T w0 n HL ops J (ix + 1) rest (e.upd d (.int k ((a + z.toNat : Nat) : Int))) H) : XO P T w0 n HL ops J ix (o :: rest) e H :=
  .addN m (b := z.toNat) hT hh hg hd hop hx (by rw [hy, Int.toNat_of_nonneg hz]) hf ha h
theorem XO.subC (m : Nat) {x y : Operand} {t t' : TypeId} {k : IntKind} {a : Nat} {z : Int} {d : Nat} (hT : T.Ok P) (hh : heldAt HL ix = none) (hg : wantedE ops e n o = true) (hd : o.dst = some d) (hop : o.op = .binOp .sub t x y t') (hx : e.ev n x = .int k (a : Int)) (hy : e.ev n y = .int k z)
    (hf : fits k m = true) (hz : 0 ≤ z) (hb : z.toNat ≤ a) (ha : a < 2 ^ m) (h : XO P T w0 n HL ops J (ix + 1) rest (e.upd d (.int k ((a - z.toNat : Nat) : Int))) H) : XO P T w0 n HL ops J ix (o :: rest) e H :=
  .subN m (b := z.toNat) hT hh hg hd hop hx (by rw [hy, Int.toNat_of_nonneg hz]) hf hb ha h
/-- 'a << j'. -/
theorem XO.shlN (m j : Nat) {x y : Operand} {t t' : TypeId} {k k' : IntKind} {a : Nat} {d : Nat} (hT : T.Ok P) (hh : heldAt HL ix = none) (hg : wantedE ops e n o = true) (hd : o.dst = some d) (hop : o.op = .binOp .shl t x y t') (hx : e.ev n x = .int k (a : Int)) (hy : e.ev n y = .int k' (j : Int))
    (hf : fits k m = true) (hj : Nat.ble j k.bits = true) (ha : a * 2 ^ j < 2 ^ m) (h : XO P T w0 n HL ops J (ix + 1) rest (e.upd d (.int k ((a * 2 ^ j : Nat) : Int))) H) : XO P T w0 n HL ops J ix (o :: rest) e H := by
  refine .p hT hh hg hd (v := .int k ((a * 2 ^ j : Nat) : Int)) ?_ h
  rw [hop]
  simp only [pev, hx, hy, binV, isShift, cond_true]
  show shf .shl k a j = _
  simp only [shf, Nat.min_eq_left (Nat.le_of_ble_eq_true hj)]
  have : (a : Int) * 2 ^ j = ((a * 2 ^ j : Nat) : Int) := by simp
  rw [this, wrapN hf ha]
/-- 'a*2^j | b', b small. -/
theorem XO.orLow (m j : Nat) {x y : Operand} {t t' : TypeId} {k : IntKind} {a b : Nat} {d : Nat} (hT : T.Ok P) (hh : heldAt HL ix = none) (hg : wantedE ops e n o = true) (hd : o.dst = some d) (hop : o.op = .binOp .or t x y t') (hx : e.ev n x = .int k ((a * 2 ^ j : Nat) : Int)) (hy : e.ev n y = .int k (b : Int))
    (hf : fits k m = true) (hb : b < 2 ^ j) (ha : a * 2 ^ j + b < 2 ^ m) (h : XO P T w0 n HL ops J (ix + 1) rest (e.upd d (.int k ((a * 2 ^ j + b : Nat) : Int))) H) : XO P T w0 n HL ops J ix (o :: rest) e H := by
  have e1 : a * 2 ^ j ||| b = a * 2 ^ j + b := by rw [Nat.mul_comm]; exact (Nat.two_pow_add_eq_or_of_lt hb a).symm
  refine .orN m hT hh hg hd hop hx hy hf (by omega) (by omega) ?_
  rw [e1]; exact h
/-- 'min', its outcome named. -/
theorem XO.minE {x y : Operand} {ts : Array TypeId} {a b : Int} {k k' : IntKind} {d : Nat} (z : Int) (hg : wantedE ops e n o = true) (hd : o.dst = some d) (hop : o.op = .call { callee := .builtin .min, args := #[x, y], argTypes := ts }) (hx : e.ev n x = .int k a) (hy : e.ev n y = .int k' b)
    (h1 : a ≤ b → z = a) (h2 : b < a → z = b) (h : XO P T w0 n HL ops J (ix + 1) rest (e.upd d (.int k z)) H) : XO P T w0 n HL ops J ix (o :: rest) e H :=
  .minI hg hd hop hx hy (fun hc => by rw [← h1 hc]; exact h) (fun hc => by rw [← h2 hc]; exact h)
/-- A call of a function that the model stands in for. -/
theorem XO.callX {f : FuncId} {as : Array Operand} {ts : Array TypeId} {args : List Value} {v : Value} {d : Nat} (hk0 : Keeps w0 H (keptBy HL ix)) (hg : wantedE ops e n o = true) (hd : o.dst = some d) (hop : o.op = .call { callee := .value (.func f), args := as, argTypes := ts })
    (ha : evL (e.ev n) as.toList = some args) (hr : ∀ w : World, (callFunc f ⟨args⟩).run P w = .ok (.value v) w) (h : XO P T w0 n HL ops J (ix + 1) rest (e.upd d v) H) : XO P T w0 n HL ops J ix (o :: rest) e H := by
  refine .effOp hk0 hg (by rw [hop]; rfl) (fun w hrel => ⟨v, w, H, .inl ?_, hrel, hk0, by rw [hd]; exact h⟩)
  have : as.map (e.ev n) = ⟨args⟩ := by apply Array.ext'; simpa using evL_eq ha
  simp [execOp, hop, resolve, Env.ev, Deferred.ofValue, invoke, this, hr]
end
/-- A callee of the kit's that lays new blocks alone. -/
theorem Tri.ofBelow {P : Program} {w0 : World} {f : FuncId} {args : Array Value} {H : List HProp} {R : Value → List HProp → Prop} {v : Value} (h : ∀ w, Rel w0 H w → Calls P f args w fun e w' => e = .returned v ∧ Below w.heap.size w w') (hR : R v H) : Tri P f args w0 H R :=
  ⟨fun w hr => (h w hr).mono fun _ _ ⟨he, hb⟩ => ⟨v, H, he, hr.later hb, hR⟩⟩
end Go.Sx
