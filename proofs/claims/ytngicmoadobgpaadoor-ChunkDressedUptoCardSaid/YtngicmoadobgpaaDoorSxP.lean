/- Rules: bits of natural numbers. Conditions: the table 'T' fits the program. -/
import Derived.Test.YtngicmoadobgpaaDoorSxO
namespace Go.Sx
open Go
/-- The kind holds the numbers below a power of 2. -/
def fits : IntKind → Nat → Bool
  | .i64, m => Nat.ble m 63
  | .u64, m => Nat.ble m 64
  | .u8, m => Nat.ble m 8
  | _, _ => false
theorem wrapN {k : IntKind} {m x : Nat} (hf : fits k m = true) (hx : x < 2 ^ m) : k.wrap (x : Int) = x := by
  have key : ∀ q, m ≤ q → x < 2 ^ q := fun q hq => Nat.lt_of_lt_of_le hx (Nat.pow_le_pow_right (by omega) hq)
  cases k <;> simp only [fits] at hf <;> try (exact absurd hf Bool.false_ne_true)
  · have h := key 63 (Nat.le_of_ble_eq_true hf)
    have h2 : (2 : Nat) ^ 63 = 9223372036854775808 := by decide
    exact wrap64_id (by omega) (by omega)
  · have h := key 8 (Nat.le_of_ble_eq_true hf)
    have h2 : (2 : Nat) ^ 8 = 256 := by decide
    simp only [IntKind.wrap, IntKind.bits, IntKind.signed, Bool.false_and, Bool.false_eq_true, if_false]
    have : ((2 : Int) ^ 8) = 256 := by decide
    omega
  · have h := key 64 (Nat.le_of_ble_eq_true hf)
    have h2 : (2 : Nat) ^ 64 = 18446744073709551616 := by decide
    simp only [IntKind.wrap, IntKind.bits, IntKind.signed, Bool.false_and, Bool.false_eq_true, if_false]
    have : ((2 : Int) ^ 64) = 18446744073709551616 := by decide
    omega
theorem bv_nat {k : IntKind} {m x : Nat} (hf : fits k m = true) (hx : x < 2 ^ m) : (BitVec.ofInt k.bits (x : Int)).toNat = x := by
  rw [BitVec.ofInt_natCast, BitVec.toNat_ofNat]
  refine Nat.mod_eq_of_lt (Nat.lt_of_lt_of_le hx (Nat.pow_le_pow_right (by omega) ?_))
  cases k <;> simp only [fits] at hf <;> first | exact absurd hf Bool.false_ne_true | (have := Nat.le_of_ble_eq_true hf; simp only [IntKind.bits]; omega)
section
variable {P : Program} {T : Tbl} {w0 : World} {n : Nat} {HL : Held} {ops : Array Oper} {J : Env → List HProp → Prop} {ix : Nat} {rest : List Oper} {o : Oper} {e : Env} {H : List HProp}
theorem isShift_and : isShift .and = false := rfl
theorem XO.binN {x y : Operand} {t t' : TypeId} {op : BinOp} {k : IntKind} {a b z : Nat} {d : Nat} (hT : T.Ok P) (hh : heldAt HL ix = none) (hg : wantedE ops e n o = true) (hd : o.dst = some d) (hop : o.op = .binOp op t x y t') (hx : e.ev n x = .int k (a : Int)) (hy : e.ev n y = .int k (b : Int))
    (hs : isShift op = false) (hz : sameKind k k = true → binI op k a b = some (.int k (z : Int))) (h : XO P T w0 n HL ops J (ix + 1) rest (e.upd d (.int k (z : Int))) H) : XO P T w0 n HL ops J ix (o :: rest) e H := by
  have hk : sameKind k k = true := by cases k <;> rfl
  refine .p hT hh hg hd (v := .int k z) ?_ h
  rw [hop]
  simp only [pev, hx, hy, binV, hs, cond_false, hk, cond_true, hz hk]
theorem XO.xorN (m : Nat) {x y : Operand} {t t' : TypeId} {k : IntKind} {a b : Nat} {d : Nat} (hT : T.Ok P) (hh : heldAt HL ix = none) (hg : wantedE ops e n o = true) (hd : o.dst = some d) (hop : o.op = .binOp .xor t x y t') (hx : e.ev n x = .int k (a : Int)) (hy : e.ev n y = .int k (b : Int))
    (hf : fits k m = true) (ha : a < 2 ^ m) (hb : b < 2 ^ m) (h : XO P T w0 n HL ops J (ix + 1) rest (e.upd d (.int k ((a ^^^ b : Nat) : Int))) H) : XO P T w0 n HL ops J ix (o :: rest) e H :=
  .binN hT hh hg hd hop hx hy rfl (fun _ => by simp only [binI, BitVec.toNat_xor, bv_nat hf ha, bv_nat hf hb, wrapN hf (Nat.xor_lt_two_pow ha hb)]) h
theorem XO.orN (m : Nat) {x y : Operand} {t t' : TypeId} {k : IntKind} {a b : Nat} {d : Nat} (hT : T.Ok P) (hh : heldAt HL ix = none) (hg : wantedE ops e n o = true) (hd : o.dst = some d) (hop : o.op = .binOp .or t x y t') (hx : e.ev n x = .int k (a : Int)) (hy : e.ev n y = .int k (b : Int))
    (hf : fits k m = true) (ha : a < 2 ^ m) (hb : b < 2 ^ m) (h : XO P T w0 n HL ops J (ix + 1) rest (e.upd d (.int k ((a ||| b : Nat) : Int))) H) : XO P T w0 n HL ops J ix (o :: rest) e H :=
  .binN hT hh hg hd hop hx hy rfl (fun _ => by simp only [binI, BitVec.toNat_or, bv_nat hf ha, bv_nat hf hb, wrapN hf (Nat.or_lt_two_pow ha hb)]) h
theorem XO.andN (m : Nat) {x y : Operand} {t t' : TypeId} {k : IntKind} {a b : Nat} {d : Nat} (hT : T.Ok P) (hh : heldAt HL ix = none) (hg : wantedE ops e n o = true) (hd : o.dst = some d) (hop : o.op = .binOp .and t x y t') (hx : e.ev n x = .int k (a : Int)) (hy : e.ev n y = .int k (b : Int))
    (hf : fits k m = true) (ha : a < 2 ^ m) (hb : b < 2 ^ m) (h : XO P T w0 n HL ops J (ix + 1) rest (e.upd d (.int k ((a &&& b : Nat) : Int))) H) : XO P T w0 n HL ops J ix (o :: rest) e H :=
  .binN hT hh hg hd hop hx hy rfl (fun _ => by simp only [binI, BitVec.toNat_and, bv_nat hf ha, bv_nat hf hb, wrapN hf (Nat.and_lt_two_pow a hb)]) h
/-- What is left of a number without another one's bits. -/
def without (a b : Nat) : Nat := a &&& (2 ^ 64 - 1 - b)
theorem without_bit {a b i : Nat} (hb : b < 2 ^ 64) (hi : i < 64) : (without a b).testBit i = (a.testBit i && !b.testBit i) := by
  rw [without, Nat.testBit_and]
  congr 1
  rw [show 2 ^ 64 - 1 - b = 2 ^ 64 - (b + 1) by omega, Nat.testBit_two_pow_sub_succ hb]
  simp [hi]
theorem without_lt {a b : Nat} (ha : a < 2 ^ 64) : without a b < 2 ^ 64 := Nat.lt_of_le_of_lt Nat.and_le_left ha
theorem XO.andNotN {x y : Operand} {t t' : TypeId} {a b : Nat} {d : Nat} (hT : T.Ok P) (hh : heldAt HL ix = none) (hg : wantedE ops e n o = true) (hd : o.dst = some d) (hop : o.op = .binOp .andNot t x y t') (hx : e.ev n x = .int .u64 (a : Int)) (hy : e.ev n y = .int .u64 (b : Int))
    (ha : a < 2 ^ 64) (hb : b < 2 ^ 64) (h : XO P T w0 n HL ops J (ix + 1) rest (e.upd d (.int .u64 ((without a b : Nat) : Int))) H) : XO P T w0 n HL ops J ix (o :: rest) e H :=
  .binN hT hh hg hd hop hx hy rfl (fun _ => by
    have hf : fits .u64 64 = true := rfl
    have e1 := bv_nat hf ha
    have e2 := bv_nat hf hb
    simp only [binI, BitVec.toNat_and, BitVec.toNat_not, e1, e2]
    rw [show (2 ^ IntKind.u64.bits - 1 - b : Nat) = 2 ^ 64 - 1 - b from rfl]
    exact congrArg (fun z => some (Value.int .u64 z)) (wrapN hf (without_lt (b := b) ha))) h
/-- A shift to the right. -/
theorem XO.shrN (m : Nat) {x y : Operand} {t t' : TypeId} {k k' : IntKind} {a : Nat} {d : Nat} (hT : T.Ok P) (hh : heldAt HL ix = none) (hg : wantedE ops e n o = true) (hd : o.dst = some d) (hop : o.op = .binOp .shr t x y t') (hx : e.ev n x = .int k (a : Int)) (hy : e.ev n y = .int k' (m : Int))
    (hm : m ≤ k.bits) (h : XO P T w0 n HL ops J (ix + 1) rest (e.upd d (.int k ((a / 2 ^ m : Nat) : Int))) H) : XO P T w0 n HL ops J ix (o :: rest) e H := by
  refine .p hT hh hg hd (v := .int k ((a / 2 ^ m : Nat) : Int)) ?_ h
  rw [hop]
  have e1 : min m k.bits = m := Nat.min_eq_left hm
  simp only [pev, hx, hy, binV, isShift, cond_true]
  show shf .shr k a m = _
  simp only [shf, e1]
  rw [Int.fdiv_eq_ediv_of_nonneg _ (by exact Int.le_of_lt (Int.pow_pos (by decide)))]
  simp
/-- A power of 2. -/
theorem XO.shl1 {x y : Operand} {t t' : TypeId} {k' : IntKind} {m : Nat} {d : Nat} (hT : T.Ok P) (hh : heldAt HL ix = none) (hg : wantedE ops e n o = true) (hd : o.dst = some d) (hop : o.op = .binOp .shl t x y t') (hx : e.ev n x = .int .u64 1) (hy : e.ev n y = .int k' (m : Int))
    (hm : m < 64) (h : XO P T w0 n HL ops J (ix + 1) rest (e.upd d (.int .u64 ((2 ^ m : Nat) : Int))) H) : XO P T w0 n HL ops J ix (o :: rest) e H := by
  refine .p hT hh hg hd (v := .int .u64 ((2 ^ m : Nat) : Int)) ?_ h
  rw [hop]
  simp only [pev, hx, hy, binV, isShift, cond_true]
  show shf .shl .u64 1 m = _
  have e1 : min m IntKind.u64.bits = m := Nat.min_eq_left (by simp only [IntKind.bits]; omega)
  simp only [shf, e1, Int.one_mul]
  have : ((2 : Int) ^ m) = ((2 ^ m : Nat) : Int) := by simp
  rw [this, wrapN (m := 64) rfl (Nat.pow_lt_pow_right (by omega) hm)]
/-- A number of another kind. -/
theorem XO.convN (m : Nat) {s t : TypeId} {x : Operand} {k k' : IntKind} {a : Nat} {k0 : IntKind} {d : Nat} (hT : T.Ok P) (hh : heldAt HL ix = none) (hg : wantedE ops e n o = true) (hd : o.dst = some d) (hop : o.op = .convert s t x) (hs : T.und s = some (.int k0)) (ht : T.und t = some (.int k)) (hx : e.ev n x = .int k' (a : Int))
    (hf : fits k m = true) (ha : a < 2 ^ m) (h : XO P T w0 n HL ops J (ix + 1) rest (e.upd d (.int k (a : Int))) H) : XO P T w0 n HL ops J ix (o :: rest) e H := by
  refine .p hT hh hg hd (v := .int k (a : Int)) ?_ h
  rw [hop]
  simp only [pev, hs, ht, hx, wrapN hf ha]
/-- A number taken from nought. -/
theorem XO.negN {x : Operand} {t : TypeId} {a : Nat} {d : Nat} (hT : T.Ok P) (hh : heldAt HL ix = none) (hg : wantedE ops e n o = true) (hd : o.dst = some d) (hop : o.op = .unOp .neg t x) (hx : e.ev n x = .int .u64 (a : Int)) (h0 : 0 < a) (ha : a < 2 ^ 64) (h : XO P T w0 n HL ops J (ix + 1) rest (e.upd d (.int .u64 ((2 ^ 64 - a : Nat) : Int))) H) : XO P T w0 n HL ops J ix (o :: rest) e H := by
  refine .p hT hh hg hd (v := .int .u64 ((2 ^ 64 - a : Nat) : Int)) ?_ h
  rw [hop]
  simp only [pev, hx]
  refine congrArg (fun z => some (Value.int .u64 z)) ?_
  have h2 : (2 : Nat) ^ 64 = 18446744073709551616 := by decide
  have h3 : ((2 : Int) ^ 64) = 18446744073709551616 := by decide
  simp only [IntKind.wrap, IntKind.bits, IntKind.signed, Bool.false_and, Bool.false_eq_true, if_false]
  omega
/-- A product of numbers of 64 bits. -/
theorem XO.mulU {x y : Operand} {t t' : TypeId} {a b : Nat} {d : Nat} (hT : T.Ok P) (hh : heldAt HL ix = none) (hg : wantedE ops e n o = true) (hd : o.dst = some d) (hop : o.op = .binOp .mul t x y t') (hx : e.ev n x = .int .u64 (a : Int)) (hy : e.ev n y = .int .u64 (b : Int))
    (h : XO P T w0 n HL ops J (ix + 1) rest (e.upd d (.int .u64 ((a * b % 2 ^ 64 : Nat) : Int))) H) : XO P T w0 n HL ops J ix (o :: rest) e H :=
  .binN hT hh hg hd hop hx hy rfl (fun _ => by
    simp only [binI]
    refine congrArg (fun z => some (Value.int .u64 z)) ?_
    simp only [IntKind.wrap, IntKind.bits, IntKind.signed, Bool.false_and, Bool.false_eq_true, if_false]
    rw [Int.natCast_emod, Int.natCast_mul]; rfl) h
end
/-! ### an element of a row is written whole -/
theorem wr_all : ∀ (vs l : List Value) (o : Nat), l.length = o + vs.length → wr l o vs = l.take o ++ vs
  | [], l, o, h => by simp at h; simp [wr, ← h]
  | v :: vs, l, o, h => by
    simp only [List.length_cons] at h
    rw [wr, wr_all vs _ (o + 1) (by rw [List.length_set]; omega), List.take_add_one, List.take_set_of_le (Nat.le_refl _), List.getElem?_set_self (by omega)]
    simp
section
variable {P : Program} {T : Tbl} {w0 : World} {n : Nat} {HL : Held} {ops : Array Oper} {J : Env → List HProp → Prop} {ix : Nat} {rest : List Oper} {o : Oper} {e : Env} {F : List HProp} {α : Type} {enc : α → List Value} {es : Nat}
theorem XO.storeRowE {t tb : TypeId} {x y : Operand} {b i cap k : Nat} {xs : List α} {v : Value} (p : α) (he : ∀ x, (enc x).length = es) (hi : i < xs.length) (hT : T.Ok P) (hk0 : Keeps w0 (RowAt b cap tb es k (flat enc xs) :: F) (keptBy HL ix)) (hg : wantedE ops e n o = true) (hd : o.dst = none) (hop : o.op = .store t x y) (hx : e.ev n x = .pointer (some ⟨b, i * es, none⟩))
    (hy : Hd (e.ev n y) = some v) (hcs : v.cells = ⟨enc p⟩) (hs : T.size t = some (enc p).length) (h1 : (enc p).all (·.oneCell') = true)
    (hk : Keeps w0 (RowAt b cap tb es k (flat enc (xs.set i p)) :: F) (keptBy HL ix)) (h : XO P T w0 n HL ops J (ix + 1) rest e (RowAt b cap tb es k (flat enc (xs.set i p)) :: F)) : XO P T w0 n HL ops J ix (o :: rest) e (RowAt b cap tb es k (flat enc xs) :: F) := by
  have hq : wr (flat enc xs) (i * es) (enc p) = flat enc (xs.set i p) := by
    have := flat_wr (enc := enc) (es := es) (j := 0) (cs := enc p) (x' := p) he (List.getElem?_eq_getElem hi) (by rw [he]; omega) (by rw [wr_all _ _ _ (by rw [he, he]; omega)]; simp)
    rwa [Nat.add_zero] at this
  refine .storeRow hT hk0 hg hd hop hx hy hcs hs h1 ?_ (by rw [hq]; exact hk) (by rw [hq]; exact h)
  have hlt : (i + 1) * es ≤ xs.length * es := Nat.mul_le_mul_right _ (by omega)
  rw [Nat.add_mul, Nat.one_mul] at hlt
  rw [flat_length he, he]
  omega
end
/-! ### the lowest bit -/
theorem low_bit : ∀ x : Nat, 0 < x → ∃ k q, x = 2 ^ (k + 1) * q + 2 ^ k := by
  intro x
  induction x using Nat.strongRecOn with
  | ind x ih =>
    intro h
    rcases Nat.mod_two_eq_zero_or_one x with h2 | h2
    · obtain ⟨k, q, e⟩ := ih (x / 2) (by omega) (by omega)
      refine ⟨k + 1, q, ?_⟩
      rw [Nat.pow_succ 2 (k + 1), Nat.pow_succ 2 k, Nat.mul_right_comm, ← Nat.add_mul]
      rw [Nat.pow_succ] at e
      omega
    · exact ⟨0, x / 2, by omega⟩
theorem low_at {k q : Nat} (i : Nat) : (2 ^ (k + 1) * q + 2 ^ k).testBit i = if i < k + 1 then decide (k = i) else q.testBit (i - (k + 1)) := by
  rw [Nat.testBit_two_pow_mul_add _ (Nat.pow_lt_pow_right (by omega) (by omega)), Nat.testBit_two_pow]
theorem low_pred {k q : Nat} (i : Nat) : (2 ^ (k + 1) * q + 2 ^ k - 1).testBit i = if i < k + 1 then decide (i < k) else q.testBit (i - (k + 1)) := by
  have hp : 0 < 2 ^ k := Nat.pow_pos (by omega)
  have hl : 2 ^ k < 2 ^ (k + 1) := Nat.pow_lt_pow_right (by omega) (by omega)
  rw [Nat.add_sub_assoc hp, Nat.testBit_two_pow_mul_add _ (by omega), Nat.testBit_two_pow_sub_one]
theorem low_and {x k q : Nat} (hx : x = 2 ^ (k + 1) * q + 2 ^ k) (h : x < 2 ^ 64) : x &&& (2 ^ 64 - x) = 2 ^ k := by
  have hp : 0 < 2 ^ k := Nat.pow_pos (by omega)
  have hk : k < 64 := by
    rcases Nat.lt_or_ge k 64 with g | g
    · exact g
    · have := Nat.pow_le_pow_right (n := 2) (by omega) g; omega
  apply Nat.eq_of_testBit_eq
  intro i
  rw [Nat.testBit_and, show 2 ^ 64 - x = 2 ^ 64 - ((x - 1) + 1) by omega, Nat.testBit_two_pow_sub_succ (by omega), hx, low_at, low_pred, Nat.testBit_two_pow]
  by_cases h1 : i < k + 1
  · simp only [if_pos h1]
    by_cases h2 : k = i
    · subst h2; simp [hk]
    · simp [h2]
  · simp only [if_neg h1]
    rw [show decide (k = i) = false from decide_eq_false (by omega)]
    cases q.testBit (i - (k + 1)) <;> simp
/-! ### chunks go to the back -/
theorem Ent.back2 {a b c : HProp} {F : List HProp} : Ent (a :: b :: c :: F) (b :: c :: a :: F) := Ent.trans Ent.front1 (Ent.cons _ Ent.front1)
theorem Ent.back3 {a b c d : HProp} {F : List HProp} : Ent (a :: b :: c :: d :: F) (b :: c :: d :: a :: F) := Ent.trans Ent.front1 (Ent.cons _ Ent.back2)
theorem Ent.back4 {a b c d e : HProp} {F : List HProp} : Ent (a :: b :: c :: d :: e :: F) (b :: c :: d :: e :: a :: F) := Ent.trans Ent.front1 (Ent.cons _ Ent.back3)
section
variable {P : Program} {T : Tbl} {w0 : World} {n : Nat} {HL : Held} {ops : Array Oper} {J : Env → List HProp → Prop} {ix : Nat} {rest : List Oper} {o : Oper} {e : Env} {H : List HProp}
/-- 'm[k]' of a key that is there. -/
theorem XO.lookupS {κ : Type} [DecidableEq κ] {D : TypeDesc} {kv : κ → Value} {t kt vt : TypeId} {x y : Operand} {b : Nat} {k : κ} {es : List (κ × Value)} {z v : Value} {d : Nat} (hm : mget es k = some v) (hK : KeyOk D kv) (hT : T.Ok P) (hh : heldAt HL ix = none) (hg : wantedE ops e n o = true) (hd : o.dst = some d) (hop : o.op = .lookup t x y false) (hu : T.und t = some (.map kt vt)) (hkd : T.und kt = some D) (hz : T.zero vt = some z)
    (hx : e.ev n x = .map (some b)) (hy : e.ev n y = kv k) (hr : ∀ w, Rel w0 H w → ∃ F', Rel w0 (mapc b kv es :: F') w)
    (h : XO P T w0 n HL ops J (ix + 1) rest (e.upd d v) H) : XO P T w0 n HL ops J ix (o :: rest) e H :=
  .lookup1 hK hT hh hg hd hop hu hkd hz hx hy hr (by rw [hm]; exact h)
end
end Go.Sx
