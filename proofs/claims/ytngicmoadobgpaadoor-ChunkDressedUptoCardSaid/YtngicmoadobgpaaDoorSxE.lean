/- More rules: int's sums within their bounds, lengths, indexes, loops by a measure. Conditions: the table 'T' fits the program. -/
import Derived.Test.YtngicmoadobgpaaDoorSxD
namespace Go.Sx
open Go Go.RowKit

theorem wrap64_id {z : Int} (h1 : -9223372036854775808 ≤ z) (h2 : z ≤ 9223372036854775807) : IntKind.i64.wrap z = z := by
  rw [IntKind.wrap_i64]; omega

/-- Slots that hold what is said. -/
def Slots (e : Env) : List (Nat × Value) → Prop
  | [] => True
  | p :: l => e p.1 = p.2 ∧ Slots e l
def Env.ups (e : Env) : List (Nat × Value) → Env
  | [] => e
  | p :: l => (Env.ups e l).upd p.1 p.2
theorem ups_self {e : Env} : ∀ {l : List (Nat × Value)}, Slots e l → e.ups l = e
  | [], _ => rfl
  | p :: l, ⟨h1, h2⟩ => by simp only [Env.ups, ups_self h2]; exact Env.upd_self e p.1 p.2 h1

section
variable {P : Program} {T : Tbl} {w0 : World} {n : Nat} {HL : Held} {ops : Array Oper} {J : Env → List HProp → Prop} {ix : Nat} {rest : List Oper} {o : Oper} {e : Env} {H : List HProp}

theorem XO.anyOp {v : Value} (hh : heldAt HL ix = none) (hg : wantedE ops e n o = true) (hc : cls T o.op ≠ .eff) (hv : ∀ w, (execOp (e.ev n) o).run P w = .ok (.value v) w) (h : XO P T w0 n HL ops J (ix + 1) rest (e.put o.dst v) H) : XO P T w0 n HL ops J ix (o :: rest) e H :=
  .valOp hh hg hc hv h

theorem XO.i64 {x y : Operand} {t t' : TypeId} {op : BinOp} {a b z : Int} {d : Nat} (hT : T.Ok P) (hh : heldAt HL ix = none) (hg : wantedE ops e n o = true) (hd : o.dst = some d) (hop : o.op = .binOp op t x y t') (hx : e.ev n x = .int .i64 a) (hy : e.ev n y = .int .i64 b)
    (hz : binI op .i64 a b = some (.int .i64 (IntKind.i64.wrap z))) (hs : isShift op = false) (h1 : -9223372036854775808 ≤ z) (h2 : z ≤ 9223372036854775807) (h : XO P T w0 n HL ops J (ix + 1) rest (e.upd d (.int .i64 z)) H) : XO P T w0 n HL ops J ix (o :: rest) e H := by
  refine .p hT hh hg hd (v := .int .i64 z) ?_ h
  rw [hop]
  simp only [pev, hx, hy, binV, hs, cond_false, sameKind, cond_true, hz, wrap64_id h1 h2]

theorem XO.add64 {x y : Operand} {t t' : TypeId} {a b : Int} {d : Nat} (hT : T.Ok P) (hh : heldAt HL ix = none) (hg : wantedE ops e n o = true) (hd : o.dst = some d) (hop : o.op = .binOp .add t x y t') (hx : e.ev n x = .int .i64 a) (hy : e.ev n y = .int .i64 b)
    (h1 : -9223372036854775808 ≤ a + b) (h2 : a + b ≤ 9223372036854775807) (h : XO P T w0 n HL ops J (ix + 1) rest (e.upd d (.int .i64 (a + b))) H) : XO P T w0 n HL ops J ix (o :: rest) e H := .i64 hT hh hg hd hop hx hy rfl rfl h1 h2 h
theorem XO.sub64 {x y : Operand} {t t' : TypeId} {a b : Int} {d : Nat} (hT : T.Ok P) (hh : heldAt HL ix = none) (hg : wantedE ops e n o = true) (hd : o.dst = some d) (hop : o.op = .binOp .sub t x y t') (hx : e.ev n x = .int .i64 a) (hy : e.ev n y = .int .i64 b)
    (h1 : -9223372036854775808 ≤ a - b) (h2 : a - b ≤ 9223372036854775807) (h : XO P T w0 n HL ops J (ix + 1) rest (e.upd d (.int .i64 (a - b))) H) : XO P T w0 n HL ops J ix (o :: rest) e H := .i64 hT hh hg hd hop hx hy rfl rfl h1 h2 h
theorem XO.mul64 {x y : Operand} {t t' : TypeId} {a b : Int} {d : Nat} (hT : T.Ok P) (hh : heldAt HL ix = none) (hg : wantedE ops e n o = true) (hd : o.dst = some d) (hop : o.op = .binOp .mul t x y t') (hx : e.ev n x = .int .i64 a) (hy : e.ev n y = .int .i64 b)
    (h1 : -9223372036854775808 ≤ a * b) (h2 : a * b ≤ 9223372036854775807) (h : XO P T w0 n HL ops J (ix + 1) rest (e.upd d (.int .i64 (a * b))) H) : XO P T w0 n HL ops J ix (o :: rest) e H := .i64 hT hh hg hd hop hx hy rfl rfl h1 h2 h

/-- What a comparison of numbers says where it is true, and where it is false. -/
def cmpTF (op : BinOp) (a b : Int) : Option (Prop × Prop) :=
  match op with
  | .eql => some (a = b, a ≠ b)
  | .neq => some (a ≠ b, a = b)
  | .lss => some (a < b, b ≤ a)
  | .leq => some (a ≤ b, b < a)
  | .gtr => some (b < a, a ≤ b)
  | .geq => some (b ≤ a, a < b)
  | _ => none
theorem XO.cmpI {x y : Operand} {t t' : TypeId} {op : BinOp} {a b : Int} {k : IntKind} {p q : Prop} {d : Nat} (hT : T.Ok P) (hh : heldAt HL ix = none) (hg : wantedE ops e n o = true) (hd : o.dst = some d) (hop : o.op = .binOp op t x y t') (hc : cmpTF op a b = some (p, q)) (hx : e.ev n x = .int k a) (hy : e.ev n y = .int k b)
    (h1 : p → XO P T w0 n HL ops J (ix + 1) rest (e.upd d (.bool true)) H) (h2 : q → XO P T w0 n HL ops J (ix + 1) rest (e.upd d (.bool false)) H) : XO P T w0 n HL ops J ix (o :: rest) e H := by
  have hk : sameKind k k = true := by cases k <;> rfl
  have key : ∀ c : Bool, binI op k a b = some (.bool c) → isShift op = false → (if c then XO P T w0 n HL ops J (ix + 1) rest (e.upd d (.bool true)) H else XO P T w0 n HL ops J (ix + 1) rest (e.upd d (.bool false)) H) → XO P T w0 n HL ops J ix (o :: rest) e H := by
    intro c hb hs hif
    refine .p (v := .bool c) hT hh hg hd ?_ (by cases c <;> exact hif)
    rw [hop]
    simp only [pev, hx, hy, binV, hs, cond_false, hk, cond_true, hb]
  cases op <;> simp only [cmpTF] at hc <;> (first | (cases hc; done) | skip)
  all_goals
    (injection hc with hc
     injection hc with hp hq
     subst hp; subst hq
     refine key _ rfl rfl ?_
     split
     · rename_i hh; simp at hh; exact h1 hh
     · rename_i hh; simp at hh; exact h2 hh)
theorem XO.pT {x y : Operand} {t t' : TypeId} {op : BinOp} {d : Nat} (hT : T.Ok P) (hh : heldAt HL ix = none) (hg : wantedE ops e n o = true) (hd : o.dst = some d) (hop : o.op = .binOp op t x y t') (hv : binV T op t (e.ev n x) (e.ev n y) = some (.bool true))
    (h : XO P T w0 n HL ops J (ix + 1) rest (e.upd d (.bool true)) H) : XO P T w0 n HL ops J ix (o :: rest) e H := .p hT hh hg hd (by rw [hop]; exact hv) h
theorem XO.pF {x y : Operand} {t t' : TypeId} {op : BinOp} {d : Nat} (hT : T.Ok P) (hh : heldAt HL ix = none) (hg : wantedE ops e n o = true) (hd : o.dst = some d) (hop : o.op = .binOp op t x y t') (hv : binV T op t (e.ev n x) (e.ev n y) = some (.bool false))
    (h : XO P T w0 n HL ops J (ix + 1) rest (e.upd d (.bool false)) H) : XO P T w0 n HL ops J ix (o :: rest) e H := .p hT hh hg hd (by rw [hop]; exact hv) h

def isBin : Op → Bool
  | .binOp .. => true
  | .convert .. => true
  | .unOp .neg .. => true
  | _ => false
/-- What is no operator. -/
theorem XO.q {v : Value} {d : Nat} (hT : T.Ok P) (hh : heldAt HL ix = none) (_hb : isBin o.op = false) (hg : wantedE ops e n o = true) (hd : o.dst = some d) (hv : pev T (e.ev n) o.op = some v) (h : XO P T w0 n HL ops J (ix + 1) rest (e.upd d v) H) : XO P T w0 n HL ops J ix (o :: rest) e H := .p hT hh hg hd hv h
/-- A number is given a name. -/
theorem XO.pN {x y : Operand} {t t' : TypeId} {op : BinOp} {k : IntKind} {z0 : Int} {d : Nat} (hT : T.Ok P) (hh : heldAt HL ix = none) (hg : wantedE ops e n o = true) (hd : o.dst = some d) (hop : o.op = .binOp op t x y t') (hv : binV T op t (e.ev n x) (e.ev n y) = some (.int k z0))
    (h : ∀ z, z = z0 → XO P T w0 n HL ops J (ix + 1) rest (e.upd d (.int k z)) H) : XO P T w0 n HL ops J ix (o :: rest) e H := .p hT hh hg hd (by rw [hop]; exact hv) (h _ rfl)

/-- A quotient by a constant above 0. -/
theorem XO.quo64 {x y : Operand} {t t' : TypeId} {a b : Int} {d : Nat} (hg : wantedE ops e n o = true) (hd : o.dst = some d) (hop : o.op = .binOp .quo t x y t') (hx : e.ev n x = .int .i64 a) (hy : e.ev n y = .int .i64 b)
    (h0 : 0 ≤ a) (h1 : 0 < b) (h2 : a ≤ 9223372036854775807) (h : XO P T w0 n HL ops J (ix + 1) rest (e.upd d (.int .i64 (a / b))) H) : XO P T w0 n HL ops J ix (o :: rest) e H := by
  refine .pureOp (v := .int .i64 (a / b)) hg (by rw [hop]; rfl) (fun w => ?_) (by rw [hd]; exact h)
  have hq : a.tdiv b = a / b := Int.tdiv_eq_ediv_of_nonneg h0
  have h3 : 0 ≤ a / b := Int.ediv_nonneg h0 (by omega)
  have h4 : a / b ≤ a := Int.ediv_le_self b h0
  have hb : b ≠ 0 := by omega
  have hw : IntKind.i64.wrap (a / b) = a / b := wrap64_id (by omega) (by omega)
  simp only [execOp, hop, hx, hy, Sem.run_bind, eqGuard_plain BinOp.quo t x y (.int .i64 a) (.int .i64 b) (by simp) (by simp), Result.andThen_ok]
  simp [binOp, Op.intDiv, hb, hq, hw]
theorem XO.rem64 {x y : Operand} {t t' : TypeId} {a b : Int} {d : Nat} (hg : wantedE ops e n o = true) (hd : o.dst = some d) (hop : o.op = .binOp .rem t x y t') (hx : e.ev n x = .int .i64 a) (hy : e.ev n y = .int .i64 b)
    (h0 : 0 ≤ a) (h1 : 0 < b) (h : XO P T w0 n HL ops J (ix + 1) rest (e.upd d (.int .i64 (a % b))) H) : XO P T w0 n HL ops J ix (o :: rest) e H := by
  refine .pureOp (v := .int .i64 (a % b)) hg (by rw [hop]; rfl) (fun w => ?_) (by rw [hd]; exact h)
  have hq : a.tmod b = a % b := Int.tmod_eq_emod_of_nonneg h0
  have hb : b ≠ 0 := by omega
  simp only [execOp, hop, hx, hy, Sem.run_bind, eqGuard_plain BinOp.rem t x y (.int .i64 a) (.int .i64 b) (by simp) (by simp), Result.andThen_ok]
  simp [binOp, Op.intDiv, hb, hq]

/-- 'len' of a slice. -/
theorem XO.lenSlice {x : Operand} {t : TypeId} {a : Option Addr} {k c : Nat} {d : Nat} {u : TypeId} (hT : T.Ok P) (hh : heldAt HL ix = none) (hg : wantedE ops e n o = true) (hd : o.dst = some d) (hop : o.op = .call { callee := .builtin .len, args := #[x], argTypes := #[t] }) (hu : T.und t = some (.slice u))
    (hx : e.ev n x = .slice a k c) (h : XO P T w0 n HL ops J (ix + 1) rest (e.upd d (.int .i64 k)) H) : XO P T w0 n HL ops J ix (o :: rest) e H := by
  refine .anyOp (v := .int .i64 k) hh hg (by rw [hop]; simp only [cls]; split <;> simp) (fun w => ?_) (by rw [hd]; exact h)
  simp [execOp, hop, resolve, invoke, builtin, Builtin.len_, run_und hT hu, hx, goInt]
theorem XO.lenString {x : Operand} {t : TypeId} {s : ByteArray} {d : Nat} (hT : T.Ok P) (hh : heldAt HL ix = none) (hg : wantedE ops e n o = true) (hd : o.dst = some d) (hop : o.op = .call { callee := .builtin .len, args := #[x], argTypes := #[t] }) (hu : T.und t = some .string)
    (hx : e.ev n x = .string s) (h : XO P T w0 n HL ops J (ix + 1) rest (e.upd d (.int .i64 s.size)) H) : XO P T w0 n HL ops J ix (o :: rest) e H := by
  refine .anyOp (v := .int .i64 s.size) hh hg (by rw [hop]; simp only [cls]; split <;> simp) (fun w => ?_) (by rw [hd]; exact h)
  simp [execOp, hop, resolve, invoke, builtin, Builtin.len_, run_und hT hu, hx, goInt]

/-- The byte of a string at a place. -/
def byteAt (s : ByteArray) (i : Nat) : UInt8 := s.data.toList.getD i 0
theorem XO.indexStr {x y : Operand} {t : TypeId} {s : ByteArray} {k : IntKind} {z : Int} {d : Nat} (hT : T.Ok P) (hg : wantedE ops e n o = true) (hd : o.dst = some d) (hop : o.op = .index t x y) (hu : T.und t = some .string)
    (hx : e.ev n x = .string s) (hy : e.ev n y = .int k z) (h0 : 0 ≤ z) (h1 : z < s.size) (h : XO P T w0 n HL ops J (ix + 1) rest (e.upd d (.int .u8 (byteAt s z.toNat).toNat)) H) : XO P T w0 n HL ops J ix (o :: rest) e H := by
  refine .pureOp (v := .int .u8 (byteAt s z.toNat).toNat) hg (by rw [hop]; rfl) (fun w => ?_) (by rw [hd]; exact h)
  have hlt : z.toNat < s.size := by omega
  have hb : s[z.toNat]? = some (byteAt s z.toNat) := by
    have hsz : s.data.toList.length = s.size := rfl
    have e1 : s[z.toNat]? = some s[z.toNat] := getElem?_pos s z.toNat hlt
    rw [e1]
    have e2 : s[z.toNat] = s.data.toList[z.toNat]'(by omega) := rfl
    rw [e2]
    simp [byteAt, List.getD, List.getElem?_eq_getElem (show z.toNat < s.data.toList.length by omega)]
  simp only [execOp, hop, Instr.index, Sem.run_bind, run_und hT hu, hx, hy, asIntOf, Sem.run_pure, Result.andThen_ok, if_pos h0, hb]

/-- The place of an element of a slice. -/
theorem XO.indexAddr {x y : Operand} {t u : TypeId} {b off len c s : Nat} {k : IntKind} {z : Int} {d : Nat} (hT : T.Ok P) (hg : wantedE ops e n o = true) (hd : o.dst = some d) (hop : o.op = .indexAddr t x y) (hu : T.und t = some (.slice u)) (hs : T.size u = some s)
    (hx : e.ev n x = .slice (some ⟨b, off, none⟩) len c) (hy : e.ev n y = .int k z) (h0 : 0 ≤ z) (h1 : z < len) (h : XO P T w0 n HL ops J (ix + 1) rest (e.upd d (.pointer (some ⟨b, off + z.toNat * s, none⟩))) H) : XO P T w0 n HL ops J ix (o :: rest) e H := by
  refine .pureOp (v := .pointer (some ⟨b, off + z.toNat * s, none⟩)) hg (by rw [hop]; rfl) (fun w => ?_) (by rw [hd]; exact h)
  simp [execOp, hop, Instr.indexAt, run_und hT hu, run_size hT hs, hx, hy, asIntOf, h0, h1, Addr.add_mk]

/-! ### loops -/
section
variable {b : Frame} {R : Value → List HProp → Prop} {k : List Item}
theorem XS.loopI {c : Code} {ι : Type} (l : ι → List (Nat × Value)) (Hf : ι → List HProp) (pre : ι → Prop) (μ : ι → Nat) (x0 : ι) (hx : pre x0) (he : Slots e (l x0)) (hH : Ent H (Hf x0))
    (step : ∀ x (e' : Env), pre x → (∀ x' (e'' : Env) H'', pre x' → μ x' < μ x → Slots e'' (l x') → Ent H'' (Hf x') → XS P w0 b n R (.inLoop c :: k) e'' H'') → XS P w0 b n R (.code c :: .inLoop c :: k) (e'.ups (l x)) (Hf x)) :
    XS P w0 b n R (.code (.loop c) :: k) e H := by
  have key : ∀ N x (e' : Env), μ x < N → pre x → XS P w0 b n R (.code c :: .inLoop c :: k) (e'.ups (l x)) (Hf x) := by
    intro N
    induction N with
    | zero => intro x e' h _; omega
    | succ N ih =>
      intro x e' hN hp
      refine step x e' hp (fun x' e'' H'' hp' hm hs hE => .inLoop ?_)
      have := ih x' e'' (by omega) hp'
      rw [ups_self hs] at this
      exact this.ent hE
  have := key (μ x0 + 1) x0 e (by omega) hx
  rw [ups_self he] at this
  exact .loop (this.ent hH)
/-- What stands behind a piece of code, told once for all the ways that come to it. -/
theorem XS.fix (l : List (Nat × Value)) (he : Slots e l) (h : XS P w0 b n R k (e.ups l) H) : XS P w0 b n R k e H := by rw [ups_self he] at h; exact h
end
end
end Go.Sx
