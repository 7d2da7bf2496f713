/- What an operation that hangs on no memory comes to, by a function ('pev'). Conditions: the table 'T' fits the program. -/
import Derived.Test.YtngicmoadobgpaaDoorSxB
import Derived.Laws.Build
import Derived.WalkKit
namespace Go.Sx
open Go Go.RowKit

structure Tbl.Ok (P : Program) (T : Tbl) : Prop where
  und : ∀ t d, T.und t = some d → P.underlying t = some d
  size : ∀ t s, T.size t = some s → ∃ i, P.info? t = some i ∧ i.size = s
  bytes : ∀ t s, T.bytes t = some s → ∃ i, P.info? t = some i ∧ i.bytes = s
  zero : ∀ t z, T.zero t = some z → ∃ i, P.info? t = some i ∧ i.zero = some z
  off : ∀ t f k, T.off t f = some k → ∃ fs fd i, P.underlying t = some (.struct fs) ∧ fs[f]? = some fd ∧ fd.offset = k ∧ P.info? fd.type = some i ∧ i.size ≠ 0

def binI (op : BinOp) (k : IntKind) (a b : Int) : Option Value :=
  match op with
  | .add => some (.int k (k.wrap (a + b)))
  | .sub => some (.int k (k.wrap (a - b)))
  | .mul => some (.int k (k.wrap (a * b)))
  | .and => some (.int k (k.wrap ((BitVec.ofInt k.bits a &&& BitVec.ofInt k.bits b).toNat)))
  | .or => some (.int k (k.wrap ((BitVec.ofInt k.bits a ||| BitVec.ofInt k.bits b).toNat)))
  | .xor => some (.int k (k.wrap ((BitVec.ofInt k.bits a ^^^ BitVec.ofInt k.bits b).toNat)))
  | .andNot => some (.int k (k.wrap ((BitVec.ofInt k.bits a &&& ~~~BitVec.ofInt k.bits b).toNat)))
  | .eql => some (.bool (a == b))
  | .neq => some (.bool (a != b))
  | .lss => some (.bool (a < b))
  | .leq => some (.bool (a ≤ b))
  | .gtr => some (.bool (a > b))
  | .geq => some (.bool (a ≥ b))
  | _ => none

def binS (op : BinOp) (x y : ByteArray) : Option Value :=
  match op with
  | .eql => some (.bool (x.toList == y.toList))
  | .neq => some (.bool (!(x.toList == y.toList)))
  | .lss => some (.bool (Op.bytesLess x.toList y.toList))
  | .leq => some (.bool (Op.bytesLess x.toList y.toList || x.toList == y.toList))
  | .gtr => some (.bool (!(Op.bytesLess x.toList y.toList || x.toList == y.toList)))
  | .geq => some (.bool (!Op.bytesLess x.toList y.toList))
  | _ => none

/-- '==' where it reads no memory. -/
def eqv (T : Tbl) (t : TypeId) (x y : Value) : Option Bool :=
  match x, y with
  | .bool a, .bool b => match T.und t with | some .bool => some (a == b) | _ => none
  | .pointer none, .pointer b => match T.und t with | some (.pointer _) => some b.isNone | _ => none
  | .pointer (some _), .pointer none => match T.und t with | some (.pointer _) => some false | _ => none
  | .slice none _ _, .slice b _ _ => match T.und t with | some (.slice _) => some b.isNone | _ => none
  | .slice (some _) _ _, .slice none _ _ => match T.und t with | some (.slice _) => some false | _ => none
  | .map none, .map b => match T.und t with | some (.map _ _) => some b.isNone | _ => none
  | .map (some _), .map none => match T.und t with | some (.map _ _) => some false | _ => none
  | _, _ => none

def shf (op : BinOp) (k : IntKind) (a : Int) (m : Nat) : Option Value :=
  match op with
  | .shl => some (.int k (k.wrap (a * 2 ^ min m k.bits)))
  | .shr => some (.int k (a.fdiv (2 ^ min m k.bits)))
  | _ => none

def sameKind : IntKind → IntKind → Bool
  | .i8, .i8 | .i16, .i16 | .i32, .i32 | .i64, .i64 | .u8, .u8 | .u16, .u16 | .u32, .u32 | .u64, .u64 => true
  | _, _ => false
theorem sameKind_eq {k k' : IntKind} (h : sameKind k k' = true) : k = k' := by cases k <;> cases k' <;> first | rfl | cases h

def isShift : BinOp → Bool
  | .shl | .shr => true
  | _ => false

def binV (T : Tbl) (op : BinOp) (t : TypeId) (x y : Value) : Option Value :=
  match x, y with
  | .int k a, .int k' b => bif isShift op then (match b with | .ofNat m => shf op k a m | _ => none) else bif sameKind k k' then binI op k a b else none
  | .string a, .string b => binS op a b
  | x, y => match op with
    | .eql => (eqv T t x y).map .bool
    | .neq => (eqv T t x y).map fun b => .bool !b
    | _ => none

def partT (T : Tbl) (t : TypeId) (cs : Array Value) (off : Nat) : Option Value :=
  match T.und t with
  | some (.struct _) | some (.array _ _) => (T.size t).map fun s => .agg (cs.extract off (off + s))
  | some _ => cs[off]?
  | none => none

/-- The same value, its head in sight. -/
def Hd (v : Value) : Option Value :=
  match v with
  | .bool b => some (.bool b)
  | .int k n => some (.int k n)
  | .float k n => some (.float k n)
  | .complex k a b => some (.complex k a b)
  | .string s => some (.string s)
  | .pointer a => some (.pointer a)
  | .slice a l c => some (.slice a l c)
  | .map r => some (.map r)
  | .chan r => some (.chan r)
  | .func f a b => some (.func f a b)
  | .nilFunc => some .nilFunc
  | .iface t v => some (.iface t v)
  | .nilIface => some .nilIface
  | .agg cs => some (.agg cs)
  | .tuple vs => some (.tuple vs)
theorem Hd_eq (v : Value) : Hd v = some v := by cases v <;> rfl

def pev (T : Tbl) (ev : Operand → Value) : Op → Option Value
  | .move x => Hd (ev x)
  | .assign x => Hd (ev x)
  | .pick c a b => match ev c with | .bool true => Hd (ev a) | .bool false => Hd (ev b) | _ => none
  | .nilCheck x => match ev x with
    | .pointer (some a) => some (.pointer (some a))
    | .func (.func f) a b => some (.func (.func f) a b)
    | _ => none
  | .binOp op t x y _ => binV T op t (ev x) (ev y)
  | .unOp op _ x => match op, ev x with
    | .not, .bool b => some (.bool !b)
    | .neg, .int k n => some (.int k (k.wrap (0 - n)))
    | _, _ => none
  | .convert src dst x => match T.und src, T.und dst, ev x with
    | some (.int _), some (.int k), .int _ n => some (.int k (k.wrap n))
    | some .string, some .string, .string s => some (.string s)
    | _, _, _ => none
  | .fieldAddr s x f => match T.off s f, ev x with
    | some k, .pointer (some ⟨b, off, none⟩) => some (.pointer (some ⟨b, off + k, none⟩))
    | _, _ => none
  | .field t x f => match T.und t, ev x with
    | some (.struct fs), .agg cs => match fs[f]? with
      | some fd => partT T fd.type cs fd.offset
      | none => none
    | _, _ => none
  | .extract x i => match ev x with | .tuple vs => (vs.toList[i]?).bind Hd | _ => none
  | .makeFunc fn first captured => some (.func fn ⟨first.toList.map ev⟩ ⟨captured.toList.map ev⟩)
  | .makeInterface t x => match T.und t with
    | some (.interface _) => none
    | some _ => some (.iface t (ev x))
    | none => none
  | _ => none

theorem pev_cls {T : Tbl} {ev : Operand → Value} {op : Op} {v : Value} (h : pev T ev op = some v) : cls T op ≠ .eff := by
  cases op <;> first | (simp [cls]; done) | (simp [pev] at h; done) | skip
  case binOp op t x y t' => cases op <;> simp [cls] <;> split <;> simp
  case convert s d x =>
    simp only [pev] at h
    simp only [cls]
    split at h
    · rename_i h1 h2 h3; rw [h1, h2]; split <;> simp_all
    · rename_i h1 h2 h3; rw [h1, h2]; simp
    · cases h

section
variable {P : Program} {T : Tbl}

theorem run_und (hT : T.Ok P) {t : TypeId} {d : TypeDesc} (h : T.und t = some d) (w : World) : (underlying t).run P w = .ok d w := by
  simp [underlying, hT.und t d h]
theorem run_size (hT : T.Ok P) {t : TypeId} {s : Nat} (h : T.size t = some s) (w : World) : (sizeOf t).run P w = .ok s w := by
  obtain ⟨i, hi, hs⟩ := hT.size t s h
  simp [sizeOf, typeInfo, hi, hs]
theorem run_zero (hT : T.Ok P) {t : TypeId} {z : Value} (h : T.zero t = some z) (w : World) : (zeroValue t).run P w = .ok z w := by
  obtain ⟨i, hi, hs⟩ := hT.zero t z h
  simp [zeroValue, typeInfo, hi, hs]

theorem binI_sound {op : BinOp} {k : IntKind} {a b : Int} {v : Value} (t : TypeId) (h : binI op k a b = some v) (w : World) : (binOp op t (.int k a) (.int k b)).run P w = .ok v w := by
  cases op <;> simp only [binI] at h <;> (first | (cases h; done) | (injection h with h; subst h; simp [binOp, Op.intArith, Op.intBits, Op.intCmp]))

theorem binS_sound {op : BinOp} {a b : ByteArray} {v : Value} (t : TypeId) (h : binS op a b = some v) (w : World) : (binOp op t (.string a) (.string b)).run P w = .ok v w := by
  cases op <;> simp only [binS] at h <;> (first | (cases h; done) | (injection h with h; subst h; simp [binOp, Op.stringOp]))

theorem eqvIn_sound (hT : T.Ok P) (d : Nat) {t : TypeId} {x y : Value} {b : Bool} (h : eqv T t x y = some b) (w : World) : (Op.equalIn (d + 1) t x y).run P w = .ok b w := by
  unfold eqv at h
  split at h
  all_goals (first | (cases h; done) | skip)
  all_goals
    (split at h
     · rename_i hu
       injection h with h; subst h
       simp [Op.equalIn, run_und hT hu]
     · cases h)

theorem eqv_sound (hT : T.Ok P) {t : TypeId} {x y : Value} {b : Bool} (h : eqv T t x y = some b) (w : World) : (Op.equal t x y).run P w = .ok b w := by
  unfold Op.equal Op.maxDepth
  exact eqvIn_sound hT 9999 h w

theorem eqGuard_plain (op : BinOp) (t : TypeId) (x y : Operand) (a b : Value) (h1 : a ≠ .nilIface) (h2 : ∀ cs, a ≠ .agg cs) (w : World) : (eqGuard op t x y a b).run P w = .ok () w := by
  cases a <;> first | exact absurd rfl h1 | exact absurd rfl (h2 _) | (cases op <;> rfl)

theorem binV_sound (hT : T.Ok P) {op : BinOp} {t : TypeId} {x y : Value} {v : Value} (h : binV T op t x y = some v) (ox oy : Operand) (w : World) :
    (do eqGuard op t ox oy x y; binOp op t x y : Sem Value).run P w = .ok v w := by
  have hg : (eqGuard op t ox oy x y).run P w = .ok () w := by
    refine eqGuard_plain op t ox oy x y ?_ ?_ w
    · rintro rfl; simp only [binV, eqv] at h; cases op <;> simp at h
    · rintro cs rfl; simp only [binV, eqv] at h; cases op <;> simp at h
  rw [Sem.run_bind, hg, Result.andThen_ok]
  unfold binV at h
  split at h
  · rename_i k a k' b
    cases hs : isShift op with
    | true =>
      rw [hs] at h
      simp only [cond_true] at h
      split at h
      · rename_i m
        cases op <;> simp only [shf] at h <;> (first | (cases h; done) | skip)
        all_goals
          (injection h with h; subst h
           simp only [binOp, Op.shift]
           rw [if_neg (by simp)]
           simp)
      · cases h
    | false =>
      rw [hs] at h
      simp only [cond_false] at h
      cases hk : sameKind k k' with
      | true =>
        rw [hk] at h
        have := sameKind_eq hk
        subst this
        exact binI_sound t h w
      | false => rw [hk] at h; cases h
  · exact binS_sound t h w
  · rename_i h1 h2
    cases op <;> simp only at h <;> (first | (cases h; done) | skip)
    · simp only [Option.map_eq_some_iff] at h
      obtain ⟨c, hc, rfl⟩ := h
      have := eqv_sound hT hc w
      unfold binOp
      unfold eqv at hc
      split at hc <;> (first | (cases hc; done) | simp [this])
    · simp only [Option.map_eq_some_iff] at h
      obtain ⟨c, hc, rfl⟩ := h
      have := eqv_sound hT hc w
      unfold binOp
      unfold eqv at hc
      split at hc <;> (first | (cases hc; done) | simp [this])

theorem partT_sound (hT : T.Ok P) {t : TypeId} {cs : Array Value} {off : Nat} {v : Value} (h : partT T t cs off = some v) (w : World) : (part t cs off).run P w = .ok v w := by
  unfold partT at h
  split at h
  · rename_i hu
    simp only [Option.map_eq_some_iff] at h
    obtain ⟨s, hs, rfl⟩ := h
    simp [part, isAgg, run_und hT hu, run_size hT hs]
  · rename_i hu
    simp only [Option.map_eq_some_iff] at h
    obtain ⟨s, hs, rfl⟩ := h
    simp [part, isAgg, run_und hT hu, run_size hT hs]
  · rename_i d h1 h2 hu
    have : (isAgg t).run P w = .ok false w := by
      simp only [isAgg, Sem.run_bind, run_und hT hu, Result.andThen_ok]
      cases d <;> first | rfl | (exact absurd rfl (h1 _)) | (exact absurd rfl (h2 _ _))
    simp [part, this, h]
  · cases h

theorem pev_sound (hT : T.Ok P) {ev : Operand → Value} {o : Oper} {v : Value} (h : pev T ev o.op = some v) (w : World) : (execOp ev o).run P w = .ok (.value v) w := by
  obtain ⟨dst, op, type, pos, after, guard⟩ := o
  simp only at h
  cases op <;> simp only [pev] at h <;> (first | (cases h; done) | skip)
  case move x => rw [Hd_eq] at h; injection h with h; subst h; rfl
  case assign x => rw [Hd_eq] at h; injection h with h; subst h; rfl
  case pick c a b =>
    split at h
    · rename_i hc; rw [Hd_eq] at h; injection h with h; subst h; simp [execOp, hc, asBool]
    · rename_i hc; rw [Hd_eq] at h; injection h with h; subst h; simp [execOp, hc, asBool]
    · cases h
  case nilCheck x =>
    split at h
    · rename_i hc; injection h with h; subst h; simp [execOp, hc]
    · rename_i hc; injection h with h; subst h; simp [execOp, hc]
    · cases h
  case binOp op t x y yt =>
    have := binV_sound (P := P) hT h x y w
    simp only [execOp]
    rw [Sem.run_bind, this]
    rfl
  case unOp op t x =>
    split at h
    · rename_i hc; injection h with h; subst h; simp [execOp, hc, Op.unary]
    · rename_i hc; injection h with h; subst h; simp [execOp, hc, Op.unary, Op.intArith]
    · cases h
  case convert src dst x =>
    split at h
    · rename_i h1 h2 h3; injection h with h; subst h; simp [execOp, convert, run_und hT h1, run_und hT h2, h3, Conv.intToInt]
    · rename_i h1 h2 h3; injection h with h; subst h; simp [execOp, convert, run_und hT h1, run_und hT h2, h3]
    · cases h
  case fieldAddr s x f =>
    split at h
    · rename_i k b off h1 h2
      injection h with h; subst h
      obtain ⟨fs, fd, i, h3, h4, rfl, h5, h6⟩ := hT.off s f k h1
      have hadd : (⟨b, off, none⟩ : Addr).add fd.offset = ⟨b, off + fd.offset, none⟩ := by unfold Addr.add; split <;> simp_all
      simp [execOp, Instr.fieldAt, underlying, h3, h2, h4, Instr.sureAddr, fieldPlace, sizeOf, typeInfo, h5, h6, hadd]
    · cases h
  case field t x f =>
    split at h
    · rename_i h1 h2
      split at h
      · rename_i fd h3
        have := partT_sound hT h w
        simp [execOp, Instr.field, run_und hT h1, h2, h3, asAgg, this]
      · cases h
    · cases h
  case extract x i =>
    split at h
    · rename_i vs h1
      cases hu : vs.toList[i]? with
      | none => rw [hu] at h; cases h
      | some u =>
        rw [hu] at h
        simp only [Option.bind_some, Hd_eq] at h
        injection h with h; subst h
        simp at hu
        simp [execOp, Instr.extract, h1, hu]
    · cases h
  case makeFunc fn first captured => injection h with h; subst h; simp [execOp, Instr.makeFunc, ← Array.toList_map]
  case makeInterface t x =>
    split at h
    · cases h
    · rename_i d h1 h2
      injection h with h; subst h
      simp only [execOp, Instr.makeInterface, Sem.run_bind, run_und hT h2, Result.andThen_ok]
      cases d <;> first | rfl | (exact absurd rfl (h1 _))
    · cases h

/-- One operation that hangs on no memory. -/
theorem XO.p {w0 : World} {n : Nat} {HL : Held} {ops : Array Oper} {J : Env → List HProp → Prop} {ix : Nat} {rest : List Oper} {o : Oper} {e : Env} {H : List HProp} {v : Value} (hT : T.Ok P) (hh : heldAt HL ix = none)
    {d : Nat} (hg : wantedE ops e n o = true) (hd : o.dst = some d) (hv : pev T (e.ev n) o.op = some v) (h : XO P T w0 n HL ops J (ix + 1) rest (e.upd d v) H) : XO P T w0 n HL ops J ix (o :: rest) e H :=
  .valOp hh hg (pev_cls hv) (pev_sound hT hv) (by rw [hd]; exact h)
/-- A comparison: both ways. -/
theorem XO.cmp {w0 : World} {n : Nat} {HL : Held} {ops : Array Oper} {J : Env → List HProp → Prop} {ix : Nat} {rest : List Oper} {o : Oper} {e : Env} {H : List HProp} {c : Bool} {d : Nat} {op : BinOp} {t t' : TypeId} {x y : Operand} (hT : T.Ok P) (hh : heldAt HL ix = none)
    (hg : wantedE ops e n o = true) (hd : o.dst = some d) (hop : o.op = .binOp op t x y t') (hv : binV T op t (e.ev n x) (e.ev n y) = some (.bool c)) (h1 : c = true → XO P T w0 n HL ops J (ix + 1) rest (e.upd d (.bool true)) H)
    (h2 : c = false → XO P T w0 n HL ops J (ix + 1) rest (e.upd d (.bool false)) H) : XO P T w0 n HL ops J ix (o :: rest) e H := by
  refine .p (v := .bool c) hT hh hg hd (by rw [hop]; exact hv) ?_
  cases c
  · exact h2 rfl
  · exact h1 rfl
/-- An operation that isn't carried out. -/
theorem XO.no {w0 : World} {n : Nat} {HL : Held} {ops : Array Oper} {J : Env → List HProp → Prop} {ix : Nat} {rest : List Oper} {o : Oper} {e : Env} {H : List HProp} {d : Nat} (hg : wantedE ops e n o = false) (hd : o.dst = some d)
    (h : XO P T w0 n HL ops J (ix + 1) rest (e.upd d undef) H) : XO P T w0 n HL ops J ix (o :: rest) e H :=
  .skip hg (by rw [hd]; exact h)
end
end Go.Sx
