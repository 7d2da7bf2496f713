/- The dice's numbers, as they are reckoned: mixing, hashing, the upper half of a product. Conditions: none. -/
import Derived.IntWalk
import Derived.WalkKit
namespace Go.DiceM
open Go

def U : Int := 18446744073709551616
def xorI (a b : Int) : Int := IntKind.u64.wrap ((BitVec.ofInt 64 a ^^^ BitVec.ofInt 64 b).toNat)
def andI (a b : Int) : Int := IntKind.u64.wrap ((BitVec.ofInt 64 a &&& BitVec.ofInt 64 b).toNat)
def mixI (x : Int) : Int :=
  let a := IntKind.u64.wrap (xorI x (x.fdiv (2 ^ min 30 64)) * 13787848793156543929)
  let b := IntKind.u64.wrap (xorI a (a.fdiv (2 ^ min 27 64)) * 10723151780598845931)
  xorI b (b.fdiv (2 ^ min 31 64))
def stepI (s : Int) : Int := IntKind.u64.wrap (s + 11400714819323198485)
def hstep (h : Int) (c : UInt8) : Int := IntKind.u64.wrap (xorI h (IntKind.u64.wrap c.toNat) * 1099511628211)
def hashI (l : List UInt8) : Int := l.foldl hstep 14695981039346656037

theorem hash_snoc (l : List UInt8) (k : Nat) (h : k < l.length) : hashI (l.take (k + 1)) = hstep (hashI (l.take k)) (l.getD k 0) := by
  rw [List.take_succ_eq_append_getElem h]
  simp only [hashI, List.foldl_append, List.foldl_cons, List.foldl_nil, List.getD, List.getElem?_eq_getElem h, Option.getD_some]
theorem hashI_lt (l : List UInt8) : 0 ≤ hashI l ∧ hashI l < 18446744073709551616 := by
  unfold hashI
  have key : ∀ (l : List UInt8) (a : Int), 0 ≤ a → a < 18446744073709551616 → 0 ≤ l.foldl hstep a ∧ l.foldl hstep a < 18446744073709551616 := by
    intro l
    induction l with
    | nil => intro a h0 h1; exact ⟨h0, h1⟩
    | cons c l ih =>
      intro a _ _
      have hb : 0 ≤ hstep a c ∧ hstep a c < 18446744073709551616 := by unfold hstep; rw [IntKind.wrap_u64]; omega
      exact ih _ hb.1 hb.2
  exact key l _ (by decide) (by decide)

theorem u64_lt (z : Int) : 0 ≤ IntKind.u64.wrap z ∧ IntKind.u64.wrap z < 18446744073709551616 := by rw [IntKind.wrap_u64]; omega
theorem u64_id {z : Int} (h0 : 0 ≤ z) (h1 : z < 18446744073709551616) : IntKind.u64.wrap z = z := by rw [IntKind.wrap_u64]; omega
theorem mixI_lt (x : Int) : 0 ≤ mixI x ∧ mixI x < 18446744073709551616 := u64_lt _

/-! ### the same over words of 64 bits -/
theorem wrapN (n : Nat) : IntKind.u64.wrap (n : Int) = ((BitVec.ofNat 64 n).toNat : Int) := by
  rw [IntKind.wrap_u64, BitVec.toNat_ofNat]; omega
theorem xorI_bv (a b : BitVec 64) : xorI a.toNat b.toNat = ((a ^^^ b).toNat : Int) := by
  unfold xorI
  rw [BitVec.ofInt_natCast, BitVec.ofInt_natCast, BitVec.ofNat_toNat, BitVec.ofNat_toNat, wrapN]
  simp
theorem shr_bv (a : BitVec 64) (k : Nat) (hk : k ≤ 64) : (a.toNat : Int).fdiv (2 ^ min k 64) = ((a >>> k).toNat : Int) := by
  rw [Nat.min_eq_left hk, BitVec.toNat_ushiftRight, Nat.shiftRight_eq_div_pow]
  have e : ((2 : Int) ^ k) = ((2 ^ k : Nat) : Int) := by norm_cast
  rw [e, Int.fdiv_eq_ediv_of_nonneg _ (Int.natCast_nonneg _)]
  norm_cast
theorem mul_bv (a : BitVec 64) (c : Nat) : IntKind.u64.wrap ((a.toNat : Int) * (c : Int)) = ((a * BitVec.ofNat 64 c).toNat : Int) := by
  have e : (a.toNat : Int) * (c : Int) = ((a.toNat * c : Nat) : Int) := by push_cast; rfl
  rw [e, wrapN]
  congr 1
  simp [BitVec.toNat_mul, Nat.mul_mod]
def mixB (x : BitVec 64) : BitVec 64 :=
  let a := (x ^^^ x >>> 30) * BitVec.ofNat 64 13787848793156543929
  let b := (a ^^^ a >>> 27) * BitVec.ofNat 64 10723151780598845931
  b ^^^ b >>> 31
theorem mixI_bv (x : BitVec 64) : mixI x.toNat = ((mixB x).toNat : Int) := by
  unfold mixI mixB
  simp only [shr_bv _ 30 (by decide), xorI_bv]
  have h1 := mul_bv (x ^^^ x >>> 30) 13787848793156543929
  rw [show ((13787848793156543929 : Nat) : Int) = 13787848793156543929 from rfl] at h1
  rw [h1]
  simp only [shr_bv _ 27 (by decide), xorI_bv]
  have h2 := mul_bv ((x ^^^ x >>> 30) * BitVec.ofNat 64 13787848793156543929 ^^^ ((x ^^^ x >>> 30) * BitVec.ofNat 64 13787848793156543929) >>> 27) 10723151780598845931
  rw [show ((10723151780598845931 : Nat) : Int) = 10723151780598845931 from rfl] at h2
  rw [h2]
  simp only [shr_bv _ 31 (by decide), xorI_bv]

/-! ### mixing can be undone -/
theorem unshift (x : BitVec 64) (k : Nat) (hk : 64 ≤ 3 * k) : (x ^^^ x >>> k) ^^^ ((x ^^^ x >>> k) >>> k ^^^ (x ^^^ x >>> k) >>> (2 * k)) = x := by
  apply BitVec.eq_of_getLsbD_eq
  intro i hi
  simp only [BitVec.getLsbD_xor, BitVec.getLsbD_ushiftRight]
  have h3 : x.getLsbD (k + (2 * k + i)) = false := BitVec.getLsbD_of_ge _ _ (by omega)
  rw [show k + (k + i) = 2 * k + i by omega, h3]
  cases x.getLsbD i <;> cases x.getLsbD (k + i) <;> cases x.getLsbD (2 * k + i) <;> rfl
theorem bv_mul_inv (a c d : BitVec 64) (h : c * d = 1#64) : a * c * d = a := by rw [BitVec.mul_assoc, h, BitVec.mul_one]

def unI (y : Int) (k k2 : Nat) : Int := xorI y (xorI (y.fdiv (2 ^ min k 64)) (y.fdiv (2 ^ min k2 64)))
def undoI (y : Int) : Int := unI (IntKind.u64.wrap (unI (IntKind.u64.wrap (unI y 31 62 * 3573116690164977347)) 27 54 * 10871156337175269513)) 30 60
theorem unI_bv (a : BitVec 64) (k : Nat) (hk : 2 * k ≤ 64) (h3 : 64 ≤ 3 * k) : unI ((a ^^^ a >>> k).toNat : Int) k (2 * k) = (a.toNat : Int) := by
  unfold unI
  rw [shr_bv _ k (by omega), shr_bv _ (2 * k) hk, xorI_bv, xorI_bv, unshift a k h3]
theorem mulc_bv (a : BitVec 64) (c d : Nat) (h : BitVec.ofNat 64 c * BitVec.ofNat 64 d = 1#64) : IntKind.u64.wrap (((a * BitVec.ofNat 64 c).toNat : Int) * (d : Int)) = (a.toNat : Int) := by
  rw [mul_bv, bv_mul_inv a _ _ h]
theorem undo_bv (x : BitVec 64) : undoI (mixI x.toNat) = (x.toNat : Int) := by
  rw [mixI_bv]
  unfold mixB undoI
  rw [unI_bv _ 31 (by decide) (by decide)]
  rw [show (3573116690164977347 : Int) = ((3573116690164977347 : Nat) : Int) from rfl, mulc_bv _ _ _ (by decide)]
  rw [unI_bv _ 27 (by decide) (by decide)]
  rw [show (10871156337175269513 : Int) = ((10871156337175269513 : Nat) : Int) from rfl, mulc_bv _ _ _ (by decide)]
  exact unI_bv _ 30 (by decide) (by decide)
theorem undo_mix {x : Int} (h0 : 0 ≤ x) (h1 : x < 18446744073709551616) : undoI (mixI x) = x := by
  have e : x = ((BitVec.ofNat 64 x.toNat).toNat : Int) := by rw [BitVec.toNat_ofNat]; omega
  rw [e]; exact undo_bv _

/-! ### the upper half of a product -/
theorem and32 (a : Int) (h0 : 0 ≤ a) (h1 : a < 18446744073709551616) : andI a 4294967295 = a % 4294967296 := by
  obtain ⟨n, rfl⟩ := Int.eq_ofNat_of_zero_le h0
  unfold andI
  rw [BitVec.ofInt_natCast]
  have : (BitVec.ofNat 64 n &&& BitVec.ofInt 64 4294967295).toNat = n % 4294967296 := by
    rw [BitVec.toNat_and]
    have e : (BitVec.ofInt 64 4294967295).toNat = 2 ^ 32 - 1 := by decide
    rw [e, Nat.and_two_pow_sub_one_eq_mod, BitVec.toNat_ofNat]
    omega
  rw [this, u64_id (by omega) (by omega)]
  omega
theorem shr32 (a : Int) (_h0 : 0 ≤ a) : a.fdiv (2 ^ min 32 64) = a / 4294967296 := by
  rw [Int.fdiv_eq_ediv_of_nonneg _ (by decide)]; rfl

/-- Four products of halves of 32 bits, added up. -/
theorem halves (a b : Int) (ha : 0 ≤ a) (ha' : a < 18446744073709551616) (hb : 0 ≤ b) (hb' : b < 18446744073709551616) :
    let al := a % 4294967296; let ah := a / 4294967296; let bl := b % 4294967296; let bh := b / 4294967296
    a * b = ah * bh * 18446744073709551616 + (ah * bl + al * bh) * 4294967296 + al * bl ∧
    (0 ≤ al * bl ∧ al * bl ≤ 18446744065119617025) ∧ (0 ≤ ah * bl ∧ ah * bl ≤ 18446744065119617025) ∧ (0 ≤ al * bh ∧ al * bh ≤ 18446744065119617025) ∧ (0 ≤ ah * bh ∧ ah * bh ≤ 18446744065119617025) := by
  intro al ah bl bh
  have e1 : a = ah * 4294967296 + al := by omega
  have e2 : b = bh * 4294967296 + bl := by omega
  have key : ∀ x y : Int, 0 ≤ x → x ≤ 4294967295 → 0 ≤ y → y ≤ 4294967295 → 0 ≤ x * y ∧ x * y ≤ 18446744065119617025 := fun x y h1 h2 h3 h4 =>
    ⟨Int.mul_nonneg h1 h3, by have := Int.mul_le_mul h2 h4 h3 (by decide : (0 : Int) ≤ 4294967295); omega⟩
  refine ⟨?_, key _ _ (by omega) (by omega) (by omega) (by omega), key _ _ (by omega) (by omega) (by omega) (by omega), key _ _ (by omega) (by omega) (by omega) (by omega), key _ _ (by omega) (by omega) (by omega) (by omega)⟩
  generalize al = p at *; generalize ah = q at *; generalize bl = r at *; generalize bh = s at *
  rw [e1, e2]
  simp only [Int.mul_add, Int.add_mul]
  have h1 : q * 4294967296 * (s * 4294967296) = q * s * 18446744073709551616 := by
    rw [Int.mul_assoc, Int.mul_left_comm 4294967296 s, ← Int.mul_assoc]; rfl
  have h2 : p * (s * 4294967296) = p * s * 4294967296 := (Int.mul_assoc ..).symm
  have h3 : q * 4294967296 * r = q * r * 4294967296 := by rw [Int.mul_assoc, Int.mul_comm 4294967296 r, Int.mul_assoc]
  rw [h1, h2, h3]
  omega

def mulHi (a b : Int) : Int := a * b / 18446744073709551616

/-- As bits.Mul64 reckons it. -/
theorem hi1 (a b : Int) (ha : 0 ≤ a) (ha' : a < 18446744073709551616) (hb : 0 ≤ b) (hb' : b < 18446744073709551616) :
    let x0 := andI a 4294967295; let x1 := a.fdiv (2 ^ min 32 64); let y0 := andI b 4294967295; let y1 := b.fdiv (2 ^ min 32 64)
    let w0 := IntKind.u64.wrap (x0 * y0); let t := IntKind.u64.wrap (IntKind.u64.wrap (x1 * y0) + w0.fdiv (2 ^ min 32 64))
    let w1 := IntKind.u64.wrap (andI t 4294967295 + IntKind.u64.wrap (x0 * y1))
    IntKind.u64.wrap (IntKind.u64.wrap (IntKind.u64.wrap (x1 * y1) + t.fdiv (2 ^ min 32 64)) + w1.fdiv (2 ^ min 32 64)) = mulHi a b := by
  have H := halves a b ha ha' hb hb'
  simp only [and32 a ha ha', and32 b hb hb', shr32 a ha, shr32 b hb] at *
  generalize a % 4294967296 = al at *; generalize a / 4294967296 = ah at *; generalize b % 4294967296 = bl at *; generalize b / 4294967296 = bh at *
  obtain ⟨e, h1, h2, h3, h4⟩ := H
  unfold mulHi
  rw [e]
  generalize al * bl = p at *; generalize ah * bl = q at *; generalize al * bh = r at *; generalize ah * bh = s at *
  clear e
  rw [u64_id h1.1 (by omega), u64_id h2.1 (by omega), u64_id h3.1 (by omega), u64_id h4.1 (by omega), shr32 p h1.1]
  rw [u64_id (z := q + p / 4294967296) (by omega) (by omega), and32 (q + p / 4294967296) (by omega) (by omega), shr32 (q + p / 4294967296) (by omega)]
  rw [u64_id (z := (q + p / 4294967296) % 4294967296 + r) (by omega) (by omega), shr32 ((q + p / 4294967296) % 4294967296 + r) (by omega)]
  rw [u64_id (z := s + (q + p / 4294967296) / 4294967296) (by omega) (by omega)]
  rw [u64_id (by omega) (by omega)]
  omega
/-- As the document's reckons it. -/
theorem hi2 (a b : Int) (ha : 0 ≤ a) (ha' : a < 18446744073709551616) (hb : 0 ≤ b) (hb' : b < 18446744073709551616) :
    let al := andI a 4294967295; let ah := a.fdiv (2 ^ min 32 64); let bl := andI b 4294967295; let bh := b.fdiv (2 ^ min 32 64)
    let low := IntKind.u64.wrap (al * bl); let m := IntKind.u64.wrap (IntKind.u64.wrap (ah * bl) + low.fdiv (2 ^ min 32 64))
    let n := IntKind.u64.wrap (IntKind.u64.wrap (al * bh) + andI m 4294967295)
    IntKind.u64.wrap (IntKind.u64.wrap (IntKind.u64.wrap (ah * bh) + m.fdiv (2 ^ min 32 64)) + n.fdiv (2 ^ min 32 64)) = mulHi a b := by
  have := hi1 a b ha ha' hb hb'
  simp only at *
  rw [← this, Int.add_comm (IntKind.u64.wrap (andI a 4294967295 * b.fdiv (2 ^ min 32 64)))]

theorem mulHi_lt (a b : Int) (ha : 0 ≤ a) (ha' : a < 18446744073709551616) (hb : 0 < b) : 0 ≤ mulHi a b ∧ mulHi a b < b := by
  unfold mulHi
  refine ⟨Int.ediv_nonneg (Int.mul_nonneg ha (by omega)) (by decide), ?_⟩
  apply Int.ediv_lt_of_lt_mul (by decide)
  rw [Int.mul_comm b]
  exact Int.mul_lt_mul_of_pos_right ha' hb
end Go.DiceM
