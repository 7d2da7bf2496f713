/- Some texts put together: lemmas and contracts for the law. Conditions: as each text says. -/
import Derived.Test.YtngicmoadobgpaaDoorU4
import Derived.Lib.ItoaLen
import Derived.Test.YtngicmoadobgpaaDoorU3
import Derived.Laws.AppendOwn
import Derived.Laws.BytesString
/- What is written of requests, heads and replies, in plain Lean. Conditions: none. -/
namespace Go.EmitM
open Go.ChunkM Go.StrM
def crlf : List UInt8 := [13, 10]
/-- A field's line. -/
def fieldL (n v : List UInt8) : List UInt8 := n ++ ([58, 32] ++ (v ++ crlf))
/-- What is told on of fields. -/
def onP (but : List (List UInt8)) (f : Fld) : List UInt8 := if but.any (fun n => alike f.1 n) then [] else fieldL f.1 f.2
def onL (but : List (List UInt8)) (fs : List Fld) : List UInt8 := (strip fs).flatMap (onP but)
/-- The values of a name with one more behind them. -/
def joinV (vs : List (List UInt8)) (more : List UInt8) : List UInt8 := vs.flatMap (· ++ [44, 32]) ++ more
def joinL (fs : List Fld) (n more : List UInt8) : List UInt8 := fieldL n (joinV (values fs n) more)
/-- How many bytes fields have. -/
def fbytes (fs : List Fld) : Nat := (fs.map fun f => f.1.length + f.2.length).sum
theorem fbytes_cons (f : Fld) (fs : List Fld) : fbytes (f :: fs) = f.1.length + f.2.length + fbytes fs := by simp [fbytes]
theorem fbytes_app (a b : List Fld) : fbytes (a ++ b) = fbytes a + fbytes b := by simp [fbytes]
theorem fbytes_mem : ∀ {fs : List Fld} {f : Fld}, f ∈ fs → f.1.length + f.2.length ≤ fbytes fs
  | g :: fs, f, h => by
    rw [fbytes_cons]
    rcases List.mem_cons.1 h with rfl | h
    · omega
    · have := fbytes_mem h; omega
theorem fbytes_filter (p : Fld → Bool) : ∀ fs : List Fld, fbytes (fs.filter p) ≤ fbytes fs
  | [] => Nat.le_refl _
  | f :: fs => by
    have ih := fbytes_filter p fs
    rw [List.filter_cons, fbytes_cons]
    split
    · rw [fbytes_cons]; omega
    · omega
theorem fieldL_len (n v : List UInt8) : (fieldL n v).length = n.length + v.length + 4 := by simp [fieldL, crlf]; omega
theorem onP_len (but : List (List UInt8)) (f : Fld) : (onP but f).length ≤ f.1.length + f.2.length + 4 := by
  unfold onP; split
  · simp
  · rw [fieldL_len]; exact Nat.le_refl _
theorem onPs_len (but : List (List UInt8)) : ∀ fs : List Fld, (fs.flatMap (onP but)).length ≤ fbytes fs + 4 * fs.length
  | [] => by simp
  | f :: fs => by
    have ih := onPs_len but fs
    have h1 := onP_len but f
    rw [List.flatMap_cons, List.length_append, fbytes_cons, List.length_cons]; omega
theorem onL_len (but : List (List UInt8)) (fs : List Fld) : (onL but fs).length ≤ fbytes fs + 4 * fs.length := by
  have h1 := onPs_len but (strip fs)
  have h2 : fbytes (strip fs) ≤ fbytes fs := fbytes_filter _ fs
  have h3 : (strip fs).length ≤ fs.length := List.length_filter_le _ _
  unfold onL; omega
theorem joinV_len (vs : List (List UInt8)) (more : List UInt8) : (joinV vs more).length = vs.flatten.length + 2 * vs.length + more.length := by
  unfold joinV
  rw [List.length_append]
  congr 1
  induction vs with
  | nil => rfl
  | cons v vs ih => rw [List.flatMap_cons, List.length_append, ih, List.length_append, List.flatten_cons, List.length_append, List.length_cons]; simp only [List.length_cons, List.length_nil]; omega
theorem values_bytes (n : List UInt8) : ∀ fs : List Fld, (values fs n).flatten.length ≤ fbytes fs
  | [] => Nat.le_refl _
  | f :: fs => by
    have ih := values_bytes n fs
    rw [fbytes_cons]
    unfold values at ih ⊢
    rw [List.filter_cons]
    split
    · rw [List.map_cons, List.flatten_cons, List.length_append]; omega
    · omega
theorem values_len (n : List UInt8) (fs : List Fld) : (values fs n).length ≤ fs.length := by
  unfold values; rw [List.length_map]; exact List.length_filter_le _ _
theorem joinL_len (fs : List Fld) (n more : List UInt8) : (joinL fs n more).length ≤ n.length + fbytes fs + 2 * fs.length + more.length + 4 := by
  have h1 := values_bytes n fs
  have h2 := values_len n fs
  unfold joinL; rw [fieldL_len, joinV_len]; omega
theorem elemsF_bytes (n : List UInt8) (fs : List Fld) : (elemsF fs n).flatten.length ≤ fbytes fs := by
  refine Nat.le_trans ?_ (values_bytes n fs)
  unfold elemsF
  induction values fs n with
  | nil => exact Nat.le_refl _
  | cons v vs ih =>
    have := elems_sum v
    rw [List.flatMap_cons, List.flatten_append, List.length_append, List.flatten_cons, List.length_append]; omega
theorem elemsF_len (n : List UInt8) (fs : List Fld) : (elemsF fs n).length ≤ fbytes fs + fs.length := by
  have h1 := values_bytes n fs
  have h2 := values_len n fs
  have h3 : ∀ vs : List (List UInt8), (vs.flatMap elems).length ≤ vs.flatten.length + vs.length := fun vs => by
    induction vs with
    | nil => exact Nat.le_refl _
    | cons v vs ih =>
      have := elems_len v
      rw [List.flatMap_cons, List.length_append, List.flatten_cons, List.length_append, List.length_cons]; omega
  have := h3 (values fs n)
  unfold elemsF; omega
/-- Fields that are small. -/
def FsS (fs : List Fld) : Prop := fs.length ≤ 2097152 ∧ fbytes fs ≤ 2097152
def phr : List (Int × List UInt8) := [
  (101, [83, 119, 105, 116, 99, 104, 105, 110, 103, 32, 80, 114, 111, 116, 111, 99, 111, 108, 115]),
  (200, [79, 75]),
  (204, [78, 111, 32, 67, 111, 110, 116, 101, 110, 116]),
  (301, [77, 111, 118, 101, 100, 32, 80, 101, 114, 109, 97, 110, 101, 110, 116, 108, 121]),
  (302, [70, 111, 117, 110, 100]),
  (307, [84, 101, 109, 112, 111, 114, 97, 114, 121, 32, 82, 101, 100, 105, 114, 101, 99, 116]),
  (308, [80, 101, 114, 109, 97, 110, 101, 110, 116, 32, 82, 101, 100, 105, 114, 101, 99, 116]),
  (400, [66, 97, 100, 32, 82, 101, 113, 117, 101, 115, 116]),
  (401, [85, 110, 97, 117, 116, 104, 111, 114, 105, 122, 101, 100]),
  (403, [70, 111, 114, 98, 105, 100, 100, 101, 110]),
  (404, [78, 111, 116, 32, 70, 111, 117, 110, 100]),
  (408, [82, 101, 113, 117, 101, 115, 116, 32, 84, 105, 109, 101, 111, 117, 116]),
  (413, [67, 111, 110, 116, 101, 110, 116, 32, 84, 111, 111, 32, 76, 97, 114, 103, 101]),
  (414, [85, 82, 73, 32, 84, 111, 111, 32, 76, 111, 110, 103]),
  (417, [69, 120, 112, 101, 99, 116, 97, 116, 105, 111, 110, 32, 70, 97, 105, 108, 101, 100]),
  (429, [84, 111, 111, 32, 77, 97, 110, 121, 32, 82, 101, 113, 117, 101, 115, 116, 115]),
  (431, [82, 101, 113, 117, 101, 115, 116, 32, 72, 101, 97, 100, 101, 114, 32, 70, 105, 101, 108, 100, 115, 32, 84, 111, 111, 32, 76, 97, 114, 103, 101]),
  (500, [73, 110, 116, 101, 114, 110, 97, 108, 32, 83, 101, 114, 118, 101, 114, 32, 69, 114, 114, 111, 114]),
  (501, [78, 111, 116, 32, 73, 109, 112, 108, 101, 109, 101, 110, 116, 101, 100]),
  (502, [66, 97, 100, 32, 71, 97, 116, 101, 119, 97, 121]),
  (503, [83, 101, 114, 118, 105, 99, 101, 32, 85, 110, 97, 118, 97, 105, 108, 97, 98, 108, 101]),
  (504, [71, 97, 116, 101, 119, 97, 121, 32, 84, 105, 109, 101, 111, 117, 116]),
  (505, [72, 84, 84, 80, 32, 86, 101, 114, 115, 105, 111, 110, 32, 78, 111, 116, 32, 83, 117, 112, 112, 111, 114, 116, 101, 100])]
def other : List UInt8 := [83, 116, 97, 116, 117, 115]
def phrase (z : Int) : List (Int × List UInt8) → List UInt8
  | [] => other
  | p :: l => if z = p.1 then p.2 else phrase z l
def reason (z : Int) : List UInt8 := phrase z phr
theorem reason_len (z : Int) : (reason z).length ≤ 64 := by
  have h : ∀ l : List (Int × List UInt8), (∀ p ∈ l, p.2.length ≤ 64) → (phrase z l).length ≤ 64 := by
    intro l
    induction l with
    | nil => intro _; show other.length ≤ 64; decide
    | cons p l ih =>
      intro h
      unfold phrase
      split
      · exact h p List.mem_cons_self
      · exact ih fun q hq => h q (List.mem_cons_of_mem _ hq)
  exact h phr (by decide)
end Go.EmitM

/- What texts are tokens and values, in plain Lean. Conditions: none. -/
namespace Go.StrM
open Go.ChunkM
theorem trim_head {l : List UInt8} {c : UInt8} (h : trim l = l) (hc : l[0]? = some c) : isBl c = false := by
  have h1 := List.head?_dropWhile_not (p := isBl) (l := trR l)
  rw [← trim_eq, h] at h1
  cases l with
  | nil => simp at hc
  | cons x l =>
    simp at hc; subst hc
    simpa using h1
theorem trim_last {l : List UInt8} {c : UInt8} (h : trim l = l) (hc : l[l.length - 1]? = some c) : isBl c = false := by
  rw [trim_eq] at h
  rcases trR_ends l with h1 | ⟨m, x, h1, hx⟩
  · rw [h1] at h
    have : l = [] := h.symm
    subst this; simp at hc
  · rw [h1] at h
    obtain ⟨m', h2⟩ := dw_snoc (m := m) hx
    rw [h2] at h
    subst h
    simp at hc
    subst hc; exact hx
theorem tokB_iff (c : UInt8) : tokB c = true ↔ (48 ≤ c.toNat ∧ c.toNat ≤ 57) ∨ (65 ≤ c.toNat ∧ c.toNat ≤ 90) ∨ (97 ≤ c.toNat ∧ c.toNat ≤ 122) ∨ c.toNat = 33 ∨ c.toNat = 35 ∨ c.toNat = 36 ∨ c.toNat = 37 ∨ c.toNat = 38 ∨ c.toNat = 39 ∨ c.toNat = 42 ∨ c.toNat = 43 ∨ c.toNat = 45 ∨ c.toNat = 46 ∨ c.toNat = 94 ∨ c.toNat = 95 ∨ c.toNat = 96 ∨ c.toNat = 124 ∨ c.toNat = 126 := by
  have hm : marks.contains c = true ↔ c.toNat = 33 ∨ c.toNat = 35 ∨ c.toNat = 36 ∨ c.toNat = 37 ∨ c.toNat = 38 ∨ c.toNat = 39 ∨ c.toNat = 42 ∨ c.toNat = 43 ∨ c.toNat = 45 ∨ c.toNat = 46 ∨ c.toNat = 94 ∨ c.toNat = 95 ∨ c.toNat = 124 ∨ c.toNat = 126 ∨ c.toNat = 96 := by
    unfold marks
    rw [List.contains_iff_mem]
    simp only [List.mem_cons, List.not_mem_nil, or_false, ← UInt8.toNat_inj]
    rfl
  unfold tokB isLet isDig
  simp only [Bool.or_eq_true, decide_eq_true_eq, hm]
  omega
end Go.StrM

/- A table of types out of rows. Conditions: each row fits the program. -/
namespace Go.Sx
open Go

structure TRow where
  t : Nat
  und : TypeDesc
  size : Nat
  bytes : Nat
  zero : Value
  offs : List Nat := []

def find : List TRow → Nat → Option TRow
  | [], _ => none
  | r :: l, t => bif Nat.beq r.t t then some r else find l t

def tbl (l : List TRow) : Tbl := ⟨fun t => (find l t).map (·.und), fun t => (find l t).map (·.size), fun t => (find l t).map (·.bytes), fun t => (find l t).map (·.zero), fun t f => (find l t).bind fun r => r.offs[f]?⟩

def RowsOk (P : Program) : List TRow → Prop
  | [] => True
  | r :: l => (P.underlying r.t = some r.und ∧ (P.info? r.t).map (fun i => (i.size, i.bytes, i.zero)) = some (r.size, r.bytes, some r.zero)) ∧ RowsOk P l

theorem find_ok {P : Program} : ∀ {l : List TRow} {t : Nat} {r : TRow}, RowsOk P l → find l t = some r → P.underlying t = some r.und ∧ (P.info? t).map (fun i => (i.size, i.bytes, i.zero)) = some (r.size, r.bytes, some r.zero)
  | [], _, _, _, h => by cases h
  | r' :: l, t, r, ⟨h1, h2⟩, h => by
    simp only [find] at h
    cases hb : Nat.beq r'.t t with
    | true =>
      rw [hb] at h
      injection h with h; subst h
      have := Nat.eq_of_beq_eq_true hb
      subst this
      exact h1
    | false => rw [hb] at h; exact find_ok h2 h

/-- The fields' places are those that the table of types has. -/
def offsOk (l : List TRow) : Bool :=
  l.all fun r => (List.range r.offs.length).all fun f => match r.und with
    | .struct fs => match fs[f]?, r.offs[f]? with
      | some fd, some k => fd.offset == k && (match (find l fd.type).map (·.size) with | some (_ + 1) => true | _ => false)
      | _, _ => false
    | _ => false

theorem find_mem : ∀ {l : List TRow} {t : Nat} {r : TRow}, find l t = some r → r ∈ l
  | [], _, _, h => by cases h
  | r' :: l, t, r, h => by
    simp only [find] at h
    cases hb : Nat.beq r'.t t with
    | true => rw [hb] at h; injection h with h; subst h; exact List.mem_cons_self ..
    | false => rw [hb] at h; exact List.mem_cons_of_mem _ (find_mem h)

theorem tbl_ok {P : Program} {l : List TRow} (h : RowsOk P l) (ho : offsOk l = true) : (tbl l).Ok P := by
  refine ⟨fun t d hd => ?_, fun t d hd => ?_, fun t d hd => ?_, fun t d hd => ?_, fun t f k hk => ?_⟩
  case refine_5 =>
    simp only [tbl, Option.bind_eq_some_iff] at hk
    obtain ⟨r, hr, hk⟩ := hk
    have h1 := (find_ok h hr).1
    have h2 := List.all_eq_true.1 ho r (find_mem hr)
    have hlt : f < r.offs.length := (List.getElem?_eq_some_iff.1 hk).1
    have h3 := List.all_eq_true.1 h2 f (List.mem_range.2 hlt)
    split at h3
    · rename_i fs hu
      split at h3
      · rename_i fd k' hf hk'
        simp only [Bool.and_eq_true, beq_iff_eq] at h3
        rw [hk] at hk'
        injection hk' with hk'; subst hk'
        obtain ⟨h3, h4⟩ := h3
        split at h4
        · rename_i m hm
          simp only [Option.map_eq_some_iff] at hm
          obtain ⟨r', hr', hs⟩ := hm
          have h5 := (find_ok h hr').2
          simp only [Option.map_eq_some_iff, Prod.mk.injEq] at h5
          obtain ⟨i, hi, h6, _, _⟩ := h5
          exact ⟨fs, fd, i, by rw [h1, hu], hf, h3, hi, by omega⟩
        · cases h4
      · cases h3
    · cases h3
  all_goals
    simp only [tbl, Option.map_eq_some_iff] at hd
    obtain ⟨r, hr, rfl⟩ := hd
    obtain ⟨h1, h2⟩ := find_ok h hr
    first
      | exact h1
      | (simp only [Option.map_eq_some_iff, Prod.mk.injEq] at h2
         obtain ⟨i, hi, h3, h4, h5⟩ := h2
         exact ⟨i, hi, by first | exact h3 | exact h4 | exact h5⟩)
end Go.Sx

/- Rules for strings put together, slices written out, rows that grow, rows of zeros. Conditions: the table 'T' fits the program. -/
namespace Go.Sx
open Go Go.RowKit

/-! ### a row of one's own that may grow -/
/-- The row at the block b: the cells l of its n elements, spare room behind them. -/
def RowAt (b cap : Nat) (t : TypeId) (es n : Nat) (l : List Value) : HProp := fun h =>
  ∃ tail, h b = some (.cells ⟨l ++ tail⟩ t (0, 0)) ∧ (l ++ tail).length = cap * es ∧ l.length = n * es ∧ n ≤ cap ∧ cap ≤ maxLen
/-- A slice that is one's own: nil and empty, or the head of a row. -/
def Row (a : Option Addr) (cap : Nat) (t : TypeId) (es n : Nat) (l : List Value) : HProp := fun h =>
  (a = none ∧ n = 0 ∧ cap = 0 ∧ l = []) ∨ ∃ b, a = some ⟨b, 0, none⟩ ∧ RowAt b cap t es n l h

theorem Row.nil (t : TypeId) (es : Nat) (F : List HProp) : Ent F (Row none 0 t es 0 [] :: F) := fun h s =>
  ⟨fun _ => none, h, fun _ => .inl rfl, (fun _ _ e => by cases e), Hp.le_refl _, .inl ⟨rfl, rfl, rfl, rfl⟩, s⟩
theorem Row.of_at {b cap : Nat} {t : TypeId} {es n : Nat} {l : List Value} {F : List HProp} : Ent (RowAt b cap t es n l :: F) (Row (some ⟨b, 0, none⟩) cap t es n l :: F) := fun _ ⟨h1, h2, d, l1, l2, hc, s⟩ =>
  ⟨h1, h2, d, l1, l2, .inr ⟨b, rfl, hc⟩, s⟩
theorem RowAt.of_cel {b : Nat} {t : TypeId} {es n : Nat} {l : List Value} {F : List HProp} (hl : l.length = n * es) (hn : n ≤ maxLen) : Ent (cel b t l :: F) (RowAt b n t es n l :: F) := fun _ ⟨h1, h2, d, l1, l2, hc, s⟩ =>
  ⟨h1, h2, d, l1, l2, ⟨[], by simpa [cel, blk] using hc, by simpa using hl, hl, Nat.le_refl _, hn⟩, s⟩

section
variable {P : Program} {w0 : World}
theorem Rel.row_open {w : World} {a : Option Addr} {cap : Nat} {t : TypeId} {es n : Nat} {l : List Value} {F : List HProp} (hn : 0 < n) (h : Rel w0 (Row a cap t es n l :: F) w) : ∃ b, a = some ⟨b, 0, none⟩ ∧ Rel w0 (RowAt b cap t es n l :: F) w := by
  obtain ⟨x, ⟨h1, h2, d, l1, l2, hc, s⟩, g⟩ := h.heap
  rcases hc with ⟨_, h0, _⟩ | ⟨b, ha, hr⟩
  · omega
  · exact ⟨b, ha, h.below, x, ⟨h1, h2, d, l1, l2, hr, s⟩, g⟩
theorem Rel.row_len {w : World} {a : Option Addr} {cap : Nat} {t : TypeId} {es n : Nat} {l : List Value} {F : List HProp} (h : Rel w0 (Row a cap t es n l :: F) w) : l.length = n * es := by
  obtain ⟨x, ⟨h1, h2, d, l1, l2, hc, s⟩, g⟩ := h.heap
  rcases hc with ⟨_, rfl, _, rfl⟩ | ⟨b, ha, tail, _, _, hr, _⟩
  · simp
  · exact hr
theorem Rel.rowAt_blk {w : World} {b cap : Nat} {t : TypeId} {es n : Nat} {l : List Value} {F : List HProp} (h : Rel w0 (RowAt b cap t es n l :: F) w) :
    ∃ tail, Rel w0 (blk b (.cells ⟨l ++ tail⟩ t (0, 0)) :: F) w ∧ (l ++ tail).length = cap * es ∧ l.length = n * es ∧ n ≤ cap ∧ cap ≤ maxLen := by
  obtain ⟨x, ⟨h1, h2, d, l1, l2, ⟨tail, hb, r⟩, s⟩, g⟩ := h.heap
  exact ⟨tail, ⟨h.below, x, ⟨h1, h2, d, l1, l2, hb, s⟩, g⟩, r⟩
theorem Rel.rowAt_mk {w : World} {b cap : Nat} {t : TypeId} {es n : Nat} {l tail : List Value} {F : List HProp} (h : Rel w0 (blk b (.cells ⟨l ++ tail⟩ t (0, 0)) :: F) w) (h1 : (l ++ tail).length = cap * es) (h2 : l.length = n * es) (h3 : n ≤ cap) (h4 : cap ≤ maxLen) :
    Rel w0 (RowAt b cap t es n l :: F) w := by
  obtain ⟨x, ⟨y1, y2, d, l1, l2, hb, s⟩, g⟩ := h.heap
  exact ⟨h.below, x, ⟨y1, y2, d, l1, l2, ⟨tail, hb, h1, h2, h3, h4⟩, s⟩, g⟩

theorem Reads.row {b cap : Nat} {t : TypeId} {es n : Nat} {l : List Value} {F : List HProp} {off : Nat} {v : Value} (h : l[off]? = some v) : Reads w0 (RowAt b cap t es n l :: F) ⟨b, off, none⟩ v := fun w hr => by
  obtain ⟨tail, hb, _⟩ := hr.rowAt_blk
  have := hb.get
  simp only [World.cell?, this]
  have hlt := (List.getElem?_eq_some_iff.1 h).1
  simp [List.getElem?_append_left hlt, h]
theorem ReadsL.row {b cap : Nat} {t : TypeId} {es n : Nat} {l : List Value} {F : List HProp} {off : Nat} (s : Nat) : ReadsL w0 (RowAt b cap t es n l :: F) ⟨b, off, none⟩ ((l.drop off).take s) := fun j v hj => by
  rw [Addr.add_mk]
  refine Reads.row ?_
  rw [List.getElem?_take] at hj
  split at hj
  · rw [List.getElem?_drop] at hj; exact hj
  · cases hj

theorem wr_append : ∀ (vs l tail : List Value) (o : Nat), o + vs.length ≤ l.length → wr (l ++ tail) o vs = wr l o vs ++ tail
  | [], _, _, _, _ => rfl
  | v :: vs, l, tail, o, h => by
    simp only [List.length_cons] at h
    simp only [wr]
    rw [List.set_append_left _ _ (by omega)]
    exact wr_append vs _ tail (o + 1) (by simp; omega)
end

section
variable {P : Program} {T : Tbl} {w0 : World} {n : Nat} {HL : Held} {ops : Array Oper} {J : Env → List HProp → Prop} {ix : Nat} {rest : List Oper} {o : Oper} {e : Env} {H : List HProp}

/-- A store into a row. -/
theorem XO.storeRow {t tb : TypeId} {x y : Operand} {b off cap es k : Nat} {l cs : List Value} {v : Value} {F : List HProp} (hT : T.Ok P) (hk0 : Keeps w0 (RowAt b cap tb es k l :: F) (keptBy HL ix)) (hg : wantedE ops e n o = true) (hd : o.dst = none) (hop : o.op = .store t x y) (hx : e.ev n x = .pointer (some ⟨b, off, none⟩))
    (hy : Hd (e.ev n y) = some v) (hcs : v.cells = ⟨cs⟩) (hs : T.size t = some cs.length) (h1 : cs.all (·.oneCell') = true) (hl : off + cs.length ≤ l.length)
    (hk : Keeps w0 (RowAt b cap tb es k (wr l off cs) :: F) (keptBy HL ix)) (h : XO P T w0 n HL ops J (ix + 1) rest e (RowAt b cap tb es k (wr l off cs) :: F)) : XO P T w0 n HL ops J ix (o :: rest) e (RowAt b cap tb es k l :: F) := by
  rw [Hd_eq] at hy
  injection hy with hy
  refine .effOp hk0 hg (by rw [hop]; rfl) (fun w hrel => ?_)
  obtain ⟨tail, hb, r1, r2, r3, r4⟩ := hrel.rowAt_blk
  obtain ⟨w', hw, hr'⟩ := storeCells_rel (P := P) b tb F off cs 0 (l ++ tail) w hb (by simp; omega) h1
  rw [Nat.add_zero, wr_append _ _ _ _ hl] at hr'
  have hr2 : Rel w0 (RowAt b cap tb es k (wr l off cs) :: F) w' := Rel.rowAt_mk hr' (by simpa [wr_length] using r1) (by rw [wr_length]; exact r2) r3 r4
  refine ⟨undef, w', _, .inr ⟨?_, rfl⟩, hr2, hk, by rw [hd]; exact h⟩
  simp only [execOp, hop, hx, hy, Instr.storeAt, Instr.sureAddr, storeVar, hcs, List.size_toArray, Sem.run_bind, Sem.run_pure, Result.andThen_ok, run_size hT hs, ne_eq, not_true_eq_false, if_false, hw]

/-! ### strings -/
theorem XO.addStr {x y : Operand} {t t' : TypeId} {a b : ByteArray} {d : Nat} (hg : wantedE ops e n o = true) (hd : o.dst = some d) (hop : o.op = .binOp .add t x y t') (hx : e.ev n x = .string a) (hy : e.ev n y = .string b) (hs : a.size + b.size ≤ 9223372036854775807)
    (h : XO P T w0 n HL ops J (ix + 1) rest (e.upd d (.string (a ++ b))) H) : XO P T w0 n HL ops J ix (o :: rest) e H := by
  refine .pureOp (v := .string (a ++ b)) hg (by rw [hop]; rfl) (fun w => ?_) (by rw [hd]; exact h)
  have hn : ¬ ((a.size + b.size : Nat) : Int) > IntKind.i64.max := by simp [IntKind.max, IntKind.signed, IntKind.bits]; omega
  simp only [execOp, hop, hx, hy, Sem.run_bind, eqGuard_plain BinOp.add t x y (.string a) (.string b) (by simp) (by simp), Result.andThen_ok, binOp, Op.stringOp, if_neg hn, Sem.run_pure]

/-! ### a slice written out -/
/-- Copies of a zero value's cells. -/
def zrow : Nat → List Value → List Value
  | 0, _ => []
  | k + 1, z => z ++ zrow k z
theorem zrow_length (z : List Value) : ∀ k, (zrow k z).length = k * z.length
  | 0 => by simp [zrow]
  | k + 1 => by simp [zrow, zrow_length z k, Nat.add_mul, Nat.add_comm]
theorem zrow_get (z : List Value) : ∀ (k i : Nat), i < k * z.length → (zrow k z)[i]? = z[i % z.length]?
  | 0, i, h => by simp at h
  | k + 1, i, h => by
    simp only [zrow]
    by_cases hi : i < z.length
    · rw [List.getElem?_append_left hi, Nat.mod_eq_of_lt hi]
    · have hge : z.length ≤ i := by omega
      rw [List.getElem?_append_right hge, zrow_get z k (i - z.length) (by rw [Nat.add_mul] at h; omega)]
      rw [← Nat.mod_eq_sub_mod hge]
theorem mk_get (l : List Value) (i : Nat) : (⟨l⟩ : Array Value)[i]? = l[i]? := by simp
theorem zeros_eq (z : List Value) (k : Nat) : (Array.range (k * z.length)).map (fun i => (⟨z⟩ : Array Value)[i % (⟨z⟩ : Array Value).size]!) = ⟨zrow k z⟩ := by
  apply Array.ext_getElem?
  intro i
  by_cases hi : i < k * z.length
  · have hz : 0 < z.length := by
      rcases Nat.eq_zero_or_pos z.length with h | h
      · rw [h] at hi; omega
      · exact h
    have hm : i % z.length < z.length := Nat.mod_lt _ hz
    have h1 := zrow_get z k i hi
    rw [List.getElem?_eq_getElem hm] at h1
    rw [Array.getElem?_map]
    simp only [Array.getElem?_range, hi, if_true, Option.map_some]
    rw [mk_get, h1]
    congr 1
    simp [hm]
  · have h2 : (zrow k z)[i]? = none := List.getElem?_eq_none (by rw [zrow_length]; omega)
    rw [Array.getElem?_map]
    simp only [Array.getElem?_range, hi, if_false, Option.map_none]
    rw [mk_get]; exact h2.symm

/-- The parts, each into its place. -/
def fillL (s : Nat) : List Value → List (Nat × Value) → Option (List Value)
  | l, [] => some l
  | l, (i, v) :: ps => if v.cells.size = s then (match wrL l (i * s) v.cells.toList with | some l' => fillL s l' ps | none => none) else none
theorem wr_foldl : ∀ (cs l : List Value) (o k : Nat), (cs.zipIdx k).foldl (fun (a : Array Value) (p : Value × Nat) => a.setIfInBounds (o + p.2) p.1) ⟨l⟩ = ⟨wr l (o + k) cs⟩
  | [], l, o, k => rfl
  | c :: cs, l, o, k => by
    simp only [List.zipIdx_cons, List.foldl_cons, wr]
    have : (⟨l⟩ : Array Value).setIfInBounds (o + k) c = ⟨l.set (o + k) c⟩ := by apply Array.ext'; simp
    rw [this, wr_foldl cs _ o (k + 1)]
    rfl
theorem fillL_eq {s : Nat} (hs : 0 < s) : ∀ (ps : List (Nat × Value)) (l l' : List Value), fillL s l ps = some l' → Instr.fill (fun i => some (i * s, s)) ⟨l⟩ ps = some ⟨l'⟩
  | [], l, l', h => by injection h with h; subst h; rfl
  | (i, v) :: ps, l, l', h => by
    simp only [fillL] at h
    split at h
    · rename_i hv
      split at h
      · rename_i l2 h2
        have hle : i * s ≤ l.length ∧ i * s + v.cells.toList.length ≤ l.length ∧ l2 = wr l (i * s) v.cells.toList := by
          have hk : i * s ≤ l.length := by
            cases hc : v.cells.toList with
            | nil => have : v.cells.size = 0 := by rw [← Array.length_toList, hc]; rfl
                     omega
            | cons c cs =>
              rw [hc] at h2
              simp only [wrL] at h2
              split at h2
              · rename_i h3; have := (wrH_eq h3).1; omega
              · cases h2
          exact ⟨hk, wrL_eq h2 hk⟩
        obtain ⟨h3, h4, rfl⟩ := hle
        simp only [Instr.fill]
        have hn : ¬ (v.cells.size ≠ s ∨ i * s + v.cells.size > (⟨l⟩ : Array Value).size) := by
          simp at h4
          simp [hv]; omega
        rw [if_neg (by simpa using hn)]
        have hf := wr_foldl v.cells.toList l (i * s) 0
        have e1 : v.cells.zipIdx.foldl (fun (cs : Array Value) (x : Value × Nat) => cs.setIfInBounds (i * s + x.2) x.1) ⟨l⟩ = ⟨wr l (i * s) v.cells.toList⟩ := by
          rw [← Array.foldl_toList, Array.toList_zipIdx]
          simpa using hf
        rw [show (v.cells.zipIdx.foldl (fun cs x => match x with | (c, j) => cs.setIfInBounds (i * s + j) c) (⟨l⟩ : Array Value)) = ⟨wr l (i * s) v.cells.toList⟩ from e1]
        exact fillL_eq hs ps _ l' h
      · cases h
    · cases h

theorem XO.buildSlice {t u : TypeId} {k s : Nat} {ps : Array (Nat × Operand)} {parts : List (Nat × Value)} {z : Value} {zl l : List Value} {d : Nat} (hT : T.Ok P) (hk0 : Keeps w0 H (keptBy HL ix)) (hg : wantedE ops e n o = true) (hd : o.dst = some d) (hop : o.op = .buildSlice t k ps) (hu : T.und t = some (.slice u)) (hs : T.size u = some s)
    (hz : T.zero u = some z) (hzl : z.cells = ⟨zl⟩) (hzs : zl.length = s) (hpos : Nat.blt 0 (k * s) = true) (hle : Nat.ble (k * s) 16777216 = true) (hp : evP (e.ev n) ps.toList = some parts) (hf : fillL s (zrow k zl) parts = some l)
    (hk : ∀ b, Keeps w0 (cel b u l :: H) (keptBy HL ix)) (h : ∀ b, XO P T w0 n HL ops J (ix + 1) rest (e.upd d (.slice (some ⟨b, 0, none⟩) k k)) (cel b u l :: H)) : XO P T w0 n HL ops J ix (o :: rest) e H := by
  refine .effOp hk0 hg (by rw [hop]; rfl) (fun w hrel => ?_)
  refine ⟨_, _, _, .inl ?_, hrel.alloc (.cells ⟨l⟩ u), hk _, by rw [hd]; exact h w.heap.size⟩
  have hpos : 0 < k * s := Nat.le_of_ble_eq_true hpos
  have hle : k * s ≤ 16777216 := Nat.le_of_ble_eq_true hle
  have hs0 : 0 < s := Nat.pos_of_mul_pos_left hpos
  have hparts : (ps.map fun p => (p.1, e.ev n p.2)).toList = parts := by simpa using evP_eq hp
  have hfill := fillL_eq hs0 parts _ _ hf
  subst hzs
  rw [← zeros_eq zl k] at hfill
  simp only [execOp, hop, Instr.buildSlice, Sem.run_bind, run_und hT hu, run_size hT hs, Result.andThen_ok]
  rw [if_neg (by omega)]
  simp only [Sem.run_pure]
  rw [if_neg (by omega)]
  simp only [Sem.run_bind, run_zero hT hz, hzl, Sem.run_pure, Result.andThen_ok]
  rw [hparts, hfill]
  simp [newRow]

/-- Bytes become a string. -/
theorem XO.bytesStr {s t u : TypeId} {x : Operand} {b off k c : Nat} {ns : List Int} {d : Nat} (hT : T.Ok P) (hk0 : Keeps w0 H (keptBy HL ix)) (hg : wantedE ops e n o = true) (hd : o.dst = some d) (hop : o.op = .convert s t x) (hs : T.und s = some (.slice u)) (ht : T.und t = some .string) (hu : T.und u = some (.int .u8))
    (hx : e.ev n x = .slice (some ⟨b, off, none⟩) k c) (hk : k = ns.length) (hr : ReadsL w0 H ⟨b, off, none⟩ (ns.map (Value.int .u8)))
    (h : XO P T w0 n HL ops J (ix + 1) rest (e.upd d (.string (ns.foldl (fun r z => r.push (UInt8.ofNat z.toNat)) ByteArray.empty))) H) : XO P T w0 n HL ops J ix (o :: rest) e H := by
  refine .effOp hk0 hg (by rw [hop]; simp [cls, hs, ht]) (fun w hrel => ?_)
  refine ⟨_, w, H, .inl ?_, hrel, hk0, by rw [hd]; exact h⟩
  have hl : (loadCells ⟨b, off, none⟩ k).run P w = .ok (ns.map (Value.int .u8)).toArray w := by
    have := run_loadCells_list (P := P) w ⟨b, off, none⟩ (ns.map (Value.int .u8)) (fun j v hj => hr j v hj w hrel)
    simpa [hk] using this
  have := run_bytesToString (P := P) w ⟨b, off, none⟩ k c ns hl
  simp [execOp, hop, convert, run_und hT hs, run_und hT ht, run_und hT hu, hx, this]
end
end Go.Sx
