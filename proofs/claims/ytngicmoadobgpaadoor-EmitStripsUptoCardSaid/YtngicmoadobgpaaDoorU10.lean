/- Some texts put together: lemmas and contracts for the law. Conditions: as each text says. -/
import Derived.Test.YtngicmoadobgpaaDoorU9
import Derived.Lib.AppendStr
import Derived.Laws.Externs
/- Rules for texts, as lists of bytes. Conditions: the table 'T' fits the program. -/
namespace Go.Sx
open Go Go.RowKit
abbrev S (l : List UInt8) : ByteArray := ⟨⟨l⟩⟩
abbrev kS (l : List UInt8) : Value := .string (S l)
abbrev kB (c : UInt8) : Value := .int .u8 c.toNat
def bys (l : List UInt8) : List Value := l.map kB
theorem bys_length (l : List UInt8) : (bys l).length = l.length := List.length_map ..
theorem bys_append (a b : List UInt8) : bys (a ++ b) = bys a ++ bys b := List.map_append ..
theorem bys_get {l : List UInt8} {i : Nat} {c : UInt8} (h : l[i]? = some c) : (bys l)[i]? = some (kB c) := by simp [bys, h]
theorem bys_all (l : List UInt8) : (bys l).all (·.oneCell') = true := by
  rw [List.all_eq_true]; intro v hv
  obtain ⟨c, _, rfl⟩ := List.mem_map.1 hv; rfl
theorem S_inj {a b : List UInt8} : S a = S b ↔ a = b := ⟨fun h => by injection h with h; injection h, fun h => by rw [h]⟩
theorem S_of (s : ByteArray) : S s.data.toList = s := rfl
theorem S_append (a b : List UInt8) : S a ++ S b = S (a ++ b) := by
  apply ByteArray.ext
  simp [ByteArray.data_append]
theorem S_extract (l : List UInt8) (a b : Nat) : (S l).extract a b = S ((l.drop a).take (b - a)) := by
  apply ByteArray.ext
  apply Array.ext'
  simp [ByteArray.data_extract, List.extract]
theorem S_toList (l : List UInt8) : (S l).toList = l := ByteArray.toList_eq _
section
variable {P : Program} {T : Tbl} {w0 : World} {n : Nat} {HL : Held} {ops : Array Oper} {J : Env → List HProp → Prop} {ix : Nat} {rest : List Oper} {o : Oper} {e : Env} {H F : List HProp}
/-- 'len'. -/
theorem XO.lenL {x : Operand} {t : TypeId} {l : List UInt8} {m : Nat} {d : Nat} (hT : T.Ok P) (hh : heldAt HL ix = none) (hg : wantedE ops e n o = true) (hd : o.dst = some d) (hop : o.op = .call { callee := .builtin .len, args := #[x], argTypes := #[t] }) (hu : T.und t = some .string)
    (hx : e.ev n x = kS l) (hl : l.length = m) (h : XO P T w0 n HL ops J (ix + 1) rest (e.upd d (.int .i64 m)) H) : XO P T w0 n HL ops J ix (o :: rest) e H := by
  subst hl; exact .lenString hT hh hg hd hop hu hx h
/-- A byte that is known. -/
theorem XO.idxL {x y : Operand} {t : TypeId} {l : List UInt8} {k : IntKind} {z : Int} {c : UInt8} {d : Nat} (hT : T.Ok P) (hg : wantedE ops e n o = true) (hd : o.dst = some d) (hop : o.op = .index t x y) (hu : T.und t = some .string)
    (hx : e.ev n x = kS l) (hy : e.ev n y = .int k z) (hc : l[z.toNat]? = some c) (h0 : 0 ≤ z) (h : XO P T w0 n HL ops J (ix + 1) rest (e.upd d (kB c)) H) : XO P T w0 n HL ops J ix (o :: rest) e H := by
  have hlt : z.toNat < l.length := (List.getElem?_eq_some_iff.1 hc).1
  refine .indexStr hT hg hd hop hu hx hy h0 (show z < ((l.length : Nat) : Int) by omega) ?_
  have : byteAt (S l) z.toNat = c := by simp [byteAt, List.getD, hc]
  rw [this]; exact h
/-- A byte. -/
theorem XO.idxN {x y : Operand} {t : TypeId} {l : List UInt8} {k : IntKind} {z : Int} {d : Nat} (hT : T.Ok P) (hg : wantedE ops e n o = true) (hd : o.dst = some d) (hop : o.op = .index t x y) (hu : T.und t = some .string)
    (hx : e.ev n x = kS l) (hy : e.ev n y = .int k z) (h0 : 0 ≤ z) (h1 : z < (l.length : Int)) (h : ∀ c, l[z.toNat]? = some c → XO P T w0 n HL ops J (ix + 1) rest (e.upd d (kB c)) H) : XO P T w0 n HL ops J ix (o :: rest) e H := by
  have hlt : z.toNat < l.length := by omega
  exact .idxL hT hg hd hop hu hx hy (List.getElem?_eq_getElem hlt) h0 (h _ (List.getElem?_eq_getElem hlt))
/-- 's[i:j]', 's[i:]', 's[:j]'. -/
theorem XO.subLH {x y z : Operand} {t : TypeId} {l : List UInt8} {ky kz : IntKind} {a b : Int} {d : Nat} (i j : Nat) (hT : T.Ok P) (hg : wantedE ops e n o = true) (hd : o.dst = some d) (hop : o.op = .slice t x (some y) (some z) none) (hu : T.und t = some .string)
    (hx : e.ev n x = kS l) (hy : e.ev n y = .int ky a) (hz : e.ev n z = .int kz b) (ha : a = i) (hb : b = j) (h1 : i ≤ j) (h2 : j ≤ l.length) (h : XO P T w0 n HL ops J (ix + 1) rest (e.upd d (kS ((l.drop i).take (j - i)))) H) : XO P T w0 n HL ops J ix (o :: rest) e H := by
  subst ha hb
  have h2' : j ≤ (S l).size := h2
  refine .pureOp (v := kS ((l.drop i).take (j - i))) hg (by rw [hop]; rfl) (fun w => ?_) (by rw [hd]; exact h)
  simp [execOp, hop, hx, hy, hz, Instr.sliceAt, Instr.slice, run_und hT hu, Instr.sliceBounds, run_sliceBound, h1, h2', S_extract]
theorem XO.subLo {x y : Operand} {t : TypeId} {l : List UInt8} {ky : IntKind} {a : Int} {d : Nat} (i : Nat) (hT : T.Ok P) (hg : wantedE ops e n o = true) (hd : o.dst = some d) (hop : o.op = .slice t x (some y) none none) (hu : T.und t = some .string)
    (hx : e.ev n x = kS l) (hy : e.ev n y = .int ky a) (ha : a = i) (h1 : i ≤ l.length) (h : XO P T w0 n HL ops J (ix + 1) rest (e.upd d (kS (l.drop i))) H) : XO P T w0 n HL ops J ix (o :: rest) e H := by
  subst ha
  have h1' : i ≤ (S l).size := h1
  refine .pureOp (v := kS (l.drop i)) hg (by rw [hop]; rfl) (fun w => ?_) (by rw [hd]; exact h)
  have : (l.drop i).take ((S l).size - i) = l.drop i := List.take_of_length_le (by rw [List.length_drop]; exact Nat.le_refl _)
  simp [execOp, hop, hx, hy, Instr.sliceAt, Instr.slice, run_und hT hu, Instr.sliceBounds, run_sliceBound, h1', S_extract, this]
theorem XO.subHi {x z : Operand} {t : TypeId} {l : List UInt8} {kz : IntKind} {b : Int} {d : Nat} (j : Nat) (hT : T.Ok P) (hg : wantedE ops e n o = true) (hd : o.dst = some d) (hop : o.op = .slice t x none (some z) none) (hu : T.und t = some .string)
    (hx : e.ev n x = kS l) (hz : e.ev n z = .int kz b) (hb : b = j) (h2 : j ≤ l.length) (h : XO P T w0 n HL ops J (ix + 1) rest (e.upd d (kS (l.take j))) H) : XO P T w0 n HL ops J ix (o :: rest) e H := by
  subst hb
  have h2' : j ≤ (S l).size := h2
  refine .pureOp (v := kS (l.take j)) hg (by rw [hop]; rfl) (fun w => ?_) (by rw [hd]; exact h)
  simp [execOp, hop, hx, hz, Instr.sliceAt, Instr.slice, run_und hT hu, Instr.sliceBounds, run_sliceBound, h2', S_extract]
/-- '+'. -/
theorem XO.catL {x y : Operand} {t t' : TypeId} {a b : List UInt8} {d : Nat} (hg : wantedE ops e n o = true) (hd : o.dst = some d) (hop : o.op = .binOp .add t x y t') (hx : e.ev n x = kS a) (hy : e.ev n y = kS b) (hs : a.length + b.length ≤ 9223372036854775807)
    (h : XO P T w0 n HL ops J (ix + 1) rest (e.upd d (kS (a ++ b))) H) : XO P T w0 n HL ops J ix (o :: rest) e H :=
  .addStr hg hd hop hx hy hs (by rw [S_append]; exact h)
/-- '==', '!='. -/
theorem XO.eqL {x y : Operand} {t t' : TypeId} {a b : List UInt8} {d : Nat} (hT : T.Ok P) (hh : heldAt HL ix = none) (hg : wantedE ops e n o = true) (hd : o.dst = some d) (hop : o.op = .binOp .eql t x y t') (hx : e.ev n x = kS a) (hy : e.ev n y = kS b)
    (h1 : a = b → XO P T w0 n HL ops J (ix + 1) rest (e.upd d (.bool true)) H) (h2 : a ≠ b → XO P T w0 n HL ops J (ix + 1) rest (e.upd d (.bool false)) H) : XO P T w0 n HL ops J ix (o :: rest) e H := by
  by_cases hab : a = b
  · exact .pT hT hh hg hd hop (by rw [hx, hy]; simp [binV, binS, hab]) (h1 hab)
  · exact .pF hT hh hg hd hop (by rw [hx, hy]; simp [binV, binS, hab]) (h2 hab)
theorem XO.neL {x y : Operand} {t t' : TypeId} {a b : List UInt8} {d : Nat} (hT : T.Ok P) (hh : heldAt HL ix = none) (hg : wantedE ops e n o = true) (hd : o.dst = some d) (hop : o.op = .binOp .neq t x y t') (hx : e.ev n x = kS a) (hy : e.ev n y = kS b)
    (h1 : a = b → XO P T w0 n HL ops J (ix + 1) rest (e.upd d (.bool false)) H) (h2 : a ≠ b → XO P T w0 n HL ops J (ix + 1) rest (e.upd d (.bool true)) H) : XO P T w0 n HL ops J ix (o :: rest) e H := by
  by_cases hab : a = b
  · exact .pF hT hh hg hd hop (by rw [hx, hy]; simp [binV, binS, hab]) (h1 hab)
  · exact .pT hT hh hg hd hop (by rw [hx, hy]; simp [binV, binS, hab]) (h2 hab)
theorem XO.eqLT {x y : Operand} {t t' : TypeId} {a b : List UInt8} {d : Nat} (hT : T.Ok P) (hh : heldAt HL ix = none) (hg : wantedE ops e n o = true) (hd : o.dst = some d) (hop : o.op = .binOp .eql t x y t') (hx : e.ev n x = kS a) (hy : e.ev n y = kS b) (hab : a = b)
    (h1 : XO P T w0 n HL ops J (ix + 1) rest (e.upd d (.bool true)) H) : XO P T w0 n HL ops J ix (o :: rest) e H := .eqL hT hh hg hd hop hx hy (fun _ => h1) (fun h => absurd hab h)
theorem XO.eqLF {x y : Operand} {t t' : TypeId} {a b : List UInt8} {d : Nat} (hT : T.Ok P) (hh : heldAt HL ix = none) (hg : wantedE ops e n o = true) (hd : o.dst = some d) (hop : o.op = .binOp .eql t x y t') (hx : e.ev n x = kS a) (hy : e.ev n y = kS b) (hab : a ≠ b)
    (h1 : XO P T w0 n HL ops J (ix + 1) rest (e.upd d (.bool false)) H) : XO P T w0 n HL ops J ix (o :: rest) e H := .eqL hT hh hg hd hop hx hy (fun h => absurd h hab) (fun _ => h1)
theorem XO.neLF {x y : Operand} {t t' : TypeId} {a b : List UInt8} {d : Nat} (hT : T.Ok P) (hh : heldAt HL ix = none) (hg : wantedE ops e n o = true) (hd : o.dst = some d) (hop : o.op = .binOp .neq t x y t') (hx : e.ev n x = kS a) (hy : e.ev n y = kS b) (hab : a = b)
    (h1 : XO P T w0 n HL ops J (ix + 1) rest (e.upd d (.bool false)) H) : XO P T w0 n HL ops J ix (o :: rest) e H := .neL hT hh hg hd hop hx hy (fun _ => h1) (fun h => absurd hab h)
theorem XO.neLT {x y : Operand} {t t' : TypeId} {a b : List UInt8} {d : Nat} (hT : T.Ok P) (hh : heldAt HL ix = none) (hg : wantedE ops e n o = true) (hd : o.dst = some d) (hop : o.op = .binOp .neq t x y t') (hx : e.ev n x = kS a) (hy : e.ev n y = kS b) (hab : a ≠ b)
    (h1 : XO P T w0 n HL ops J (ix + 1) rest (e.upd d (.bool true)) H) : XO P T w0 n HL ops J ix (o :: rest) e H := .neL hT hh hg hd hop hx hy (fun h => absurd h hab) (fun _ => h1)
/-- A row of bytes becomes a text. -/
theorem Rel.rowCells {w : World} {a : Option Addr} {cap k : Nat} {u : TypeId} {l : List Value} (h : Rel w0 (Row a cap u 1 k l :: F) w) : (a = none ∧ l = []) ∨ ∃ b, a = some ⟨b, 0, none⟩ ∧ ∀ j v, l[j]? = some v → w.cell? ⟨b, j, none⟩ = some v := by
  by_cases hk : 0 < k
  · obtain ⟨b, rfl, h2⟩ := h.row_open hk
    exact .inr ⟨b, rfl, fun j v hj => Reads.row hj w h2⟩
  · have hl : l = [] := List.length_eq_zero_iff.1 (by rw [h.row_len]; omega)
    subst hl
    obtain ⟨x, ⟨h1, h2, d, l1, l2, hc, s⟩, gg⟩ := h.heap
    rcases hc with ⟨h0, _⟩ | ⟨b, hb, _⟩
    · exact .inl ⟨h0, rfl⟩
    · exact .inr ⟨b, hb, fun j v hj => by simp at hj⟩
theorem foldl_bys : ∀ (l : List UInt8) (r : List UInt8), (l.map fun c : UInt8 => (c.toNat : Int)).foldl (fun r z => r.push (UInt8.ofNat z.toNat)) (S r) = S (r ++ l)
  | [], r => by simp
  | c :: l, r => by
    have e1 : (S r).push (UInt8.ofNat ((c.toNat : Int)).toNat) = S (r ++ [c]) := by
      apply ByteArray.ext
      simp [ByteArray.push]
    simp only [List.map_cons, List.foldl_cons]
    rw [e1, foldl_bys l]
    simp
theorem XO.strOfRow {s t u : TypeId} {x : Operand} {a : Option Addr} {k c cap : Nat} {l : List UInt8} {d : Nat} (hT : T.Ok P) (hk0 : Keeps w0 (Row a cap u 1 k (bys l) :: F) (keptBy HL ix)) (hg : wantedE ops e n o = true) (hd : o.dst = some d) (hop : o.op = .convert s t x) (hs : T.und s = some (.slice u)) (ht : T.und t = some .string) (hu : T.und u = some (.int .u8))
    (hx : e.ev n x = .slice a k c)
    (h : XO P T w0 n HL ops J (ix + 1) rest (e.upd d (kS l)) (Row a cap u 1 k (bys l) :: F)) : XO P T w0 n HL ops J ix (o :: rest) e (Row a cap u 1 k (bys l) :: F) := by
  refine .effOp hk0 hg (by rw [hop]; simp [cls, hs, ht]) (fun w hrel => ?_)
  refine ⟨_, w, _, .inl ?_, hrel, hk0, by rw [hd]; exact h⟩
  have hlen : l.length = k := by have := hrel.row_len; rw [bys_length] at this; omega
  rcases hrel.rowCells with ⟨rfl, hl⟩ | ⟨b, rfl, hr⟩
  · have hl' : l = [] := List.length_eq_zero_iff.1 (by have := congrArg List.length hl; simpa [bys_length] using this)
    subst hl'
    simp only [execOp, hop, Sem.run_bind]
    simp [convert, run_und hT hs, run_und hT ht, run_und hT hu, hx, Conv.bytesToString]
    rfl
  · have hmap : bys l = (l.map fun c : UInt8 => (c.toNat : Int)).map (Value.int .u8) := by simp [bys]
    have hlc : (loadCells ⟨b, 0, none⟩ k).run P w = .ok ((l.map fun c : UInt8 => (c.toNat : Int)).map (Value.int .u8)).toArray w := by
      have := run_loadCells_list (P := P) w ⟨b, 0, none⟩ ((l.map fun c : UInt8 => (c.toNat : Int)).map (Value.int .u8)) (fun j v hj => by rw [Addr.add_mk, Nat.zero_add]; rw [← hmap] at hj; exact hr j v hj)
      simpa [hlen] using this
    have := run_bytesToString (P := P) w ⟨b, 0, none⟩ k c _ hlc
    have e0 := foldl_bys l []
    simp only [List.nil_append] at e0
    rw [show (S [] : ByteArray) = ByteArray.empty from rfl] at e0
    rw [e0] at this
    simp [execOp, hop, convert, run_und hT hs, run_und hT ht, run_und hT hu, hx, this]
/-- 'append(b, s...)'. -/
theorem append_rel_str {w : World} {t u ty e : TypeId} {i : TypeInfo} (ht : P.underlying t = some (.slice e)) (hu : P.underlying u = some .string) (hi : P.info? e = some i) (hz : i.zero = some (.int .u8 0)) (hsize : i.size = 1) (hby : i.bytes = 1)
    {a : Option Addr} {cap m : Nat} {l : List Value} {s : List UInt8} (h : Rel w0 (Row a cap e 1 m l :: F) w) (hbytes : m + s.length ≤ 140737488355328) :
    ∃ a' cap' w', (Builtin.append_ #[t, u] ty #[.slice a m cap, .string (S s)]).run P w = .ok (.slice a' (m + s.length) cap') w' ∧ Rel w0 (Row a' cap' e 1 (m + s.length) (l ++ bys s) :: F) w' ∧ ((a = none ∨ 0 < cap) → a' = none ∨ 0 < cap') := by
  have hlen : l.length = m * 1 := h.row_len
  have hsl : Lib.strCells (S s) = bys s := rfl
  have hss : (S s).size = s.length := rfl
  have hlen2 : (l ++ bys s).length = (m + s.length) * 1 := by rw [List.length_append, hlen, bys_length]; omega
  have hzc : (Value.int IntKind.u8 0).cells.size = 1 := rfl
  have grown : ∀ old, Rel w0 (Row (some ⟨w.heap.size, 0, none⟩) (grownCap w (m + s.length) old e) e 1 (m + s.length) (l ++ bys s) :: F) (w.drew.alloc (.cells (l.toArray ++ (bys s).toArray ++ Builtin.zeroCells (Value.int .u8 0).cells (grownCap w (m + s.length) old e - (m + s.length))) e)) := by
    intro old
    have hge := grownCap_ge w (m + s.length) old e
    have hcm : grownCap w (m + s.length) old e ≤ maxLen := grownCap_le_maxLen w (m + s.length) old e (by simp only [maxLen]; omega)
    refine h.reRow (g := w.heap.size) (tail := (Builtin.zeroCells (Value.int .u8 0).cells (grownCap w (m + s.length) old e - (m + s.length))).toList) rfl rfl rfl (by simp) rfl ?_ ?_ hlen2 hge hcm (.inl rfl) (fun k hk _ => heap_alloc_old w.drew _ hk)
    · have := heap_alloc_new w.drew (.cells (l.toArray ++ (bys s).toArray ++ Builtin.zeroCells (Value.int .u8 0).cells (grownCap w (m + s.length) old e - (m + s.length))) e)
      rw [show w.drew.heap.size = w.heap.size from rfl] at this
      rw [this]
      congr 2
      apply Array.ext'; simp
    · have hz0 : (Builtin.zeroCells (Value.int .u8 0).cells (grownCap w (m + s.length) old e - (m + s.length))).toList.length = (grownCap w (m + s.length) old e - (m + s.length)) := by
        rw [Array.length_toList, size_zeroCells, hzc]; omega
      rw [List.length_append, hlen2, hz0]
      omega
  rcases a with _ | a
  · obtain ⟨rfl, rfl, rfl⟩ : m = 0 ∧ cap = 0 ∧ l = [] := by
      obtain ⟨x, ⟨h1, h2, d, l1, l2, hc, s⟩, g⟩ := h.heap
      rcases hc with ⟨_, rfl, rfl, rfl⟩ | ⟨b, hb, _⟩
      · exact ⟨rfl, rfl, rfl⟩
      · cases hb
    by_cases hs0 : s = []
    · subst hs0
      refine ⟨none, 0, w, ?_, by simpa [bys] using h, fun _ => .inl rfl⟩
      have hf := Lib.run_firstCells_string (P := P) w 1 ByteArray.empty
      rw [show (S [] : ByteArray) = ByteArray.empty from rfl]
      simp only [ByteArray.size_empty] at hf
      simp [Builtin.append_, run_underlying ht, run_underlying hu, sizeOf, typeInfo, hi, hsize, Builtin.lenOf, hf]
    · have hpos : 0 < s.length := List.length_pos_iff.2 hs0
      have hr := run_append_nil_string (P := P) w t u ty e i (.int .u8 0) ht hu hi hz (S s) (by rw [hss]; omega) (by rw [hss]; omega) (by rw [hby, hss]; omega)
      have g0 := grown 0
      simp only [Nat.zero_add, List.nil_append, Array.empty_append] at g0 ⊢
      have e1 : ((S s).data.map fun b => Value.int .u8 b.toNat) = (bys s).toArray := by
        apply Array.ext'
        simp [bys]
      rw [e1] at hr
      exact ⟨_, _, _, hr, g0, fun _ => .inr (by rw [hss]; have := grownCap_ge w s.length 0 e; omega)⟩
  · obtain ⟨g, ha, tail, hg, hcl, hnc, hcm⟩ : ∃ g, some a = some ⟨g, 0, none⟩ ∧ ∃ tail, w.heap[g]? = some (.cells ⟨l ++ tail⟩ e (0, 0)) ∧ (l ++ tail).length = cap * 1 ∧ m ≤ cap ∧ cap ≤ maxLen := by
      obtain ⟨x, ⟨h1, h2, d, l1, l2, hc, s⟩, gg⟩ := h.heap
      rcases hc with ⟨h0, _⟩ | ⟨b, hb, tail, hb2, h3, h4, h5, h6⟩
      · cases h0
      · exact ⟨b, hb, tail, (gg _ _ (l1 _ _ hb2)).2, h3, h5, h6⟩
    injection ha with ha
    subst ha
    by_cases hroom : m + s.length ≤ cap
    · have hr := Lib.run_append_room_string (P := P) w t u ty e i ht hu hi hsize g m cap _ hg (S s) hroom (by show m + s.length ≤ (l ++ tail).length; omega)
      refine ⟨_, _, _, hr, h.reRow (g := g) (tail := (l ++ tail).drop (m + s.length)) rfl rfl rfl (by simp [World.setRow]) rfl ?_ ?_ hlen2 hroom hcm (.inr rfl) (fun k _ hk => setRow_other w g k _ hk), fun h => .inr (by rcases h with h | h; cases h; exact h)⟩
      · rw [setRow_heap w g _ _ e _ hg]
        congr 2
        apply Array.ext'
        have e1 : (l ++ tail).take m = l := by rw [← Nat.mul_one m, ← hlen]; exact List.take_left
        simp [hsl, hss, e1]
      · rw [List.length_append, List.length_drop, hlen2, hcl]
        omega
    · have holds : ∀ j v, l[j]? = some v → w.cell? ((⟨g, 0, none⟩ : Addr).add j) = some v := fun j v hj => by
        rw [Addr.add_mk, Nat.zero_add, cell_of_row w g j _ e (0, 0) hg]
        have hlt := (List.getElem?_eq_some_iff.1 hj).1
        simp [List.getElem?_append_left hlt, hj]
      have hr := Lib.run_append_grow_string (P := P) w t u ty e i (.int .u8 0) ht hu hi hz ⟨g, 0, none⟩ m cap l (by rw [hsize]; exact hlen) holds (S s) (by rw [hss]; omega) (by rw [hss]; omega) (by rw [hby]; exact growslice_fits (by rw [hss]; omega) (by rw [hss]; omega))
      exact ⟨_, _, _, hr, grown cap, fun _ => .inr (by rw [hss]; have := grownCap_ge w (m + s.length) cap e; omega)⟩
theorem XO.appendS {x y : Operand} {t t' u : TypeId} {a : Option Addr} {cap k c : Nat} {l : List Value} {s : List UInt8} {d : Nat} (hT : T.Ok P) (hk0 : Keeps w0 (Row a cap u 1 k l :: F) (keptBy HL ix)) (hg : wantedE ops e n o = true) (hd : o.dst = some d)
    (hop : o.op = .call { callee := .builtin .append, args := #[x, y], argTypes := #[t, t'] }) (hu : T.und t = some (.slice u)) (hu' : T.und t' = some .string) (hs : T.size u = some 1) (hbs : T.bytes u = some 1) (hz : T.zero u = some (.int .u8 0))
    (hx : e.ev n x = .slice a k c) (hc : c = cap) (hy : e.ev n y = kS s) (hN : k + s.length ≤ 140737488355328)
    (hk : ∀ a' cap', Keeps w0 (Row a' cap' u 1 (k + s.length) (l ++ bys s) :: F) (keptBy HL ix)) (h : ∀ a' cap', ((a = none ∨ 0 < cap) → a' = none ∨ 0 < cap') → XO P T w0 n HL ops J (ix + 1) rest (e.upd d (.slice a' (k + s.length) cap')) (Row a' cap' u 1 (k + s.length) (l ++ bys s) :: F)) : XO P T w0 n HL ops J ix (o :: rest) e (Row a cap u 1 k l :: F) := by
  subst hc
  refine .effOp hk0 hg (by rw [hop]; rfl) (fun w hrel => ?_)
  obtain ⟨i, hi, hsz⟩ := hT.size _ _ hs
  obtain ⟨i2, hi2, hb2⟩ := hT.bytes _ _ hbs
  obtain ⟨i3, hi3, hz3⟩ := hT.zero _ _ hz
  rw [hi] at hi2 hi3
  injection hi2 with hi2; subst hi2
  injection hi3 with hi3; subst hi3
  obtain ⟨a', cap', w', hrun, hrel', hn⟩ := append_rel_str (P := P) (ty := o.type) (hT.und _ _ hu) (hT.und _ _ hu') hi hz3 hsz hb2 hrel (s := s) hN
  refine ⟨_, w', _, .inl ?_, hrel', hk _ _, by rw [hd]; exact h a' cap' hn⟩
  simp only [execOp, hop, resolve, invoke, builtin, Sem.run_bind, Sem.run_pure, Result.andThen_ok, List.map_toArray, List.map_cons, List.map_nil, hx, hy, hrun]
end
end Go.Sx

/- Rules: small numbers, calls of functions that the model stands in for. Conditions: the table 'T' fits the program. -/
namespace Go.Sx
open Go Go.RowKit
abbrev kI (z : Int) : Value := .int .i64 z
abbrev ptr (b : Nat) : Value := .pointer (some ⟨b, 0, none⟩)
theorem u8_lt (c : UInt8) : c.toNat < 2 ^ 8 := UInt8.toNat_lt c
section
variable {P : Program} {T : Tbl} {w0 : World} {n : Nat} {HL : Held} {ops : Array Oper} {J : Env → List HProp → Prop} {ix : Nat} {rest : List Oper} {o : Oper} {e : Env} {H F : List HProp}
theorem XO.addN (m : Nat) {x y : Operand} {t t' : TypeId} {k : IntKind} {a b : Nat} {d : Nat} (hT : T.Ok P) (hh : heldAt HL ix = none) (hg : wantedE ops e n o = true) (hd : o.dst = some d) (hop : o.op = .binOp .add t x y t') (hx : e.ev n x = .int k (a : Int)) (hy : e.ev n y = .int k (b : Int))
    (hf : fits k m = true) (ha : a + b < 2 ^ m) (h : XO P T w0 n HL ops J (ix + 1) rest (e.upd d (.int k ((a + b : Nat) : Int))) H) : XO P T w0 n HL ops J ix (o :: rest) e H :=
  .binN hT hh hg hd hop hx hy rfl (fun _ => by simp only [binI]; rw [← Int.natCast_add, wrapN hf ha]) h
theorem XO.subN (m : Nat) {x y : Operand} {t t' : TypeId} {k : IntKind} {a b : Nat} {d : Nat} (hT : T.Ok P) (hh : heldAt HL ix = none) (hg : wantedE ops e n o = true) (hd : o.dst = some d) (hop : o.op = .binOp .sub t x y t') (hx : e.ev n x = .int k (a : Int)) (hy : e.ev n y = .int k (b : Int))
    (hf : fits k m = true) (hb : b ≤ a) (ha : a < 2 ^ m) (h : XO P T w0 n HL ops J (ix + 1) rest (e.upd d (.int k ((a - b : Nat) : Int))) H) : XO P T w0 n HL ops J ix (o :: rest) e H :=
  .binN hT hh hg hd hop hx hy rfl (fun _ => by simp only [binI]; rw [← Int.natCast_sub hb, wrapN hf (by omega)]) h
/-- The same, a constant. -/
theorem XO.addC (m : Nat) {x y : Operand} {t t' : TypeId} {k : IntKind} {a : Nat} {z : Int} {d : Nat} (hT : T.Ok P) (hh : heldAt HL ix = none) (hg : wantedE ops e n o = true) (hd : o.dst = some d) (hop : o.op = .binOp .add t x y t') (hx : e.ev n x = .int k (a : Int)) (hy : e.ev n y = .int k z)
    (hf : fits k m = true) (hz : 0 ≤ z) (ha : a + z.toNat < 2 ^ m) (h : XO P T w0 n HL ops J (ix + 1) rest (e.upd d (.int k ((a + z.toNat : Nat) : Int))) H) : XO P T w0 n HL ops J ix (o :: rest) e H :=
  .addN m (b := z.toNat) hT hh hg hd hop hx (by rw [hy, Int.toNat_of_nonneg hz]) hf ha h
theorem XO.subC (m : Nat) {x y : Operand} {t t' : TypeId} {k : IntKind} {a : Nat} {z : Int} {d : Nat} (hT : T.Ok P) (hh : heldAt HL ix = none) (hg : wantedE ops e n o = true) (hd : o.dst = some d) (hop : o.op = .binOp .sub t x y t') (hx : e.ev n x = .int k (a : Int)) (hy : e.ev n y = .int k z)
    (hf : fits k m = true) (hz : 0 ≤ z) (hb : z.toNat ≤ a) (ha : a < 2 ^ m) (h : XO P T w0 n HL ops J (ix + 1) rest (e.upd d (.int k ((a - z.toNat : Nat) : Int))) H) : XO P T w0 n HL ops J ix (o :: rest) e H :=
  .subN m (b := z.toNat) hT hh hg hd hop hx (by rw [hy, Int.toNat_of_nonneg hz]) hf hb ha h
/-- 'a << j'. -/
theorem XO.shlN (m j : Nat) {x y : Operand} {t t' : TypeId} {k k' : IntKind} {a : Nat} {d : Nat} (hT : T.Ok P) (hh : heldAt HL ix = none) (hg : wantedE ops e n o = true) (hd : o.dst = some d) (hop : o.op = .binOp .shl t x y t') (hx : e.ev n x = .int k (a : Int)) (hy : e.ev n y = .int k' (j : Int))
    (hf : fits k m = true) (hj : Nat.ble j k.bits = true) (ha : a * 2 ^ j < 2 ^ m) (h : XO P T w0 n HL ops J (ix + 1) rest (e.upd d (.int k ((a * 2 ^ j : Nat) : Int))) H) : XO P T w0 n HL ops J ix (o :: rest) e H := by
  refine .p hT hh hg hd (v := .int k ((a * 2 ^ j : Nat) : Int)) ?_ h
  rw [hop]
  simp only [pev, hx, hy, binV, isShift, cond_true]
  show shf .shl k a j = _
  simp only [shf, Nat.min_eq_left (Nat.le_of_ble_eq_true hj)]
  have : (a : Int) * 2 ^ j = ((a * 2 ^ j : Nat) : Int) := by simp
  rw [this, wrapN hf ha]
/-- 'a*2^j | b', b small. -/
theorem XO.orLow (m j : Nat) {x y : Operand} {t t' : TypeId} {k : IntKind} {a b : Nat} {d : Nat} (hT : T.Ok P) (hh : heldAt HL ix = none) (hg : wantedE ops e n o = true) (hd : o.dst = some d) (hop : o.op = .binOp .or t x y t') (hx : e.ev n x = .int k ((a * 2 ^ j : Nat) : Int)) (hy : e.ev n y = .int k (b : Int))
    (hf : fits k m = true) (hb : b < 2 ^ j) (ha : a * 2 ^ j + b < 2 ^ m) (h : XO P T w0 n HL ops J (ix + 1) rest (e.upd d (.int k ((a * 2 ^ j + b : Nat) : Int))) H) : XO P T w0 n HL ops J ix (o :: rest) e H := by
  have e1 : a * 2 ^ j ||| b = a * 2 ^ j + b := by rw [Nat.mul_comm]; exact (Nat.two_pow_add_eq_or_of_lt hb a).symm
  refine .orN m hT hh hg hd hop hx hy hf (by omega) (by omega) ?_
  rw [e1]; exact h
/-- 'min', its outcome named. -/
theorem XO.minE {x y : Operand} {ts : Array TypeId} {a b : Int} {k k' : IntKind} {d : Nat} (z : Int) (hg : wantedE ops e n o = true) (hd : o.dst = some d) (hop : o.op = .call { callee := .builtin .min, args := #[x, y], argTypes := ts }) (hx : e.ev n x = .int k a) (hy : e.ev n y = .int k' b)
    (h1 : a ≤ b → z = a) (h2 : b < a → z = b) (h : XO P T w0 n HL ops J (ix + 1) rest (e.upd d (.int k z)) H) : XO P T w0 n HL ops J ix (o :: rest) e H :=
  .minI hg hd hop hx hy (fun hc => by rw [← h1 hc]; exact h) (fun hc => by rw [← h2 hc]; exact h)
/-- A call of a function that the model stands in for. -/
theorem XO.callX {f : FuncId} {ars : Array Operand} {ts : Array TypeId} {args : List Value} {v : Value} {d : Nat} (hk0 : Keeps w0 H (keptBy HL ix)) (hg : wantedE ops e n o = true) (hd : o.dst = some d) (hop : o.op = .call { callee := .value (.func f), args := ars, argTypes := ts })
    (ha : evL (e.ev n) ars.toList = some args) (hr : ∀ w : World, (callFunc f ⟨args⟩).run P w = .ok (.value v) w) (h : XO P T w0 n HL ops J (ix + 1) rest (e.upd d v) H) : XO P T w0 n HL ops J ix (o :: rest) e H := by
  refine .effOp hk0 hg (by rw [hop]; rfl) (fun w hrel => ⟨v, w, H, .inl ?_, hrel, hk0, by rw [hd]; exact h⟩)
  have : ars.map (e.ev n) = ⟨args⟩ := by apply Array.ext'; simpa using evL_eq ha
  simp [execOp, hop, resolve, Env.ev, Deferred.ofValue, invoke, this, hr]
end
/-- A callee of the kit's that lays new blocks alone. -/
theorem Tri.ofBelow {P : Program} {w0 : World} {f : FuncId} {args : Array Value} {H : List HProp} {R : Value → List HProp → Prop} {v : Value} (h : ∀ w, Rel w0 H w → Calls P f args w fun e w' => e = .returned v ∧ Below w.heap.size w w') (hR : R v H) : Tri P f args w0 H R :=
  ⟨fun w hr => (h w hr).mono fun _ _ ⟨he, hb⟩ => ⟨v, H, he, hr.later hb, hR⟩⟩
end Go.Sx

/- Rules: bytes in an array, numbers that are divided. Conditions: the table 'T' fits the program. -/
namespace Go.Sx
open Go Go.RowKit
section
variable {P : Program} {T : Tbl} {w0 : World} {n : Nat} {HL : Held} {ops : Array Oper} {J : Env → List HProp → Prop} {ix : Nat} {rest : List Oper} {o : Oper} {e : Env} {H F : List HProp}
/-- 'a[i:]' of an array. -/
theorem XO.sliceArr {x y : Operand} {t u : TypeId} {b len s i : Nat} {ky : IntKind} {z : Int} {d : Nat} (hT : T.Ok P) (hg : wantedE ops e n o = true) (hd : o.dst = some d) (hop : o.op = .slice t x (some y) none none) (hu : T.und t = some (.array len u)) (hs : T.size u = some s)
    (hx : e.ev n x = .pointer (some ⟨b, 0, none⟩)) (hy : e.ev n y = .int ky z) (hz : z = i) (h1 : i < len) (h : XO P T w0 n HL ops J (ix + 1) rest (e.upd d (.slice (some ⟨b, i * s, none⟩) (len - i) (len - i))) H) : XO P T w0 n HL ops J ix (o :: rest) e H := by
  subst hz
  refine .pureOp (v := .slice (some ⟨b, i * s, none⟩) (len - i) (len - i)) hg (by rw [hop]; rfl) (fun w => ?_) (by rw [hd]; exact h)
  have h2 : i ≤ len := by omega
  have h3 : ¬ len = i := by omega
  simp [execOp, hop, hx, hy, Instr.sliceAt, Instr.sureAddr, run_und hT hu, run_size hT hs, Instr.sliceBounds, run_sliceBound, h2, h3, Addr.add_mk]
theorem XO.idxArr {x y : Operand} {t u : TypeId} {b len s : Nat} {k : IntKind} {z : Int} {d : Nat} (i : Nat) (hT : T.Ok P) (hg : wantedE ops e n o = true) (hd : o.dst = some d) (hop : o.op = .indexAddr t x y) (hu : T.und t = some (.array len u)) (hs : T.size u = some s)
    (hx : e.ev n x = .pointer (some ⟨b, 0, none⟩)) (hy : e.ev n y = .int k z) (hz : z = i) (h1 : i < len) (h : XO P T w0 n HL ops J (ix + 1) rest (e.upd d (.pointer (some ⟨b, 0 + i * s, none⟩))) H) : XO P T w0 n HL ops J ix (o :: rest) e H := by
  subst hz; exact .indexArrN hT hg hd hop hu hs hx hy h1 h
/-- Bytes that lie somewhere become a text. -/
theorem XO.strAt {s t u : TypeId} {x : Operand} {a : Addr} {k c : Nat} {l : List UInt8} {d : Nat} (hT : T.Ok P) (hk0 : Keeps w0 H (keptBy HL ix)) (hg : wantedE ops e n o = true) (hd : o.dst = some d) (hop : o.op = .convert s t x) (hs : T.und s = some (.slice u)) (ht : T.und t = some .string) (hu : T.und u = some (.int .u8))
    (hx : e.ev n x = .slice (some a) k c) (hk : k = l.length) (hr : ReadsL w0 H a (bys l)) (h : XO P T w0 n HL ops J (ix + 1) rest (e.upd d (kS l)) H) : XO P T w0 n HL ops J ix (o :: rest) e H := by
  refine .effOp hk0 hg (by rw [hop]; simp [cls, hs, ht]) (fun w hrel => ⟨_, w, _, .inl ?_, hrel, hk0, by rw [hd]; exact h⟩)
  have hmap : bys l = (l.map fun c : UInt8 => (c.toNat : Int)).map (Value.int .u8) := by simp [bys]
  have hlc : (loadCells a k).run P w = .ok ((l.map fun c : UInt8 => (c.toNat : Int)).map (Value.int .u8)).toArray w := by
    have := run_loadCells_list (P := P) w a ((l.map fun c : UInt8 => (c.toNat : Int)).map (Value.int .u8)) (fun j v hj => by rw [← hmap] at hj; exact hr j v hj w hrel)
    simpa [hk] using this
  have := run_bytesToString (P := P) w a k c _ hlc
  have e0 := foldl_bys l []
  simp only [List.nil_append] at e0
  rw [show (S [] : ByteArray) = ByteArray.empty from rfl] at e0
  rw [e0] at this
  simp [execOp, hop, convert, run_und hT hs, run_und hT ht, run_und hT hu, hx, this]
theorem XO.subHiE {x z : Operand} {t : TypeId} {l r : List UInt8} {kz : IntKind} {b : Int} {d : Nat} (j : Nat) (hr : l.take j = r) (hT : T.Ok P) (hg : wantedE ops e n o = true) (hd : o.dst = some d) (hop : o.op = .slice t x none (some z) none) (hu : T.und t = some .string)
    (hx : e.ev n x = kS l) (hz : e.ev n z = .int kz b) (hb : b = j) (h2 : j ≤ l.length) (h : XO P T w0 n HL ops J (ix + 1) rest (e.upd d (kS r)) H) : XO P T w0 n HL ops J ix (o :: rest) e H := by
  subst hr; exact .subHi j hT hg hd hop hu hx hz hb h2 h
/-- A number becomes a byte. -/
theorem XO.convU8 {s t : TypeId} {x : Operand} {k' k0 : IntKind} {z : Int} {d : Nat} (c : UInt8) (hT : T.Ok P) (hh : heldAt HL ix = none) (hg : wantedE ops e n o = true) (hd : o.dst = some d) (hop : o.op = .convert s t x) (hs : T.und s = some (.int k0)) (ht : T.und t = some (.int .u8)) (hx : e.ev n x = .int k' z) (hz : z = c.toNat)
    (h : XO P T w0 n HL ops J (ix + 1) rest (e.upd d (kB c)) H) : XO P T w0 n HL ops J ix (o :: rest) e H := by
  subst hz; exact .convN 8 hT hh hg hd hop hs ht hx rfl (u8_lt c) h
/-- '/', '%' of numbers that are not negative. -/
theorem XO.quoN {x y : Operand} {t t' : TypeId} {a : Nat} {z : Int} {d : Nat} (b : Nat) (hg : wantedE ops e n o = true) (hd : o.dst = some d) (hop : o.op = .binOp .quo t x y t') (hx : e.ev n x = .int .i64 (a : Int)) (hy : e.ev n y = .int .i64 z) (hz : z = b)
    (h1 : 0 < b) (h2 : a ≤ 9223372036854775807) (h : XO P T w0 n HL ops J (ix + 1) rest (e.upd d (.int .i64 ((a / b : Nat) : Int))) H) : XO P T w0 n HL ops J ix (o :: rest) e H := by
  subst hz
  refine .quo64 hg hd hop hx hy (by omega) (by omega) (by omega) ?_
  rw [← Int.natCast_ediv]; exact h
theorem XO.remN {x y : Operand} {t t' : TypeId} {a : Nat} {z : Int} {d : Nat} (b : Nat) (hg : wantedE ops e n o = true) (hd : o.dst = some d) (hop : o.op = .binOp .rem t x y t') (hx : e.ev n x = .int .i64 (a : Int)) (hy : e.ev n y = .int .i64 z) (hz : z = b)
    (h1 : 0 < b) (h : XO P T w0 n HL ops J (ix + 1) rest (e.upd d (.int .i64 ((a % b : Nat) : Int))) H) : XO P T w0 n HL ops J ix (o :: rest) e H := by
  subst hz
  refine .rem64 hg hd hop hx hy (by omega) (by omega) ?_
  rw [← Int.natCast_emod]; exact h
end
end Go.Sx
