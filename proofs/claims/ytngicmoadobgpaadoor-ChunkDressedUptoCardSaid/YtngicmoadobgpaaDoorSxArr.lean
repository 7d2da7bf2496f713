/- Rules: bytes in an array, numbers that are divided. Conditions: the table 'T' fits the program. -/
import Derived.Test.YtngicmoadobgpaaDoorSxNum
namespace Go.Sx
open Go Go.RowKit
section
variable {P : Program} {T : Tbl} {w0 : World} {n : Nat} {HL : Held} {ops : Array Oper} {J : Env → List HProp → Prop} {ix : Nat} {rest : List Oper} {o : Oper} {e : Env} {H F : List HProp}
/-- 'a[i:]' of an array. -/
theorem XO.sliceArr {x y : Operand} {t u : TypeId} {b len s i : Nat} {ky : IntKind} {z : Int} {d : Nat} (hT : T.Ok P) (hg : wantedE ops e n o = true) (hd : o.dst = some d) (hop : o.op = .slice t x (some y) none none) (hu : T.und t = some (.array len u)) (hs : T.size u = some s)
    (hx : e.ev n x = .pointer (some ⟨b, 0, none⟩)) (hy : e.ev n y = .int ky z) (hz : z = i) (h1 : i < len) (h : XO P T w0 n HL ops J (ix + 1) rest (e.upd d (.slice (some ⟨b, i * s, none⟩) (len - i) (len - i))) H) : XO P T w0 n HL ops J ix (o :: rest) e H := by
  subst hz
  refine .pureOp (v := .slice (some ⟨b, i * s, none⟩) (len - i) (len - i)) hg (by rw [hop]; rfl) (fun w => ?_) (by rw [hd]; exact h)
  have h2 : i ≤ len := by omega
  have h3 : ¬ len = i := by omega
  simp [execOp, hop, hx, hy, Instr.sliceAt, Instr.sureAddr, run_und hT hu, run_size hT hs, Instr.sliceBounds, run_sliceBound, h2, h3, Addr.add_mk]
theorem XO.idxArr {x y : Operand} {t u : TypeId} {b len s : Nat} {k : IntKind} {z : Int} {d : Nat} (i : Nat) (hT : T.Ok P) (hg : wantedE ops e n o = true) (hd : o.dst = some d) (hop : o.op = .indexAddr t x y) (hu : T.und t = some (.array len u)) (hs : T.size u = some s)
    (hx : e.ev n x = .pointer (some ⟨b, 0, none⟩)) (hy : e.ev n y = .int k z) (hz : z = i) (h1 : i < len) (h : XO P T w0 n HL ops J (ix + 1) rest (e.upd d (.pointer (some ⟨b, 0 + i * s, none⟩))) H) : XO P T w0 n HL ops J ix (o :: rest) e H := by
  subst hz; exact .indexArrN hT hg hd hop hu hs hx hy h1 h
/-- Bytes that lie somewhere become a text. -/
theorem XO.strAt {s t u : TypeId} {x : Operand} {a : Addr} {k c : Nat} {l : List UInt8} {d : Nat} (hT : T.Ok P) (hk0 : Keeps w0 H (keptBy HL ix)) (hg : wantedE ops e n o = true) (hd : o.dst = some d) (hop : o.op = .convert s t x) (hs : T.und s = some (.slice u)) (ht : T.und t = some .string) (hu : T.und u = some (.int .u8))
    (hx : e.ev n x = .slice (some a) k c) (hk : k = l.length) (hr : ReadsL w0 H a (bys l)) (h : XO P T w0 n HL ops J (ix + 1) rest (e.upd d (kS l)) H) : XO P T w0 n HL ops J ix (o :: rest) e H := by
  refine .effOp hk0 hg (by rw [hop]; simp [cls, hs, ht]) (fun w hrel => ⟨_, w, _, .inl ?_, hrel, hk0, by rw [hd]; exact h⟩)
  have hmap : bys l = (l.map fun c : UInt8 => (c.toNat : Int)).map (Value.int .u8) := by simp [bys]
  have hlc : (loadCells a k).run P w = .ok ((l.map fun c : UInt8 => (c.toNat : Int)).map (Value.int .u8)).toArray w := by
    have := run_loadCells_list (P := P) w a ((l.map fun c : UInt8 => (c.toNat : Int)).map (Value.int .u8)) (fun j v hj => by rw [← hmap] at hj; exact hr j v hj w hrel)
    simpa [hk] using this
  have := run_bytesToString (P := P) w a k c _ hlc
  have e0 := foldl_bys l []
  simp only [List.nil_append] at e0
  rw [show (S [] : ByteArray) = ByteArray.empty from rfl] at e0
  rw [e0] at this
  simp [execOp, hop, convert, run_und hT hs, run_und hT ht, run_und hT hu, hx, this]
theorem XO.subHiE {x z : Operand} {t : TypeId} {l r : List UInt8} {kz : IntKind} {b : Int} {d : Nat} (j : Nat) (hr : l.take j = r) (hT : T.Ok P) (hg : wantedE ops e n o = true) (hd : o.dst = some d) (hop : o.op = .slice t x none (some z) none) (hu : T.und t = some .string)
    (hx : e.ev n x = kS l) (hz : e.ev n z = .int kz b) (hb : b = j) (h2 : j ≤ l.length) (h : XO P T w0 n HL ops J (ix + 1) rest (e.upd d (kS r)) H) : XO P T w0 n HL ops J ix (o :: rest) e H := by
  subst hr; exact .subHi j hT hg hd hop hu hx hz hb h2 h
/-- A number becomes a byte. -/
theorem XO.convU8 {s t : TypeId} {x : Operand} {k' k0 : IntKind} {z : Int} {d : Nat} (c : UInt8) (hT : T.Ok P) (hh : heldAt HL ix = none) (hg : wantedE ops e n o = true) (hd : o.dst = some d) (hop : o.op = .convert s t x) (hs : T.und s = some (.int k0)) (ht : T.und t = some (.int .u8)) (hx : e.ev n x = .int k' z) (hz : z = c.toNat)
    (h : XO P T w0 n HL ops J (ix + 1) rest (e.upd d (kB c)) H) : XO P T w0 n HL ops J ix (o :: rest) e H := by
  subst hz; exact .convN 8 hT hh hg hd hop hs ht hx rfl (u8_lt c) h
/-- '/', '%' of numbers that are not negative. -/
theorem XO.quoN {x y : Operand} {t t' : TypeId} {a : Nat} {z : Int} {d : Nat} (b : Nat) (hg : wantedE ops e n o = true) (hd : o.dst = some d) (hop : o.op = .binOp .quo t x y t') (hx : e.ev n x = .int .i64 (a : Int)) (hy : e.ev n y = .int .i64 z) (hz : z = b)
    (h1 : 0 < b) (h2 : a ≤ 9223372036854775807) (h : XO P T w0 n HL ops J (ix + 1) rest (e.upd d (.int .i64 ((a / b : Nat) : Int))) H) : XO P T w0 n HL ops J ix (o :: rest) e H := by
  subst hz
  refine .quo64 hg hd hop hx hy (by omega) (by omega) (by omega) ?_
  rw [← Int.natCast_ediv]; exact h
theorem XO.remN {x y : Operand} {t t' : TypeId} {a : Nat} {z : Int} {d : Nat} (b : Nat) (hg : wantedE ops e n o = true) (hd : o.dst = some d) (hop : o.op = .binOp .rem t x y t') (hx : e.ev n x = .int .i64 (a : Int)) (hy : e.ev n y = .int .i64 z) (hz : z = b)
    (h1 : 0 < b) (h : XO P T w0 n HL ops J (ix + 1) rest (e.upd d (.int .i64 ((a % b : Nat) : Int))) H) : XO P T w0 n HL ops J ix (o :: rest) e H := by
  subst hz
  refine .rem64 hg hd hop hx hy (by omega) (by omega) ?_
  rw [← Int.natCast_emod]; exact h
end
end Go.Sx
