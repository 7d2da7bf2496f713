/- Rules: what a strings.Builder does with pointers and with the memory of its bytes. Conditions: the table 'T' fits the program. -/
import Derived.Test.YtngicmoadobgpaaDoorSxNum
import Derived.Lib.Builder
import Derived.Lib.UnsafeStr
namespace Go.Sx
open Go Go.RowKit
section
variable {P : Program} {T : Tbl} {w0 : World} {n : Nat} {HL : Held} {ops : Array Oper} {J : Env → List HProp → Prop} {ix : Nat} {rest : List Oper} {o : Oper} {e : Env} {H F : List HProp}
theorem shape_of {w : World} {b : Nat} {cs : Array Value} {t : TypeId} {fz : Nat × Nat} (h : w.heap[b]? = some (.cells cs t fz)) : w.shape? b = some (t, cs.size) := by
  simp [World.shape?, h]
theorem XO.toUnsafe {s t u tb : TypeId} {x : Operand} {b k : Nat} {l : List Value} {d : Nat} (hT : T.Ok P) (hk0 : Keeps w0 (cel b tb l :: F) (keptBy HL ix)) (hg : wantedE ops e n o = true) (hd : o.dst = some d) (hop : o.op = .convert s t x) (hs : T.und s = some (.pointer u)) (ht : T.und t = some .unsafePointer) (hz : T.size u = some (k + 1))
    (hx : e.ev n x = .pointer (some ⟨b, 0, none⟩)) (hl : Nat.blt 0 l.length = true) (h : XO P T w0 n HL ops J (ix + 1) rest (e.upd d (.pointer (some ⟨b, 0, none⟩))) (cel b tb l :: F)) : XO P T w0 n HL ops J ix (o :: rest) e (cel b tb l :: F) := by
  refine .effOp hk0 hg (by rw [hop]; simp [cls, hs, ht]) (fun w hrel => ⟨_, w, _, .inl ?_, hrel, hk0, by rw [hd]; exact h⟩)
  obtain ⟨i, hi, hsz⟩ := hT.size _ _ hz
  have hg2 := hrel.get
  have := Lib.run_to_unsafe (P := P) w ⟨b, 0, none⟩ (hT.und _ _ hs) (hT.und _ _ ht) hi (by omega) (shape_of hg2) (Nat.le_of_ble_eq_true hl)
  simp [execOp, hop, hx, this]
theorem XO.fromUnsafe {s t u tb : TypeId} {x : Operand} {b k : Nat} {l : List Value} {d : Nat} (hT : T.Ok P) (hk0 : Keeps w0 (cel b tb l :: F) (keptBy HL ix)) (hg : wantedE ops e n o = true) (hd : o.dst = some d) (hop : o.op = .convert s t x) (hs : T.und s = some .unsafePointer) (ht : T.und t = some (.pointer u)) (hz : T.size u = some k)
    (hx : e.ev n x = .pointer (some ⟨b, 0, none⟩)) (hl : liesAt P P.depth tb (l.length / P.cellsOf tb) 0 u 1 = true) (h : XO P T w0 n HL ops J (ix + 1) rest (e.upd d (.pointer (some ⟨b, 0, none⟩))) (cel b tb l :: F)) : XO P T w0 n HL ops J ix (o :: rest) e (cel b tb l :: F) := by
  refine .effOp hk0 hg (by rw [hop]; simp [cls, hs, ht]) (fun w hrel => ⟨_, w, _, .inl ?_, hrel, hk0, by rw [hd]; exact h⟩)
  obtain ⟨i, hi, hsz⟩ := hT.size _ _ hz
  have hg2 := hrel.get
  have := Lib.run_from_unsafe (P := P) w ⟨b, 0, none⟩ (hT.und _ _ hs) (hT.und _ _ ht) hi (shape_of hg2) hl
  simp [execOp, hop, hx, this]
theorem XO.neqSame {x y : Operand} {t t' u : TypeId} {a : Addr} {k : Nat} {d : Nat} (hT : T.Ok P) (hh : heldAt HL ix = none) (hg : wantedE ops e n o = true) (hd : o.dst = some d) (hop : o.op = .binOp .neq t x y t') (hu : T.und t = some (.pointer u)) (hz : T.size u = some k) (hlk : looks T t x y = true)
    (hx : e.ev n x = .pointer (some a)) (hy : e.ev n y = .pointer (some a)) (h : XO P T w0 n HL ops J (ix + 1) rest (e.upd d (.bool false)) H) : XO P T w0 n HL ops J ix (o :: rest) e H := by
  refine .readOp (v := .bool false) hh hg (by rw [hop]; simp [cls, hlk]) (fun w hrel => ?_) (by rw [hd]; exact h)
  obtain ⟨i, hi, hsz⟩ := hT.size _ _ hz
  have := Lib.run_neq_ptr_same (P := P) w a (hT.und _ _ hu) hi
  simp only [execOp, hop, hx, hy, Sem.run_bind, eqGuard_plain BinOp.neq t x y (.pointer (some a)) (.pointer (some a)) (by simp) (by simp), Result.andThen_ok, this]
  rfl
theorem XO.sliceData {x : Operand} {ts : Array TypeId} {a : Option Addr} {k c : Nat} {d : Nat} (hk0 : Keeps w0 H (keptBy HL ix)) (hg : wantedE ops e n o = true) (hd : o.dst = some d) (hop : o.op = .call { callee := .builtin .unsafeSliceData, args := #[x], argTypes := ts })
    (hx : e.ev n x = .slice a k c) (hc : a = none ∨ 0 < c) (h : XO P T w0 n HL ops J (ix + 1) rest (e.upd d (.pointer a)) H) : XO P T w0 n HL ops J ix (o :: rest) e H := by
  refine .effOp hk0 hg (by rw [hop]; rfl) (fun w hrel => ⟨.pointer a, w, _, .inl ?_, hrel, hk0, by rw [hd]; exact h⟩)
  have : (Builtin.unsafeSliceData_ ts o.type #[.slice a k c]).run P w = .ok (.pointer a) w := by
    cases a with
    | none => rfl
    | some a => exact Lib.run_unsafeSliceData_row w ts o.type a k c (by rcases hc with h | h; cases h; omega)
  simp only [execOp, hop, resolve, invoke, builtin, Sem.run_bind, Sem.run_pure, Result.andThen_ok, List.map_toArray, List.map_cons, List.map_nil, hx, this]
theorem XO.unsafeStr {x y : Operand} {pt it u : TypeId} {a : Option Addr} {cap : Nat} {l : List UInt8} {d : Nat} (hT : T.Ok P) (hk0 : Keeps w0 (Row a cap u 1 l.length (bys l) :: F) (keptBy HL ix)) (hk : keptBy HL ix = []) (hg : wantedE ops e n o = true) (hd : o.dst = some d) (hop : o.op = .call { callee := .builtin .unsafeString, args := #[x, y], argTypes := #[pt, it] })
    (hp : T.und pt = some (.pointer u)) (hc : P.cellsOf u = 1) (hx : e.ev n x = .pointer a) (hy : e.ev n y = .int .i64 l.length) (h : XO P T w0 n HL ops J (ix + 1) rest (e.upd d (kS l)) F) : XO P T w0 n HL ops J ix (o :: rest) e (Row a cap u 1 l.length (bys l) :: F) := by
  by_cases h0 : l = []
  · subst h0
    refine .effOp hk0 hg (by rw [hop]; rfl) (fun w hrel => ⟨kS [], w, F, .inl ?_, hrel.ent (Ent.drop _ _), by rw [hk]; trivial, by rw [hd]; exact h⟩)
    have := Lib.run_unsafeString_none (P := P) w pt it o.type a
    simp only [execOp, hop, resolve, invoke, builtin, Sem.run_bind, Sem.run_pure, Result.andThen_ok, List.map_toArray, List.map_cons, List.map_nil, hx, hy, List.length_nil, Int.natCast_zero, this]
    rfl
  · have hl : 0 < l.length := List.length_pos_iff.2 h0
    refine .effOp hk0 hg (by rw [hop]; rfl) (fun w hrel => ?_)
    obtain ⟨g, rfl, hr2⟩ := hrel.row_open hl
    obtain ⟨tail, hr3, hl1, hl2, hkc, hcm⟩ := hr2.rowAt_blk
    have hg2 := hr3.get
    have hlen : l.length ≤ (bys l ++ tail).length := by rw [List.length_append, bys_length]; omega
    have hrun : (Builtin.unsafeString_ #[pt, it] o.type #[.pointer (some ⟨g, 0, none⟩), .int .i64 l.length]).run P w = .ok (.string ⟨l.toArray⟩) (w.freeze ⟨g, 0, none⟩ l.length) := by
      refine Lib.run_unsafeString_row w pt it o.type u (hT.und _ _ hp) hc g _ (shape_of hg2) l h0 hlen (by simp only [maxLen] at hcm; omega) (fun j v hj => ?_)
      rw [Addr.add_mk, Nat.zero_add]
      exact Reads.row (bys_get hj) w hr2
    refine ⟨kS l, w.freeze ⟨g, 0, none⟩ l.length, F, .inl ?_, ?_, by rw [hk]; trivial, by rw [hd]; exact h⟩
    · simp only [execOp, hop, resolve, invoke, builtin, Sem.run_bind, Sem.run_pure, Result.andThen_ok, List.map_toArray, List.map_cons, List.map_nil, hx, hy, hrun]
    · have hne : ¬ l.length = 0 := by omega
      unfold World.freeze
      rw [if_neg hne]
      refine Rel.ent (H := blk g (.cells ⟨bys l ++ tail⟩ u (0, l.length)) :: F) ?_ (Ent.drop _ _)
      refine Rel.set (o' := .cells ⟨bys l ++ tail⟩ u (0, l.length)) hr3 rfl rfl rfl ?_ ?_ (fun j hj => ?_)
      · simp only [Array.size_modify]
      · simp only [Array.getElem?_modify, if_true, hg2, Option.map_some]
        simp
      · simp only [Array.getElem?_modify]
        rw [if_neg (Ne.symm hj)]
end
end Go.Sx
