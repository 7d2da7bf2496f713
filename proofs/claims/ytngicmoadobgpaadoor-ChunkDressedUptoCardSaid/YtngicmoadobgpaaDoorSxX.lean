/- Rules: parts of slices and of strings, elements taken out of a row in place. Conditions: the table 'T' fits the program. -/
import Derived.Test.YtngicmoadobgpaaDoorSxR
namespace Go.Sx
open Go Go.RowKit
section
variable {P : Program} {T : Tbl} {w0 : World} {n : Nat} {HL : Held} {ops : Array Oper} {J : Env → List HProp → Prop} {ix : Nat} {rest : List Oper} {o : Oper} {e : Env} {H F : List HProp}
/-- 's[l:h]'. -/
theorem XO.sliceLH {x y z : Operand} {t u : TypeId} {b off k c s l h : Nat} {ky kz : IntKind} {d : Nat} (hT : T.Ok P) (hg : wantedE ops e n o = true) (hd : o.dst = some d) (hop : o.op = .slice t x (some y) (some z) none) (hu : T.und t = some (.slice u)) (hs : T.size u = some s)
    (hx : e.ev n x = .slice (some ⟨b, off, none⟩) k c) (hy : e.ev n y = .int ky (l : Int)) (hz : e.ev n z = .int kz (h : Int)) (h1 : l ≤ h) (h2 : h ≤ c) (hh : ∀ ad : Addr, (l < h → ad = ⟨b, off + l * s, none⟩) → XO P T w0 n HL ops J (ix + 1) rest (e.upd d (.slice (some ad) (h - l) (c - l))) H) : XO P T w0 n HL ops J ix (o :: rest) e H := by
  refine .pureOp (v := .slice (some (if c = l then ⟨b, off, none⟩ else ⟨b, off + l * s, none⟩)) (h - l) (c - l)) hg (by rw [hop]; rfl) (fun w => ?_) (by rw [hd]; exact hh _ (fun hl => by rw [if_neg (by omega)]))
  simp [execOp, hop, hx, hy, hz, Instr.sliceAt, Instr.slice, run_und hT hu, run_size hT hs, Instr.sliceBounds, run_sliceBound, h1, h2, Addr.add_mk]
  split <;> rfl
/-- 's[l:h:m]', what comes of it not looked at. -/
theorem XO.slice3 {x y z q : Operand} {t u : TypeId} {a : Option Addr} {k c s l h m : Nat} {ky kz kq : IntKind} {d : Nat} (hT : T.Ok P) (hg : wantedE ops e n o = true) (hd : o.dst = some d) (hop : o.op = .slice t x (some y) (some z) (some q)) (hu : T.und t = some (.slice u)) (hs : T.size u = some s)
    (hx : e.ev n x = .slice a k c) (hy : e.ev n y = .int ky (l : Int)) (hz : e.ev n z = .int kz (h : Int)) (hq : e.ev n q = .int kq (m : Int)) (h1 : l ≤ h) (h2 : h ≤ m) (h3 : m ≤ c) (hh : ∀ v, XO P T w0 n HL ops J (ix + 1) rest (e.upd d v) H) : XO P T w0 n HL ops J ix (o :: rest) e H := by
  refine .pureOp (v := .slice (if m = l then a else a.map (·.add (l * s))) (h - l) (m - l)) hg (by rw [hop]; rfl) (fun w => ?_) (by rw [hd]; exact hh _)
  have hb3 : (Instr.sliceBound (.int kq (m : Int)) c .slice3Acap).run P w = .ok m w := by simp [Instr.sliceBound, asIntOf, h3]
  have hb2 : (Instr.sliceBound (.int kz (h : Int)) m .slice3B).run P w = .ok h w := by simp [Instr.sliceBound, asIntOf, h2]
  have hb1 : (Instr.sliceBound (.int ky (l : Int)) h .slice3C).run P w = .ok l w := by simp [Instr.sliceBound, asIntOf, h1]
  simp [execOp, hop, hx, hy, hz, hq, Instr.sliceAt, Instr.slice, run_und hT hu, run_size hT hs, Instr.sliceBounds, hb1, hb2, hb3]
theorem XO.maxI {x y : Operand} {ts : Array TypeId} {a b : Int} {k k' : IntKind} {d : Nat} (hg : wantedE ops e n o = true) (hd : o.dst = some d) (hop : o.op = .call { callee := .builtin .max, args := #[x, y], argTypes := ts }) (hx : e.ev n x = .int k a) (hy : e.ev n y = .int k' b)
    (h1 : a < b → XO P T w0 n HL ops J (ix + 1) rest (e.upd d (.int k b)) H) (h2 : b ≤ a → XO P T w0 n HL ops J (ix + 1) rest (e.upd d (.int k a)) H) : XO P T w0 n HL ops J ix (o :: rest) e H := by
  by_cases h : a < b
  · refine .pureOp (v := .int k b) hg (by rw [hop]; rfl) (fun w => ?_) (by rw [hd]; exact h1 h)
    simp [execOp, hop, resolve, invoke, builtin, hx, hy, run_max_int2, h]
  · refine .pureOp (v := .int k a) hg (by rw [hop]; rfl) (fun w => ?_) (by rw [hd]; exact h2 (by omega))
    simp [execOp, hop, resolve, invoke, builtin, hx, hy, run_max_int2, h]
/-- 'max(a, 0)'. -/
theorem XO.max0 {x y : Operand} {ts : Array TypeId} {a : Int} {k k' : IntKind} {d : Nat} (hg : wantedE ops e n o = true) (hd : o.dst = some d) (hop : o.op = .call { callee := .builtin .max, args := #[x, y], argTypes := ts }) (hx : e.ev n x = .int k a) (hy : e.ev n y = .int k' 0)
    (h : XO P T w0 n HL ops J (ix + 1) rest (e.upd d (.int k (a.toNat : Int))) H) : XO P T w0 n HL ops J ix (o :: rest) e H :=
  .maxI hg hd hop hx hy (fun hc => by rw [show ((a.toNat : Nat) : Int) = 0 by omega] at h; exact h) (fun hc => by rw [show ((a.toNat : Nat) : Int) = a by omega] at h; exact h)
/-- 'append(s[:i], s[j:]...)': in place. -/
theorem XO.appendDel {x y : Operand} {t u : TypeId} {b cap k i j s c : Nat} {l : List Value} {ad : Addr} {d : Nat} (hij : i ≤ j) (hjk : j ≤ k) (had : j < k → ad = ⟨b, j * s, none⟩) (hT : T.Ok P) (hk0 : Keeps w0 (RowAt b cap u s k l :: F) (keptBy HL ix)) (hg : wantedE ops e n o = true) (hd : o.dst = some d)
    (hop : o.op = .call { callee := .builtin .append, args := #[x, y], argTypes := #[t, t] }) (hu : T.und t = some (.slice u)) (hs : T.size u = some s) (h1 : l.all (·.oneCell') = true)
    (hx : e.ev n x = .slice (some ⟨b, 0, none⟩) i cap) (hy : e.ev n y = .slice (some ad) (k - j) c) (hk : Keeps w0 (RowAt b cap u s k (l.take (i * s) ++ l.drop (j * s) ++ l.drop (i * s + (k - j) * s)) :: F) (keptBy HL ix))
    (h : XO P T w0 n HL ops J (ix + 1) rest (e.upd d (.slice (some ⟨b, 0, none⟩) (i + (k - j)) cap)) (RowAt b cap u s k (l.take (i * s) ++ l.drop (j * s) ++ l.drop (i * s + (k - j) * s)) :: F)) : XO P T w0 n HL ops J ix (o :: rest) e (RowAt b cap u s k l :: F) := by
  refine .effOp hk0 hg (by rw [hop]; rfl) (fun w hrel => ?_)
  obtain ⟨inf, hi, rfl⟩ := hT.size _ _ hs
  obtain ⟨tail, hrel2, hl1, hl2, hkc, hcm⟩ := hrel.rowAt_blk
  have hg2 := hrel2.get
  have hks : (i + (k - j)) * inf.size ≤ k * inf.size := Nat.mul_le_mul_right _ (by omega)
  have hadd : (i + (k - j)) * inf.size = i * inf.size + (k - j) * inf.size := Nat.add_mul ..
  have his : i * inf.size ≤ j * inf.size := Nat.mul_le_mul_right _ hij
  have hjs : j * inf.size ≤ k * inf.size := Nat.mul_le_mul_right _ hjk
  have hkj : (k - j) * inf.size = k * inf.size - j * inf.size := Nat.sub_mul ..
  have hdl : (l.drop (j * inf.size)).length = (k - j) * inf.size := by rw [List.length_drop]; omega
  have hfit : i * inf.size + (l.drop (j * inf.size)).length ≤ (⟨l ++ tail⟩ : Array Value).size := by
    show _ ≤ (l ++ tail).length
    rw [List.length_append]; omega
  have hrun : (Builtin.append_ #[t, t] o.type #[.slice (some ⟨b, 0, none⟩) i cap, .slice (some ad) (k - j) c]).run P w = .ok (.slice (some ⟨b, 0, none⟩) (i + (k - j)) cap) (w.setRow b ((⟨l ++ tail⟩ : Array Value).toList.take (i * inf.size) ++ l.drop (j * inf.size) ++ (⟨l ++ tail⟩ : Array Value).toList.drop (i * inf.size + (l.drop (j * inf.size)).length)).toArray) := by
    refine run_append_room (P := P) w t o.type u inf (hT.und _ _ hu) hi b i cap _ hg2 ad (k - j) c _ hdl (fun q v hq => ?_) (fun v hv => List.all_eq_true.1 h1 v (List.mem_of_mem_drop hv)) (by omega) hfit
    have hqlt : q < (l.drop (j * inf.size)).length := (List.getElem?_eq_some_iff.1 hq).1
    have hjk' : j < k := by
      rcases Nat.lt_or_ge j k with h | h
      · exact h
      · have : k - j = 0 := by omega
        rw [hdl, this] at hqlt; omega
    rw [had hjk', Addr.add_mk]
    rw [List.getElem?_drop] at hq
    exact Reads.row hq w hrel
  have e1 : (⟨l ++ tail⟩ : Array Value).toList.take (i * inf.size) = l.take (i * inf.size) := by
    show (l ++ tail).take _ = _
    rw [List.take_append_of_le_length (by omega)]
  have e2 : (⟨l ++ tail⟩ : Array Value).toList.drop (i * inf.size + (l.drop (j * inf.size)).length) = l.drop (i * inf.size + (k - j) * inf.size) ++ tail := by
    show (l ++ tail).drop _ = _
    rw [hdl, List.drop_append_of_le_length (by omega)]
  rw [e1, e2] at hrun
  have hrow : Rel w0 (blk b (.cells ⟨(l.take (i * inf.size) ++ l.drop (j * inf.size) ++ l.drop (i * inf.size + (k - j) * inf.size)) ++ tail⟩ u (0, 0)) :: F) (w.setRow b (l.take (i * inf.size) ++ l.drop (j * inf.size) ++ (l.drop (i * inf.size + (k - j) * inf.size) ++ tail)).toArray) := by
    refine hrel2.set rfl rfl rfl (by simp [World.setRow]) ?_ (fun q hq => setRow_other w b q _ hq)
    rw [setRow_heap w b _ _ u _ hg2, List.append_assoc _ _ tail]
  have hlen : (l.take (i * inf.size) ++ l.drop (j * inf.size) ++ l.drop (i * inf.size + (k - j) * inf.size)).length = k * inf.size := by
    simp only [List.length_append, List.length_take, List.length_drop]; omega
  refine ⟨_, _, _, .inl ?_, Rel.rowAt_mk hrow (by rw [List.length_append, hlen, ← hl1, List.length_append, hl2]) hlen hkc hcm, hk, by rw [hd]; exact h⟩
  simp only [execOp, hop, resolve, invoke, builtin, Sem.run_bind, Sem.run_pure, Result.andThen_ok, List.map_toArray, List.map_cons, List.map_nil, hx, hy, hrun]
end
end Go.Sx
