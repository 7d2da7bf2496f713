/- Rules: parts of slices, appending nothing. Conditions: the table 'T' fits the program. -/
import Derived.Test.YtngicmoadobgpaaDoorSxM
import Derived.Laws.Slices
namespace Go.Sx
open Go Go.RowKit
section
variable {P : Program} {T : Tbl} {w0 : World} {n : Nat} {HL : Held} {ops : Array Oper} {J : Env → List HProp → Prop} {ix : Nat} {rest : List Oper} {o : Oper} {e : Env} {H F : List HProp}
theorem Addr.add0 (a : Addr) : a.add 0 = a := by simp [Addr.add]
/-- 's[:h]'. -/
theorem XO.sliceHi {x z : Operand} {t u : TypeId} {a : Option Addr} {k c s h : Nat} {kz : IntKind} {d : Nat} (hT : T.Ok P) (hg : wantedE ops e n o = true) (hd : o.dst = some d) (hop : o.op = .slice t x none (some z) none) (hu : T.und t = some (.slice u)) (hs : T.size u = some s)
    (hx : e.ev n x = .slice a k c) (hz : e.ev n z = .int kz (h : Int)) (h1 : h ≤ c) (hh : XO P T w0 n HL ops J (ix + 1) rest (e.upd d (.slice a h c)) H) : XO P T w0 n HL ops J ix (o :: rest) e H := by
  refine .pureOp (v := .slice a h c) hg (by rw [hop]; rfl) (fun w => ?_) (by rw [hd]; exact hh)
  have e0 : (if c = 0 then a else a.map (·.add (0 * s))) = a := by
    split
    · rfl
    · cases a <;> simp [Addr.add0]
  simp [execOp, hop, hx, hz, Instr.sliceAt, Instr.slice, run_und hT hu, run_size hT hs, Instr.sliceBounds, run_sliceBound, h1]
  simpa using e0
/-- 's[l:]'. -/
theorem XO.sliceLo {x z : Operand} {t u : TypeId} {b off k c s l : Nat} {kz : IntKind} {d : Nat} (hT : T.Ok P) (hg : wantedE ops e n o = true) (hd : o.dst = some d) (hop : o.op = .slice t x (some z) none none) (hu : T.und t = some (.slice u)) (hs : T.size u = some s)
    (hx : e.ev n x = .slice (some ⟨b, off, none⟩) k c) (hz : e.ev n z = .int kz (l : Int)) (h1 : l ≤ k) (h2 : k ≤ c) (hh : ∀ ad : Addr, (l < k → ad = ⟨b, off + l * s, none⟩) → XO P T w0 n HL ops J (ix + 1) rest (e.upd d (.slice (some ad) (k - l) (c - l))) H) : XO P T w0 n HL ops J ix (o :: rest) e H := by
  refine .pureOp (v := .slice (some (if c = l then ⟨b, off, none⟩ else ⟨b, off + l * s, none⟩)) (k - l) (c - l)) hg (by rw [hop]; rfl) (fun w => ?_) (by rw [hd]; exact hh _ (fun hl => by rw [if_neg (by omega)]))
  simp [execOp, hop, hx, hz, Instr.sliceAt, Instr.slice, run_und hT hu, run_size hT hs, Instr.sliceBounds, run_sliceBound, h1, Addr.add_mk]
  split <;> rfl
theorem append0_run {P : Program} {w0 w : World} {t ty u : TypeId} {i : TypeInfo} (ht : P.underlying t = some (.slice u)) (hi : P.info? u = some i) {a : Option Addr} {cap m : Nat} {l : List Value} (h : Rel w0 (Row a cap u i.size m l :: F) w) {ay : Option Addr} {c : Nat} :
    (Builtin.append_ #[t, t] ty #[.slice a m cap, .slice ay 0 c]).run P w = .ok (.slice a m cap) w := by
  have hmc : m ≤ cap := by
    obtain ⟨x, ⟨h1, h2, d, l1, l2, hc, s⟩, g⟩ := h.heap
    rcases hc with ⟨_, rfl, rfl, _⟩ | ⟨b, _, tail, _, _, _, h3, _⟩
    · exact Nat.le_refl _
    · exact h3
  have hf : (Builtin.firstCells i.size 0 (.slice ay 0 c)).run P w = .ok #[] w := by
    cases ay with
    | none => simp [Builtin.firstCells]
    | some ad => exact run_firstCells_some (P := P) w i.size 0 ad 0 c [] (by simp) (fun j v hj => by simp at hj)
  cases a with
  | none =>
    obtain ⟨rfl, rfl⟩ : m = 0 ∧ cap = 0 := by
      obtain ⟨x, ⟨h1, h2, d, l1, l2, hc, s⟩, g⟩ := h.heap
      rcases hc with ⟨_, rfl, rfl, _⟩ | ⟨b, hb, _⟩
      · exact ⟨rfl, rfl⟩
      · cases hb
    simp [Builtin.append_, run_underlying ht, sizeOf, typeInfo, hi, Builtin.lenOf, hf]
  | some ad =>
    simp [Builtin.append_, run_underlying ht, sizeOf, typeInfo, hi, Builtin.lenOf, hf, hmc, storeCells]
/-- 'append' of nothing. -/
theorem XO.append0 {x y : Operand} {t u : TypeId} {a ay : Option Addr} {cap k c s : Nat} {l : List Value} {d : Nat} (hT : T.Ok P) (hk0 : Keeps w0 (Row a cap u s k l :: F) (keptBy HL ix)) (hg : wantedE ops e n o = true) (hd : o.dst = some d)
    (hop : o.op = .call { callee := .builtin .append, args := #[x, y], argTypes := #[t, t] }) (hu : T.und t = some (.slice u)) (hs : T.size u = some s)
    (hx : e.ev n x = .slice a k cap) (hy : e.ev n y = .slice ay 0 c) (h : XO P T w0 n HL ops J (ix + 1) rest (e.upd d (.slice a k cap)) (Row a cap u s k l :: F)) : XO P T w0 n HL ops J ix (o :: rest) e (Row a cap u s k l :: F) := by
  refine .effOp hk0 hg (by rw [hop]; rfl) (fun w hrel => ?_)
  obtain ⟨i, hi, rfl⟩ := hT.size _ _ hs
  refine ⟨_, w, _, .inl ?_, hrel, hk0, by rw [hd]; exact h⟩
  have hrun := append0_run (P := P) (ty := o.type) (ay := ay) (c := c) (hT.und _ _ hu) hi hrel
  simp only [execOp, hop, resolve, invoke, builtin, Sem.run_bind, Sem.run_pure, Result.andThen_ok, List.map_toArray, List.map_cons, List.map_nil, hx, hy, hrun]
end
section
variable {w0 : World} {α : Type} {enc : α → List Value} {es : Nat}
theorem ReadsL.rowDrop {b cap n : Nat} {t : TypeId} {xs : List α} {F : List HProp} (i : Nat) (he : ∀ x, (enc x).length = es) : ReadsL w0 (RowAt b cap t es n (Go.Sx.flat enc xs) :: F) ⟨b, i * es, none⟩ (Go.Sx.flat enc (xs.drop i)) := fun j v hj => by
  rw [Addr.add_mk]; refine Reads.row ?_
  by_cases hi : i ≤ xs.length
  · have e : Go.Sx.flat enc xs = Go.Sx.flat enc (xs.take i) ++ Go.Sx.flat enc (xs.drop i) := by rw [← flat_append, List.take_append_drop]
    have hl : (Go.Sx.flat enc (xs.take i)).length = i * es := by rw [flat_length he, List.length_take, Nat.min_eq_left hi]
    rw [e, List.getElem?_append_right (by omega), hl, Nat.add_sub_cancel_left]; exact hj
  · rw [List.drop_eq_nil_of_le (by omega)] at hj; simp [Go.Sx.flat] at hj
theorem ReadsL.rowTake {b cap n : Nat} {t : TypeId} {xs : List α} {F : List HProp} (i : Nat) : ReadsL w0 (RowAt b cap t es n (Go.Sx.flat enc xs) :: F) ⟨b, 0, none⟩ (Go.Sx.flat enc (xs.take i)) := fun j v hj => by
  rw [Addr.add_mk]; refine Reads.row ?_
  have e : Go.Sx.flat enc xs = Go.Sx.flat enc (xs.take i) ++ Go.Sx.flat enc (xs.drop i) := by rw [← flat_append, List.take_append_drop]
  have hj' : j < (Go.Sx.flat enc (xs.take i)).length := by
    rcases Nat.lt_or_ge j (Go.Sx.flat enc (xs.take i)).length with h | h
    · exact h
    · rw [List.getElem?_eq_none h] at hj; cases hj
  rw [e, Nat.zero_add, List.getElem?_append_left hj']; exact hj
end
section
variable {P : Program} {T : Tbl} {w0 : World} {n : Nat} {HL : Held} {ops : Array Oper} {J : Env → List HProp → Prop} {ix : Nat} {rest : List Oper} {o : Oper} {e : Env} {H F : List HProp}
theorem flat_all {α : Type} {enc : α → List Value} (h : ∀ x, (enc x).all (·.oneCell') = true) : ∀ xs : List α, (flat enc xs).all (·.oneCell') = true
  | [] => rfl
  | x :: xs => by rw [flat_cons, List.all_append, h x, flat_all h xs]; rfl
/-- 'append' of any number. -/
theorem XO.appendN {x y : Operand} {t u : TypeId} {a ay : Option Addr} {cap k m c s bs : Nat} {l news : List Value} {F : List HProp} {z : Value} {d : Nat} (hT : T.Ok P) (hk0 : Keeps w0 (Row a cap u s k l :: F) (keptBy HL ix)) (hg : wantedE ops e n o = true) (hd : o.dst = some d)
    (hop : o.op = .call { callee := .builtin .append, args := #[x, y], argTypes := #[t, t] }) (hu : T.und t = some (.slice u)) (hs : T.size u = some s) (hbs : T.bytes u = some bs) (hz : T.zero u = some z) (hzs : Nat.beq z.cells.size s = true) (hs0 : Nat.blt 0 s = true)
    (hx : e.ev n x = .slice a k cap) (hy : e.ev n y = .slice ay m c) (hr : 0 < m → ∃ ad, ay = some ad ∧ ReadsL w0 (Row a cap u s k l :: F) ad news) (hl : news.length = m * s) (h1 : news.all (·.oneCell') = true) {N : Nat} (hN : k + m ≤ N) (hn : Nat.ble (N * bs) 140737488355328 = true) (hn2 : Nat.ble N 9223372036854775807 = true)
    (hk : ∀ a' cap', Keeps w0 (Row a' cap' u s (k + m) (l ++ news) :: F) (keptBy HL ix)) (h : ∀ a' cap', XO P T w0 n HL ops J (ix + 1) rest (e.upd d (.slice a' (k + m) cap')) (Row a' cap' u s (k + m) (l ++ news) :: F)) : XO P T w0 n HL ops J ix (o :: rest) e (Row a cap u s k l :: F) := by
  rcases Nat.eq_zero_or_pos m with hm | hm
  · subst hm
    have hnil : news = [] := List.eq_nil_of_length_eq_zero (by omega)
    subst hnil
    have h' := h a cap
    rw [List.append_nil, Nat.add_zero] at h'
    exact XO.append0 hT hk0 hg hd hop hu hs hx hy h'
  · obtain ⟨ad, rfl, hr'⟩ := hr hm
    exact XO.append hT hk0 hg hd hop hu hs hbs hz hzs hs0 hx hy hr' hl hm h1 hN hn hn2 hk h
theorem XO.rowLe {l : List Oper} {g cap : Nat} {t : TypeId} {es m : Nat} {ys : List Value} {F : List HProp} (h : m ≤ cap → XO P T w0 n HL ops J ix l e (RowAt g cap t es m ys :: F)) : XO P T w0 n HL ops J ix l e (RowAt g cap t es m ys :: F) :=
  .ex (ι := { _u : Unit // m ≤ cap }) (H' := fun _ => RowAt g cap t es m ys :: F) (fun _ hr => let ⟨_, _, _, _, h3, _⟩ := hr.rowAt_blk; ⟨⟨(), h3⟩, hr⟩) (fun u => h u.2)
end
end Go.Sx
