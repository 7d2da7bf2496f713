/- Some texts put together: lemmas and contracts for the law. Conditions: as each text says. -/
import Derived.Test.YtngicmoadobgpaaDoorU8
import Derived.Maps.RangeRun
import Derived.Test.YtngicmoadobgpaaDoorU7
/- Rules: ranges over maps. Conditions: the table 'T' fits the program. -/
namespace Go.Sx
open Go Go.RowKit
/-- What ties an iterator to its map: 'left' is still to come, 'cur' came last. -/
structure MR {κ : Type} (kv : κ → Value) (es left : List (κ × Value)) (cur : Option (κ × Value)) (arr : Array MapEntry) (clock since : Nat) (seen : Array Nat) (c0 : Nat) : Prop where
  ents : arr.toList.map (fun e => (e.key, e.val)) = es.map (fun p => (kv p.1, p.2))
  st : MapKept.Stamped arr clock
  old : ∀ x ∈ arr.toList, x.born < since
  s0 : since ≤ c0
  sc : since ≤ clock
  lf : (arr.toList.filter (fun e => !seen.contains e.born)).map (fun e => (e.key, e.val)) = left.map (fun p => (kv p.1, p.2))
  cu : ∀ p, cur = some p → c0 = clock ∧ ∃ e ∈ arr.toList, ∃ s' : Array Nat, seen = s'.push e.born ∧ e.key = kv p.1 ∧ e.val = p.2
/-- A map under way. -/
def mrange {κ : Type} (b r : Nat) (kv : κ → Value) (es left : List (κ × Value)) (cur : Option (κ × Value)) : HProp :=
  hex fun q : Array MapEntry × Nat × Nat × Array Nat × Nat => stars [blk b (.map q.1 q.2.1), blk r (.mapIter (some b) q.2.2.1 q.2.2.2.1 q.2.2.2.2), fact (MR kv es left cur q.1 q.2.1 q.2.2.1 q.2.2.2.1 q.2.2.2.2)]
section
variable {κ : Type} {kv : κ → Value} {b r : Nat} {es left : List (κ × Value)} {cur : Option (κ × Value)} {w0 w : World} {F : List HProp}
theorem mrange_mk {arr : Array MapEntry} {clock since : Nat} {seen : Array Nat} {c0 : Nat} (h : MR kv es left cur arr clock since seen c0) : Ent (blk b (.map arr clock) :: blk r (.mapIter (some b) since seen c0) :: F) (mrange b r kv es left cur :: F) := by
  refine Ent.trans ?_ (Ent.hex (f := fun q : Array MapEntry × Nat × Nat × Array Nat × Nat => stars [blk b (.map q.1 q.2.1), blk r (.mapIter (some b) q.2.2.1 q.2.2.2.1 q.2.2.2.2), fact (MR kv es left cur q.1 q.2.1 q.2.2.1 q.2.2.2.1 q.2.2.2.2)]) (arr, clock, since, seen, c0))
  refine Ent.trans ?_ Ent.pack3
  exact Ent.cons _ (Ent.cons _ fun x s => ⟨fun _ => none, x, fun _ => .inl rfl, (fun _ _ e => by cases e), Hp.le_refl _, h, s⟩)
theorem Rel.mrange (h : Rel w0 (Go.Sx.mrange b r kv es left cur :: F) w) : ∃ arr clock since seen c0, MR kv es left cur arr clock since seen c0 ∧ Rel w0 (blk b (.map arr clock) :: blk r (.mapIter (some b) since seen c0) :: F) w := by
  obtain ⟨⟨arr, clock, since, seen, c0⟩, h⟩ := h.hex
  have h := h.ent Ent.unpack3
  have hp : MR kv es left cur arr clock since seen c0 := (h.ent Ent.front2).pure_
  exact ⟨arr, clock, since, seen, c0, hp, h.ent (Ent.cons _ (Ent.cons _ (Ent.drop _ _)))⟩
theorem Rel.mrange_map (h : Rel w0 (Go.Sx.mrange b r kv es left cur :: F) w) : Rel w0 (mapc b kv es :: F) w := by
  obtain ⟨arr, clock, since, seen, c0, hm, h⟩ := h.mrange
  exact (h.ent (Ent.cons _ (Ent.drop _ _))).ent (Ent.mapc hm.ents hm.st)
theorem mrange_done : Ent (mrange b r kv es left cur :: F) (mapc b kv es :: F) := by
  rintro h ⟨h1, h2, d, l1, l2, ⟨⟨arr, clock, since, seen, c0⟩, hq⟩, s⟩
  obtain ⟨a1, a2, da, la1, la2, hb, c1, c2, dc, lc1, lc2, hr, e1, e2, de, le1, le2, hm, _⟩ := hq
  exact ⟨h1, h2, d, l1, l2, ⟨arr, clock, la1 _ _ hb, hm.ents, hm.st⟩, s⟩
theorem map_erase {α β : Type} (f : α → β) : ∀ (L : List α) (i : Nat), (L.eraseIdx i).map f = (L.map f).eraseIdx i
  | [], _ => by simp
  | _ :: _, 0 => rfl
  | x :: L, i + 1 => by simp only [List.eraseIdx_cons_succ, List.map_cons, map_erase f L i]
theorem filter_erase {α : Type} {f : α → Nat} : ∀ {L : List α} {i : Nat} {e : α}, (L.map f).Nodup → L[i]? = some e → L.filter (fun x => !(f x == f e)) = L.eraseIdx i
  | [], _, _, _, h => by simp at h
  | x :: L, 0, e, hn, h => by
    simp only [List.getElem?_cons_zero, Option.some.injEq] at h; subst h
    rw [List.map_cons, List.nodup_cons] at hn
    rw [List.filter_cons_of_neg (by simp), List.eraseIdx_cons_zero, List.filter_eq_self.2]
    intro y hy
    simp only [Bool.not_eq_true', beq_eq_false_iff_ne]
    exact fun he => hn.1 (by rw [← he]; exact List.mem_map.2 ⟨y, hy, rfl⟩)
  | x :: L, i + 1, e, hn, h => by
    rw [List.map_cons, List.nodup_cons] at hn
    simp only [List.getElem?_cons_succ] at h
    have hne : f x ≠ f e := fun he => hn.1 (by rw [he]; exact List.mem_map.2 ⟨e, List.mem_of_getElem? h, rfl⟩)
    rw [List.filter_cons_of_pos (by simpa using hne), List.eraseIdx_cons_succ, filter_erase hn.2 h]
end
section
variable {P : Program} {T : Tbl} {w0 : World} {n : Nat} {HL : Held} {ops : Array Oper} {J : Env → List HProp → Prop} {ix : Nat} {rest : List Oper} {o : Oper} {e : Env} {F : List HProp} {κ : Type} {kv : κ → Value} {b r : Nat} {es left : List (κ × Value)} {cur : Option (κ × Value)}
theorem XO.rangeM {t kt vt : TypeId} {x : Operand} {d : Nat} (hT : T.Ok P) (hk0 : Keeps w0 (mapc b kv es :: F) (keptBy HL ix)) (hg : wantedE ops e n o = true) (hd : o.dst = some d) (hop : o.op = .range t x) (hu : T.und t = some (.map kt vt)) (hx : e.ev n x = .map (some b))
    (hk : ∀ r, Keeps w0 (mrange b r kv es es none :: F) (keptBy HL ix)) (h : ∀ r, XO P T w0 n HL ops J (ix + 1) rest (e.upd d (.pointer (some ⟨r, 0, none⟩))) (mrange b r kv es es none :: F)) : XO P T w0 n HL ops J ix (o :: rest) e (mapc b kv es :: F) := by
  refine .effOp hk0 hg (by rw [hop]; rfl) (fun w hrel => ?_)
  obtain ⟨arr, clock, hb, he, hrel2, hst⟩ := hrel.map_get
  refine ⟨_, _, _, .inl ?_, ((hrel2.alloc (.mapIter (some b) clock #[] clock)).ent Ent.front1).ent (mrange_mk ⟨he, hst, hst.1, Nat.le_refl _, Nat.le_refl _, by rw [show arr.toList.filter (fun e => !(#[] : Array Nat).contains e.born) = arr.toList from List.filter_eq_self.2 (fun _ _ => by simp)]; exact he, fun p hp => by cases hp⟩), hk _, by rw [hd]; exact h w.heap.size⟩
  have := run_range_map (P := P) w t kt vt b arr clock (hT.und _ _ hu) hb
  simp only [execOp, hop, hx, Sem.run_bind, this, Result.andThen_ok]
  rfl
theorem XO.nextM {x : Operand} {d : Nat} (hk0 : Keeps w0 (mrange b r kv es left cur :: F) (keptBy HL ix)) (hg : wantedE ops e n o = true) (hd : o.dst = some d) (hop : o.op = .next x false) (hx : e.ev n x = .pointer (some ⟨r, 0, none⟩))
    (hk1 : Keeps w0 (mapc b kv es :: F) (keptBy HL ix)) (hk2 : ∀ left' p, Keeps w0 (mrange b r kv es left' (some p) :: F) (keptBy HL ix))
    (h1 : left = [] → XO P T w0 n HL ops J (ix + 1) rest (e.upd d (.tuple #[.bool false])) (mapc b kv es :: F))
    (h2 : ∀ i p, left[i]? = some p → XO P T w0 n HL ops J (ix + 1) rest (e.upd d (.tuple #[.bool true, kv p.1, p.2])) (mrange b r kv es (left.eraseIdx i) (some p) :: F)) : XO P T w0 n HL ops J ix (o :: rest) e (mrange b r kv es left cur :: F) := by
  refine .effOp hk0 hg (by rw [hop]; rfl) (fun w hrel => ?_)
  have hrel0 := hrel
  obtain ⟨arr, clock, since, seen, c0, hm, hrel⟩ := hrel.mrange
  have hb := hrel.get
  have hr := (hrel.ent Ent.front1).get
  have hne : r ≠ b := fun e => by rw [e, hb] at hr; cases hr
  rcases run_next_at (P := P) w o.type r b since c0 seen arr clock hr hb hm.old hm.s0 with ⟨h0, hrun⟩ | ⟨en, hen, w1, hal, hrun⟩
  · have hl : left = [] := by
      have h2 := hm.lf
      have h3 : leftOf arr seen = #[] := Array.eq_empty_of_size_eq_zero h0
      have h4 : arr.toList.filter (fun e => !seen.contains e.born) = [] := by
        have := congrArg Array.toList h3
        simpa [leftOf] using this
      rw [h4] at h2
      simpa using h2.symm
    refine ⟨_, w, _, .inl ?_, hrel0.ent mrange_done, hk1, by rw [hd]; exact h1 hl⟩
    simp only [execOp, hop, hx, Sem.run_bind, hrun, Result.andThen_ok]
    rfl
  · have hlf := hm.lf
    have hnd : ((arr.toList.filter (fun e => !seen.contains e.born)).map (·.born)).Nodup := List.Nodup.sublist (List.Sublist.map _ List.filter_sublist) hm.st.2.1
    have hmem : en ∈ arr.toList.filter (fun e => !seen.contains e.born) := by
      have := hen
      simpa [leftOf] using this
    obtain ⟨i, hi⟩ := List.getElem?_of_mem hmem
    have hi2 : (left.map (fun p => (kv p.1, p.2)))[i]? = some (en.key, en.val) := by rw [← hlf, List.getElem?_map, hi]; rfl
    rw [List.getElem?_map, Option.map_eq_some_iff] at hi2
    obtain ⟨p, hp, hpe⟩ := hi2
    simp only [Prod.mk.injEq] at hpe
    have hin : en ∈ arr.toList := (List.mem_filter.1 hmem).1
    have hrel1 : Rel w0 (blk b (.map arr clock) :: blk r (.mapIter (some b) since seen c0) :: F) w1 := by
      rcases hal with rfl | rfl
      · exact hrel
      · exact hrel.drew
    have hlt : r < w1.heap.size := (Array.getElem?_eq_some_iff.1 (hrel1.ent Ent.front1).get).1
    have hset : Rel w0 (blk r (.mapIter (some b) since (seen.push en.born) clock) :: blk b (.map arr clock) :: F) (ChangeMaps.setBlock w1 r (.mapIter (some b) since (seen.push en.born) clock)) :=
      (hrel1.ent Ent.front1).set rfl rfl rfl (by simp [ChangeMaps.setBlock]) (by simp [ChangeMaps.setBlock, hlt]) (fun k hk => by simp [ChangeMaps.setBlock, Ne.symm hk])
    have hM : MR kv es (left.eraseIdx i) (some p) arr clock since (seen.push en.born) clock := by
      refine ⟨hm.ents, hm.st, hm.old, hm.sc, hm.sc, ?_, fun q hq => ?_⟩
      · have e1 : arr.toList.filter (fun e => !(seen.push en.born).contains e.born) = (arr.toList.filter (fun e => !seen.contains e.born)).filter (fun x => !(x.born == en.born)) := by
          rw [List.filter_filter]
          congr 1
          funext x
          rw [contains_push]
          cases seen.contains x.born <;> cases (x.born == en.born) <;> rfl
        rw [e1, filter_erase hnd hi, map_erase, hlf, map_erase]
      · injection hq with hq; subst hq
        exact ⟨rfl, en, hin, seen, rfl, hpe.1.symm, hpe.2.symm⟩
    refine ⟨_, _, _, .inl ?_, (hset.ent Ent.front1).ent (mrange_mk hM), hk2 _ _, by rw [hd]; exact h2 i p hp⟩
    simp only [execOp, hop, hx, Sem.run_bind, hrun, Result.andThen_ok, hpe.1, hpe.2]
    rfl
theorem XO.entryM {x : Operand} {d : Nat} {p : κ × Value} (hk0 : Keeps w0 (mrange b r kv es left (some p) :: F) (keptBy HL ix)) (hg : wantedE ops e n o = true) (hd : o.dst = some d) (hop : o.op = .entry x) (hx : e.ev n x = .pointer (some ⟨r, 0, none⟩))
    (h : XO P T w0 n HL ops J (ix + 1) rest (e.upd d (.tuple #[kv p.1, p.2])) (mrange b r kv es left (some p) :: F)) : XO P T w0 n HL ops J ix (o :: rest) e (mrange b r kv es left (some p) :: F) := by
  refine .effOp hk0 hg (by rw [hop]; rfl) (fun w hrel => ?_)
  have hrel0 := hrel
  obtain ⟨arr, clock, since, seen, c0, hm, hrel⟩ := hrel.mrange
  have hb := hrel.get
  have hr := (hrel.ent Ent.front1).get
  obtain ⟨rfl, en, hin, s', rfl, h1, h2⟩ := hm.cu p rfl
  refine ⟨_, w, _, .inl ?_, hrel0, hk0, by rw [hd]; exact h⟩
  have := run_entry_at (P := P) w r b since s' arr c0 en hr hb hin hm.st.2.1
  simp only [execOp, hop, hx, Sem.run_bind, this, Result.andThen_ok, h1, h2]
  rfl
end
end Go.Sx

/- Rules: parts of slices and of strings, elements taken out of a row in place. Conditions: the table 'T' fits the program. -/
namespace Go.Sx
open Go Go.RowKit
section
variable {P : Program} {T : Tbl} {w0 : World} {n : Nat} {HL : Held} {ops : Array Oper} {J : Env → List HProp → Prop} {ix : Nat} {rest : List Oper} {o : Oper} {e : Env} {H F : List HProp}
/-- 's[l:h]'. -/
theorem XO.sliceLH {x y z : Operand} {t u : TypeId} {b off k c s l h : Nat} {ky kz : IntKind} {d : Nat} (hT : T.Ok P) (hg : wantedE ops e n o = true) (hd : o.dst = some d) (hop : o.op = .slice t x (some y) (some z) none) (hu : T.und t = some (.slice u)) (hs : T.size u = some s)
    (hx : e.ev n x = .slice (some ⟨b, off, none⟩) k c) (hy : e.ev n y = .int ky (l : Int)) (hz : e.ev n z = .int kz (h : Int)) (h1 : l ≤ h) (h2 : h ≤ c) (hh : ∀ ad : Addr, (l < h → ad = ⟨b, off + l * s, none⟩) → XO P T w0 n HL ops J (ix + 1) rest (e.upd d (.slice (some ad) (h - l) (c - l))) H) : XO P T w0 n HL ops J ix (o :: rest) e H := by
  refine .pureOp (v := .slice (some (if c = l then ⟨b, off, none⟩ else ⟨b, off + l * s, none⟩)) (h - l) (c - l)) hg (by rw [hop]; rfl) (fun w => ?_) (by rw [hd]; exact hh _ (fun hl => by rw [if_neg (by omega)]))
  simp [execOp, hop, hx, hy, hz, Instr.sliceAt, Instr.slice, run_und hT hu, run_size hT hs, Instr.sliceBounds, run_sliceBound, h1, h2, Addr.add_mk]
  split <;> rfl
/-- 's[l:h:m]', what comes of it not looked at. -/
theorem XO.slice3 {x y z q : Operand} {t u : TypeId} {a : Option Addr} {k c s l h m : Nat} {ky kz kq : IntKind} {d : Nat} (hT : T.Ok P) (hg : wantedE ops e n o = true) (hd : o.dst = some d) (hop : o.op = .slice t x (some y) (some z) (some q)) (hu : T.und t = some (.slice u)) (hs : T.size u = some s)
    (hx : e.ev n x = .slice a k c) (hy : e.ev n y = .int ky (l : Int)) (hz : e.ev n z = .int kz (h : Int)) (hq : e.ev n q = .int kq (m : Int)) (h1 : l ≤ h) (h2 : h ≤ m) (h3 : m ≤ c) (hh : ∀ v, XO P T w0 n HL ops J (ix + 1) rest (e.upd d v) H) : XO P T w0 n HL ops J ix (o :: rest) e H := by
  refine .pureOp (v := .slice (if m = l then a else a.map (·.add (l * s))) (h - l) (m - l)) hg (by rw [hop]; rfl) (fun w => ?_) (by rw [hd]; exact hh _)
  have hb3 : (Instr.sliceBound (.int kq (m : Int)) c .slice3Acap).run P w = .ok m w := by simp [Instr.sliceBound, asIntOf, h3]
  have hb2 : (Instr.sliceBound (.int kz (h : Int)) m .slice3B).run P w = .ok h w := by simp [Instr.sliceBound, asIntOf, h2]
  have hb1 : (Instr.sliceBound (.int ky (l : Int)) h .slice3C).run P w = .ok l w := by simp [Instr.sliceBound, asIntOf, h1]
  simp [execOp, hop, hx, hy, hz, hq, Instr.sliceAt, Instr.slice, run_und hT hu, run_size hT hs, Instr.sliceBounds, hb1, hb2, hb3]
theorem XO.maxI {x y : Operand} {ts : Array TypeId} {a b : Int} {k k' : IntKind} {d : Nat} (hg : wantedE ops e n o = true) (hd : o.dst = some d) (hop : o.op = .call { callee := .builtin .max, args := #[x, y], argTypes := ts }) (hx : e.ev n x = .int k a) (hy : e.ev n y = .int k' b)
    (h1 : a < b → XO P T w0 n HL ops J (ix + 1) rest (e.upd d (.int k b)) H) (h2 : b ≤ a → XO P T w0 n HL ops J (ix + 1) rest (e.upd d (.int k a)) H) : XO P T w0 n HL ops J ix (o :: rest) e H := by
  by_cases h : a < b
  · refine .pureOp (v := .int k b) hg (by rw [hop]; rfl) (fun w => ?_) (by rw [hd]; exact h1 h)
    simp [execOp, hop, resolve, invoke, builtin, hx, hy, run_max_int2, h]
  · refine .pureOp (v := .int k a) hg (by rw [hop]; rfl) (fun w => ?_) (by rw [hd]; exact h2 (by omega))
    simp [execOp, hop, resolve, invoke, builtin, hx, hy, run_max_int2, h]
/-- 'max(a, 0)'. -/
theorem XO.max0 {x y : Operand} {ts : Array TypeId} {a : Int} {k k' : IntKind} {d : Nat} (hg : wantedE ops e n o = true) (hd : o.dst = some d) (hop : o.op = .call { callee := .builtin .max, args := #[x, y], argTypes := ts }) (hx : e.ev n x = .int k a) (hy : e.ev n y = .int k' 0)
    (h : XO P T w0 n HL ops J (ix + 1) rest (e.upd d (.int k (a.toNat : Int))) H) : XO P T w0 n HL ops J ix (o :: rest) e H :=
  .maxI hg hd hop hx hy (fun hc => by rw [show ((a.toNat : Nat) : Int) = 0 by omega] at h; exact h) (fun hc => by rw [show ((a.toNat : Nat) : Int) = a by omega] at h; exact h)
/-- 'append(s[:i], s[j:]...)': in place. -/
theorem XO.appendDel {x y : Operand} {t u : TypeId} {b cap k i j s c : Nat} {l : List Value} {ad : Addr} {d : Nat} (hij : i ≤ j) (hjk : j ≤ k) (had : j < k → ad = ⟨b, j * s, none⟩) (hT : T.Ok P) (hk0 : Keeps w0 (RowAt b cap u s k l :: F) (keptBy HL ix)) (hg : wantedE ops e n o = true) (hd : o.dst = some d)
    (hop : o.op = .call { callee := .builtin .append, args := #[x, y], argTypes := #[t, t] }) (hu : T.und t = some (.slice u)) (hs : T.size u = some s) (h1 : l.all (·.oneCell') = true)
    (hx : e.ev n x = .slice (some ⟨b, 0, none⟩) i cap) (hy : e.ev n y = .slice (some ad) (k - j) c) (hk : Keeps w0 (RowAt b cap u s k (l.take (i * s) ++ l.drop (j * s) ++ l.drop (i * s + (k - j) * s)) :: F) (keptBy HL ix))
    (h : XO P T w0 n HL ops J (ix + 1) rest (e.upd d (.slice (some ⟨b, 0, none⟩) (i + (k - j)) cap)) (RowAt b cap u s k (l.take (i * s) ++ l.drop (j * s) ++ l.drop (i * s + (k - j) * s)) :: F)) : XO P T w0 n HL ops J ix (o :: rest) e (RowAt b cap u s k l :: F) := by
  refine .effOp hk0 hg (by rw [hop]; rfl) (fun w hrel => ?_)
  obtain ⟨inf, hi, rfl⟩ := hT.size _ _ hs
  obtain ⟨tail, hrel2, hl1, hl2, hkc, hcm⟩ := hrel.rowAt_blk
  have hg2 := hrel2.get
  have hks : (i + (k - j)) * inf.size ≤ k * inf.size := Nat.mul_le_mul_right _ (by omega)
  have hadd : (i + (k - j)) * inf.size = i * inf.size + (k - j) * inf.size := Nat.add_mul ..
  have his : i * inf.size ≤ j * inf.size := Nat.mul_le_mul_right _ hij
  have hjs : j * inf.size ≤ k * inf.size := Nat.mul_le_mul_right _ hjk
  have hkj : (k - j) * inf.size = k * inf.size - j * inf.size := Nat.sub_mul ..
  have hdl : (l.drop (j * inf.size)).length = (k - j) * inf.size := by rw [List.length_drop]; omega
  have hfit : i * inf.size + (l.drop (j * inf.size)).length ≤ (⟨l ++ tail⟩ : Array Value).size := by
    show _ ≤ (l ++ tail).length
    rw [List.length_append]; omega
  have hrun : (Builtin.append_ #[t, t] o.type #[.slice (some ⟨b, 0, none⟩) i cap, .slice (some ad) (k - j) c]).run P w = .ok (.slice (some ⟨b, 0, none⟩) (i + (k - j)) cap) (w.setRow b ((⟨l ++ tail⟩ : Array Value).toList.take (i * inf.size) ++ l.drop (j * inf.size) ++ (⟨l ++ tail⟩ : Array Value).toList.drop (i * inf.size + (l.drop (j * inf.size)).length)).toArray) := by
    refine run_append_room (P := P) w t o.type u inf (hT.und _ _ hu) hi b i cap _ hg2 ad (k - j) c _ hdl (fun q v hq => ?_) (fun v hv => List.all_eq_true.1 h1 v (List.mem_of_mem_drop hv)) (by omega) hfit
    have hqlt : q < (l.drop (j * inf.size)).length := (List.getElem?_eq_some_iff.1 hq).1
    have hjk' : j < k := by
      rcases Nat.lt_or_ge j k with h | h
      · exact h
      · have : k - j = 0 := by omega
        rw [hdl, this] at hqlt; omega
    rw [had hjk', Addr.add_mk]
    rw [List.getElem?_drop] at hq
    exact Reads.row hq w hrel
  have e1 : (⟨l ++ tail⟩ : Array Value).toList.take (i * inf.size) = l.take (i * inf.size) := by
    show (l ++ tail).take _ = _
    rw [List.take_append_of_le_length (by omega)]
  have e2 : (⟨l ++ tail⟩ : Array Value).toList.drop (i * inf.size + (l.drop (j * inf.size)).length) = l.drop (i * inf.size + (k - j) * inf.size) ++ tail := by
    show (l ++ tail).drop _ = _
    rw [hdl, List.drop_append_of_le_length (by omega)]
  rw [e1, e2] at hrun
  have hrow : Rel w0 (blk b (.cells ⟨(l.take (i * inf.size) ++ l.drop (j * inf.size) ++ l.drop (i * inf.size + (k - j) * inf.size)) ++ tail⟩ u (0, 0)) :: F) (w.setRow b (l.take (i * inf.size) ++ l.drop (j * inf.size) ++ (l.drop (i * inf.size + (k - j) * inf.size) ++ tail)).toArray) := by
    refine hrel2.set rfl rfl rfl (by simp [World.setRow]) ?_ (fun q hq => setRow_other w b q _ hq)
    rw [setRow_heap w b _ _ u _ hg2, List.append_assoc _ _ tail]
  have hlen : (l.take (i * inf.size) ++ l.drop (j * inf.size) ++ l.drop (i * inf.size + (k - j) * inf.size)).length = k * inf.size := by
    simp only [List.length_append, List.length_take, List.length_drop]; omega
  refine ⟨_, _, _, .inl ?_, Rel.rowAt_mk hrow (by rw [List.length_append, hlen, ← hl1, List.length_append, hl2]) hlen hkc hcm, hk, by rw [hd]; exact h⟩
  simp only [execOp, hop, resolve, invoke, builtin, Sem.run_bind, Sem.run_pure, Result.andThen_ok, List.map_toArray, List.map_cons, List.map_nil, hx, hy, hrun]
end
end Go.Sx

/- The numbers of a wheel of timers: the level and the slot of a time, what lies ahead of what. Conditions: none. -/
namespace Go.WheelM
def lev (a n : Nat) : Nat := (Nat.log2 (a ^^^ n)) / 6
def dig (a l : Nat) : Nat := a / 64 ^ l % 64
theorem xor_zero {a b : Nat} : a ^^^ b = 0 ↔ a = b := by
  constructor
  · intro h
    have h1 : a = (a ^^^ b) ^^^ b := by rw [Nat.xor_assoc, Nat.xor_self, Nat.xor_zero]
    rw [h1, h, Nat.zero_xor]
  · intro h; rw [h, Nat.xor_self]
theorem p64 (k : Nat) : 64 ^ k = 2 ^ (6 * k) := by rw [Nat.pow_mul]
theorem shr64 (a k : Nat) : a >>> (6 * k) = a / 64 ^ k := by rw [Nat.shiftRight_eq_div_pow, p64]
theorem xor_shr_zero {a n k : Nat} : (a ^^^ n) / 64 ^ k = 0 ↔ a / 64 ^ k = n / 64 ^ k := by
  rw [← shr64, Nat.shiftRight_xor_distrib, ← shr64, ← shr64, xor_zero]
theorem div_step (a k : Nat) : a / 64 ^ (k + 1) = a / 64 ^ k / 64 := by rw [Nat.pow_succ, Nat.div_div_eq_div_mul]
theorem div_up {a n k : Nat} (h : a / 64 ^ k = n / 64 ^ k) : ∀ d, a / 64 ^ (k + d) = n / 64 ^ (k + d)
  | 0 => h
  | d + 1 => by rw [← Nat.add_assoc, div_step, div_step, div_up h d]
theorem div_le {a n k j : Nat} (h : a / 64 ^ k = n / 64 ^ k) (hj : k ≤ j) : a / 64 ^ j = n / 64 ^ j := by
  obtain ⟨d, rfl⟩ := Nat.exists_eq_add_of_le hj
  exact div_up h d
theorem lev_eq {a n : Nat} (h : a ≠ n) : a / 64 ^ (lev a n + 1) = n / 64 ^ (lev a n + 1) := by
  have hx : a ^^^ n ≠ 0 := fun e => h (xor_zero.1 e)
  rw [← xor_shr_zero, p64]
  refine Nat.div_eq_of_lt ((Nat.log2_lt hx).1 ?_)
  unfold lev; omega
theorem lev_ne {a n : Nat} (h : a ≠ n) : a / 64 ^ lev a n ≠ n / 64 ^ lev a n := by
  have hx : a ^^^ n ≠ 0 := fun e => h (xor_zero.1 e)
  intro e
  rw [← xor_shr_zero, p64] at e
  have := (Nat.le_log2 hx (k := 6 * lev a n)).1 (by unfold lev; omega)
  rw [Nat.div_eq_zero_iff] at e
  have h0 : 0 < 2 ^ (6 * lev a n) := Nat.pow_pos (by omega)
  omega
theorem lev_unique {a n k : Nat} (h1 : a / 64 ^ (k + 1) = n / 64 ^ (k + 1)) (h2 : a / 64 ^ k ≠ n / 64 ^ k) : lev a n = k := by
  have h : a ≠ n := fun e => h2 (by rw [e])
  rcases Nat.lt_trichotomy (lev a n) k with g | g | g
  · exact absurd (div_le (lev_eq h) g) h2
  · exact g
  · exact absurd (div_le h1 g) (lev_ne h)
theorem lev_lt {a n : Nat} (ha : a ≤ 1099511627776) (hn : n ≤ 1099511627776) (h : a ≠ n) : lev a n < 7 := by
  rcases Nat.lt_or_ge (lev a n) 7 with g | g
  · exact g
  · exact absurd (div_le (k := 7) (by rw [Nat.div_eq_of_lt (by omega), Nat.div_eq_of_lt (by omega)]) g) (lev_ne h)
theorem dig_lt (a l : Nat) : dig a l < 64 := Nat.mod_lt _ (by decide)
theorem div_dig (a k : Nat) : a / 64 ^ k = 64 * (a / 64 ^ (k + 1)) + dig a k := by
  rw [div_step, dig]; omega
theorem lt_of_div {a b k : Nat} (h : a / 64 ^ k < b / 64 ^ k) : a < b := by
  rcases Nat.lt_or_ge a b with g | g
  · exact g
  · exact absurd (Nat.div_le_div_right (c := 64 ^ k) g) (by omega)
/-- Lower levels lie ahead. -/
theorem lev_order {a b n : Nat} (ha : a ≠ n) (hb : n < b) (h : lev a n < lev b n) : a < b := by
  have h1 := div_le (lev_eq ha) h
  have h2 := lev_ne (show b ≠ n by omega)
  have h3 := Nat.div_le_div_right (c := 64 ^ lev b n) (Nat.le_of_lt hb)
  exact lt_of_div (k := lev b n) (by omega)
/-- On a level lower slots lie ahead. -/
theorem dig_order {a b n : Nat} (ha : a ≠ n) (hb : b ≠ n) (h : lev a n = lev b n) (hd : dig a (lev a n) < dig b (lev b n)) : a < b := by
  have h1 := lev_eq ha
  have h2 := lev_eq hb
  rw [← h] at h2 hd
  refine lt_of_div (k := lev a n) ?_
  rw [div_dig a, div_dig b, h1, h2]; omega
/-- Time that passes leaves the other slots as they are. -/
theorem lev_move {a t n : Nat} (h1 : n < t) (h2 : t < a) (h : ¬ (lev a n = lev t n ∧ dig a (lev a n) = dig t (lev t n))) : lev a t = lev a n := by
  have hk := lev_eq (show a ≠ n by omega)
  have hk' := lev_ne (show a ≠ n by omega)
  have ht := lev_eq (show t ≠ n by omega)
  rcases Nat.lt_trichotomy (lev a n) (lev t n) with g | g | g
  · exact absurd (lev_order (show a ≠ n by omega) h1 g) (by omega)
  · refine lev_unique (by rw [hk, g, ht]) (fun e => h ⟨g, ?_⟩)
    rw [← g]; unfold dig; rw [e]
  · refine lev_unique (by rw [hk, div_le ht (by omega)]) (fun e => hk' ?_)
    rw [e, div_le ht (by omega)]
/-- The slot of a time that isn't now. -/
def slot (a n : Nat) : Nat := lev a n * 64 + dig a (lev a n)
theorem slot_lt {a n : Nat} (ha : a ≤ 1099511627776) (hn : n ≤ 1099511627776) (h : a ≠ n) : slot a n < 448 := by
  have := lev_lt ha hn h
  have := dig_lt a (lev a n)
  unfold slot; omega
theorem slot_eq {a b n m : Nat} : slot a n = slot b m ↔ lev a n = lev b m ∧ dig a (lev a n) = dig b (lev b m) := by
  have := dig_lt a (lev a n)
  have := dig_lt b (lev b m)
  unfold slot
  constructor
  · intro h; omega
  · rintro ⟨h1, h2⟩; omega
theorem slot_order {a b n : Nat} (ha : n < a) (hb : n < b) (h : slot a n < slot b n) : a < b := by
  have h1 := dig_lt a (lev a n)
  have h2 := dig_lt b (lev b n)
  unfold slot at h
  rcases Nat.lt_trichotomy (lev a n) (lev b n) with g | g | g
  · exact lev_order (by omega) hb g
  · exact dig_order (by omega) (by omega) g (by omega)
  · omega
theorem slot_move {a t n : Nat} (h1 : n < t) (h2 : t < a) (h : slot a n ≠ slot t n) : slot a t = slot a n := by
  have := lev_move h1 h2 (fun e => h (slot_eq.2 e))
  unfold slot; rw [this]

/-! ### tables -/
section
variable {κ β : Type} [DecidableEq κ]
def aget : List (κ × β) → κ → Option β
  | [], _ => none
  | p :: l, k => if k = p.1 then some p.2 else aget l k
def aset : List (κ × β) → κ → β → List (κ × β)
  | [], k, v => [(k, v)]
  | p :: l, k, v => if k = p.1 then (p.1, v) :: l else p :: aset l k v
def adel : List (κ × β) → κ → List (κ × β)
  | [], _ => []
  | p :: l, k => if k = p.1 then l else p :: adel l k
theorem aget_none {k : κ} : ∀ {l : List (κ × β)}, aget l k = none ↔ k ∉ l.map (·.1)
  | [] => by simp [aget]
  | p :: l => by
    simp only [aget, List.map_cons, List.mem_cons]
    split
    · rename_i h; simp [h]
    · rename_i h; rw [aget_none (l := l)]; simp [h]
theorem aget_mem {k : κ} {v : β} : ∀ {l : List (κ × β)}, aget l k = some v → (k, v) ∈ l
  | [], h => by cases h
  | p :: l, h => by
    simp only [aget] at h
    split at h
    · rename_i e; injection h with h; subst h; subst e; exact List.mem_cons_self ..
    · exact List.mem_cons_of_mem _ (aget_mem h)
theorem aget_set {k j : κ} {v : β} : ∀ {l : List (κ × β)}, aget (aset l k v) j = if j = k then some v else aget l j
  | [] => by simp [aset, aget]
  | p :: l => by
    simp only [aset]
    split
    · rename_i h
      subst h
      simp only [aget]
      split <;> simp
    · rename_i h
      simp only [aget, aget_set (l := l)]
      split
      · rename_i h2; subst h2; rw [if_neg (fun e => h e.symm)]
      · rfl
theorem keys_set {k : κ} {v : β} : ∀ {l : List (κ × β)}, (aset l k v).map (·.1) = if k ∈ l.map (·.1) then l.map (·.1) else l.map (·.1) ++ [k]
  | [] => by simp [aset]
  | p :: l => by
    simp only [aset]
    split
    · rename_i h; simp [h]
    · rename_i h
      simp only [List.map_cons, keys_set (l := l), List.mem_cons, h, false_or]
      split <;> simp
theorem keys_del {k : κ} : ∀ {l : List (κ × β)}, (adel l k).map (·.1) = (l.map (·.1)).erase k
  | [] => rfl
  | p :: l => by
    simp only [adel, List.map_cons]
    split
    · rename_i h; rw [h, List.erase_cons_head]
    · rename_i h
      rw [List.erase_cons_tail (by simpa using fun e => h e.symm), List.map_cons, keys_del (l := l)]
theorem aget_del {k j : κ} : ∀ {l : List (κ × β)}, (l.map (·.1)).Nodup → aget (adel l k) j = if j = k then none else aget l j
  | [], _ => by simp [adel, aget]
  | p :: l, hn => by
    simp only [List.map_cons, List.nodup_cons] at hn
    simp only [adel]
    split
    · rename_i h
      subst h
      split
      · rename_i h; subst h; exact aget_none.2 hn.1
      · rename_i h; simp only [aget, if_neg h]
    · rename_i h
      simp only [aget, aget_del hn.2]
      split
      · rename_i h2; subst h2; rw [if_neg (fun e => h e.symm)]
      · rfl
theorem nodup_set {l : List (κ × β)} {k : κ} {v : β} (h : (l.map (·.1)).Nodup) : ((aset l k v).map (·.1)).Nodup := by
  rw [keys_set]
  split
  · exact h
  · rename_i hk; rw [List.nodup_append]; exact ⟨h, by simp, by intro a ha b hb; simp at hb; subst hb; exact fun e => hk (e ▸ ha)⟩
theorem nodup_del {l : List (κ × β)} {k : κ} (h : (l.map (·.1)).Nodup) : ((adel l k).map (·.1)).Nodup := by
  rw [keys_del]; exact h.erase k
theorem len_set {l : List (κ × β)} {k : κ} {v : β} : (aset l k v).length = if (aget l k).isSome then l.length else l.length + 1 := by
  have h := congrArg List.length (keys_set (l := l) (k := k) (v := v))
  rw [List.length_map] at h
  rw [h]
  by_cases hm : k ∈ l.map (·.1)
  · rw [if_pos hm, List.length_map]
    have : aget l k ≠ none := fun e => aget_none.1 e hm
    rw [if_pos (Option.isSome_iff_ne_none.2 this)]
  · rw [if_neg hm, aget_none.2 hm]; simp
theorem len_del {l : List (κ × β)} {k : κ} {v : β} (h : aget l k = some v) : (adel l k).length = l.length - 1 := by
  have h1 := congrArg List.length (keys_del (l := l) (k := k))
  rw [List.length_map] at h1
  rw [h1, List.length_erase_of_mem, List.length_map]
  exact Classical.byContradiction fun e => by rw [aget_none.2 e] at h; cases h
/-- A list without repetitions all of whose members lie in another one is no longer. -/
theorem len_sub {l m : List κ} (hn : l.Nodup) (h : ∀ x ∈ l, x ∈ m) : l.length ≤ m.length := by
  induction l generalizing m with
  | nil => exact Nat.zero_le _
  | cons x l ih =>
    rw [List.nodup_cons] at hn
    have hx := h x (List.mem_cons_self ..)
    have := ih (m := m.erase x) hn.2 (fun y hy => (List.mem_erase_of_ne (fun e => hn.1 (by rw [← e]; exact hy))).2 (h y (List.mem_cons_of_mem _ hy)))
    rw [List.length_erase_of_mem hx] at this
    have := List.length_pos_of_mem hx
    simp only [List.length_cons]; omega
end

/-! ### first timers -/
abbrev Tm := List (Int × Nat)
/-- A timer that is set, and none lies ahead of it. -/
def First (tm : Tm) (id : Int) (a : Nat) : Prop := aget tm id = some a ∧ ∀ j b, aget tm j = some b → a < b ∨ (a = b ∧ id ≤ j)
theorem First.unique {tm : Tm} {id j : Int} {a b : Nat} (h : First tm id a) (g : First tm j b) : id = j ∧ a = b := by
  have h1 := h.2 _ _ g.1
  have h2 := g.2 _ _ h.1
  omega
/-- What time that passes fires, and what is left. -/
inductive Adv (to : Nat) : Tm → List (Int × Nat) → Tm → Prop
  | done {tm : Tm} : (∀ j b, aget tm j = some b → to < b) → Adv to tm [] tm
  | step {tm rest : Tm} {id : Int} {a : Nat} {out : List (Int × Nat)} : First tm id a → a ≤ to → Adv to (adel tm id) out rest → Adv to tm ((id, a) :: out) rest
end Go.WheelM

/- Rules: maps whose values are of one Lean type. Conditions: the table 'T' fits the program. -/
namespace Go.Sx
open Go Go.RowKit Go.WheelM
/-- A chunk is among those that are there. -/
def Has (c : HProp) (H : List HProp) : Prop := Ent H [c]
theorem Has.here {c : HProp} {F : List HProp} : Has c (c :: F) := Ent.cons _ (Ent.dropAll _)
theorem Has.skip {c d : HProp} {F : List HProp} (h : Has c F) : Has c (d :: F) := Ent.trans (Ent.drop _ _) h
section
variable {κ β : Type} [DecidableEq κ] {ve : β → Value}
def menc (ve : β → Value) (es : List (κ × β)) : List (κ × Value) := es.map fun p => (p.1, ve p.2)
theorem mget_menc {k : κ} : ∀ {es : List (κ × β)}, mget (menc ve es) k = (aget es k).map ve
  | [] => rfl
  | p :: l => by
    simp only [menc, List.map_cons, mget, aget]
    split
    · rfl
    · exact mget_menc (es := l)
theorem mset_menc {k : κ} {v : β} : ∀ {es : List (κ × β)}, mset (menc ve es) k (ve v) = menc ve (aset es k v)
  | [] => rfl
  | p :: l => by
    have ih := mset_menc (k := k) (v := v) (es := l)
    simp only [menc] at ih
    simp only [menc, List.map_cons, mset, aset]
    split
    · rfl
    · simp only [ih, List.map_cons]
theorem mdel_menc {k : κ} : ∀ {es : List (κ × β)}, mdel (menc ve es) k = menc ve (adel es k)
  | [] => rfl
  | p :: l => by
    have ih := mdel_menc (k := k) (es := l)
    simp only [menc] at ih
    simp only [menc, List.map_cons, mdel, adel]
    split
    · rfl
    · simp only [ih, List.map_cons]
omit [DecidableEq κ] in
theorem menc_length (es : List (κ × β)) : (menc ve es).length = es.length := by simp [menc]
end
def tmap {κ β : Type} (b : Nat) (kv : κ → Value) (ve : β → Value) (es : List (κ × β)) : HProp := mapc b kv (menc ve es)
def trange {κ β : Type} (b r : Nat) (kv : κ → Value) (ve : β → Value) (es left : List (κ × β)) (cur : Option (κ × β)) : HProp := mrange b r kv (menc ve es) (menc ve left) (cur.map fun p => (p.1, ve p.2))
section
variable {κ β : Type} {kv : κ → Value} {ve : β → Value} {b r : Nat} {es left : List (κ × β)} {cur : Option (κ × β)} {F : List HProp}
theorem trange_done : Ent (trange b r kv ve es left cur :: F) (tmap b kv ve es :: F) := mrange_done
theorem Has.rg : Has (tmap b kv ve es) (trange b r kv ve es left cur :: F) := Ent.trans trange_done Has.here
end
/-- A chunk is taken out. -/
def Sel (c : HProp) (H H' : List HProp) : Prop := Ent H (c :: H')
theorem Sel.here {c : HProp} {F : List HProp} : Sel c (c :: F) F := Ent.refl _
theorem Sel.skip {c d : HProp} {F F' : List HProp} (h : Sel c F F') : Sel c (d :: F) (d :: F') := Ent.trans (Ent.cons d h) Ent.front1
theorem Sel.row {b cap : Nat} {t : TypeId} {es n : Nat} {l : List Value} {F : List HProp} : Sel (Row (some ⟨b, 0, none⟩) cap t es n l) (RowAt b cap t es n l :: F) F := Row.of_at
theorem Sel.rg {κ β : Type} {kv : κ → Value} {ve : β → Value} {b r : Nat} {es left : List (κ × β)} {cur : Option (κ × β)} {F : List HProp} : Sel (tmap b kv ve es) (trange b r kv ve es left cur :: F) F := trange_done
theorem selA {c : HProp} {H H' : List HProp} (h : Sel c H H' := by (first | exact Sel.here | exact Sel.row | exact Sel.rg | (apply Sel.skip; (first | exact Sel.here | exact Sel.row | exact Sel.rg | (apply Sel.skip; (first | exact Sel.here | exact Sel.row | exact Sel.rg | (apply Sel.skip; (first | exact Sel.here | exact Sel.row | exact Sel.rg | (apply Sel.skip; (first | exact Sel.here | exact Sel.row | exact Sel.rg | (apply Sel.skip; (first | exact Sel.here | exact Sel.row | exact Sel.rg | (apply Sel.skip; (first | exact Sel.here | exact Sel.row | exact Sel.rg | (apply Sel.skip; (first | exact Sel.here | exact Sel.row | exact Sel.rg | (apply Sel.skip; (first | exact Sel.here | exact Sel.row | exact Sel.rg | (apply Sel.skip; (first | exact Sel.here | exact Sel.row | exact Sel.rg | (apply Sel.skip; (first | exact Sel.here | exact Sel.row | exact Sel.rg | (apply Sel.skip; (first | exact Sel.here | exact Sel.row | exact Sel.rg | (apply Sel.skip; (first | exact Sel.here | exact Sel.row | exact Sel.rg | fail)) | fail)) | fail)) | fail)) | fail)) | fail)) | fail)) | fail)) | fail)) | fail)) | fail)) | fail)) | fail)) : Sel c H H' := h
/-- The rest is let go. -/
theorem dropA {H F : List HProp} (h : Ent H F := by (first | exact Ent.refl _ | (refine Ent.trans (Ent.drop _ _) ?_; first | exact Ent.refl _ | (refine Ent.trans (Ent.drop _ _) ?_; first | exact Ent.refl _ | (refine Ent.trans (Ent.drop _ _) ?_; first | exact Ent.refl _ | (refine Ent.trans (Ent.drop _ _) ?_; first | exact Ent.refl _ | (refine Ent.trans (Ent.drop _ _) ?_; first | exact Ent.refl _ | (refine Ent.trans (Ent.drop _ _) ?_; first | exact Ent.refl _ | (refine Ent.trans (Ent.drop _ _) ?_; exact Ent.refl _) | fail) | fail) | fail) | fail) | fail) | fail) | fail)) : Ent H F := h
theorem Tri.sel1 {P : Program} {w0 : World} {f : FuncId} {args : Array Value} {K : Value → List HProp → Prop} {c : HProp} {H H1 : List HProp} (h : Tri P f args w0 (c :: H1) K) (s : Sel c H H1 := by exact selA) : Tri P f args w0 H K := Tri.ent s h
theorem Tri.sel2 {P : Program} {w0 : World} {f : FuncId} {args : Array Value} {K : Value → List HProp → Prop} {c c2 : HProp} {H H1 H2 : List HProp} (h : Tri P f args w0 (c :: c2 :: H2) K) (s : Sel c H H1 := by exact selA) (s2 : Sel c2 H1 H2 := by exact selA) : Tri P f args w0 H K := Tri.ent (Ent.trans s (Ent.cons _ s2)) h
theorem Tri.sel3 {P : Program} {w0 : World} {f : FuncId} {args : Array Value} {K : Value → List HProp → Prop} {c c2 c3 : HProp} {H H1 H2 H3 : List HProp} (h : Tri P f args w0 (c :: c2 :: c3 :: H3) K) (s : Sel c H H1 := by exact selA) (s2 : Sel c2 H1 H2 := by exact selA) (s3 : Sel c3 H2 H3 := by exact selA) : Tri P f args w0 H K := Tri.ent (Ent.trans s (Ent.cons _ (Ent.trans s2 (Ent.cons _ s3)))) h
theorem Tri.rowOpen {P : Program} {w0 : World} {f : FuncId} {args : Array Value} {K : Value → List HProp → Prop} {F : List HProp} {a : Option Addr} {cap : Nat} {t : TypeId} {es m : Nat} {l : List Value} (hm : 0 < m) (h : ∀ g, a = some ⟨g, 0, none⟩ → Tri P f args w0 (RowAt g cap t es m l :: F) K) : Tri P f args w0 (Row a cap t es m l :: F) K :=
  .ex (ι := { g : Nat // a = some ⟨g, 0, none⟩ }) (H' := fun g => RowAt g.1 cap t es m l :: F) (fun _ hr => let ⟨g, hg, h⟩ := hr.row_open hm; ⟨⟨g, hg⟩, h⟩) (fun g => h g.1 g.2)
theorem Out.under {R : Value → List HProp → Prop} {v : Value} {c : HProp} {H H0 : List HProp} (h : Out (fun v X => R v (c :: X)) v H0) (s : Sel c H H0 := by exact selA) : Out R v H := let ⟨H', x, hR⟩ := h; ⟨c :: H', Ent.trans s (Ent.cons c x), hR⟩
theorem Out.s0 {R : Value → List HProp → Prop} {v : Value} {H F : List HProp} (h : R v F) (x : Ent H F := by exact dropA) : Out R v H := Out.e h x
theorem Out.s1 {R : Value → List HProp → Prop} {v : Value} {c1 : HProp} {H H1 F : List HProp} (h : R v (c1 :: F)) (s1 : Sel c1 H H1 := by exact selA) (x : Ent H1 F := by exact dropA) : Out R v H := Out.e h (Ent.trans s1 (Ent.cons _ x))
theorem Out.s2 {R : Value → List HProp → Prop} {v : Value} {c1 c2 : HProp} {H H1 H2 F : List HProp} (h : R v (c1 :: c2 :: F)) (s1 : Sel c1 H H1 := by exact selA) (s2 : Sel c2 H1 H2 := by exact selA) (x : Ent H2 F := by exact dropA) : Out R v H := Out.e h (Ent.trans s1 (Ent.cons _ (Ent.trans s2 (Ent.cons _ x))))
theorem Out.s3 {R : Value → List HProp → Prop} {v : Value} {c1 c2 c3 : HProp} {H H1 H2 H3 F : List HProp} (h : R v (c1 :: c2 :: c3 :: F)) (s1 : Sel c1 H H1 := by exact selA) (s2 : Sel c2 H1 H2 := by exact selA) (s3 : Sel c3 H2 H3 := by exact selA) (x : Ent H3 F := by exact dropA) : Out R v H :=
  Out.e h (Ent.trans s1 (Ent.cons _ (Ent.trans s2 (Ent.cons _ (Ent.trans s3 (Ent.cons _ x))))))
theorem XO.sel1 {P : Program} {T : Tbl} {w0 : World} {n : Nat} {HL : Held} {ops : Array Oper} {J : Env → List HProp → Prop} {ix : Nat} {l : List Oper} {e : Env} {c : HProp} {H H1 : List HProp} (h : XO P T w0 n HL ops J ix l e (c :: H1)) (s : Sel c H H1 := by exact selA) : XO P T w0 n HL ops J ix l e H := .ent s h
theorem XS.sel1 {P : Program} {w0 : World} {n : Nat} {b : Frame} {R : Value → List HProp → Prop} {k : List Item} {e : Env} {c : HProp} {H H1 : List HProp} (h : XS P w0 b n R k e (c :: H1)) (s : Sel c H H1 := by exact selA) : XS P w0 b n R k e H := .ent s h
theorem hasA {c : HProp} {H : List HProp} (h : Has c H := by (first | exact Has.here | exact Has.rg | (apply Has.skip; (first | exact Has.here | exact Has.rg | (apply Has.skip; (first | exact Has.here | exact Has.rg | (apply Has.skip; (first | exact Has.here | exact Has.rg | (apply Has.skip; (first | exact Has.here | exact Has.rg | (apply Has.skip; (first | exact Has.here | exact Has.rg | (apply Has.skip; (first | exact Has.here | exact Has.rg | (apply Has.skip; (first | exact Has.here | exact Has.rg | (apply Has.skip; (first | exact Has.here | exact Has.rg | (apply Has.skip; (first | exact Has.here | exact Has.rg | fail)) | fail)) | fail)) | fail)) | fail)) | fail)) | fail)) | fail)) | fail)) | fail)) : Has c H := h
section
variable {P : Program} {T : Tbl} {w0 : World} {n : Nat} {HL : Held} {ops : Array Oper} {J : Env → List HProp → Prop} {ix : Nat} {rest : List Oper} {o : Oper} {e : Env} {H F : List HProp} {κ β : Type} [DecidableEq κ] {D : TypeDesc} {kv : κ → Value} {ve : β → Value} {b r : Nat} {es left : List (κ × β)} {cur : Option (κ × β)}
/-- 'm[k]': the two ways. -/
theorem XO.getT {t kt vt : TypeId} {x y : Operand} {k : κ} {z : Value} {d : Nat} (hT : T.Ok P) (hop : o.op = .lookup t x y false) (hh : heldAt HL ix = none) (hg : wantedE ops e n o = true) (hd : o.dst = some d) (hu : T.und t = some (.map kt vt)) (hkd : T.und kt = some D) (hz : T.zero vt = some z)
    (hx : e.ev n x = .map (some b)) (hr : Has (tmap b kv ve es) H) (hK : KeyOk D kv) (hy : e.ev n y = kv k)
    (h1 : ∀ v, aget es k = some v → XO P T w0 n HL ops J (ix + 1) rest (e.upd d (ve v)) H) (h2 : aget es k = none → XO P T w0 n HL ops J (ix + 1) rest (e.upd d z) H) : XO P T w0 n HL ops J ix (o :: rest) e H := by
  refine .lookup1 (es := menc ve es) hK hT hh hg hd hop hu hkd hz hx hy (fun w h => ⟨[], h.ent hr⟩) ?_
  rw [mget_menc]
  cases ha : aget es k with
  | none => exact h2 ha
  | some v => exact h1 v ha
theorem XO.getOkT {t kt vt : TypeId} {x y : Operand} {k : κ} {z : Value} {d : Nat} (hT : T.Ok P) (hop : o.op = .lookup t x y true) (hh : heldAt HL ix = none) (hg : wantedE ops e n o = true) (hd : o.dst = some d) (hu : T.und t = some (.map kt vt)) (hkd : T.und kt = some D) (hz : T.zero vt = some z)
    (hx : e.ev n x = .map (some b)) (hr : Has (tmap b kv ve es) H) (hK : KeyOk D kv) (hy : e.ev n y = kv k)
    (h1 : ∀ v, aget es k = some v → XO P T w0 n HL ops J (ix + 1) rest (e.upd d (.tuple #[ve v, .bool true])) H) (h2 : aget es k = none → XO P T w0 n HL ops J (ix + 1) rest (e.upd d (.tuple #[z, .bool false])) H) : XO P T w0 n HL ops J ix (o :: rest) e H :=
  .lookupOk (es := menc ve es) hK hT hh hg hd hop hu hkd hz hx hy (fun w h => ⟨[], h.ent hr⟩)
    (fun v hv => by rw [mget_menc, Option.map_eq_some_iff] at hv; obtain ⟨u, hu, rfl⟩ := hv; exact h1 u hu) (fun hv => by rw [mget_menc, Option.map_eq_none_iff] at hv; exact h2 hv)
omit [DecidableEq κ] in
theorem XO.lenT {t kt vt : TypeId} {x : Operand} {d : Nat} (hT : T.Ok P) (hop : o.op = .call { callee := .builtin .len, args := #[x], argTypes := #[t] }) (hh : heldAt HL ix = none) (hg : wantedE ops e n o = true) (hd : o.dst = some d) (hu : T.und t = some (.map kt vt))
    (hx : e.ev n x = .map (some b)) (hr : Has (tmap b kv ve es) H) (h : XO P T w0 n HL ops J (ix + 1) rest (e.upd d (.int .i64 es.length)) H) : XO P T w0 n HL ops J ix (o :: rest) e H :=
  .lenMap (es := menc ve es) hT hh hg hd hop hu hx (fun w h => ⟨[], h.ent hr⟩) (by rw [menc_length]; exact h)
theorem XO.setT {t kt vt : TypeId} {x y z : Operand} {k : κ} {v : β} (hT : T.Ok P) (hop : o.op = .mapUpdate t x y z) (hk0 : Keeps w0 (tmap b kv ve es :: F) (keptBy HL ix)) (hg : wantedE ops e n o = true) (hd : o.dst = none) (hu : T.und t = some (.map kt vt)) (hkd : T.und kt = some D)
    (hx : e.ev n x = .map (some b)) (hK : KeyOk D kv) (hy : e.ev n y = kv k) (hz : e.ev n z = ve v) (hk : Keeps w0 (tmap b kv ve (aset es k v) :: F) (keptBy HL ix)) (h : XO P T w0 n HL ops J (ix + 1) rest e (tmap b kv ve (aset es k v) :: F)) : XO P T w0 n HL ops J ix (o :: rest) e (tmap b kv ve es :: F) :=
  .mapSet (es := menc ve es) (v := ve v) hK hT hk0 hg hd hop hu hkd hx hy (by rw [hz, Hd_eq]) (by rw [mset_menc]; exact hk) (by rw [mset_menc]; exact h)
theorem XO.delT {t kt vt t2 : TypeId} {x y : Operand} {k : κ} (hT : T.Ok P) (hop : o.op = .call { callee := .builtin .delete, args := #[x, y], argTypes := #[t, t2] }) (hk0 : Keeps w0 (tmap b kv ve es :: F) (keptBy HL ix)) (hg : wantedE ops e n o = true) (hd : o.dst = none) (hu : T.und t = some (.map kt vt)) (hkd : T.und kt = some D)
    (hx : e.ev n x = .map (some b)) (hK : KeyOk D kv) (hy : e.ev n y = kv k) (hk : Keeps w0 (tmap b kv ve (adel es k) :: F) (keptBy HL ix)) (h : XO P T w0 n HL ops J (ix + 1) rest e (tmap b kv ve (adel es k) :: F)) : XO P T w0 n HL ops J ix (o :: rest) e (tmap b kv ve es :: F) :=
  .mapDel (es := menc ve es) hK hT hk0 hg hd hop hu hkd hx hy (by rw [mdel_menc]; exact hk) (by rw [mdel_menc]; exact h)
omit [DecidableEq κ] in
theorem XO.rangeT {t kt vt : TypeId} {x : Operand} {d : Nat} (hT : T.Ok P) (hop : o.op = .range t x) (hk0 : Keeps w0 (tmap b kv ve es :: F) (keptBy HL ix)) (hg : wantedE ops e n o = true) (hd : o.dst = some d) (hu : T.und t = some (.map kt vt)) (hx : e.ev n x = .map (some b))
    (hk : ∀ r, Keeps w0 (trange b r kv ve es es none :: F) (keptBy HL ix)) (h : ∀ r, XO P T w0 n HL ops J (ix + 1) rest (e.upd d (.pointer (some ⟨r, 0, none⟩))) (trange b r kv ve es es none :: F)) : XO P T w0 n HL ops J ix (o :: rest) e (tmap b kv ve es :: F) :=
  .rangeM hT hk0 hg hd hop hu hx hk h
omit [DecidableEq κ] in
theorem XO.nextT {x : Operand} {d : Nat} (hop : o.op = .next x false) (hx : e.ev n x = .pointer (some ⟨r, 0, none⟩)) (hk0 : Keeps w0 (trange b r kv ve es left cur :: F) (keptBy HL ix)) (hg : wantedE ops e n o = true) (hd : o.dst = some d)
    (hk1 : Keeps w0 (tmap b kv ve es :: F) (keptBy HL ix)) (hk2 : ∀ left' p, Keeps w0 (mrange b r kv (menc ve es) left' (some p) :: F) (keptBy HL ix))
    (h1 : left = [] → XO P T w0 n HL ops J (ix + 1) rest (e.upd d (.tuple #[.bool false])) (tmap b kv ve es :: F))
    (h2 : ∀ i p, left[i]? = some p → XO P T w0 n HL ops J (ix + 1) rest (e.upd d (.tuple #[.bool true, kv p.1, ve p.2])) (trange b r kv ve es (left.eraseIdx i) (some p) :: F)) : XO P T w0 n HL ops J ix (o :: rest) e (trange b r kv ve es left cur :: F) := by
  refine .nextM hk0 hg hd hop hx hk1 hk2 (fun h => h1 (by simpa [menc] using h)) (fun i p hp => ?_)
  simp only [menc, List.getElem?_map, Option.map_eq_some_iff] at hp
  obtain ⟨q, hq, rfl⟩ := hp
  have := h2 i q hq
  simp only [trange, menc, map_erase, Option.map_some] at this
  exact this
omit [DecidableEq κ] in
theorem XO.entryT {x : Operand} {d : Nat} {p : κ × β} (hop : o.op = .entry x) (hx : e.ev n x = .pointer (some ⟨r, 0, none⟩)) (hk0 : Keeps w0 (trange b r kv ve es left (some p) :: F) (keptBy HL ix)) (hg : wantedE ops e n o = true) (hd : o.dst = some d)
    (h : XO P T w0 n HL ops J (ix + 1) rest (e.upd d (.tuple #[kv p.1, ve p.2])) (trange b r kv ve es left (some p) :: F)) : XO P T w0 n HL ops J ix (o :: rest) e (trange b r kv ve es left (some p) :: F) :=
  .entryM (p := (p.1, ve p.2)) hk0 hg hd hop hx h
end
end Go.Sx

/- Rules: structs are compared. Conditions: the table 'T' fits the program. -/
namespace Go.Sx
open Go Go.RowKit
/-- '==' of numbers, texts and bools. -/
def eqB (T : Tbl) (t : TypeId) (x y : Value) : Option Bool :=
  match x, y with
  | .int k a, .int k' b => match T.und t with
    | some (.int _) => bif sameKind k k' then some (a == b) else none
    | _ => none
  | .string a, .string b => match T.und t with
    | some .string => some (a == b)
    | _ => none
  | .bool a, .bool b => match T.und t with
    | some .bool => some (a == b)
    | _ => none
  | _, _ => none
def eqFs (T : Tbl) (xs ys : Array Value) : List Field → Option Bool
  | [] => some true
  | f :: fs => match (f.name == "_"), partT T f.type xs f.offset, partT T f.type ys f.offset, eqFs T xs ys fs with
    | false, some a, some b, some r => match eqB T f.type a b with
      | some c => some (c && r)
      | none => none
    | _, _, _, _ => none
section
variable {P : Program} {T : Tbl}
theorem eqB_run (hT : T.Ok P) {d : Nat} {t : TypeId} {x y : Value} {c : Bool} {w : World} (h : eqB T t x y = some c) : (Op.equalIn (d + 1) t x y).run P w = .ok c w := by
  unfold eqB at h
  split at h
  · split at h
    · rename_i hu
      rename_i k a k' b _ _
      cases hk : sameKind k k' with
      | false => rw [hk] at h; cases h
      | true =>
        rw [hk] at h
        have := sameKind_eq hk
        subst this
        injection h with h; subst h
        rw [Op.equalIn]
        simp only [Sem.run_bind, run_und hT hu, Result.andThen_ok]
        simp
    · cases h
  · split at h
    · rename_i hu
      injection h with h; subst h
      rw [Op.equalIn]
      simp only [Sem.run_bind, run_und hT hu, Result.andThen_ok, Sem.run_pure]
    · cases h
  · split at h
    · rename_i hu
      injection h with h; subst h
      rw [Op.equalIn]
      simp only [Sem.run_bind, run_und hT hu, Result.andThen_ok, Sem.run_pure]
    · cases h
  · cases h
theorem eqS_run (hT : T.Ok P) {d : Nat} {t : TypeId} {fs : Array Field} {xs ys : Array Value} {c : Bool} {w : World} (hu : T.und t = some (.struct fs)) (hst : P.stoodInHeld t = false) (h : eqFs T xs ys fs.toList = some c) : (Op.equalIn (d + 2) t (.agg xs) (.agg ys)).run P w = .ok c w := by
  have key : ∀ (l : List Field) (c : Bool), eqFs T xs ys l = some c → (Sem.run P (forIn l ((none : Option Bool), ()) fun f __s =>
            if f.name ≠ "_" then do
              let __do_lift ← part f.type xs f.offset
              let __do_lift_1 ← part f.type ys f.offset
              let __do_lift ← Op.equalIn (d + 1) f.type __do_lift __do_lift_1
              if (!__do_lift) = true then pure (ForInStep.done (some false, ())) else pure (ForInStep.yield (none, ()))
            else pure (ForInStep.yield (none, ()))) w) = .ok (if c then (none, ()) else (some false, ())) w := by
    intro l
    induction l with
    | nil => intro c hc; injection hc with hc; subst hc; simp
    | cons f fs ih =>
      intro c hc
      simp only [eqFs] at hc
      split at hc
      · rename_i a b r hn ha hb hr
        split at hc
        · rename_i c1 h1
          injection hc with hc; subst hc
          have hne : f.name ≠ "_" := by simpa using hn
          rw [List.forIn_cons]
          simp only [hne, ne_eq, not_false_eq_true, if_true, Sem.run_bind, partT_sound hT ha, partT_sound hT hb, Result.andThen_ok, eqB_run hT h1]
          cases c1 with
          | false => simp
          | true =>
            simp only [Bool.not_true, Bool.false_eq_true, if_false, Sem.run_pure, Result.andThen_ok, Bool.true_and]
            exact ih r hr
        · cases hc
      · cases hc
  rw [Op.equalIn]
  simp only [Sem.run_bind, run_und hT hu, Result.andThen_ok, run_program, hst, Bool.false_eq_true, if_false, ← Array.forIn_toList]
  rw [key fs.toList c h]
  cases c <;> rfl
end
section
variable {P : Program} {T : Tbl} {w0 : World} {n : Nat} {HL : Held} {ops : Array Oper} {J : Env → List HProp → Prop} {ix : Nat} {rest : List Oper} {o : Oper} {e : Env} {H : List HProp}
theorem guardS {op : BinOp} {t : TypeId} {x y : Operand} {xs ys : Array Value} {w : World} (hg : P.eqGuardType P.depth t = false) : (eqGuard op t x y (.agg xs) (.agg ys)).run P w = .ok () w := by
  unfold eqGuard
  cases op <;> simp [hg]
theorem XO.eqS {t t' : TypeId} {fs : Array Field} {x y : Operand} {xs ys : Array Value} {c : Bool} {k : Nat} (hT : T.Ok P) (hop : o.op = .binOp .eql t x y t') (hu : T.und t = some (.struct fs)) (hst : P.stoodInHeld t = false) (hgt : P.eqGuardType P.depth t = false) (hh : heldAt HL ix = none) (hg : wantedE ops e n o = true) (hd : o.dst = some k)
    (hx : e.ev n x = .agg xs) (hy : e.ev n y = .agg ys) (hc : eqFs T xs ys fs.toList = some c) (h1 : c = true → XO P T w0 n HL ops J (ix + 1) rest (e.upd k (.bool true)) H) (h2 : c = false → XO P T w0 n HL ops J (ix + 1) rest (e.upd k (.bool false)) H) : XO P T w0 n HL ops J ix (o :: rest) e H := by
  have hcls : cls T o.op ≠ .eff := by rw [hop]; simp only [cls]; split <;> simp
  have hrun : ∀ w, (execOp (e.ev n) o).run P w = .ok (.value (.bool c)) w := fun w => by
    have := eqS_run hT (d := 9998) (w := w) hu hst hc
    simp only [execOp, hop, hx, hy, Sem.run_bind, guardS hgt, Result.andThen_ok, binOp, Op.equal, Op.maxDepth, this, Sem.run_pure]
  cases c with
  | true => exact XO.valOp (v := .bool true) hh hg hcls hrun (by rw [hd]; exact h1 rfl)
  | false => exact XO.valOp (v := .bool false) hh hg hcls hrun (by rw [hd]; exact h2 rfl)
theorem XO.neS {t t' : TypeId} {fs : Array Field} {x y : Operand} {xs ys : Array Value} {c : Bool} {k : Nat} (hT : T.Ok P) (hop : o.op = .binOp .neq t x y t') (hu : T.und t = some (.struct fs)) (hst : P.stoodInHeld t = false) (hgt : P.eqGuardType P.depth t = false) (hh : heldAt HL ix = none) (hg : wantedE ops e n o = true) (hd : o.dst = some k)
    (hx : e.ev n x = .agg xs) (hy : e.ev n y = .agg ys) (hc : eqFs T xs ys fs.toList = some c) (h1 : c = true → XO P T w0 n HL ops J (ix + 1) rest (e.upd k (.bool false)) H) (h2 : c = false → XO P T w0 n HL ops J (ix + 1) rest (e.upd k (.bool true)) H) : XO P T w0 n HL ops J ix (o :: rest) e H := by
  have hcls : cls T o.op ≠ .eff := by rw [hop]; simp only [cls]; split <;> simp
  have hrun : ∀ w, (execOp (e.ev n) o).run P w = .ok (.value (.bool !c)) w := fun w => by
    have := eqS_run hT (d := 9998) (w := w) hu hst hc
    simp only [execOp, hop, hx, hy, Sem.run_bind, guardS hgt, Result.andThen_ok, binOp, Op.equal, Op.maxDepth, this, Sem.run_pure]
  cases c with
  | true => exact XO.valOp (v := .bool false) hh hg hcls hrun (by rw [hd]; exact h1 rfl)
  | false => exact XO.valOp (v := .bool true) hh hg hcls hrun (by rw [hd]; exact h2 rfl)
end
end Go.Sx
