/- Rules: ranges over maps. Conditions: the table 'T' fits the program. -/
import Derived.Test.YtngicmoadobgpaaDoorSxW
import Derived.Maps.RangeRun
namespace Go.Sx
open Go Go.RowKit
/-- What ties an iterator to its map: 'left' is still to come, 'cur' came last. -/
structure MR {κ : Type} (kv : κ → Value) (es left : List (κ × Value)) (cur : Option (κ × Value)) (arr : Array MapEntry) (clock since : Nat) (seen : Array Nat) (c0 : Nat) : Prop where
  ents : arr.toList.map (fun e => (e.key, e.val)) = es.map (fun p => (kv p.1, p.2))
  st : MapKept.Stamped arr clock
  old : ∀ x ∈ arr.toList, x.born < since
  s0 : since ≤ c0
  sc : since ≤ clock
  lf : (arr.toList.filter (fun e => !seen.contains e.born)).map (fun e => (e.key, e.val)) = left.map (fun p => (kv p.1, p.2))
  cu : ∀ p, cur = some p → c0 = clock ∧ ∃ e ∈ arr.toList, ∃ s' : Array Nat, seen = s'.push e.born ∧ e.key = kv p.1 ∧ e.val = p.2
/-- A map under way. -/
def mrange {κ : Type} (b r : Nat) (kv : κ → Value) (es left : List (κ × Value)) (cur : Option (κ × Value)) : HProp :=
  hex fun q : Array MapEntry × Nat × Nat × Array Nat × Nat => stars [blk b (.map q.1 q.2.1), blk r (.mapIter (some b) q.2.2.1 q.2.2.2.1 q.2.2.2.2), fact (MR kv es left cur q.1 q.2.1 q.2.2.1 q.2.2.2.1 q.2.2.2.2)]
section
variable {κ : Type} {kv : κ → Value} {b r : Nat} {es left : List (κ × Value)} {cur : Option (κ × Value)} {w0 w : World} {F : List HProp}
theorem mrange_mk {arr : Array MapEntry} {clock since : Nat} {seen : Array Nat} {c0 : Nat} (h : MR kv es left cur arr clock since seen c0) : Ent (blk b (.map arr clock) :: blk r (.mapIter (some b) since seen c0) :: F) (mrange b r kv es left cur :: F) := by
  refine Ent.trans ?_ (Ent.hex (f := fun q : Array MapEntry × Nat × Nat × Array Nat × Nat => stars [blk b (.map q.1 q.2.1), blk r (.mapIter (some b) q.2.2.1 q.2.2.2.1 q.2.2.2.2), fact (MR kv es left cur q.1 q.2.1 q.2.2.1 q.2.2.2.1 q.2.2.2.2)]) (arr, clock, since, seen, c0))
  refine Ent.trans ?_ Ent.pack3
  exact Ent.cons _ (Ent.cons _ fun x s => ⟨fun _ => none, x, fun _ => .inl rfl, (fun _ _ e => by cases e), Hp.le_refl _, h, s⟩)
theorem Rel.mrange (h : Rel w0 (Go.Sx.mrange b r kv es left cur :: F) w) : ∃ arr clock since seen c0, MR kv es left cur arr clock since seen c0 ∧ Rel w0 (blk b (.map arr clock) :: blk r (.mapIter (some b) since seen c0) :: F) w := by
  obtain ⟨⟨arr, clock, since, seen, c0⟩, h⟩ := h.hex
  have h := h.ent Ent.unpack3
  have hp : MR kv es left cur arr clock since seen c0 := (h.ent Ent.front2).pure_
  exact ⟨arr, clock, since, seen, c0, hp, h.ent (Ent.cons _ (Ent.cons _ (Ent.drop _ _)))⟩
theorem Rel.mrange_map (h : Rel w0 (Go.Sx.mrange b r kv es left cur :: F) w) : Rel w0 (mapc b kv es :: F) w := by
  obtain ⟨arr, clock, since, seen, c0, hm, h⟩ := h.mrange
  exact (h.ent (Ent.cons _ (Ent.drop _ _))).ent (Ent.mapc hm.ents hm.st)
theorem mrange_done : Ent (mrange b r kv es left cur :: F) (mapc b kv es :: F) := by
  rintro h ⟨h1, h2, d, l1, l2, ⟨⟨arr, clock, since, seen, c0⟩, hq⟩, s⟩
  obtain ⟨a1, a2, da, la1, la2, hb, c1, c2, dc, lc1, lc2, hr, e1, e2, de, le1, le2, hm, _⟩ := hq
  exact ⟨h1, h2, d, l1, l2, ⟨arr, clock, la1 _ _ hb, hm.ents, hm.st⟩, s⟩
theorem map_erase {α β : Type} (f : α → β) : ∀ (L : List α) (i : Nat), (L.eraseIdx i).map f = (L.map f).eraseIdx i
  | [], _ => by simp
  | _ :: _, 0 => rfl
  | x :: L, i + 1 => by simp only [List.eraseIdx_cons_succ, List.map_cons, map_erase f L i]
theorem filter_erase {α : Type} {f : α → Nat} : ∀ {L : List α} {i : Nat} {e : α}, (L.map f).Nodup → L[i]? = some e → L.filter (fun x => !(f x == f e)) = L.eraseIdx i
  | [], _, _, _, h => by simp at h
  | x :: L, 0, e, hn, h => by
    simp only [List.getElem?_cons_zero, Option.some.injEq] at h; subst h
    rw [List.map_cons, List.nodup_cons] at hn
    rw [List.filter_cons_of_neg (by simp), List.eraseIdx_cons_zero, List.filter_eq_self.2]
    intro y hy
    simp only [Bool.not_eq_true', beq_eq_false_iff_ne]
    exact fun he => hn.1 (by rw [← he]; exact List.mem_map.2 ⟨y, hy, rfl⟩)
  | x :: L, i + 1, e, hn, h => by
    rw [List.map_cons, List.nodup_cons] at hn
    simp only [List.getElem?_cons_succ] at h
    have hne : f x ≠ f e := fun he => hn.1 (by rw [he]; exact List.mem_map.2 ⟨e, List.mem_of_getElem? h, rfl⟩)
    rw [List.filter_cons_of_pos (by simpa using hne), List.eraseIdx_cons_succ, filter_erase hn.2 h]
end
section
variable {P : Program} {T : Tbl} {w0 : World} {n : Nat} {HL : Held} {ops : Array Oper} {J : Env → List HProp → Prop} {ix : Nat} {rest : List Oper} {o : Oper} {e : Env} {F : List HProp} {κ : Type} {kv : κ → Value} {b r : Nat} {es left : List (κ × Value)} {cur : Option (κ × Value)}
theorem XO.rangeM {t kt vt : TypeId} {x : Operand} {d : Nat} (hT : T.Ok P) (hk0 : Keeps w0 (mapc b kv es :: F) (keptBy HL ix)) (hg : wantedE ops e n o = true) (hd : o.dst = some d) (hop : o.op = .range t x) (hu : T.und t = some (.map kt vt)) (hx : e.ev n x = .map (some b))
    (hk : ∀ r, Keeps w0 (mrange b r kv es es none :: F) (keptBy HL ix)) (h : ∀ r, XO P T w0 n HL ops J (ix + 1) rest (e.upd d (.pointer (some ⟨r, 0, none⟩))) (mrange b r kv es es none :: F)) : XO P T w0 n HL ops J ix (o :: rest) e (mapc b kv es :: F) := by
  refine .effOp hk0 hg (by rw [hop]; rfl) (fun w hrel => ?_)
  obtain ⟨arr, clock, hb, he, hrel2, hst⟩ := hrel.map_get
  refine ⟨_, _, _, .inl ?_, ((hrel2.alloc (.mapIter (some b) clock #[] clock)).ent Ent.front1).ent (mrange_mk ⟨he, hst, hst.1, Nat.le_refl _, Nat.le_refl _, by rw [show arr.toList.filter (fun e => !(#[] : Array Nat).contains e.born) = arr.toList from List.filter_eq_self.2 (fun _ _ => by simp)]; exact he, fun p hp => by cases hp⟩), hk _, by rw [hd]; exact h w.heap.size⟩
  have := run_range_map (P := P) w t kt vt b arr clock (hT.und _ _ hu) hb
  simp only [execOp, hop, hx, Sem.run_bind, this, Result.andThen_ok]
  rfl
theorem XO.nextM {x : Operand} {d : Nat} (hk0 : Keeps w0 (mrange b r kv es left cur :: F) (keptBy HL ix)) (hg : wantedE ops e n o = true) (hd : o.dst = some d) (hop : o.op = .next x false) (hx : e.ev n x = .pointer (some ⟨r, 0, none⟩))
    (hk1 : Keeps w0 (mapc b kv es :: F) (keptBy HL ix)) (hk2 : ∀ left' p, Keeps w0 (mrange b r kv es left' (some p) :: F) (keptBy HL ix))
    (h1 : left = [] → XO P T w0 n HL ops J (ix + 1) rest (e.upd d (.tuple #[.bool false])) (mapc b kv es :: F))
    (h2 : ∀ i p, left[i]? = some p → XO P T w0 n HL ops J (ix + 1) rest (e.upd d (.tuple #[.bool true, kv p.1, p.2])) (mrange b r kv es (left.eraseIdx i) (some p) :: F)) : XO P T w0 n HL ops J ix (o :: rest) e (mrange b r kv es left cur :: F) := by
  refine .effOp hk0 hg (by rw [hop]; rfl) (fun w hrel => ?_)
  have hrel0 := hrel
  obtain ⟨arr, clock, since, seen, c0, hm, hrel⟩ := hrel.mrange
  have hb := hrel.get
  have hr := (hrel.ent Ent.front1).get
  have hne : r ≠ b := fun e => by rw [e, hb] at hr; cases hr
  rcases run_next_at (P := P) w o.type r b since c0 seen arr clock hr hb hm.old hm.s0 with ⟨h0, hrun⟩ | ⟨en, hen, w1, hal, hrun⟩
  · have hl : left = [] := by
      have h2 := hm.lf
      have h3 : leftOf arr seen = #[] := Array.eq_empty_of_size_eq_zero h0
      have h4 : arr.toList.filter (fun e => !seen.contains e.born) = [] := by
        have := congrArg Array.toList h3
        simpa [leftOf] using this
      rw [h4] at h2
      simpa using h2.symm
    refine ⟨_, w, _, .inl ?_, hrel0.ent mrange_done, hk1, by rw [hd]; exact h1 hl⟩
    simp only [execOp, hop, hx, Sem.run_bind, hrun, Result.andThen_ok]
    rfl
  · have hlf := hm.lf
    have hnd : ((arr.toList.filter (fun e => !seen.contains e.born)).map (·.born)).Nodup := List.Nodup.sublist (List.Sublist.map _ List.filter_sublist) hm.st.2.1
    have hmem : en ∈ arr.toList.filter (fun e => !seen.contains e.born) := by
      have := hen
      simpa [leftOf] using this
    obtain ⟨i, hi⟩ := List.getElem?_of_mem hmem
    have hi2 : (left.map (fun p => (kv p.1, p.2)))[i]? = some (en.key, en.val) := by rw [← hlf, List.getElem?_map, hi]; rfl
    rw [List.getElem?_map, Option.map_eq_some_iff] at hi2
    obtain ⟨p, hp, hpe⟩ := hi2
    simp only [Prod.mk.injEq] at hpe
    have hin : en ∈ arr.toList := (List.mem_filter.1 hmem).1
    have hrel1 : Rel w0 (blk b (.map arr clock) :: blk r (.mapIter (some b) since seen c0) :: F) w1 := by
      rcases hal with rfl | rfl
      · exact hrel
      · exact hrel.drew
    have hlt : r < w1.heap.size := (Array.getElem?_eq_some_iff.1 (hrel1.ent Ent.front1).get).1
    have hset : Rel w0 (blk r (.mapIter (some b) since (seen.push en.born) clock) :: blk b (.map arr clock) :: F) (ChangeMaps.setBlock w1 r (.mapIter (some b) since (seen.push en.born) clock)) :=
      (hrel1.ent Ent.front1).set rfl rfl rfl (by simp [ChangeMaps.setBlock]) (by simp [ChangeMaps.setBlock, hlt]) (fun k hk => by simp [ChangeMaps.setBlock, Ne.symm hk])
    have hM : MR kv es (left.eraseIdx i) (some p) arr clock since (seen.push en.born) clock := by
      refine ⟨hm.ents, hm.st, hm.old, hm.sc, hm.sc, ?_, fun q hq => ?_⟩
      · have e1 : arr.toList.filter (fun e => !(seen.push en.born).contains e.born) = (arr.toList.filter (fun e => !seen.contains e.born)).filter (fun x => !(x.born == en.born)) := by
          rw [List.filter_filter]
          congr 1
          funext x
          rw [contains_push]
          cases seen.contains x.born <;> cases (x.born == en.born) <;> rfl
        rw [e1, filter_erase hnd hi, map_erase, hlf, map_erase]
      · injection hq with hq; subst hq
        exact ⟨rfl, en, hin, seen, rfl, hpe.1.symm, hpe.2.symm⟩
    refine ⟨_, _, _, .inl ?_, (hset.ent Ent.front1).ent (mrange_mk hM), hk2 _ _, by rw [hd]; exact h2 i p hp⟩
    simp only [execOp, hop, hx, Sem.run_bind, hrun, Result.andThen_ok, hpe.1, hpe.2]
    rfl
theorem XO.entryM {x : Operand} {d : Nat} {p : κ × Value} (hk0 : Keeps w0 (mrange b r kv es left (some p) :: F) (keptBy HL ix)) (hg : wantedE ops e n o = true) (hd : o.dst = some d) (hop : o.op = .entry x) (hx : e.ev n x = .pointer (some ⟨r, 0, none⟩))
    (h : XO P T w0 n HL ops J (ix + 1) rest (e.upd d (.tuple #[kv p.1, p.2])) (mrange b r kv es left (some p) :: F)) : XO P T w0 n HL ops J ix (o :: rest) e (mrange b r kv es left (some p) :: F) := by
  refine .effOp hk0 hg (by rw [hop]; rfl) (fun w hrel => ?_)
  have hrel0 := hrel
  obtain ⟨arr, clock, since, seen, c0, hm, hrel⟩ := hrel.mrange
  have hb := hrel.get
  have hr := (hrel.ent Ent.front1).get
  obtain ⟨rfl, en, hin, s', rfl, h1, h2⟩ := hm.cu p rfl
  refine ⟨_, w, _, .inl ?_, hrel0, hk0, by rw [hd]; exact h⟩
  have := run_entry_at (P := P) w r b since s' arr c0 en hr hb hin hm.st.2.1
  simp only [execOp, hop, hx, Sem.run_bind, this, Result.andThen_ok, h1, h2]
  rfl
end
end Go.Sx
