/- Some texts put together: lemmas and contracts for the law. Conditions: as each text says. -/
import Derived.Test.YtngicmoadobgpaaDoorU2
/- Rules for operations that touch memory, for calls and for a function's end. Conditions: the table 'T' fits the program. -/
namespace Go.Sx
open Go Go.RowKit

/-- Values, their heads in sight. -/
def evL (ev : Operand → Value) : List Operand → Option (List Value)
  | [] => some []
  | x :: xs => match Hd (ev x), evL ev xs with
    | some v, some vs => some (v :: vs)
    | _, _ => none
theorem evL_eq {ev : Operand → Value} : ∀ {l : List Operand} {vs : List Value}, evL ev l = some vs → l.map ev = vs
  | [], _, h => by injection h
  | x :: xs, vs, h => by
    simp only [evL, Hd_eq] at h
    split at h
    · rename_i v us h1 h2
      injection h with h; subst h
      injection h1 with h1; subst h1
      simp [evL_eq h2]
    · cases h
def evP (ev : Operand → Value) : List (Nat × Operand) → Option (List (Nat × Value))
  | [] => some []
  | x :: xs => match Hd (ev x.2), evP ev xs with
    | some v, some vs => some ((x.1, v) :: vs)
    | _, _ => none
theorem evP_eq {ev : Operand → Value} : ∀ {l : List (Nat × Operand)} {vs : List (Nat × Value)}, evP ev l = some vs → l.map (fun p => (p.1, ev p.2)) = vs
  | [], _, h => by injection h
  | x :: xs, vs, h => by
    simp only [evP, Hd_eq] at h
    split at h
    · rename_i v us h1 h2
      injection h with h; subst h
      injection h1 with h1; subst h1
      simp [evP_eq h2]
    · cases h

/-- A row of cells, none of them frozen. -/
def cel (b : Nat) (t : TypeId) (l : List Value) : HProp := blk b (.cells ⟨l⟩ t (0, 0))

theorem Ent.front1 {a b : HProp} {F : List HProp} : Ent (a :: b :: F) (b :: a :: F) := Ent.swap a b F
theorem Ent.front2 {a b c : HProp} {F : List HProp} : Ent (a :: b :: c :: F) (c :: a :: b :: F) := (Ent.cons a front1).trans front1
theorem Ent.front3 {a b c d : HProp} {F : List HProp} : Ent (a :: b :: c :: d :: F) (d :: a :: b :: c :: F) := (Ent.cons a front2).trans front1
theorem Ent.front4 {a b c d e : HProp} {F : List HProp} : Ent (a :: b :: c :: d :: e :: F) (e :: a :: b :: c :: d :: F) := (Ent.cons a front3).trans front1
theorem Ent.front5 {a b c d e f : HProp} {F : List HProp} : Ent (a :: b :: c :: d :: e :: f :: F) (f :: a :: b :: c :: d :: e :: F) := (Ent.cons a front4).trans front1
theorem Ent.front6 {a b c d e f g : HProp} {F : List HProp} : Ent (a :: b :: c :: d :: e :: f :: g :: F) (g :: a :: b :: c :: d :: e :: f :: F) := (Ent.cons a front5).trans front1
theorem Ent.front7 {a b c d e f g h : HProp} {F : List HProp} : Ent (a :: b :: c :: d :: e :: f :: g :: h :: F) (h :: a :: b :: c :: d :: e :: f :: g :: F) := (Ent.cons a front6).trans front1

/-! ### reading -/
def Reads (w0 : World) (H : List HProp) (a : Addr) (v : Value) : Prop := ∀ w, Rel w0 H w → w.cell? a = some v
def ReadsL (w0 : World) (H : List HProp) (a : Addr) (l : List Value) : Prop := ∀ j v, l[j]? = some v → Reads w0 H (a.add j) v

theorem Reads.skip {w0 : World} {c : HProp} {F : List HProp} {a : Addr} {v : Value} (h : Reads w0 F a v) : Reads w0 (c :: F) a v := fun w hr => h w (hr.ent (Ent.drop _ _))
theorem Reads.here {w0 : World} {b : Nat} {t : TypeId} {l : List Value} {F : List HProp} {off : Nat} {v : Value} (h : l[off]? = some v) : Reads w0 (cel b t l :: F) ⟨b, off, none⟩ v := fun w hr => by
  have := hr.get
  simp only [World.cell?, this]
  simpa using h
theorem Reads.base {w0 : World} {H : List HProp} {a : Addr} {v : Value} (h : w0.cell? a = some v) : Reads w0 H a v := fun w hr => by
  have hlt : a.block < w0.heap.size := World.block_lt_of_cell? w0 a h
  rw [hr.below.cell hlt]; exact h
theorem Reads.ent {w0 : World} {H H' : List HProp} {a : Addr} {v : Value} (e : Ent H H') (h : Reads w0 H' a v) : Reads w0 H a v := fun w hr => h w (hr.ent e)

theorem ReadsL.skip {w0 : World} {c : HProp} {F : List HProp} {a : Addr} {l : List Value} (h : ReadsL w0 F a l) : ReadsL w0 (c :: F) a l := fun j v hj => (h j v hj).skip
theorem Addr.add_mk (b off j : Nat) : (⟨b, off, none⟩ : Addr).add j = ⟨b, off + j, none⟩ := by unfold Addr.add; split <;> simp_all
theorem ReadsL.here {w0 : World} {b : Nat} {t : TypeId} {l : List Value} {F : List HProp} {off : Nat} (s : Nat) : ReadsL w0 (cel b t l :: F) ⟨b, off, none⟩ ((l.drop off).take s) := fun j v hj => by
  rw [Addr.add_mk]
  refine Reads.here ?_
  rw [List.getElem?_take] at hj
  split at hj
  · rw [List.getElem?_drop] at hj; exact hj
  · cases hj

def aggT (T : Tbl) (t : TypeId) : Option Bool :=
  match T.und t with
  | some (.struct _) | some (.array _ _) => some true
  | some _ => some false
  | none => none

section
variable {P : Program} {T : Tbl} {w0 : World} {n : Nat} {HL : Held} {ops : Array Oper} {J : Env → List HProp → Prop} {ix : Nat} {rest : List Oper} {o : Oper} {e : Env} {H : List HProp}

theorem run_isAgg (hT : T.Ok P) {t : TypeId} {b : Bool} (h : aggT T t = some b) (w : World) : (isAgg t).run P w = .ok b w := by
  unfold aggT at h
  split at h
  · rename_i hu; injection h with h; subst h; simp [isAgg, run_und hT hu]
  · rename_i hu; injection h with h; subst h; simp [isAgg, run_und hT hu]
  · rename_i d h1 h2 hu
    injection h with h; subst h
    simp only [isAgg, Sem.run_bind, run_und hT hu, Result.andThen_ok]
    cases d <;> first | rfl | (exact absurd rfl (h1 _)) | (exact absurd rfl (h2 _ _))
  · cases h

theorem XO.load {t : TypeId} {x : Operand} {a : Addr} {v : Value} (hT : T.Ok P) (hh : heldAt HL ix = none) {d : Nat} (hg : wantedE ops e n o = true) (hd : o.dst = some d) (hop : o.op = .load t x) (hx : e.ev n x = .pointer (some a)) (ha : aggT T t = some false)
    (hr : Reads w0 H a v) (h : XO P T w0 n HL ops J (ix + 1) rest (e.upd d v) H) : XO P T w0 n HL ops J ix (o :: rest) e H := by
  refine .readOp (v := v) hh hg (by rw [hop]; rfl) (fun w hrel => ?_) (by rw [hd]; exact h)
  simp only [execOp, hop, hx, Instr.loadAt, Instr.sureAddr, loadVar, Sem.run_bind, Sem.run_pure, Result.andThen_ok, run_isAgg hT ha, Bool.false_eq_true, if_false, run_load, hr w hrel]

/-- A bool that is read is parted at once. -/
theorem XO.loadBool {t : TypeId} {x : Operand} {a : Addr} {c : Bool} (hT : T.Ok P) (hh : heldAt HL ix = none) {d : Nat} (hg : wantedE ops e n o = true) (hd : o.dst = some d) (hop : o.op = .load t x) (hx : e.ev n x = .pointer (some a)) (ha : aggT T t = some false)
    (hr : Reads w0 H a (.bool c)) (h1 : c = true → XO P T w0 n HL ops J (ix + 1) rest (e.upd d (.bool true)) H) (h2 : c = false → XO P T w0 n HL ops J (ix + 1) rest (e.upd d (.bool false)) H) : XO P T w0 n HL ops J ix (o :: rest) e H := by
  refine .load hT hh hg hd hop hx ha hr ?_
  cases c
  · exact h2 rfl
  · exact h1 rfl

theorem XO.loadAgg {t : TypeId} {x : Operand} {a : Addr} {l : List Value} (hT : T.Ok P) (hh : heldAt HL ix = none) {d : Nat} (hg : wantedE ops e n o = true) (hd : o.dst = some d) (hop : o.op = .load t x) (hx : e.ev n x = .pointer (some a)) (ha : aggT T t = some true)
    (hs : T.size t = some l.length) (hr : ReadsL w0 H a l) (h : XO P T w0 n HL ops J (ix + 1) rest (e.upd d (.agg ⟨l⟩)) H) : XO P T w0 n HL ops J ix (o :: rest) e H := by
  refine .readOp (v := .agg ⟨l⟩) hh hg (by rw [hop]; rfl) (fun w hrel => ?_) (by rw [hd]; exact h)
  simp only [execOp, hop, hx, Instr.loadAt, Instr.sureAddr, loadVar, Sem.run_bind, Sem.run_pure, Result.andThen_ok, run_isAgg hT ha, if_true, run_size hT hs, run_loadCells_list w a l (fun j v hj => hr j v hj w hrel)]

/-- A cell that is held. -/
theorem XO.loadH {t : TypeId} {x : Operand} {a : Addr} {v : Value} {d : Nat} (hT : T.Ok P) (hh : heldAt HL ix = some (heldC a v)) (hg : wantedE ops e n o = true) (hd : o.dst = some d) (hop : o.op = .load t x) (hx : e.ev n x = .pointer (some a)) (ha : aggT T t = some false)
    (hr : Reads w0 H a v) (h : XO P T w0 n HL ops J (ix + 1) rest (e.upd d v) H) : XO P T w0 n HL ops J ix (o :: rest) e H := by
  refine .holdOp (v := v) hh hg (by rw [hop]; rfl) (fun w hw => ?_) hr (by rw [hd]; exact h)
  simp only [execOp, hop, hx, Instr.loadAt, Instr.sureAddr, loadVar, Sem.run_bind, Sem.run_pure, Result.andThen_ok, run_isAgg hT ha, Bool.false_eq_true, if_false, run_load, hw]

/-! ### writing -/
def wr : List Value → Nat → List Value → List Value
  | l, _, [] => l
  | l, o, v :: vs => wr (l.set o v) (o + 1) vs
theorem wr_length (vs : List Value) : ∀ (l : List Value) (o : Nat), (wr l o vs).length = l.length := by
  induction vs with
  | nil => intro l o; rfl
  | cons v vs ih => intro l o; simp [wr, ih]

theorem storeCells_rel (b : Nat) (t : TypeId) (F : List HProp) (o : Nat) : ∀ (vs : List Value) (i : Nat) (l : List Value) (w : World), Rel w0 (cel b t l :: F) w → o + i + vs.length ≤ l.length → vs.all (·.oneCell') = true →
    ∃ w', (storeCells ⟨b, o, none⟩ vs i).run P w = .ok () w' ∧ Rel w0 (cel b t (wr l (o + i) vs) :: F) w'
  | [], i, l, w, hr, _, _ => ⟨w, rfl, hr⟩
  | v :: vs, i, l, w, hr, hl, h1 => by
    simp only [List.all_cons, Bool.and_eq_true] at h1
    simp only [List.length_cons] at hl
    have hc : w.cell? ⟨b, o + i, none⟩ = some l[o + i] := Reads.here (t := t) (F := F) (by simp [show o + i < l.length by omega]) w hr
    have hf : w.frozen? ⟨b, o + i, none⟩ = false := by
      have := hr.get
      simp [World.frozen?, this]
    have hset : (store ((⟨b, o, none⟩ : Addr).add i) v).run P w = .ok () (w.setCell ⟨b, o + i, none⟩ v) := by
      rw [Addr.add_mk, run_store P w _ v .plain h1.1, hc]
      simp [hf]
    have hr' : Rel w0 (cel b t (l.set (o + i) v) :: F) (w.setCell ⟨b, o + i, none⟩ v) := by
      have := hr.setCell (o + i) v
      simpa [cel] using this
    obtain ⟨w', hw, hr2⟩ := storeCells_rel b t F o vs (i + 1) (l.set (o + i) v) _ hr' (by simp; omega) h1.2
    refine ⟨w', ?_, ?_⟩
    · simp only [storeCells, Sem.run_bind, hset, Result.andThen_ok]; exact hw
    · simpa [wr, Nat.add_assoc] using hr2

theorem XO.store {t tb : TypeId} {x y : Operand} {b off : Nat} {l cs : List Value} {v : Value} {F : List HProp} (hT : T.Ok P) (hk0 : Keeps w0 (cel b tb l :: F) (keptBy HL ix)) (hg : wantedE ops e n o = true) (hd : o.dst = none) (hop : o.op = .store t x y) (hx : e.ev n x = .pointer (some ⟨b, off, none⟩))
    (hy : Hd (e.ev n y) = some v) (hcs : v.cells = ⟨cs⟩) (hs : T.size t = some cs.length) (h1 : cs.all (·.oneCell') = true) (hl : off + cs.length ≤ l.length)
    (hk : Keeps w0 (cel b tb (wr l off cs) :: F) (keptBy HL ix)) (h : XO P T w0 n HL ops J (ix + 1) rest e (cel b tb (wr l off cs) :: F)) : XO P T w0 n HL ops J ix (o :: rest) e (cel b tb l :: F) := by
  rw [Hd_eq] at hy
  injection hy with hy
  refine .effOp hk0 hg (by rw [hop]; rfl) (fun w hrel => ?_)
  obtain ⟨w', hw, hr'⟩ := storeCells_rel (P := P) b tb F off cs 0 l w hrel (by omega) h1
  refine ⟨undef, w', _, .inr ⟨?_, rfl⟩, hr', hk, by rw [hd]; exact h⟩
  simp only [execOp, hop, hx, hy, Instr.storeAt, Instr.sureAddr, storeVar, hcs, List.size_toArray, Sem.run_bind, Sem.run_pure, Result.andThen_ok, run_size hT hs, ne_eq, not_true_eq_false, if_false, hw]

/-- The same, the row written out. -/
def wrH : List Value → Nat → Value → Option (List Value)
  | [], _, _ => none
  | _ :: l, 0, x => some (x :: l)
  | v :: l, k + 1, x => match wrH l k x with
    | some l' => some (v :: l')
    | none => none
theorem wrH_eq : ∀ {l : List Value} {k : Nat} {x : Value} {l' : List Value}, wrH l k x = some l' → k < l.length ∧ l' = l.set k x
  | [], _, _, _, h => by cases h
  | _ :: l, 0, x, l', h => by injection h with h; subst h; simp
  | v :: l, k + 1, x, l', h => by
    simp only [wrH] at h
    split at h
    · rename_i l2 h2
      injection h with h; subst h
      obtain ⟨h3, rfl⟩ := wrH_eq h2
      simp; omega
    · cases h
def wrL : List Value → Nat → List Value → Option (List Value)
  | l, _, [] => some l
  | l, k, x :: xs => match wrH l k x with
    | some l' => wrL l' (k + 1) xs
    | none => none
theorem wrL_eq : ∀ {xs l : List Value} {k : Nat} {l' : List Value}, wrL l k xs = some l' → k ≤ l.length → k + xs.length ≤ l.length ∧ l' = wr l k xs
  | [], l, k, l', h, hk => by injection h with h; subst h; exact ⟨by simpa using hk, rfl⟩
  | x :: xs, l, k, l', h, _ => by
    simp only [wrL] at h
    split at h
    · rename_i l2 h2
      obtain ⟨h3, rfl⟩ := wrH_eq h2
      obtain ⟨h4, rfl⟩ := wrL_eq h (by simp; omega)
      simp at h4
      exact ⟨by simp; omega, rfl⟩
    · cases h
theorem XO.storeL {t tb : TypeId} {x y : Operand} {b off : Nat} {l l' cs : List Value} {v : Value} {F : List HProp} (hT : T.Ok P) (hk0 : Keeps w0 (cel b tb l :: F) (keptBy HL ix)) (hg : wantedE ops e n o = true) (hd : o.dst = none) (hop : o.op = .store t x y) (hx : e.ev n x = .pointer (some ⟨b, off, none⟩))
    (hy : Hd (e.ev n y) = some v) (hcs : v.cells = ⟨cs⟩) (hs : T.size t = some cs.length) (h1 : cs.all (·.oneCell') = true) (hc : Nat.ble 1 cs.length = true) (hl : wrL l off cs = some l')
    (hk : Keeps w0 (cel b tb l' :: F) (keptBy HL ix)) (h : XO P T w0 n HL ops J (ix + 1) rest e (cel b tb l' :: F)) : XO P T w0 n HL ops J ix (o :: rest) e (cel b tb l :: F) := by
  have hc := Nat.le_of_ble_eq_true hc
  have hk : off ≤ l.length := by
    cases cs with
    | nil => simp at hc
    | cons c cs =>
      simp only [wrL] at hl
      split at hl
      · rename_i h2; have := (wrH_eq h2).1; omega
      · cases hl
  obtain ⟨h3, rfl⟩ := wrL_eq hl hk
  exact .store hT hk0 hg hd hop hx hy hcs hs h1 h3 hk h

theorem XO.box {t : TypeId} {x : Operand} {v : Value} {cs : List Value} (hk0 : Keeps w0 H (keptBy HL ix)) {d : Nat} (hg : wantedE ops e n o = true) (hd : o.dst = some d) (hop : o.op = .box t x) (hx : Hd (e.ev n x) = some v) (hcs : v.cells = ⟨cs⟩)
    (hk : ∀ b, Keeps w0 (cel b t cs :: H) (keptBy HL ix)) (h : ∀ b, XO P T w0 n HL ops J (ix + 1) rest (e.upd d (.pointer (some ⟨b, 0, none⟩))) (cel b t cs :: H)) : XO P T w0 n HL ops J ix (o :: rest) e H := by
  rw [Hd_eq] at hx
  injection hx with hx
  refine .effOp hk0 hg (by rw [hop]; rfl) (fun w hrel => ?_)
  refine ⟨_, _, _, .inl ?_, hrel.alloc (.cells ⟨cs⟩ t), hk _, by rw [hd]; exact h w.heap.size⟩
  simp [execOp, hop, hx, Instr.box, newVar, newRow, hcs]

theorem XO.alloc {t : TypeId} {z : Value} {cs : List Value} (hT : T.Ok P) (hk0 : Keeps w0 H (keptBy HL ix)) {d : Nat} (hg : wantedE ops e n o = true) (hd : o.dst = some d) (hop : o.op = .alloc t) (hz : T.zero t = some z) (hcs : z.cells = ⟨cs⟩)
    (hk : ∀ b, Keeps w0 (cel b t cs :: H) (keptBy HL ix)) (h : ∀ b, XO P T w0 n HL ops J (ix + 1) rest (e.upd d (.pointer (some ⟨b, 0, none⟩))) (cel b t cs :: H)) : XO P T w0 n HL ops J ix (o :: rest) e H := by
  refine .effOp hk0 hg (by rw [hop]; rfl) (fun w hrel => ?_)
  refine ⟨_, _, _, .inl ?_, hrel.alloc (.cells ⟨cs⟩ t), hk _, by rw [hd]; exact h w.heap.size⟩
  simp [execOp, hop, Instr.alloc, run_zero hT hz, newVar, newRow, hcs]

/-! ### structs are built -/
def placeT (T : Tbl) (fs : Array Field) (i : Nat) : Option (Nat × Nat) :=
  match fs[i]? with
  | some f => (T.size f.type).map fun s => (f.offset, s)
  | none => none

theorem run_places (hT : T.Ok P) (w : World) : ∀ (fs : List Field), (∀ f ∈ fs, ∃ s, T.size f.type = some s) →
    (fs.mapM fun f => do pure (f.offset, ← sizeOf f.type) : Sem (List (Nat × Nat))).run P w = .ok (fs.map fun f => (f.offset, (T.size f.type).getD 0)) w
  | [], _ => rfl
  | f :: fs, h => by
    obtain ⟨s, hs⟩ := h f (List.mem_cons_self ..)
    have ih := run_places hT w fs (fun g hg => h g (List.mem_cons_of_mem _ hg))
    simp only [List.mapM_cons, Sem.run_bind, run_size hT hs, Result.andThen_ok, Sem.run_pure, ih, List.map_cons, hs, Option.getD_some]

/-- A value's cells, their row in sight. -/
def cellsL (v : Value) : List Value :=
  match v with
  | .agg cs => cs.toList
  | v => [v]
theorem cellsL_eq (v : Value) : v.cells = ⟨cellsL v⟩ := by cases v <;> rfl
def fillG (p : Nat → Option (Nat × Nat)) : List Value → List (Nat × Value) → Option (List Value)
  | l, [] => some l
  | l, (i, v) :: ps => match p i with
    | some (o, s) => bif Nat.beq (cellsL v).length s then (bif Nat.ble o l.length then (match wrL l o (cellsL v) with | some l' => fillG p l' ps | none => none) else none) else none
    | none => none
def buildT (T : Tbl) (t : TypeId) (parts : List (Nat × Value)) : Option (List Value) :=
  match T.und t, T.zero t with
  | some (.struct fs), some z => if fs.toList.all (fun f => (T.size f.type).isSome) then fillG (placeT T fs) (cellsL z) parts else none
  | _, _ => none
theorem wr_foldl' : ∀ (cs l : List Value) (o k : Nat), (cs.zipIdx k).foldl (fun (a : Array Value) (p : Value × Nat) => a.setIfInBounds (o + p.2) p.1) ⟨l⟩ = ⟨wr l (o + k) cs⟩
  | [], l, o, k => rfl
  | c :: cs, l, o, k => by
    simp only [List.zipIdx_cons, List.foldl_cons, wr]
    have : (⟨l⟩ : Array Value).setIfInBounds (o + k) c = ⟨l.set (o + k) c⟩ := by apply Array.ext'; simp
    rw [this, wr_foldl' cs _ o (k + 1)]
    rfl
theorem fillG_eq {p : Nat → Option (Nat × Nat)} : ∀ (ps : List (Nat × Value)) (l l' : List Value), fillG p l ps = some l' → Instr.fill p ⟨l⟩ ps = some ⟨l'⟩
  | [], l, l', h => by injection h with h; subst h; rfl
  | (i, v) :: ps, l, l', h => by
    simp only [fillG] at h
    split at h
    · rename_i o s hp
      cases h1 : Nat.beq (cellsL v).length s with
      | false => rw [h1] at h; cases h
      | true =>
        cases h2 : Nat.ble o l.length with
        | false => rw [h1, h2] at h; cases h
        | true =>
          rw [h1, h2] at h
          simp only [cond_true] at h
          have h1 := Nat.eq_of_beq_eq_true h1
          have h2 := Nat.le_of_ble_eq_true h2
          split at h
          · rename_i l2 hw
            obtain ⟨h3, rfl⟩ := wrL_eq hw h2
            have hcs : v.cells.size = s := by rw [cellsL_eq]; exact h1
            have hf := wr_foldl' (cellsL v) l o 0
            simp only [Instr.fill, hp]
            rw [if_neg (by rw [hcs]; simp; omega)]
            rw [cellsL_eq]
            have e1 : (⟨cellsL v⟩ : Array Value).zipIdx.foldl (fun (cs : Array Value) (x : Value × Nat) => cs.setIfInBounds (o + x.2) x.1) ⟨l⟩ = ⟨wr l o (cellsL v)⟩ := by
              rw [← Array.foldl_toList, Array.toList_zipIdx]
              simpa using hf
            rw [show ((⟨cellsL v⟩ : Array Value).zipIdx.foldl (fun cs x => match x with | (c, j) => cs.setIfInBounds (o + j) c) (⟨l⟩ : Array Value)) = ⟨wr l o (cellsL v)⟩ from e1]
            exact fillG_eq ps _ l' h
          · cases h
    · cases h
theorem fill_congr {p q : Nat → Option (Nat × Nat)} (h : ∀ i, p i = q i) : ∀ (l : List (Nat × Value)) (cs : Array Value), Instr.fill p cs l = Instr.fill q cs l
  | [], _ => rfl
  | (i, v) :: l, cs => by
    simp only [Instr.fill, h]
    split
    · rfl
    · split
      · rfl
      · exact fill_congr h l _

theorem XO.build {t : TypeId} {ps : Array (Nat × Operand)} {parts : List (Nat × Value)} {cs : List Value} (hT : T.Ok P) {d : Nat} (hg : wantedE ops e n o = true) (hd : o.dst = some d) (hop : o.op = .build t ps) (hp : evP (e.ev n) ps.toList = some parts)
    (hb : buildT T t parts = some cs) (h : XO P T w0 n HL ops J (ix + 1) rest (e.upd d (.agg ⟨cs⟩)) H) : XO P T w0 n HL ops J ix (o :: rest) e H := by
  refine .pureOp hg (by rw [hop]; rfl) (fun w => ?_) (by rw [hd]; exact h)
  unfold buildT at hb
  split at hb
  · rename_i fs z hu hz
    split at hb
    · rename_i hall
      have hpl := run_places (P := P) hT w fs.toList (fun f hf => by
        have := List.all_eq_true.1 hall f hf
        simpa [Option.isSome_iff_exists] using this)
      have hparts : (ps.map fun p => (p.1, e.ev n p.2)).toList = parts := by simpa using evP_eq hp
      have hm : (fs.mapM fun f => do pure (f.offset, ← sizeOf f.type) : Sem (Array (Nat × Nat))).run P w = .ok (fs.toList.map fun f => (f.offset, (T.size f.type).getD 0)).toArray w := by
        rw [Array.mapM_eq_mapM_toList]
        simp only [Sem.run_map, hpl, Result.andThen_ok]
      have hfill : Instr.fill (fun i => (fs.toList.map fun f => (f.offset, (T.size f.type).getD 0)).toArray[i]?) z.cells parts = some ⟨cs⟩ := by
        rw [cellsL_eq z, ← fillG_eq _ _ _ hb]
        refine fill_congr (fun i => ?_) _ _
        simp only [placeT, List.getElem?_toArray, List.getElem?_map, Array.getElem?_toList]
        cases hf : fs[i]? with
        | none => rfl
        | some f =>
          have := List.all_eq_true.1 hall f (by simpa using Array.mem_of_getElem? hf)
          obtain ⟨s, hs⟩ := Option.isSome_iff_exists.1 this
          simp [hs]
      simp only [execOp, hop, Instr.build, Sem.run_bind, run_zero hT hz, Result.andThen_ok, run_und hT hu, hm]
      rw [hparts, hfill]
      rfl
    · cases hb
  · cases hb

/-! ### calls -/
def callOk (P : Program) (f : FuncId) : Bool :=
  match P.funcs[f]? with
  | some fn => !(fn.name == "runtime.NumGoroutine") && !fn.body.isNone
  | none => false

theorem run_callFunc {f : FuncId} (hf : callOk P f = true) (args : Array Value) (w : World) : (callFunc f args).run P w = .ok (.enter f args) w := by
  unfold callOk at hf
  split at hf
  · rename_i fn hfn
    simp only [Bool.and_eq_true, Bool.not_eq_true'] at hf
    simp only [callFunc, Sem.run_bind, run_program, Result.andThen_ok, hfn, hf.1, hf.2, Bool.false_eq_true, if_false, Sem.run_pure]
  · cases hf

theorem XO.callF {f : FuncId} {ars : Array Operand} {ts : Array TypeId} {args : List Value} {d : Nat} (hg : wantedE ops e n o = true) (hd : o.dst = some d) (hop : o.op = .call { callee := .value (.func f), args := ars, argTypes := ts }) (hf : callOk P f = true)
    (ha : evL (e.ev n) ars.toList = some args) (h : Tri P f ⟨args⟩ w0 H fun v H' => XO P T w0 n [] ops J (ix + 1) rest (e.upd d v) H') : XO P T w0 n [] ops J ix (o :: rest) e H := by
  refine .call (f := f) (args := ⟨args⟩) trivial hg (by rw [hop]; rfl) (fun w => ?_) (h.mono fun v H' hx => ⟨trivial, by rw [hd]; exact hx⟩)
  have : ars.map (e.ev n) = ⟨args⟩ := by apply Array.ext'; simpa using evL_eq ha
  simp [execOp, hop, resolve, Env.ev, Deferred.ofValue, invoke, this, run_callFunc hf]

/-- A call while cells are held. -/
theorem XO.callH {f : FuncId} {ars : Array Operand} {ts : Array TypeId} {args : List Value} (hk0 : Keeps w0 H (keptBy HL ix)) {d : Nat} (hg : wantedE ops e n o = true) (hd : o.dst = some d) (hop : o.op = .call { callee := .value (.func f), args := ars, argTypes := ts }) (hf : callOk P f = true)
    (ha : evL (e.ev n) ars.toList = some args) (h : Tri P f ⟨args⟩ w0 H fun v H' => Keeps w0 H' (keptBy HL ix) ∧ XO P T w0 n HL ops J (ix + 1) rest (e.upd d v) H') : XO P T w0 n HL ops J ix (o :: rest) e H := by
  refine .call (f := f) (args := ⟨args⟩) hk0 hg (by rw [hop]; rfl) (fun w => ?_) (h.mono fun v H' hx => ⟨hx.1, by rw [hd]; exact hx.2⟩)
  have : ars.map (e.ev n) = ⟨args⟩ := by apply Array.ext'; simpa using evL_eq ha
  simp [execOp, hop, resolve, Env.ev, Deferred.ofValue, invoke, this, run_callFunc hf]

/-! ### ends -/
section
variable {b : Frame} {R : Value → List HProp → Prop} {fn : Func}
theorem XS.ret0 {H' : List HProp} (hf : P.funcs[b.fn]? = some fn) (hk : b.kind = .normal) (hres : fn.results = #[]) (x : Ent H H') (h : R (.tuple #[]) H') : XS P w0 b n R [.code .ret] e H :=
  .ret hf hk (fun w => by simp [results, hres]) x h
theorem XS.nil0 {H' : List HProp} (hf : P.funcs[b.fn]? = some fn) (hk : b.kind = .normal) (hres : fn.results = #[]) (x : Ent H H') (h : R (.tuple #[]) H') : XS P w0 b n R [] e H :=
  .nil hf hk (fun w => by simp [results, hres]) x h
theorem getD_act (e : Env) (n t : Nat) : (e.act n).tmps.getD t undef = e.ev n (.tmp t) := by
  have := congrFun (Env.act_eval e n) (.tmp t)
  exact this
theorem XS.ret1 {k : List Item} {H' : List HProp} {t : Nat} {v : Value} (hf : P.funcs[b.fn]? = some fn) (hk : b.kind = .normal) (hres : fn.results = #[.tmp t]) (hv : Hd (e.ev n (.tmp t)) = some v) (x : Ent H H') (h : R v H') : XS P w0 b n R (.code .ret :: k) e H :=
  .ret hf hk (fun w => by rw [Hd_eq] at hv; injection hv with hv; simp only [results, hres, ← hv, ← getD_act]; simp) x h
theorem XS.ret2 {k : List Item} {H' : List HProp} {t u : Nat} {v v' : Value} (hf : P.funcs[b.fn]? = some fn) (hk : b.kind = .normal) (hres : fn.results = #[.tmp t, .tmp u]) (hv : Hd (e.ev n (.tmp t)) = some v) (hv' : Hd (e.ev n (.tmp u)) = some v') (x : Ent H H') (h : R (.tuple #[v, v']) H') : XS P w0 b n R (.code .ret :: k) e H :=
  .ret hf hk (fun w => by rw [Hd_eq] at hv hv'; injection hv with hv; injection hv' with hv'; simp only [results, hres, ← hv, ← hv', ← getD_act]; simp) x h
theorem XS.ret3 {k : List Item} {H' : List HProp} {t u s : Nat} {v v' v'' : Value} (hf : P.funcs[b.fn]? = some fn) (hk : b.kind = .normal) (hres : fn.results = #[.tmp t, .tmp u, .tmp s]) (hv : Hd (e.ev n (.tmp t)) = some v) (hv' : Hd (e.ev n (.tmp u)) = some v') (hv'' : Hd (e.ev n (.tmp s)) = some v'') (x : Ent H H') (h : R (.tuple #[v, v', v'']) H') : XS P w0 b n R (.code .ret :: k) e H :=
  .ret hf hk (fun w => by rw [Hd_eq] at hv hv' hv''; injection hv with hv; injection hv' with hv'; injection hv'' with hv''; simp only [results, hres, ← hv, ← hv', ← hv'', ← getD_act]; simp) x h
end
end
end Go.Sx

/- More rules: int's sums within their bounds, lengths, indexes, loops by a measure. Conditions: the table 'T' fits the program. -/
namespace Go.Sx
open Go Go.RowKit

theorem wrap64_id {z : Int} (h1 : -9223372036854775808 ≤ z) (h2 : z ≤ 9223372036854775807) : IntKind.i64.wrap z = z := by
  rw [IntKind.wrap_i64]; omega

/-- Slots that hold what is said. -/
def Slots (e : Env) : List (Nat × Value) → Prop
  | [] => True
  | p :: l => e p.1 = p.2 ∧ Slots e l
def Env.ups (e : Env) : List (Nat × Value) → Env
  | [] => e
  | p :: l => (Env.ups e l).upd p.1 p.2
theorem ups_self {e : Env} : ∀ {l : List (Nat × Value)}, Slots e l → e.ups l = e
  | [], _ => rfl
  | p :: l, ⟨h1, h2⟩ => by simp only [Env.ups, ups_self h2]; exact Env.upd_self e p.1 p.2 h1

section
variable {P : Program} {T : Tbl} {w0 : World} {n : Nat} {HL : Held} {ops : Array Oper} {J : Env → List HProp → Prop} {ix : Nat} {rest : List Oper} {o : Oper} {e : Env} {H : List HProp}

theorem XO.anyOp {v : Value} (hh : heldAt HL ix = none) (hg : wantedE ops e n o = true) (hc : cls T o.op ≠ .eff) (hv : ∀ w, (execOp (e.ev n) o).run P w = .ok (.value v) w) (h : XO P T w0 n HL ops J (ix + 1) rest (e.put o.dst v) H) : XO P T w0 n HL ops J ix (o :: rest) e H :=
  .valOp hh hg hc hv h

theorem XO.i64 {x y : Operand} {t t' : TypeId} {op : BinOp} {a b z : Int} {d : Nat} (hT : T.Ok P) (hh : heldAt HL ix = none) (hg : wantedE ops e n o = true) (hd : o.dst = some d) (hop : o.op = .binOp op t x y t') (hx : e.ev n x = .int .i64 a) (hy : e.ev n y = .int .i64 b)
    (hz : binI op .i64 a b = some (.int .i64 (IntKind.i64.wrap z))) (hs : isShift op = false) (h1 : -9223372036854775808 ≤ z) (h2 : z ≤ 9223372036854775807) (h : XO P T w0 n HL ops J (ix + 1) rest (e.upd d (.int .i64 z)) H) : XO P T w0 n HL ops J ix (o :: rest) e H := by
  refine .p hT hh hg hd (v := .int .i64 z) ?_ h
  rw [hop]
  simp only [pev, hx, hy, binV, hs, cond_false, sameKind, cond_true, hz, wrap64_id h1 h2]

theorem XO.add64 {x y : Operand} {t t' : TypeId} {a b : Int} {d : Nat} (hT : T.Ok P) (hh : heldAt HL ix = none) (hg : wantedE ops e n o = true) (hd : o.dst = some d) (hop : o.op = .binOp .add t x y t') (hx : e.ev n x = .int .i64 a) (hy : e.ev n y = .int .i64 b)
    (h1 : -9223372036854775808 ≤ a + b) (h2 : a + b ≤ 9223372036854775807) (h : XO P T w0 n HL ops J (ix + 1) rest (e.upd d (.int .i64 (a + b))) H) : XO P T w0 n HL ops J ix (o :: rest) e H := .i64 hT hh hg hd hop hx hy rfl rfl h1 h2 h
theorem XO.sub64 {x y : Operand} {t t' : TypeId} {a b : Int} {d : Nat} (hT : T.Ok P) (hh : heldAt HL ix = none) (hg : wantedE ops e n o = true) (hd : o.dst = some d) (hop : o.op = .binOp .sub t x y t') (hx : e.ev n x = .int .i64 a) (hy : e.ev n y = .int .i64 b)
    (h1 : -9223372036854775808 ≤ a - b) (h2 : a - b ≤ 9223372036854775807) (h : XO P T w0 n HL ops J (ix + 1) rest (e.upd d (.int .i64 (a - b))) H) : XO P T w0 n HL ops J ix (o :: rest) e H := .i64 hT hh hg hd hop hx hy rfl rfl h1 h2 h
theorem XO.mul64 {x y : Operand} {t t' : TypeId} {a b : Int} {d : Nat} (hT : T.Ok P) (hh : heldAt HL ix = none) (hg : wantedE ops e n o = true) (hd : o.dst = some d) (hop : o.op = .binOp .mul t x y t') (hx : e.ev n x = .int .i64 a) (hy : e.ev n y = .int .i64 b)
    (h1 : -9223372036854775808 ≤ a * b) (h2 : a * b ≤ 9223372036854775807) (h : XO P T w0 n HL ops J (ix + 1) rest (e.upd d (.int .i64 (a * b))) H) : XO P T w0 n HL ops J ix (o :: rest) e H := .i64 hT hh hg hd hop hx hy rfl rfl h1 h2 h

/-- What a comparison of numbers says where it is true, and where it is false. -/
def cmpTF (op : BinOp) (a b : Int) : Option (Prop × Prop) :=
  match op with
  | .eql => some (a = b, a ≠ b)
  | .neq => some (a ≠ b, a = b)
  | .lss => some (a < b, b ≤ a)
  | .leq => some (a ≤ b, b < a)
  | .gtr => some (b < a, a ≤ b)
  | .geq => some (b ≤ a, a < b)
  | _ => none
theorem XO.cmpI {x y : Operand} {t t' : TypeId} {op : BinOp} {a b : Int} {k : IntKind} {p q : Prop} {d : Nat} (hT : T.Ok P) (hh : heldAt HL ix = none) (hg : wantedE ops e n o = true) (hd : o.dst = some d) (hop : o.op = .binOp op t x y t') (hc : cmpTF op a b = some (p, q)) (hx : e.ev n x = .int k a) (hy : e.ev n y = .int k b)
    (h1 : p → XO P T w0 n HL ops J (ix + 1) rest (e.upd d (.bool true)) H) (h2 : q → XO P T w0 n HL ops J (ix + 1) rest (e.upd d (.bool false)) H) : XO P T w0 n HL ops J ix (o :: rest) e H := by
  have hk : sameKind k k = true := by cases k <;> rfl
  have key : ∀ c : Bool, binI op k a b = some (.bool c) → isShift op = false → (if c then XO P T w0 n HL ops J (ix + 1) rest (e.upd d (.bool true)) H else XO P T w0 n HL ops J (ix + 1) rest (e.upd d (.bool false)) H) → XO P T w0 n HL ops J ix (o :: rest) e H := by
    intro c hb hs hif
    refine .p (v := .bool c) hT hh hg hd ?_ (by cases c <;> exact hif)
    rw [hop]
    simp only [pev, hx, hy, binV, hs, cond_false, hk, cond_true, hb]
  cases op <;> simp only [cmpTF] at hc <;> (first | (cases hc; done) | skip)
  all_goals
    (injection hc with hc
     injection hc with hp hq
     subst hp; subst hq
     refine key _ rfl rfl ?_
     split
     · rename_i hh; simp at hh; exact h1 hh
     · rename_i hh; simp at hh; exact h2 hh)
theorem XO.pT {x y : Operand} {t t' : TypeId} {op : BinOp} {d : Nat} (hT : T.Ok P) (hh : heldAt HL ix = none) (hg : wantedE ops e n o = true) (hd : o.dst = some d) (hop : o.op = .binOp op t x y t') (hv : binV T op t (e.ev n x) (e.ev n y) = some (.bool true))
    (h : XO P T w0 n HL ops J (ix + 1) rest (e.upd d (.bool true)) H) : XO P T w0 n HL ops J ix (o :: rest) e H := .p hT hh hg hd (by rw [hop]; exact hv) h
theorem XO.pF {x y : Operand} {t t' : TypeId} {op : BinOp} {d : Nat} (hT : T.Ok P) (hh : heldAt HL ix = none) (hg : wantedE ops e n o = true) (hd : o.dst = some d) (hop : o.op = .binOp op t x y t') (hv : binV T op t (e.ev n x) (e.ev n y) = some (.bool false))
    (h : XO P T w0 n HL ops J (ix + 1) rest (e.upd d (.bool false)) H) : XO P T w0 n HL ops J ix (o :: rest) e H := .p hT hh hg hd (by rw [hop]; exact hv) h

def isBin : Op → Bool
  | .binOp .. => true
  | .convert .. => true
  | .unOp .neg .. => true
  | _ => false
/-- What is no operator. -/
theorem XO.q {v : Value} {d : Nat} (hT : T.Ok P) (hh : heldAt HL ix = none) (_hb : isBin o.op = false) (hg : wantedE ops e n o = true) (hd : o.dst = some d) (hv : pev T (e.ev n) o.op = some v) (h : XO P T w0 n HL ops J (ix + 1) rest (e.upd d v) H) : XO P T w0 n HL ops J ix (o :: rest) e H := .p hT hh hg hd hv h
/-- A number is given a name. -/
theorem XO.pN {x y : Operand} {t t' : TypeId} {op : BinOp} {k : IntKind} {z0 : Int} {d : Nat} (hT : T.Ok P) (hh : heldAt HL ix = none) (hg : wantedE ops e n o = true) (hd : o.dst = some d) (hop : o.op = .binOp op t x y t') (hv : binV T op t (e.ev n x) (e.ev n y) = some (.int k z0))
    (h : ∀ z, z = z0 → XO P T w0 n HL ops J (ix + 1) rest (e.upd d (.int k z)) H) : XO P T w0 n HL ops J ix (o :: rest) e H := .p hT hh hg hd (by rw [hop]; exact hv) (h _ rfl)

/-- A quotient by a constant above 0. -/
theorem XO.quo64 {x y : Operand} {t t' : TypeId} {a b : Int} {d : Nat} (hg : wantedE ops e n o = true) (hd : o.dst = some d) (hop : o.op = .binOp .quo t x y t') (hx : e.ev n x = .int .i64 a) (hy : e.ev n y = .int .i64 b)
    (h0 : 0 ≤ a) (h1 : 0 < b) (h2 : a ≤ 9223372036854775807) (h : XO P T w0 n HL ops J (ix + 1) rest (e.upd d (.int .i64 (a / b))) H) : XO P T w0 n HL ops J ix (o :: rest) e H := by
  refine .pureOp (v := .int .i64 (a / b)) hg (by rw [hop]; rfl) (fun w => ?_) (by rw [hd]; exact h)
  have hq : a.tdiv b = a / b := Int.tdiv_eq_ediv_of_nonneg h0
  have h3 : 0 ≤ a / b := Int.ediv_nonneg h0 (by omega)
  have h4 : a / b ≤ a := Int.ediv_le_self b h0
  have hb : b ≠ 0 := by omega
  have hw : IntKind.i64.wrap (a / b) = a / b := wrap64_id (by omega) (by omega)
  simp only [execOp, hop, hx, hy, Sem.run_bind, eqGuard_plain BinOp.quo t x y (.int .i64 a) (.int .i64 b) (by simp) (by simp), Result.andThen_ok]
  simp [binOp, Op.intDiv, hb, hq, hw]
theorem XO.rem64 {x y : Operand} {t t' : TypeId} {a b : Int} {d : Nat} (hg : wantedE ops e n o = true) (hd : o.dst = some d) (hop : o.op = .binOp .rem t x y t') (hx : e.ev n x = .int .i64 a) (hy : e.ev n y = .int .i64 b)
    (h0 : 0 ≤ a) (h1 : 0 < b) (h : XO P T w0 n HL ops J (ix + 1) rest (e.upd d (.int .i64 (a % b))) H) : XO P T w0 n HL ops J ix (o :: rest) e H := by
  refine .pureOp (v := .int .i64 (a % b)) hg (by rw [hop]; rfl) (fun w => ?_) (by rw [hd]; exact h)
  have hq : a.tmod b = a % b := Int.tmod_eq_emod_of_nonneg h0
  have hb : b ≠ 0 := by omega
  simp only [execOp, hop, hx, hy, Sem.run_bind, eqGuard_plain BinOp.rem t x y (.int .i64 a) (.int .i64 b) (by simp) (by simp), Result.andThen_ok]
  simp [binOp, Op.intDiv, hb, hq]

/-- 'len' of a slice. -/
theorem XO.lenSlice {x : Operand} {t : TypeId} {a : Option Addr} {k c : Nat} {d : Nat} {u : TypeId} (hT : T.Ok P) (hh : heldAt HL ix = none) (hg : wantedE ops e n o = true) (hd : o.dst = some d) (hop : o.op = .call { callee := .builtin .len, args := #[x], argTypes := #[t] }) (hu : T.und t = some (.slice u))
    (hx : e.ev n x = .slice a k c) (h : XO P T w0 n HL ops J (ix + 1) rest (e.upd d (.int .i64 k)) H) : XO P T w0 n HL ops J ix (o :: rest) e H := by
  refine .anyOp (v := .int .i64 k) hh hg (by rw [hop]; simp only [cls]; split <;> simp) (fun w => ?_) (by rw [hd]; exact h)
  simp [execOp, hop, resolve, invoke, builtin, Builtin.len_, run_und hT hu, hx, goInt]
theorem XO.lenString {x : Operand} {t : TypeId} {s : ByteArray} {d : Nat} (hT : T.Ok P) (hh : heldAt HL ix = none) (hg : wantedE ops e n o = true) (hd : o.dst = some d) (hop : o.op = .call { callee := .builtin .len, args := #[x], argTypes := #[t] }) (hu : T.und t = some .string)
    (hx : e.ev n x = .string s) (h : XO P T w0 n HL ops J (ix + 1) rest (e.upd d (.int .i64 s.size)) H) : XO P T w0 n HL ops J ix (o :: rest) e H := by
  refine .anyOp (v := .int .i64 s.size) hh hg (by rw [hop]; simp only [cls]; split <;> simp) (fun w => ?_) (by rw [hd]; exact h)
  simp [execOp, hop, resolve, invoke, builtin, Builtin.len_, run_und hT hu, hx, goInt]

/-- The byte of a string at a place. -/
def byteAt (s : ByteArray) (i : Nat) : UInt8 := s.data.toList.getD i 0
theorem XO.indexStr {x y : Operand} {t : TypeId} {s : ByteArray} {k : IntKind} {z : Int} {d : Nat} (hT : T.Ok P) (hg : wantedE ops e n o = true) (hd : o.dst = some d) (hop : o.op = .index t x y) (hu : T.und t = some .string)
    (hx : e.ev n x = .string s) (hy : e.ev n y = .int k z) (h0 : 0 ≤ z) (h1 : z < s.size) (h : XO P T w0 n HL ops J (ix + 1) rest (e.upd d (.int .u8 (byteAt s z.toNat).toNat)) H) : XO P T w0 n HL ops J ix (o :: rest) e H := by
  refine .pureOp (v := .int .u8 (byteAt s z.toNat).toNat) hg (by rw [hop]; rfl) (fun w => ?_) (by rw [hd]; exact h)
  have hlt : z.toNat < s.size := by omega
  have hb : s[z.toNat]? = some (byteAt s z.toNat) := by
    have hsz : s.data.toList.length = s.size := rfl
    have e1 : s[z.toNat]? = some s[z.toNat] := getElem?_pos s z.toNat hlt
    rw [e1]
    have e2 : s[z.toNat] = s.data.toList[z.toNat]'(by omega) := rfl
    rw [e2]
    simp [byteAt, List.getD, List.getElem?_eq_getElem (show z.toNat < s.data.toList.length by omega)]
  simp only [execOp, hop, Instr.index, Sem.run_bind, run_und hT hu, hx, hy, asIntOf, Sem.run_pure, Result.andThen_ok, if_pos h0, hb]

/-- The place of an element of a slice. -/
theorem XO.indexAddr {x y : Operand} {t u : TypeId} {b off len c s : Nat} {k : IntKind} {z : Int} {d : Nat} (hT : T.Ok P) (hg : wantedE ops e n o = true) (hd : o.dst = some d) (hop : o.op = .indexAddr t x y) (hu : T.und t = some (.slice u)) (hs : T.size u = some s)
    (hx : e.ev n x = .slice (some ⟨b, off, none⟩) len c) (hy : e.ev n y = .int k z) (h0 : 0 ≤ z) (h1 : z < len) (h : XO P T w0 n HL ops J (ix + 1) rest (e.upd d (.pointer (some ⟨b, off + z.toNat * s, none⟩))) H) : XO P T w0 n HL ops J ix (o :: rest) e H := by
  refine .pureOp (v := .pointer (some ⟨b, off + z.toNat * s, none⟩)) hg (by rw [hop]; rfl) (fun w => ?_) (by rw [hd]; exact h)
  simp [execOp, hop, Instr.indexAt, run_und hT hu, run_size hT hs, hx, hy, asIntOf, h0, h1, Addr.add_mk]

/-! ### loops -/
section
variable {b : Frame} {R : Value → List HProp → Prop} {k : List Item}
theorem XS.loopI {c : Code} {ι : Type} (l : ι → List (Nat × Value)) (Hf : ι → List HProp) (pre : ι → Prop) (μ : ι → Nat) (x0 : ι) (hx : pre x0) (he : Slots e (l x0)) (hH : Ent H (Hf x0))
    (step : ∀ x (e' : Env), pre x → (∀ x' (e'' : Env) H'', pre x' → μ x' < μ x → Slots e'' (l x') → Ent H'' (Hf x') → XS P w0 b n R (.inLoop c :: k) e'' H'') → XS P w0 b n R (.code c :: .inLoop c :: k) (e'.ups (l x)) (Hf x)) :
    XS P w0 b n R (.code (.loop c) :: k) e H := by
  have key : ∀ N x (e' : Env), μ x < N → pre x → XS P w0 b n R (.code c :: .inLoop c :: k) (e'.ups (l x)) (Hf x) := by
    intro N
    induction N with
    | zero => intro x e' h _; omega
    | succ N ih =>
      intro x e' hN hp
      refine step x e' hp (fun x' e'' H'' hp' hm hs hE => .inLoop ?_)
      have := ih x' e'' (by omega) hp'
      rw [ups_self hs] at this
      exact this.ent hE
  have := key (μ x0 + 1) x0 e (by omega) hx
  rw [ups_self he] at this
  exact .loop (this.ent hH)
/-- What stands behind a piece of code, told once for all the ways that come to it. -/
theorem XS.fix (l : List (Nat × Value)) (he : Slots e l) (h : XS P w0 b n R k (e.ups l) H) : XS P w0 b n R k e H := by rw [ups_self he] at h; exact h
end
end
end Go.Sx
