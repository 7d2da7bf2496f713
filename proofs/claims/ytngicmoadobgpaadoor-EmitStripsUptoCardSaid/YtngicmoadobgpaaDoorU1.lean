/- Some texts put together: lemmas and contracts for the law. Conditions: as each text says. -/
import Derived.Orders
import Derived.Below
import Derived.RowKit3
/- A region whose order is drawn may be walked in the order of the text, where every two operations that may change places are independent. Conditions: the check 'Sx.regionOk' holds. -/
namespace Go.Sx
open Go Go.RowKit

/-- What is known of the types. -/
structure Tbl where
  und : TypeId → Option TypeDesc
  size : TypeId → Option Nat
  bytes : TypeId → Option Nat
  zero : TypeId → Option Value
  off : TypeId → Nat → Option Nat

/-- Operations that lay a block and turn nothing. -/
def grows : Op → Bool
  | .box .. => true
  | .alloc .. => true
  | .buildSlice .. => true
  | .makeMap _ none => true
  | _ => false
theorem bind_ok {α β : Type} {P : Program} {x : Sem α} {f : α → Sem β} {w w' : World} {v : β} (h : (x >>= f).run P w = .ok v w') : ∃ a w1, x.run P w = .ok a w1 ∧ (f a).run P w1 = .ok v w' := by
  rw [Sem.run_bind] at h
  cases hx : x.run P w with
  | ok a w1 => rw [hx] at h; exact ⟨a, w1, rfl, h⟩
  | halt e w1 => rw [hx] at h; cases h
theorem pure_ok {α : Type} {P : Program} {a v : α} {w w' : World} (h : (pure a : Sem α).run P w = .ok v w') : a = v ∧ w = w' := by
  rw [Sem.run_pure] at h
  injection h with h1 h2
  exact ⟨h1, h2⟩
theorem newRow_ok {P : Program} {t : TypeId} {cs : Array Value} {w w' : World} {a : Addr} (h : (newRow t cs).run P w = .ok a w') : w' = w.alloc (.cells cs t) := by
  simp [newRow] at h
  exact h.2.symm
theorem below_alloc' (w : World) (o : Obj) : Below w.heap.size w (w.alloc o) := (Below.refl _ w).alloc (Nat.le_refl _) o
theorem und_same {P : Program} {t : TypeId} {d : TypeDesc} {w w' : World} (h : (underlying t).run P w = .ok d w') : w' = w := by
  unfold underlying at h
  obtain ⟨p, w1, h1, h2⟩ := bind_ok h
  simp at h1
  obtain ⟨rfl, rfl⟩ := h1
  cases hu : P.underlying t with
  | none => rw [hu] at h2; simp at h2
  | some d' => rw [hu] at h2; exact (pure_ok h2).2.symm
theorem info_same {P : Program} {t : TypeId} {i : TypeInfo} {w w' : World} (h : (typeInfo t).run P w = .ok i w') : w' = w := by
  unfold typeInfo at h
  obtain ⟨p, w1, h1, h2⟩ := bind_ok h
  simp at h1
  obtain ⟨rfl, rfl⟩ := h1
  cases hu : P.info? t with
  | none => rw [hu] at h2; simp at h2
  | some d' => rw [hu] at h2; exact (pure_ok h2).2.symm
theorem size_same {P : Program} {t : TypeId} {s : Nat} {w w' : World} (h : (sizeOf t).run P w = .ok s w') : w' = w := by
  unfold sizeOf at h
  obtain ⟨i, w1, h1, h2⟩ := bind_ok h
  have := (pure_ok h2).2
  rw [← this, info_same h1]
theorem zero_same {P : Program} {t : TypeId} {z : Value} {w w' : World} (h : (zeroValue t).run P w = .ok z w') : w' = w := by
  unfold zeroValue at h
  obtain ⟨i, w1, h1, h2⟩ := bind_ok h
  cases hz : i.zero with
  | none => rw [hz] at h2; simp at h2
  | some z' => rw [hz] at h2; rw [← (pure_ok h2).2, info_same h1]
theorem grows_below {P : Program} {ev : Operand → Value} {o : Oper} {w w' : World} {x : Next} (hg : grows o.op = true) (h : (execOp ev o).run P w = .ok x w') : Below w.heap.size w w' ∧ ∃ v, x = .value v := by
  obtain ⟨dst, op, type, pos, after, guard⟩ := o
  cases op <;> simp only [grows] at hg <;> try (cases hg; done)
  case box t v =>
    simp only [execOp, Instr.box] at h
    obtain ⟨a, w1, h1, h2⟩ := bind_ok h
    obtain ⟨b, w2, h3, h4⟩ := bind_ok h1
    have := newRow_ok (P := P) h3
    have e1 := (pure_ok h4).2
    obtain ⟨e3, e2⟩ := pure_ok h2
    subst e1; subst e2; subst this
    exact ⟨below_alloc' w _, _, e3.symm⟩
  case alloc t =>
    simp only [execOp, Instr.alloc, newVar] at h
    obtain ⟨a, w1, h1, h2⟩ := bind_ok h
    obtain ⟨z, w2, h3, h4⟩ := bind_ok h1
    obtain rfl := zero_same h3
    obtain ⟨b, w3, h5, h6⟩ := bind_ok h4
    have := newRow_ok (P := P) h5
    have e1 := (pure_ok h6).2
    obtain ⟨e3, e2⟩ := pure_ok h2
    subst e1; subst e2; subst this
    exact ⟨below_alloc' _ _, _, e3.symm⟩
  case buildSlice t k ps =>
    simp only [execOp, Instr.buildSlice] at h
    obtain ⟨a, w1, h1, h2⟩ := bind_ok h
    obtain ⟨d, w2, h3, h4⟩ := bind_ok h1
    obtain rfl := und_same h3
    split at h4
    · rename_i _ el
      obtain ⟨s, w3, h5, h6⟩ := bind_ok h4
      obtain rfl := size_same h5
      have key : ∀ zero : Array Value, (match Instr.fill (fun i => some (i * s, s)) ((Array.range (k * s)).map (zero[· % zero.size]!)) (ps.map fun p => (p.1, ev p.2)).toList with
          | some cells => do pure (Value.slice (some (← newRow el cells)) k k)
          | _ => stuck "buildSlice: a part of the wrong size" : Sem Value).run P w3 = .ok a w1 → w1 = w3 ∨ ∃ cs t, w1 = w3.alloc (.cells cs t) := by
        intro zero h10
        split at h10
        · obtain ⟨b, w7, h13, h14⟩ := bind_ok h10
          have := newRow_ok h13
          have e1 := (pure_ok h14).2
          exact .inr ⟨_, _, by rw [← e1, this]⟩
        · simp at h10
      have hfin : (w1 = w3 ∨ ∃ cs t, w1 = w3.alloc (.cells cs t)) → Below w3.heap.size w3 w' ∧ ∃ v, x = .value v := by
        obtain ⟨e3, rfl⟩ := pure_ok h2
        rintro (rfl | ⟨cs, t, rfl⟩)
        · exact ⟨Below.refl _ _, _, e3.symm⟩
        · exact ⟨below_alloc' _ _, _, e3.symm⟩
      split at h6
      · simp at h6
      · split at h6
        · obtain ⟨z, w4, h7, h8⟩ := bind_ok h6
          obtain ⟨rfl, rfl⟩ := pure_ok h7
          exact hfin (key #[] h8)
        · obtain ⟨z, w4, h7, h8⟩ := bind_ok h6
          obtain rfl := zero_same h7
          obtain ⟨z2, w5, h9, h10⟩ := bind_ok h8
          obtain ⟨_, rfl⟩ := pure_ok h9
          exact hfin (key z2 h10)
    · simp at h4
  case makeMap t r =>
    cases r with
    | some _ => cases hg
    | none =>
      simp only [execOp, Instr.makeMap] at h
      obtain ⟨a, w1, h1, h2⟩ := bind_ok h
      simp [newObj, Sem.run] at h1
      obtain ⟨_, rfl⟩ := h1
      obtain ⟨e3, e2⟩ := pure_ok h2
      subst e2
      exact ⟨below_alloc' w _, _, e3.symm⟩

inductive Cls where
  | pure | read | eff
  deriving DecidableEq

def cstB : Operand → Bool
  | .const _ => true
  | _ => false

/-- A comparison that may have to look into memory. -/
def looks (T : Tbl) (t : TypeId) (x y : Operand) : Bool :=
  !cstB x && !cstB y && (match T.und t with
    | some (.pointer _) | some (.interface _) | some (.struct _) | some (.array _ _) => true
    | _ => false)

def cls (T : Tbl) : Op → Cls
  | .binOp .eql t x y _ => if looks T t x y then .read else .pure
  | .binOp .neq t x y _ => if looks T t x y then .read else .pure
  | .convert s d _ => match T.und s, T.und d with
    | some .string, some (.slice _) => .eff
    | some (.slice _), some .string => .eff
    | some .unsafePointer, _ => .eff
    | _, some .unsafePointer => .eff
    | _, _ => .pure
  | .move _ | .assign _ | .pick .. | .build .. | .nilCheck _ | .binOp .. | .unOp .. | .makeInterface .. | .makeFunc .. | .slice ..
  | .fieldAddr .. | .field .. | .indexAddr .. | .index .. | .extract .. => .pure
  | .load .. | .lookup .. => .read
  | .call { callee := .builtin .len, argTypes := ts, .. } => match ts[0]?.bind T.und with
    | some (.slice _) => .pure
    | some .string => .pure
    | _ => .read
  | .call { callee := .builtin .min, .. } => .pure
  | .call { callee := .builtin .max, .. } => .pure
  | _ => .eff

/-- Cells that are held: the place of the operation that reads one, the places of those operations that may come ahead of it or behind it and leave it as it is, the cell, what it holds. -/
abbrev Fact := World → Prop
abbrev heldC (a : Addr) (v : Value) : Fact := fun w => w.cell? a = some v
abbrev Held := List (Nat × List Nat × Fact)
def heldAt : Held → Nat → Option Fact
  | [], _ => none
  | p :: l, i => bif Nat.beq p.1 i then some p.2.2 else heldAt l i
def hasN : List Nat → Nat → Bool
  | [], _ => false
  | x :: l, i => bif Nat.beq x i then true else hasN l i
/-- What the operation at a place leaves as it is. -/
def keptBy : Held → Nat → List Fact
  | [], _ => []
  | p :: l, k => bif hasN p.2.1 k then p.2.2 :: keptBy l k else keptBy l k
/-- A fact that stands, and will stand however memory grows. -/
def clo (p : Fact) (w : World) : Prop := ∀ w', Below w.heap.size w w' → p w'
theorem clo.now {p : Fact} {w : World} (h : clo p w) : p w := h w (Below.refl _ _)
def holds (w : World) (L : List Fact) : Prop := ∀ p ∈ L, clo p w
theorem holds_nil (w : World) : holds w [] := fun _ h => by cases h
/-- The world has the cell that the operation at a place reads, if it is one that is held. -/
def hasCell (HL : Held) (k : Nat) (w : World) : Prop := ∀ p, heldAt HL k = some p → clo p w

section
variable {P : Program} {T : Tbl} {ops : Array Oper} {HL : Held}

def teUpon (P : Program) (L : List Fact) (o : Oper) (a : Act) (K : Act → World → Prop) : Result Next → Prop
  | .ok (.value v) w' => holds w' L ∧ K (a.put o.dst v) w'
  | .ok .skip w' => holds w' L ∧ K (a.put o.dst undef) w'
  | .ok (.enter f args) w' => Calls P f args w' fun e w'' => ∃ v, e = .returned v ∧ holds w'' L ∧ K (a.put o.dst v) w''
  | _ => False

/-- What is asked of one operation that is carried out. -/
def tDo (P : Program) (T : Tbl) (HL : Held) (k : Nat) (o : Oper) (K : Act → World → Prop) (a : Act) (w : World) : Prop :=
  match cls T o.op with
  | .pure => ∃ v, (∀ w', (execOp a.eval o).run P w' = .ok (.value v) w') ∧ K (a.put o.dst v) w
  | .read => ∃ v, (execOp a.eval o).run P w = .ok (.value v) w ∧ (∀ p, heldAt HL k = some p → ∀ w', p w' → (execOp a.eval o).run P w' = .ok (.value v) w') ∧ hasCell HL k w ∧ (∀ w', Below w.heap.size w w' → (execOp a.eval o).run P w' = .ok (.value v) w') ∧ K (a.put o.dst v) w
  | .eff => holds w (keptBy HL k) ∧ teUpon P (keptBy HL k) o a K ((execOp a.eval o).run P w)

def tOp (P : Program) (T : Tbl) (ops : Array Oper) (HL : Held) (k : Nat) (o : Oper) (K : Act → World → Prop) (a : Act) (w : World) : Prop :=
  if Region.wanted o (yielded ops a.tmps) then tDo P T HL k o K a w else K (a.put o.dst undef) w

def wpT (P : Program) (T : Tbl) (ops : Array Oper) (HL : Held) (Q : Act → World → Prop) : Nat → List Oper → Act → World → Prop
  | _, [], a, w => Q a w
  | k, o :: rest, a, w => tOp P T ops HL k o (wpT P T ops HL Q (k + 1) rest) a w

/-- What the world behind an operation has. -/
def After (T : Tbl) (HL : Held) (k : Nat) (o : Oper) (w w' : World) : Prop := w' = w ∨ (cls T o.op = .eff ∧ holds w' (keptBy HL k) ∧ (grows o.op = true → Below w.heap.size w w'))

theorem teUpon_mono {L : List Fact} {o : Oper} {a : Act} {w : World} {K K' : Act → World → Prop} (h : ∀ u w', holds w' L → (grows o.op = true → Below w.heap.size w w') → K (a.put o.dst u) w' → K' (a.put o.dst u) w') {r : Result Next} (hr : (execOp a.eval o).run P w = r) (hh : teUpon P L o a K r) : teUpon P L o a K' r := by
  cases r with
  | ok n w' =>
    cases n <;> simp only [teUpon] at hh ⊢
    case value v => exact ⟨hh.1, h _ _ hh.1 (fun hg => (grows_below hg hr).1) hh.2⟩
    case skip => exact ⟨hh.1, h _ _ hh.1 (fun hg => (grows_below hg hr).1) hh.2⟩
    case enter f args => exact hh.mono fun e w'' ⟨v, he, hc, hk⟩ => ⟨v, he, hc, h _ _ hc (fun hg => by obtain ⟨_, v, hv⟩ := grows_below hg hr; cases hv) hk⟩
  | halt x w' => simp only [teUpon] at hh

theorem tOp_mono' {k : Nat} {o : Oper} {a : Act} {w : World} {K K' : Act → World → Prop} (h : ∀ u w', After T HL k o w w' → K (a.put o.dst u) w' → K' (a.put o.dst u) w') (hh : tOp P T ops HL k o K a w) : tOp P T ops HL k o K' a w := by
  unfold tOp at *
  split
  · rename_i hw
    simp only [hw, if_true] at hh
    unfold tDo at *
    split
    · rename_i hc; simp only [hc] at hh; obtain ⟨v, h1, h2⟩ := hh; exact ⟨v, h1, h _ _ (.inl rfl) h2⟩
    · rename_i hc; simp only [hc] at hh; obtain ⟨v, h1, h2, h3, hs, h4⟩ := hh; exact ⟨v, h1, h2, h3, hs, h _ _ (.inl rfl) h4⟩
    · rename_i hc; simp only [hc] at hh; exact ⟨hh.1, teUpon_mono (fun u w' hl hg => h u w' (.inr ⟨hc, hl, hg⟩)) rfl hh.2⟩
  · rename_i hw; simp only [hw] at hh; exact h _ _ (.inl rfl) hh

theorem tOp_mono {k : Nat} {o : Oper} {a : Act} {w : World} {K K' : Act → World → Prop} (h : ∀ a w, K a w → K' a w) (hh : tOp P T ops HL k o K a w) : tOp P T ops HL k o K' a w :=
  tOp_mono' (fun _ _ _ => h _ _) hh

/-- There is an outcome. -/
theorem teUpon_some {L : List Fact} {o : Oper} {a : Act} {w : World} {K : Act → World → Prop} {r : Result Next} (hr : (execOp a.eval o).run P w = r) (hh : teUpon P L o a K r) : ∃ u w', holds w' L ∧ (grows o.op = true → Below w.heap.size w w') ∧ K (a.put o.dst u) w' := by
  cases r with
  | ok n w' =>
    cases n <;> simp only [teUpon] at hh
    case value v => exact ⟨v, w', hh.1, fun hg => (grows_below hg hr).1, hh.2⟩
    case skip => exact ⟨_, w', hh.1, fun hg => (grows_below hg hr).1, hh.2⟩
    case enter f args =>
      obtain ⟨e, w'', fr, ⟨v, _, hc, hk⟩, _⟩ := hh []
      exact ⟨v, w'', hc, (fun hg => by obtain ⟨_, v, hv⟩ := grows_below hg hr; cases hv), hk⟩
  | halt x w' => simp only [teUpon] at hh

theorem tOp_some {k : Nat} {o : Oper} {a : Act} {w : World} {K : Act → World → Prop} (hh : tOp P T ops HL k o K a w) : ∃ u w', After T HL k o w w' ∧ K (a.put o.dst u) w' := by
  unfold tOp at hh
  split at hh
  · unfold tDo at hh
    split at hh
    · obtain ⟨v, _, h⟩ := hh; exact ⟨v, w, .inl rfl, h⟩
    · obtain ⟨v, _, _, _, _, h⟩ := hh; exact ⟨v, w, .inl rfl, h⟩
    · rename_i hc
      obtain ⟨u, w', hl, hg, h⟩ := teUpon_some rfl hh.2
      exact ⟨u, w', .inr ⟨hc, hl, hg⟩, h⟩
  · exact ⟨_, _, .inl rfl, hh⟩

theorem teUpon_put {L : List Fact} {o : Oper} {a : Act} {K : Act → World → Prop} {d : Option Tmp} {v : Value} {r : Result Next} (hh : teUpon P L o a K r) :
    teUpon P L o (a.put d v) (fun a' w' => ∃ u, a' = (a.put d v).put o.dst u ∧ K (a.put o.dst u) w') r := by
  cases r with
  | ok n w' =>
    cases n <;> simp only [teUpon] at hh ⊢
    case value u => exact ⟨hh.1, u, rfl, hh.2⟩
    case skip => exact ⟨hh.1, _, rfl, hh.2⟩
    case enter f args => exact hh.mono fun e w'' ⟨u, he, hc, hk⟩ => ⟨u, he, hc, u, rfl, hk⟩
  | halt x w' => simp only [teUpon] at hh

/-- An operation does the same where a temporary that it doesn't look at has been written. -/
theorem tOp_put {k : Nat} {o : Oper} {a : Act} {w : World} {K : Act → World → Prop} {d : Option Tmp} {v : Value} (hs : ∀ cs b, o.op ≠ .select cs b) (hd : ∀ t, d = some t → t ∉ o.looksAt ops)
    (hh : tOp P T ops HL k o K a w) : tOp P T ops HL k o (fun a' w' => ∃ u, a' = (a.put d v).put o.dst u ∧ K (a.put o.dst u) w') (a.put d v) w := by
  unfold tOp at *
  rw [wanted_put o a d v hd]
  split
  · rename_i hw
    simp only [hw, if_true] at hh
    unfold tDo at *
    rw [execOp_put o hs a d v hd]
    split
    · rename_i hc; simp only [hc] at hh; obtain ⟨u, h1, h2⟩ := hh; exact ⟨u, h1, u, rfl, h2⟩
    · rename_i hc; simp only [hc] at hh; obtain ⟨u, h1, h2, h3, hs, h4⟩ := hh; exact ⟨u, h1, h2, h3, hs, u, rfl, h4⟩
    · rename_i hc; simp only [hc] at hh; exact ⟨hh.1, teUpon_put hh.2⟩
  · rename_i hw; simp only [hw] at hh; exact ⟨_, rfl, hh⟩

theorem teUpon_unput {L : List Fact} {o : Oper} {a : Act} {K : Act → World → Prop} {d : Option Tmp} {v : Value} {r : Result Next} (hh : teUpon P L o (a.put d v) K r) :
    teUpon P L o a (fun a' w' => ∃ u, a' = a.put o.dst u ∧ K ((a.put d v).put o.dst u) w') r := by
  cases r with
  | ok n w' =>
    cases n <;> simp only [teUpon] at hh ⊢
    case value u => exact ⟨hh.1, u, rfl, hh.2⟩
    case skip => exact ⟨hh.1, _, rfl, hh.2⟩
    case enter f args => exact hh.mono fun e w'' ⟨u, he, hc, hk⟩ => ⟨u, he, hc, u, rfl, hk⟩
  | halt x w' => simp only [teUpon] at hh

theorem tOp_unput {k : Nat} {o : Oper} {a : Act} {w : World} {K : Act → World → Prop} {d : Option Tmp} {v : Value} (hs : ∀ cs b, o.op ≠ .select cs b) (hd : ∀ t, d = some t → t ∉ o.looksAt ops)
    (hh : tOp P T ops HL k o K (a.put d v) w) : tOp P T ops HL k o (fun a' w' => ∃ u, a' = a.put o.dst u ∧ K ((a.put d v).put o.dst u) w') a w := by
  unfold tOp at *
  rw [wanted_put o a d v hd] at hh
  split
  · rename_i hw
    simp only [hw, if_true] at hh
    unfold tDo at *
    rw [execOp_put o hs a d v hd] at hh
    split
    · rename_i hc; simp only [hc] at hh; obtain ⟨u, h1, h2⟩ := hh; exact ⟨u, h1, u, rfl, h2⟩
    · rename_i hc; simp only [hc] at hh; obtain ⟨u, h1, h2, h3, hs, h4⟩ := hh; exact ⟨u, h1, h2, h3, hs, u, rfl, h4⟩
    · rename_i hc; simp only [hc] at hh; exact ⟨hh.1, teUpon_unput hh.2⟩
  · rename_i hw; simp only [hw] at hh; exact ⟨_, rfl, hh⟩

/-- The places alone of what is held. -/
def keepsJ : List (Nat × List Nat) → Nat → Nat → Bool
  | [], _, _ => false
  | p :: l, i, j => bif Nat.beq p.1 i then hasN p.2 j else keepsJ l i j
def skel (HL : Held) : List (Nat × List Nat) := HL.map fun p => (p.1, p.2.1)
theorem heldAt_mem : ∀ {HL : Held} {i : Nat} {p : Fact}, heldAt HL i = some p → ∃ js, (i, js, p) ∈ HL
  | [], _, _, h => by cases h
  | q :: l, i, p, h => by
    simp only [heldAt] at h
    cases hb : Nat.beq q.1 i with
    | true =>
      rw [hb] at h
      injection h with h
      have := Nat.eq_of_beq_eq_true hb
      exact ⟨q.2.1, by rw [← this, ← h]; exact List.mem_cons_self ..⟩
    | false => rw [hb] at h; obtain ⟨js, hj⟩ := heldAt_mem h; exact ⟨js, List.mem_cons_of_mem _ hj⟩
theorem keptBy_mem : ∀ {HL : Held} {j : Nat} {q : Nat × List Nat × Fact}, q ∈ HL → hasN q.2.1 j = true → q.2.2 ∈ keptBy HL j
  | q' :: l, j, q, h, hn => by
    simp only [keptBy]
    rcases List.mem_cons.1 h with rfl | h
    · rw [hn]; exact List.mem_cons_self ..
    · have := keptBy_mem h hn
      cases hasN q'.2.1 j
      · exact this
      · exact List.mem_cons_of_mem _ this
theorem keepsJ_spec : ∀ {HL : Held} {i j : Nat}, keepsJ (skel HL) i j = true → ∃ p, heldAt HL i = some p ∧ p ∈ keptBy HL j
  | [], _, _, h => by cases h
  | q :: l, i, j, h => by
    simp only [skel, List.map_cons, keepsJ] at h
    simp only [heldAt]
    cases hb : Nat.beq q.1 i with
    | true =>
      rw [hb] at h
      exact ⟨q.2.2, rfl, keptBy_mem (List.mem_cons_self ..) h⟩
    | false =>
      rw [hb] at h
      obtain ⟨p, h1, h2⟩ := keepsJ_spec (HL := l) h
      refine ⟨p, h1, ?_⟩
      simp only [keptBy]
      cases hasN q.2.1 j
      · exact h2
      · exact List.mem_cons_of_mem _ h2

/-- Nothing is held for the operation at a place. -/
def noHeld : List (Nat × List Nat) → Nat → Bool
  | [], _ => true
  | p :: l, j => !Nat.beq p.1 j && noHeld l j
theorem noHeld_spec : ∀ {HL : Held} {j : Nat}, noHeld (skel HL) j = true → heldAt HL j = none
  | [], _, _ => rfl
  | q :: l, j, h => by
    simp only [skel, List.map_cons, noHeld, Bool.and_eq_true, Bool.not_eq_true'] at h
    simp only [heldAt, h.1, cond_false]
    exact noHeld_spec h.2

/-- Two operations that may change places: neither looks at what the other writes, and one of them hangs on no memory, or both only read, or the one reads a cell that the other leaves as it is. -/
def indep (T : Tbl) (sk : List (Nat × List Nat)) (ops : Array Oper) (j i : Nat) (x y : Oper) : Bool :=
  x.apart ops y && (cls T x.op == .pure || cls T y.op == .pure || (cls T x.op == .read && cls T y.op == .read) || (cls T x.op == .read && keepsJ sk j i) || (cls T y.op == .read && keepsJ sk i j) || (cls T x.op == .read && cls T y.op == .eff && grows y.op && noHeld sk j))

theorem run_det {o : Oper} {ev : Operand → Value} {w : World} {v v' : Value} (h : (execOp ev o).run P w = .ok (.value v) w) (h' : (execOp ev o).run P w = .ok (.value v') w) : v' = v := by
  rw [h] at h'
  injection h' with e1
  injection e1 with e1
  exact e1.symm

theorem swap {i j : Nat} {oi oj : Oper} {a : Act} {w : World} {K : Act → World → Prop} (hi : ∀ cs b, oi.op ≠ .select cs b) (hj : ∀ cs b, oj.op ≠ .select cs b)
    (hind : indep T (skel HL) ops j i oj oi = true) (h : tOp P T ops HL j oj (tOp P T ops HL i oi K) a w) : tOp P T ops HL i oi (tOp P T ops HL j oj K) a w := by
  simp only [indep, Bool.and_eq_true, Bool.or_eq_true, beq_iff_eq] at hind
  obtain ⟨hap, hc⟩ := hind
  obtain ⟨h1, h2, h3⟩ := Oper.apart_spec hap
  have cm : ∀ (v u : Value), (a.put oi.dst u).put oj.dst v = (a.put oj.dst v).put oi.dst u := fun v u => (Act.put_comm a v u h2).symm
  by_cases hwj : Region.wanted oj (yielded ops a.tmps) = true
  case neg =>
    unfold tOp at h
    simp only [hwj] at h
    refine tOp_mono (fun a' w' h' => ?_) (tOp_unput hi h1 h)
    obtain ⟨u, rfl, hK⟩ := h'
    unfold tOp
    rw [wanted_put oj a oi.dst u h3]
    simp only [hwj]
    show K ((a.put oi.dst u).put oj.dst undef) w'
    rw [cm]; exact hK
  by_cases hwi : Region.wanted oi (yielded ops a.tmps) = true
  case neg =>
    have hgoal : tOp P T ops HL j oj K (a.put oi.dst undef) w := by
      refine tOp_mono (fun a' w' h' => ?_) (tOp_put (d := oi.dst) (v := undef) hj h3 h)
      obtain ⟨u, rfl, hK⟩ := h'
      unfold tOp at hK
      rw [wanted_put oi a oj.dst u h1] at hK
      simp only [hwi] at hK
      rw [cm]; exact hK
    unfold tOp
    simp only [hwi]
    exact hgoal
  -- oi yields v in the world w, and in each world behind oj
  have hfirst : ∀ v, (∀ w', After T HL j oj w w' → (execOp a.eval oi).run P w' = .ok (.value v) w') → cls T oi.op ≠ .eff → (cls T oi.op = .pure → ∀ w', (execOp a.eval oi).run P w' = .ok (.value v) w') →
      (cls T oi.op = .read → (∀ p, heldAt HL i = some p → ∀ w', p w' → (execOp a.eval oi).run P w' = .ok (.value v) w') ∧ hasCell HL i w ∧ (∀ w', Below w.heap.size w w' → (execOp a.eval oi).run P w' = .ok (.value v) w')) → tOp P T ops HL i oi (tOp P T ops HL j oj K) a w := by
    intro v hv hne hp hr
    have hgoal : tOp P T ops HL j oj K (a.put oi.dst v) w := by
      refine tOp_mono' (K := fun a' w' => ∃ u, a' = (a.put oi.dst v).put oj.dst u ∧ tOp P T ops HL i oi K (a.put oj.dst u) w') (fun u' w' haft h' => ?_) (tOp_put (d := oi.dst) (v := v) hj h3 h)
      obtain ⟨u, hu, hK⟩ := h'
      rw [hu]
      unfold tOp at hK
      rw [wanted_put oi a oj.dst u h1] at hK
      simp only [hwi, if_true] at hK
      unfold tDo at hK
      rw [execOp_put oi hi a oj.dst u h1] at hK
      have hvw := hv w' haft
      split at hK
      · obtain ⟨v', hv', hK⟩ := hK
        have := run_det hvw (hv' w')
        subst this
        rw [cm]; exact hK
      · obtain ⟨v', hv', _, _, _, hK⟩ := hK
        have := run_det hvw hv'
        subst this
        rw [cm]; exact hK
      · rename_i hcl; exact absurd hcl hne
    unfold tOp
    simp only [hwi, if_true]
    unfold tDo
    split
    · rename_i hcl; exact ⟨v, hp hcl, hgoal⟩
    · rename_i hcl; exact ⟨v, hv w (.inl rfl), (hr hcl).1, (hr hcl).2.1, (hr hcl).2.2, hgoal⟩
    · rename_i hcl; exact absurd hcl hne
  -- oj yields v in the world w, and in each world behind oi
  have hsecond : ∀ v, tOp P T ops HL i oi K (a.put oj.dst v) w → (∀ w', After T HL i oi w w' → (execOp a.eval oj).run P w' = .ok (.value v) w') → cls T oj.op ≠ .eff → (cls T oj.op = .pure → ∀ w', (execOp a.eval oj).run P w' = .ok (.value v) w') →
      (cls T oj.op = .read → (∀ p, heldAt HL j = some p → ∀ w', p w' → (execOp a.eval oj).run P w' = .ok (.value v) w') ∧ ∀ w', After T HL i oi w w' → hasCell HL j w' ∧ ∀ w'', Below w'.heap.size w' w'' → (execOp a.eval oj).run P w'' = .ok (.value v) w'') → tOp P T ops HL i oi (tOp P T ops HL j oj K) a w := by
    intro v hk hv hne hp hr
    refine tOp_mono' (K := fun a' w' => ∃ u, a' = a.put oi.dst u ∧ K ((a.put oj.dst v).put oi.dst u) w') (fun u' w' haft h' => ?_) (tOp_unput hi h1 hk)
    obtain ⟨u, hu, hK⟩ := h'
    rw [hu]
    unfold tOp
    rw [wanted_put oj a oi.dst u h3]
    simp only [hwj, if_true]
    unfold tDo
    rw [execOp_put oj hj a oi.dst u h3]
    split
    · rename_i hcl; exact ⟨v, hp hcl, by rw [cm]; exact hK⟩
    · rename_i hcl; exact ⟨v, hv w' haft, (hr hcl).1, ((hr hcl).2 w' haft).1, ((hr hcl).2 w' haft).2, by rw [cm]; exact hK⟩
    · rename_i hcl; exact absurd hcl hne
  have h0 := h
  rcases hc with ((((hc | hc) | ⟨hcj, hci⟩) | ⟨hcj, hkj⟩) | ⟨hci, hki⟩) | ⟨⟨⟨hcj, hci⟩, hgi⟩, hnj⟩
  · -- oj is pure
    unfold tOp at h0
    simp only [hwj, if_true, tDo, hc] at h0
    obtain ⟨v, hv, hk⟩ := h0
    exact hsecond v hk (fun w' _ => hv w') (by rw [hc]; simp) (fun _ => hv) (fun hh => by rw [hc] at hh; cases hh)
  · -- oi is pure
    obtain ⟨u0, w1, _, hk0⟩ := tOp_some h
    unfold tOp at hk0
    rw [wanted_put oi a oj.dst u0 h1] at hk0
    simp only [hwi, if_true, tDo, hc] at hk0
    obtain ⟨v, hv, _⟩ := hk0
    rw [execOp_put oi hi a oj.dst u0 h1] at hv
    exact hfirst v (fun w' _ => hv w') (by rw [hc]; simp) (fun _ => hv) (fun hh => by rw [hc] at hh; cases hh)
  · -- both read
    unfold tOp at h0
    simp only [hwj, if_true, tDo, hcj] at h0
    obtain ⟨v, hv, hva, hcell, hst, hk⟩ := h0
    refine hsecond v hk (fun w' ha => ?_) (by rw [hcj]; simp) (fun hh => by rw [hcj] at hh; cases hh) (fun _ => ⟨hva, fun w' ha => ?_⟩)
    · rcases ha with rfl | ⟨he, _⟩
      · exact hv
      · rw [hci] at he; cases he
    · rcases ha with rfl | ⟨he, _⟩
      · exact ⟨hcell, hst⟩
      · rw [hci] at he; cases he
  · -- oj reads a cell that oi leaves ars it is
    obtain ⟨p, hp1, hp2⟩ := keepsJ_spec hkj
    unfold tOp at h0
    simp only [hwj, if_true, tDo, hcj] at h0
    obtain ⟨v, hv, hva, hcell, _, hk⟩ := h0
    have hcw : ∀ w', After T HL i oi w w' → hasCell HL j w' := by
      intro w' ha
      rcases ha with rfl | ⟨_, hl, _⟩
      · exact hcell
      · intro q hq
        rw [hp1] at hq
        injection hq with hq; subst hq
        exact hl _ hp2
    exact hsecond v hk (fun w' ha => hva p hp1 w' (hcw w' ha p hp1).now) (by rw [hcj]; simp) (fun hh => by rw [hcj] at hh; cases hh) (fun _ => ⟨hva, fun w' ha => ⟨hcw w' ha, fun w'' hb => hva p hp1 w'' (hcw w' ha p hp1 w'' hb)⟩⟩)
  · -- oi reads a cell that oj leaves ars it is
    obtain ⟨p, hp1, hp2⟩ := keepsJ_spec hki
    obtain ⟨u0, w1, haft1, hk0⟩ := tOp_some h
    unfold tOp at hk0
    rw [wanted_put oi a oj.dst u0 h1] at hk0
    simp only [hwi, if_true, tDo, hci] at hk0
    obtain ⟨v, hv, hva, hcell1, _⟩ := hk0
    rw [execOp_put oi hi a oj.dst u0 h1] at hv hva
    have hcell : hasCell HL i w := by
      unfold tOp at h0
      simp only [hwj, if_true] at h0
      intro q hq
      rw [hp1] at hq
      injection hq with hq; subst hq
      unfold tDo at h0
      split at h0
      · rename_i hcl
        obtain ⟨_, _, hk1⟩ := h0
        rw [wanted_put oi a oj.dst _ h1] at hk1
        simp only [hwi, if_true, hci] at hk1
        obtain ⟨_, _, _, hc1, _, _⟩ := hk1
        exact hc1 _ hp1
      · obtain ⟨_, _, _, _, _, hk1⟩ := h0
        rw [wanted_put oi a oj.dst _ h1] at hk1
        simp only [hwi, if_true, hci] at hk1
        obtain ⟨_, _, _, hc1, _, _⟩ := hk1
        exact hc1 _ hp1
      · exact h0.1 _ hp2
    have hcw : ∀ w', After T HL j oj w w' → p w' := by
      intro w' ha
      rcases ha with rfl | ⟨_, hl, _⟩
      · exact (hcell p hp1).now
      · exact (hl _ hp2).now
    exact hfirst v (fun w' ha => hva p hp1 w' (hcw w' ha)) (by rw [hci]; simp) (fun hh => by rw [hci] at hh; cases hh) (fun _ => ⟨hva, hcell, fun w' hb => hva p hp1 w' (hcell p hp1 w' hb)⟩)
  · -- oj reads, oi lays a block and turns nothing
    have hnone := noHeld_spec hnj
    unfold tOp at h0
    simp only [hwj, if_true, tDo, hcj] at h0
    obtain ⟨v, hv, hva, hcell, hst, hk⟩ := h0
    have hb : ∀ w', After T HL i oi w w' → Below w.heap.size w w' := by
      intro w' ha
      rcases ha with rfl | ⟨_, _, hg⟩
      · exact Below.refl _ _
      · exact hg hgi
    exact hsecond v hk (fun w' ha => hst w' (hb w' ha)) (by rw [hcj]; simp) (fun hh => by rw [hcj] at hh; cases hh)
      (fun _ => ⟨hva, fun w' ha => ⟨(fun p hp => by rw [hnone] at hp; cases hp), fun w'' hb2 => hst w'' ((hb w' ha).trans (hb2.mono (hb w' ha).size))⟩⟩)

/-! ### lists of places -/
def tI (P : Program) (T : Tbl) (ops : Array Oper) (HL : Held) (i : Nat) (K : Act → World → Prop) (a : Act) (w : World) : Prop :=
  match ops[i]? with
  | none => K a w
  | some o => tOp P T ops HL i o K a w

def wpI (P : Program) (T : Tbl) (ops : Array Oper) (HL : Held) (Q : Act → World → Prop) : List Nat → Act → World → Prop
  | [], a, w => Q a w
  | i :: rest, a, w => tI P T ops HL i (wpI P T ops HL Q rest) a w

theorem tI_mono {i : Nat} {a : Act} {w : World} {K K' : Act → World → Prop} (h : ∀ a w, K a w → K' a w) (hh : tI P T ops HL i K a w) : tI P T ops HL i K' a w := by
  unfold tI at *
  split
  · rename_i ho; simp only [ho] at hh; exact h _ _ hh
  · rename_i o ho; simp only [ho] at hh; exact tOp_mono h hh

theorem front {Q : Act → World → Prop} {i : Nat} (hsel : ∀ (j : Nat) (o : Oper) cs b, ops[j]? = some o → o.op ≠ .select cs b) (l2 : List Nat) :
    ∀ (l1 : List Nat), (∀ j ∈ l1, ∀ oj oi, ops[j]? = some oj → ops[i]? = some oi → indep T (skel HL) ops j i oj oi = true) → ∀ (a : Act) (w : World),
    wpI P T ops HL Q (l1 ++ i :: l2) a w → tI P T ops HL i (wpI P T ops HL Q (l1 ++ l2)) a w
  | [], _, _, _, h => h
  | j :: l1, hl, a, w, h => by
    have ih := front (Q := Q) hsel l2 l1 (fun k hk => hl k (List.mem_cons_of_mem _ hk))
    have h' : tI P T ops HL j (tI P T ops HL i (wpI P T ops HL Q (l1 ++ l2))) a w := tI_mono (fun a w => ih a w) h
    show tI P T ops HL i (tI P T ops HL j (wpI P T ops HL Q (l1 ++ l2))) a w
    unfold tI at h' ⊢
    cases hj : ops[j]? with
    | none => simp only [hj] at h' ⊢; exact h'
    | some oj =>
      cases hi : ops[i]? with
      | none => simp only [hj, hi] at h' ⊢; exact h'
      | some oi =>
        simp only [hj, hi] at h' ⊢
        exact swap (fun cs b => hsel i oi cs b hi) (fun cs b => hsel j oj cs b hj) (hl j (List.mem_cons_self ..) oj oi hj hi) h'

/-! ### the check -/
def maskOf (A : List Nat) (o : Oper) : Nat := o.after.toList.foldr (fun e s => if Region.binds .any e then s ||| 2 ^ e.on ||| A.getD e.on 0 else s) 0

def anc : List Oper → List Nat → List Nat
  | [], A => A
  | o :: l, A => anc l (A ++ [maskOf A o])

def okAt (T : Tbl) (sk : List (Nat × List Nat)) (ops : Array Oper) (A : List Nat) (i : Nat) (oi : Oper) : Bool :=
  (oi.after.toList.all fun e => !Region.binds .any e || decide (e.on < i)) && A.getD i 0 == maskOf A oi &&
  (List.range i).all fun j => (A.getD i 0).testBit j || (match ops[j]? with | some oj => indep T sk ops j i oj oi | none => true)

def okFrom (T : Tbl) (sk : List (Nat × List Nat)) (ops : Array Oper) (A : List Nat) : Nat → List Oper → Bool
  | _, [] => true
  | i, o :: l => okAt T sk ops A i o && okFrom T sk ops A (i + 1) l

def regionOk (T : Tbl) (sk : List (Nat × List Nat)) (ops : Array Oper) : Bool :=
  Region.noSelect ops && okFrom T sk ops (anc ops.toList []) 0 ops.toList

theorem okFrom_spec {sk : List (Nat × List Nat)} {A : List Nat} : ∀ (l : List Oper) (i : Nat), okFrom T sk ops A i l = true → ∀ k o, l[k]? = some o → okAt T sk ops A (i + k) o = true
  | [], _, _, k, o, h => by simp at h
  | o' :: l, i, hok, k, o, h => by
    simp only [okFrom, Bool.and_eq_true] at hok
    cases k with
    | zero => simp at h; subst h; simpa using hok.1
    | succ k =>
      have := okFrom_spec l (i + 1) hok.2 k o (by simpa using h)
      rwa [show i + 1 + k = i + (k + 1) by omega] at this

theorem maskOf_testBit {A : List Nat} {j : Nat} (o : Oper) (h : (maskOf A o).testBit j = true) : ∃ e ∈ o.after, Region.binds .any e = true ∧ (e.on = j ∨ (A.getD e.on 0).testBit j = true) := by
  unfold maskOf at h
  have key : ∀ (l : List Edge), (l.foldr (fun e s => if Region.binds .any e then s ||| 2 ^ e.on ||| A.getD e.on 0 else s) 0).testBit j = true →
      ∃ e ∈ l, Region.binds .any e = true ∧ (e.on = j ∨ (A.getD e.on 0).testBit j = true) := by
    intro l
    induction l with
    | nil => intro h; simp at h
    | cons e l ih =>
      intro h
      simp only [List.foldr_cons] at h
      split at h
      · rename_i hb
        simp only [Nat.testBit_or, Bool.or_eq_true] at h
        rcases h with (h | h) | h
        · obtain ⟨e', he', r⟩ := ih h; exact ⟨e', List.mem_cons_of_mem _ he', r⟩
        · refine ⟨e, List.mem_cons_self .., hb, .inl ?_⟩
          rw [Nat.testBit_two_pow] at h
          simpa using h
        · exact ⟨e, List.mem_cons_self .., hb, .inr h⟩
      · obtain ⟨e', he', r⟩ := ih h; exact ⟨e', List.mem_cons_of_mem _ he', r⟩
  obtain ⟨e, he, r⟩ := key _ h
  exact ⟨e, by simpa using he, r⟩

structure Inv (ops : Array Oper) (listed : Array Bool) : Prop where
  size : listed.size = ops.size
  closed : ∀ j oj, ops[j]? = some oj → listed.getD j false = true → ∀ e ∈ oj.after, Region.binds .any e = true → listed.getD e.on false = true

/-- Whoever must come ahead has been listed. -/
theorem listed_of_mask {sk : List (Nat × List Nat)} {A : List Nat} (hok : ∀ i o, ops[i]? = some o → okAt T sk ops A i o = true) {listed : Array Bool} (inv : Inv ops listed) :
    ∀ (n i : Nat), i ≤ n → ∀ o, ops[i]? = some o → (∀ e ∈ o.after, Region.binds .any e = true → listed.getD e.on false = true) → ∀ j, (A.getD i 0).testBit j = true → listed.getD j false = true := by
  intro n
  induction n with
  | zero =>
    intro i hi o ho hall j hj
    have h := hok i o ho
    simp only [okAt, Bool.and_eq_true, beq_iff_eq, List.all_eq_true, Bool.or_eq_true, decide_eq_true_eq, Bool.not_eq_true'] at h
    obtain ⟨⟨hlt, hm⟩, _⟩ := h
    rw [hm] at hj
    obtain ⟨e, he, hb, r⟩ := maskOf_testBit o hj
    rcases hlt e (by simpa using he) with h' | h'
    · rw [hb] at h'; cases h'
    · omega
  | succ n ih =>
    intro i hi o ho hall j hj
    have h := hok i o ho
    simp only [okAt, Bool.and_eq_true, beq_iff_eq, List.all_eq_true, Bool.or_eq_true, decide_eq_true_eq, Bool.not_eq_true'] at h
    obtain ⟨⟨hlt, hm⟩, _⟩ := h
    rw [hm] at hj
    obtain ⟨e, he, hb, r⟩ := maskOf_testBit o hj
    have hl := hall e he hb
    rcases r with r | r
    · rw [← r]; exact hl
    · rcases hlt e (by simpa using he) with h' | h'
      · rw [hb] at h'; cases h'
      · have hsz : e.on < ops.size := by
          rcases Nat.lt_or_ge e.on ops.size with h'' | h''
          · exact h''
          · have : listed.getD e.on false = false := by simp [Array.getElem?_eq_none (show listed.size ≤ e.on by rw [inv.size]; exact h'')]
            rw [this] at hl; cases hl
        have hoe : ops[e.on]? = some ops[e.on] := by simp [hsz]
        exact ih e.on (by omega) _ hoe (inv.closed e.on _ hoe hl) j r

def unlisted (ops : Array Oper) (listed : Array Bool) : List Nat := (List.range ops.size).filter fun i => !listed.getD i true

theorem getD_ft {listed : Array Bool} {i : Nat} (h : listed.getD i true = false) : listed.getD i false = false := by
  rcases Nat.lt_or_ge i listed.size with h' | h'
  · simp [h'] at h ⊢; exact h
  · simp [Array.getElem?_eq_none h'] at h

theorem tI_wpOp {i : Nat} {a : Act} {w : World} {K K' : Act → World → Prop} {Q : Exit → Act → World → Prop} (h : ∀ a w, K a w → K' a w) (hh : tI P T ops HL i K a w) : wpOp P ops Q i K' a w := by
  unfold tI at hh
  unfold wpOp
  split
  · rename_i ho; simp only [ho] at hh; exact h _ _ hh
  · rename_i o ho
    simp only [ho] at hh
    unfold tOp at hh
    split
    · rename_i hw
      simp only [hw, if_true] at hh
      refine .inl ?_
      unfold tDo at hh
      unfold Oper.wp
      split at hh
      · obtain ⟨v, h1, h2⟩ := hh; rw [h1 w]; exact h _ _ h2
      · obtain ⟨v, h1, _, _, _, h2⟩ := hh; rw [h1]; exact h _ _ h2
      · obtain ⟨_, hh⟩ := hh
        generalize (execOp a.eval o).run P w = r at hh
        cases r with
        | ok n w' =>
          cases n <;> simp only [teUpon] at hh <;> simp only [Oper.upon]
          case value v => exact h _ _ hh.2
          case skip => exact h _ _ hh.2
          case enter f args => exact hh.mono fun e w'' ⟨v, he, hc, hk⟩ => by subst he; exact h _ _ hk
        | halt x w' => simp only [teUpon] at hh
    · rename_i hw; simp only [hw] at hh; exact h _ _ hh

theorem wpAny_of_text {A : List Nat} {Q : Exit → Act → World → Prop} (hsel : ∀ (j : Nat) (o : Oper) cs b, ops[j]? = some o → o.op ≠ .select cs b)
    (hok : ∀ i o, ops[i]? = some o → okAt T (skel HL) ops A i o = true) :
    ∀ (fuel : Nat) (listed : Array Bool) (a : Act) (w : World), Inv ops listed → (unlisted ops listed).length = fuel → wpI P T ops HL (Q .normal) (unlisted ops listed) a w → wpAny P .any ops Q fuel listed a w := by
  intro fuel
  induction fuel with
  | zero =>
    intro listed a w inv hlen h
    have hnil := List.length_eq_zero_iff.1 hlen
    refine ⟨?_, ?_⟩
    · refine List.eq_nil_iff_forall_not_mem.2 fun j hj => ?_
      obtain ⟨h1, o, ho, _⟩ := mem_ready.1 hj
      have hlt : j < ops.size := (Array.getElem?_eq_some_iff.1 ho).1
      have : j ∈ unlisted ops listed := List.mem_filter.2 ⟨List.mem_range.2 hlt, by simp [h1]⟩
      rw [hnil] at this; cases this
    · rw [hnil] at h; exact h
  | succ fuel ih =>
    intro listed a w inv hlen h
    refine ⟨fun hr => ?_, fun i hi => ?_⟩
    · -- the first that is not listed may come up
      exfalso
      cases hl : unlisted ops listed with
      | nil => rw [hl] at hlen; cases hlen
      | cons k l =>
        have hk : k ∈ unlisted ops listed := by rw [hl]; exact List.mem_cons_self ..
        obtain ⟨hk1, hk2⟩ := List.mem_filter.1 hk
        have hklt := List.mem_range.1 hk1
        have hko : ops[k]? = some ops[k] := by simp [hklt]
        have hke := hok k _ hko
        simp only [okAt, Bool.and_eq_true, beq_iff_eq, List.all_eq_true, Bool.or_eq_true, decide_eq_true_eq, Bool.not_eq_true'] at hke
        have : k ∈ Region.ready .any ops listed := by
          refine mem_ready.2 ⟨by simpa using hk2, _, hko, fun e he hb => ?_⟩
          rcases hke.1.1 e (by simpa using he) with h' | h'
          · rw [hb] at h'; cases h'
          · -- e.on < k: it is listed, or it would stand ahead of k in the list
            cases hc : listed.getD e.on true with
            | true =>
              have : e.on < listed.size := by rw [inv.size]; omega
              simp [this] at hc ⊢; exact hc
            | false =>
              have hmem : e.on ∈ unlisted ops listed := List.mem_filter.2 ⟨List.mem_range.2 (by omega), by rw [hc]; rfl⟩
              have hs : (unlisted ops listed).Pairwise (· < ·) := List.Pairwise.filter _ List.pairwise_lt_range
              rw [hl] at hs hmem
              rcases List.mem_cons.1 hmem with h'' | h''
              · omega
              · have := (List.pairwise_cons.1 hs).1 _ h''; omega
        rw [hr] at this; cases this
    · obtain ⟨hi1, oi, hoi, hall⟩ := mem_ready.1 hi
      have hilt : i < ops.size := (Array.getElem?_eq_some_iff.1 hoi).1
      have himem : i ∈ unlisted ops listed := List.mem_filter.2 ⟨List.mem_range.2 hilt, by simp [hi1]⟩
      have hs : (unlisted ops listed).Pairwise (· < ·) := List.Pairwise.filter _ List.pairwise_lt_range
      obtain ⟨l1, l2, hl⟩ := List.append_of_mem himem
      have hnd : ∀ x ∈ l1, x < i := by
        rw [hl] at hs
        intro x hx
        exact (List.pairwise_append.1 hs).2.2 x hx i (List.mem_cons_self ..)
      have hnd2 : ∀ x ∈ l2, i < x := by
        rw [hl] at hs
        exact (List.pairwise_cons.1 (List.pairwise_append.1 hs).2.1).1
      have hun : unlisted ops (listed.setIfInBounds i true) = l1 ++ l2 := by
        have e1 : unlisted ops (listed.setIfInBounds i true) = (unlisted ops listed).filter (fun x => x != i) := by
          unfold unlisted
          rw [List.filter_filter]
          refine List.filter_congr fun x hx => ?_
          by_cases hxi : x = i
          · subst hxi
            have : x < listed.size := by rw [inv.size]; exact hilt
            simp [this]
          · rw [getD_set_ne true (Ne.symm hxi)]
            simp [hxi]
        rw [e1, hl, List.filter_append, List.filter_cons]
        simp only [bne_self_eq_false, Bool.false_eq_true, if_false]
        rw [List.filter_eq_self.2 (fun x hx => by have := hnd x hx; simp; omega), List.filter_eq_self.2 (fun x hx => by have := hnd2 x hx; simp; omega)]
      have inv' : Inv ops (listed.setIfInBounds i true) := by
        refine ⟨by simp [inv.size], fun j oj hj hlj e he hb => ?_⟩
        by_cases hij : i = j
        · subst hij
          have : oj = oi := Option.some.inj (hj.symm.trans hoi)
          subst this
          exact getD_set_true (hall e he hb)
        · rw [getD_set_ne false hij] at hlj
          exact getD_set_true (inv.closed j oj hj hlj e he hb)
      rw [hl] at h
      have hfront := front (Q := Q .normal) hsel l2 l1 (fun j hj oj oi' hoj hoi' => by
        have : oi' = oi := Option.some.inj (hoi'.symm.trans hoi)
        subst this
        have h0 := hok i _ hoi
        simp only [okAt, Bool.and_eq_true, beq_iff_eq, List.all_eq_true, Bool.or_eq_true, decide_eq_true_eq, Bool.not_eq_true'] at h0
        rcases h0.2 j (List.mem_range.2 (hnd j hj)) with h' | h'
        · exfalso
          have := listed_of_mask hok inv i i (Nat.le_refl _) _ hoi hall j h'
          have hju : j ∈ unlisted ops listed := by rw [hl]; exact List.mem_append_left _ hj
          have := getD_ft (by simpa using (List.mem_filter.1 hju).2)
          simp_all
        · rw [hoj] at h'; exact h') a w h
      refine tI_wpOp (fun a' w' h' => ?_) hfront
      refine ih _ a' w' inv' ?_ (by rw [hun]; exact h')
      rw [hun]
      rw [hl] at hlen
      simp only [List.length_append, List.length_cons] at hlen ⊢
      omega

theorem wpI_of_wpT {Q : Act → World → Prop} : ∀ (l : List Oper) (k : Nat), (∀ j, l[j]? = ops[k + j]?) → ∀ (a : Act) (w : World), wpT P T ops HL Q k l a w → wpI P T ops HL Q (List.range' k l.length) a w
  | [], _, _, _, _, h => h
  | o :: l, k, hl, a, w, h => by
    have h0 : ops[k]? = some o := by simpa using (hl 0).symm
    have ih := wpI_of_wpT (Q := Q) l (k + 1) (fun j => by have := hl (j + 1); simpa [Nat.add_assoc, Nat.add_comm 1 j] using this)
    simp only [List.length_cons, List.range'_succ, wpI, tI, h0]
    exact tOp_mono (fun a w => ih a w) h

/-- **A region that draws its order, walked in the order of the text.** -/
theorem wp_region_text {id : Nat} {Q : Exit → Act → World → Prop} {a : Act} {w : World} (hm : P.follows .mixedOrders = true) (hB : regionOk T (skel HL) ops = true)
    (h : wpT P T ops HL (Q .normal) 0 ops.toList a { w with drawn := w.drawn + 1 }) : (Code.region id ops true).wp P Q a w := by
  simp only [regionOk, Bool.and_eq_true] at hB
  have hok : ∀ i o, ops[i]? = some o → okAt T (skel HL) ops (anc ops.toList []) i o = true := fun i o ho => by
    have := okFrom_spec ops.toList 0 hB.2 i o (by simpa using ho)
    rwa [Nat.zero_add] at this
  refine wp_region_any hm (wpAny_of_text (Region.noSelect_spec hB.1) hok _ _ a _ ⟨by simp, fun j oj _ hl => ?_⟩ ?_ ?_)
  · exfalso
    rcases Nat.lt_or_ge j ops.size with h' | h'
    · simp [h'] at hl
    · simp [h'] at hl
  · have : unlisted ops (Array.replicate ops.size false) = List.range ops.size := by
      refine List.filter_eq_self.2 fun x hx => ?_
      have := List.mem_range.1 hx
      simp [this]
    rw [this]; simp
  · have : unlisted ops (Array.replicate ops.size false) = List.range ops.size := by
      refine List.filter_eq_self.2 fun x hx => ?_
      have := List.mem_range.1 hx
      simp [this]
    rw [this, List.range_eq_range', ← Array.length_toList]
    exact wpI_of_wpT ops.toList 0 (by simp) a _ h

/-- A region that draws nothing. -/
theorem wp_region_plain {id : Nat} {Q : Exit → Act → World → Prop} {a : Act} {w : World} (h : wpT P T ops HL (Q .normal) 0 ops.toList a w) : (Code.region id ops false).wp P Q a w := by
  refine wp_region ?_
  have key : ∀ (l : List Nat) (a : Act) (w : World), wpI P T ops HL (Q .normal) l a w → wpOps P ops Q l a w := by
    intro l
    induction l with
    | nil => intro a w h; exact h
    | cons i l ih =>
      intro a w h
      rw [wpOps_cons]
      exact tI_wpOp (fun a w => ih a w) h
  refine key _ _ _ ?_
  rw [List.range_eq_range', ← Array.length_toList]
  exact wpI_of_wpT ops.toList 0 (by simp) a _ h
end
end Go.Sx
