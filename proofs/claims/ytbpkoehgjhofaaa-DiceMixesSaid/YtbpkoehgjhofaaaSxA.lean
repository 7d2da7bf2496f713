/- A region whose order is drawn may be walked in the order of the text, where every two operations that may change places are independent. Conditions: the check 'Sx.regionOk' holds. -/
import Derived.Orders
namespace Go.Sx
open Go

inductive Cls where
  | pure | read | eff
  deriving DecidableEq

def cls : Op → Cls
  | .move _ | .assign _ | .pick .. | .build .. | .nilCheck _ | .binOp .. | .unOp .. | .convert .. | .makeInterface .. | .makeFunc .. | .slice ..
  | .fieldAddr .. | .field .. | .indexAddr .. | .index .. | .extract .. => .pure
  | .load .. | .lookup .. => .read
  | .call { callee := .builtin .len, .. } => .read
  | .call { callee := .builtin .min, .. } => .pure
  | .call { callee := .builtin .max, .. } => .pure
  | _ => .eff

/-- In the mode 'true' what is read is held through the region. -/
def clsM (m : Bool) (op : Op) : Cls :=
  match cls op with
  | .read => if m then .pure else .read
  | c => c

section
variable {P : Program} {ops : Array Oper} {C : World → Prop} {m : Bool}

def teUpon (P : Program) (C : World → Prop) (o : Oper) (a : Act) (K : Act → World → Prop) : Result Next → Prop
  | .ok (.value v) w' => C w' ∧ K (a.put o.dst v) w'
  | .ok .skip w' => C w' ∧ K (a.put o.dst undef) w'
  | .ok (.enter f args) w' => Calls P f args w' fun e w'' => ∃ v, e = .returned v ∧ C w'' ∧ K (a.put o.dst v) w''
  | _ => False

/-- What is asked of one operation that is carried out. -/
def tDo (P : Program) (C : World → Prop) (m : Bool) (o : Oper) (K : Act → World → Prop) (a : Act) (w : World) : Prop :=
  match clsM m o.op with
  | .pure => ∃ v, (∀ w', C w' → (execOp a.eval o).run P w' = .ok (.value v) w') ∧ K (a.put o.dst v) w
  | .read => ∃ v, (execOp a.eval o).run P w = .ok (.value v) w ∧ K (a.put o.dst v) w
  | .eff => teUpon P C o a K ((execOp a.eval o).run P w)

def tOp (P : Program) (ops : Array Oper) (C : World → Prop) (m : Bool) (o : Oper) (K : Act → World → Prop) (a : Act) (w : World) : Prop :=
  if Region.wanted o (yielded ops a.tmps) then tDo P C m o K a w else K (a.put o.dst undef) w

def wpT (P : Program) (ops : Array Oper) (C : World → Prop) (m : Bool) (Q : Act → World → Prop) : List Oper → Act → World → Prop
  | [], a, w => Q a w
  | o :: rest, a, w => tOp P ops C m o (wpT P ops C m Q rest) a w

theorem teUpon_mono {o : Oper} {a : Act} {K K' : Act → World → Prop} (h : ∀ u w, C w → K (a.put o.dst u) w → K' (a.put o.dst u) w) {r : Result Next} (hh : teUpon P C o a K r) : teUpon P C o a K' r := by
  cases r with
  | ok n w' =>
    cases n <;> simp only [teUpon] at hh ⊢
    case value v => exact ⟨hh.1, h _ _ hh.1 hh.2⟩
    case skip => exact ⟨hh.1, h _ _ hh.1 hh.2⟩
    case enter f args => exact hh.mono fun e w'' ⟨v, he, hc, hk⟩ => ⟨v, he, hc, h _ _ hc hk⟩
  | halt x w' => simp only [teUpon] at hh

theorem tOp_mono' {o : Oper} {a : Act} {w : World} {K K' : Act → World → Prop} (hC : C w) (h : ∀ u w, C w → K (a.put o.dst u) w → K' (a.put o.dst u) w) (hh : tOp P ops C m o K a w) : tOp P ops C m o K' a w := by
  unfold tOp at *
  split
  · rename_i hw
    simp only [hw, if_true] at hh
    unfold tDo at *
    split
    · rename_i hc; simp only [hc] at hh; obtain ⟨v, h1, h2⟩ := hh; exact ⟨v, h1, h _ _ hC h2⟩
    · rename_i hc; simp only [hc] at hh; obtain ⟨v, h1, h2⟩ := hh; exact ⟨v, h1, h _ _ hC h2⟩
    · rename_i hc; simp only [hc] at hh; exact teUpon_mono h hh
  · rename_i hw; simp only [hw] at hh; exact h _ _ hC hh

theorem tOp_mono {o : Oper} {a : Act} {w : World} {K K' : Act → World → Prop} (hC : C w) (h : ∀ a w, C w → K a w → K' a w) (hh : tOp P ops C m o K a w) : tOp P ops C m o K' a w :=
  tOp_mono' hC (fun _ _ => h _ _) hh

theorem wpT_mono {Q Q' : Act → World → Prop} (h : ∀ a w, C w → Q a w → Q' a w) : ∀ (l : List Oper) (a : Act) (w : World), C w → wpT P ops C m Q l a w → wpT P ops C m Q' l a w
  | [], _, _, hC, hh => h _ _ hC hh
  | _ :: l, _, _, hC, hh => tOp_mono hC (fun a w hc => wpT_mono h l a w hc) hh

/-- There is an outcome. -/
theorem teUpon_some {o : Oper} {a : Act} {K : Act → World → Prop} {r : Result Next} (hh : teUpon P C o a K r) : ∃ u w', C w' ∧ K (a.put o.dst u) w' := by
  cases r with
  | ok n w' =>
    cases n <;> simp only [teUpon] at hh
    case value v => exact ⟨v, w', hh⟩
    case skip => exact ⟨_, w', hh⟩
    case enter f args =>
      obtain ⟨e, w'', fr, ⟨v, _, hk⟩, _⟩ := hh []
      exact ⟨v, w'', hk⟩
  | halt x w' => simp only [teUpon] at hh

theorem tOp_some {o : Oper} {a : Act} {w : World} {K : Act → World → Prop} (hC : C w) (hh : tOp P ops C m o K a w) : ∃ u w', C w' ∧ K (a.put o.dst u) w' := by
  unfold tOp at hh
  split at hh
  · unfold tDo at hh
    split at hh
    · obtain ⟨v, _, h⟩ := hh; exact ⟨v, w, hC, h⟩
    · obtain ⟨v, _, h⟩ := hh; exact ⟨v, w, hC, h⟩
    · exact teUpon_some hh
  · exact ⟨_, _, hC, hh⟩

theorem teUpon_put {o : Oper} {a : Act} {K : Act → World → Prop} {d : Option Tmp} {v : Value} {r : Result Next} (hh : teUpon P C o a K r) :
    teUpon P C o (a.put d v) (fun a' w' => ∃ u, a' = (a.put d v).put o.dst u ∧ K (a.put o.dst u) w') r := by
  cases r with
  | ok n w' =>
    cases n <;> simp only [teUpon] at hh ⊢
    case value u => exact ⟨hh.1, u, rfl, hh.2⟩
    case skip => exact ⟨hh.1, _, rfl, hh.2⟩
    case enter f args => exact hh.mono fun e w'' ⟨u, he, hc, hk⟩ => ⟨u, he, hc, u, rfl, hk⟩
  | halt x w' => simp only [teUpon] at hh

/-- An operation does the same where a temporary that it doesn't look at has been written. -/
theorem tOp_put {o : Oper} {a : Act} {w : World} {K : Act → World → Prop} {d : Option Tmp} {v : Value} (hs : ∀ cs b, o.op ≠ .select cs b) (hd : ∀ t, d = some t → t ∉ o.looksAt ops)
    (hh : tOp P ops C m o K a w) : tOp P ops C m o (fun a' w' => ∃ u, a' = (a.put d v).put o.dst u ∧ K (a.put o.dst u) w') (a.put d v) w := by
  unfold tOp at *
  rw [wanted_put o a d v hd]
  split
  · rename_i hw
    simp only [hw, if_true] at hh
    unfold tDo at *
    rw [execOp_put o hs a d v hd]
    split
    · rename_i hc; simp only [hc] at hh; obtain ⟨u, h1, h2⟩ := hh; exact ⟨u, h1, u, rfl, h2⟩
    · rename_i hc; simp only [hc] at hh; obtain ⟨u, h1, h2⟩ := hh; exact ⟨u, h1, u, rfl, h2⟩
    · rename_i hc; simp only [hc] at hh; exact teUpon_put hh
  · rename_i hw; simp only [hw] at hh; exact ⟨_, rfl, hh⟩

theorem teUpon_unput {o : Oper} {a : Act} {K : Act → World → Prop} {d : Option Tmp} {v : Value} {r : Result Next} (hh : teUpon P C o (a.put d v) K r) :
    teUpon P C o a (fun a' w' => ∃ u, a' = a.put o.dst u ∧ K ((a.put d v).put o.dst u) w') r := by
  cases r with
  | ok n w' =>
    cases n <;> simp only [teUpon] at hh ⊢
    case value u => exact ⟨hh.1, u, rfl, hh.2⟩
    case skip => exact ⟨hh.1, _, rfl, hh.2⟩
    case enter f args => exact hh.mono fun e w'' ⟨u, he, hc, hk⟩ => ⟨u, he, hc, u, rfl, hk⟩
  | halt x w' => simp only [teUpon] at hh

theorem tOp_unput {o : Oper} {a : Act} {w : World} {K : Act → World → Prop} {d : Option Tmp} {v : Value} (hs : ∀ cs b, o.op ≠ .select cs b) (hd : ∀ t, d = some t → t ∉ o.looksAt ops)
    (hh : tOp P ops C m o K (a.put d v) w) : tOp P ops C m o (fun a' w' => ∃ u, a' = a.put o.dst u ∧ K ((a.put d v).put o.dst u) w') a w := by
  unfold tOp at *
  rw [wanted_put o a d v hd] at hh
  split
  · rename_i hw
    simp only [hw, if_true] at hh
    unfold tDo at *
    rw [execOp_put o hs a d v hd] at hh
    split
    · rename_i hc; simp only [hc] at hh; obtain ⟨u, h1, h2⟩ := hh; exact ⟨u, h1, u, rfl, h2⟩
    · rename_i hc; simp only [hc] at hh; obtain ⟨u, h1, h2⟩ := hh; exact ⟨u, h1, u, rfl, h2⟩
    · rename_i hc; simp only [hc] at hh; exact teUpon_unput hh
  · rename_i hw; simp only [hw] at hh; exact ⟨_, rfl, hh⟩

/-- Two operations that may change places: neither looks at what the other writes, and one of them hangs on no memory, or both only read. -/
def indep (m : Bool) (ops : Array Oper) (x y : Oper) : Bool :=
  x.apart ops y && (clsM m x.op == .pure || clsM m y.op == .pure || (clsM m x.op == .read && clsM m y.op == .read))

theorem swap {oi oj : Oper} {a : Act} {w : World} {K : Act → World → Prop} (hC : C w) (hi : ∀ cs b, oi.op ≠ .select cs b) (hj : ∀ cs b, oj.op ≠ .select cs b)
    (hind : indep m ops oj oi = true) (h : tOp P ops C m oj (tOp P ops C m oi K) a w) : tOp P ops C m oi (tOp P ops C m oj K) a w := by
  simp only [indep, Bool.and_eq_true, Bool.or_eq_true, beq_iff_eq] at hind
  obtain ⟨hap, hc⟩ := hind
  obtain ⟨h1, h2, h3⟩ := Oper.apart_spec hap   -- h1: oj's dst not looked at by oi; h2: dsts differ; h3: oi's dst not looked at by oj
  have cm : ∀ (v u : Value), (a.put oi.dst u).put oj.dst v = (a.put oj.dst v).put oi.dst u := fun v u => (Act.put_comm a v u h2).symm
  rcases hc with (hc | hc) | ⟨hcj, hci⟩
  · -- oj is pure
    by_cases hw : Region.wanted oj (yielded ops a.tmps) = true
    · have h0 := h
      unfold tOp at h0
      simp only [hw, if_true, tDo, hc] at h0
      obtain ⟨v, hv, hk⟩ := h0
      refine tOp_mono hC (fun a' w' _ h' => ?_) (tOp_unput hi h1 hk)
      obtain ⟨u, rfl, hK⟩ := h'
      unfold tOp
      rw [wanted_put oj a oi.dst u h3]
      simp only [hw, if_true, tDo, hc]
      refine ⟨v, fun w' hw' => ?_, by rw [cm]; exact hK⟩
      rw [execOp_put oj hj a oi.dst u h3]
      exact hv w' hw'
    · have h0 := h
      unfold tOp at h0
      simp only [hw] at h0
      refine tOp_mono hC (fun a' w' _ h' => ?_) (tOp_unput hi h1 h0)
      obtain ⟨u, rfl, hK⟩ := h'
      unfold tOp
      rw [wanted_put oj a oi.dst u h3]
      simp only [hw]
      show K ((a.put oi.dst u).put oj.dst undef) w'
      rw [cm]; exact hK
  · -- oi is pure
    obtain ⟨u0, w0, _, hk0⟩ := tOp_some hC h
    by_cases hw : Region.wanted oi (yielded ops a.tmps) = true
    · unfold tOp at hk0
      rw [wanted_put oi a oj.dst u0 h1] at hk0
      simp only [hw, if_true, tDo, hc] at hk0
      obtain ⟨v, hv, _⟩ := hk0
      rw [execOp_put oi hi a oj.dst u0 h1] at hv
      have hgoal : tOp P ops C m oj K (a.put oi.dst v) w := by
        refine tOp_mono hC (fun a' w' _ h' => ?_) (tOp_put (d := oi.dst) (v := v) hj h3 h)
        obtain ⟨u, rfl, hK⟩ := h'
        unfold tOp at hK
        rw [wanted_put oi a oj.dst u h1] at hK
        simp only [hw, if_true, tDo, hc] at hK
        obtain ⟨v', hv', hK⟩ := hK
        rw [execOp_put oi hi a oj.dst u h1] at hv'
        have : v' = v := by
          have e1 := hv' w hC
          rw [hv w hC] at e1
          injection e1 with e1
          injection e1 with e1
          exact e1.symm
        subst this
        rw [cm]; exact hK
      unfold tOp
      simp only [hw, if_true, tDo, hc]
      exact ⟨v, hv, hgoal⟩
    · have hgoal : tOp P ops C m oj K (a.put oi.dst undef) w := by
        refine tOp_mono hC (fun a' w' _ h' => ?_) (tOp_put (d := oi.dst) (v := undef) hj h3 h)
        obtain ⟨u, rfl, hK⟩ := h'
        unfold tOp at hK
        rw [wanted_put oi a oj.dst u h1] at hK
        simp only [hw] at hK
        rw [cm]; exact hK
      unfold tOp
      simp only [hw]
      exact hgoal
  · -- both read
    by_cases hwj : Region.wanted oj (yielded ops a.tmps) = true
    · have h0 := h
      unfold tOp at h0
      simp only [hwj, if_true, tDo, hcj] at h0
      obtain ⟨v, hv, hk⟩ := h0
      change tOp P ops C m oi K (a.put oj.dst v) w at hk
      unfold tOp at hk ⊢
      rw [wanted_put oi a oj.dst v h1] at hk
      by_cases hwi : Region.wanted oi (yielded ops a.tmps) = true
      · simp only [hwi, if_true, tDo, hci] at hk ⊢
        obtain ⟨u, hu, hk⟩ := hk
        rw [execOp_put oi hi a oj.dst v h1] at hu
        refine ⟨u, hu, ?_⟩
        rw [wanted_put oj a oi.dst u h3]
        simp only [hwj, if_true, hcj]
        exact ⟨v, by rw [execOp_put oj hj a oi.dst u h3]; exact hv, by rw [cm]; exact hk⟩
      · simp only [hwi] at hk ⊢
        show (if Region.wanted oj (yielded ops (a.put oi.dst undef).tmps) = true then tDo P C m oj K (a.put oi.dst undef) w else K ((a.put oi.dst undef).put oj.dst undef) w)
        rw [wanted_put oj a oi.dst undef h3]
        simp only [hwj, if_true, tDo, hcj]
        exact ⟨v, by rw [execOp_put oj hj a oi.dst undef h3]; exact hv, by rw [cm]; exact hk⟩
    · have h0 := h
      unfold tOp at h0
      simp only [hwj] at h0
      refine tOp_mono hC (fun a' w' _ h' => ?_) (tOp_unput hi h1 h0)
      obtain ⟨u, rfl, hK⟩ := h'
      unfold tOp
      rw [wanted_put oj a oi.dst u h3]
      simp only [hwj]
      show K ((a.put oi.dst u).put oj.dst undef) w'
      rw [cm]; exact hK

/-! ### lists of places -/
def tI (P : Program) (ops : Array Oper) (C : World → Prop) (m : Bool) (i : Nat) (K : Act → World → Prop) (a : Act) (w : World) : Prop :=
  match ops[i]? with
  | none => K a w
  | some o => tOp P ops C m o K a w

def wpI (P : Program) (ops : Array Oper) (C : World → Prop) (m : Bool) (Q : Act → World → Prop) : List Nat → Act → World → Prop
  | [], a, w => Q a w
  | i :: rest, a, w => tI P ops C m i (wpI P ops C m Q rest) a w

theorem tI_mono {i : Nat} {a : Act} {w : World} {K K' : Act → World → Prop} (hC : C w) (h : ∀ a w, C w → K a w → K' a w) (hh : tI P ops C m i K a w) : tI P ops C m i K' a w := by
  unfold tI at *
  split
  · rename_i ho; simp only [ho] at hh; exact h _ _ hC hh
  · rename_i o ho; simp only [ho] at hh; exact tOp_mono hC h hh

theorem front {Q : Act → World → Prop} {i : Nat} (hsel : ∀ (j : Nat) (o : Oper) cs b, ops[j]? = some o → o.op ≠ .select cs b) (l2 : List Nat) :
    ∀ (l1 : List Nat), (∀ j ∈ l1, ∀ oj oi, ops[j]? = some oj → ops[i]? = some oi → indep m ops oj oi = true) → ∀ (a : Act) (w : World), C w →
    wpI P ops C m Q (l1 ++ i :: l2) a w → tI P ops C m i (wpI P ops C m Q (l1 ++ l2)) a w
  | [], _, _, _, _, h => h
  | j :: l1, hl, a, w, hC, h => by
    have ih := front (Q := Q) hsel l2 l1 (fun k hk => hl k (List.mem_cons_of_mem _ hk))
    have h' : tI P ops C m j (tI P ops C m i (wpI P ops C m Q (l1 ++ l2))) a w := tI_mono hC (fun a w hc => ih a w hc) h
    show tI P ops C m i (tI P ops C m j (wpI P ops C m Q (l1 ++ l2))) a w
    unfold tI at h' ⊢
    cases hj : ops[j]? with
    | none => simp only [hj] at h' ⊢; exact h'
    | some oj =>
      cases hi : ops[i]? with
      | none => simp only [hj, hi] at h' ⊢; exact h'
      | some oi =>
        simp only [hj, hi] at h' ⊢
        exact swap hC (fun cs b => hsel i oi cs b hi) (fun cs b => hsel j oj cs b hj) (hl j (List.mem_cons_self ..) oj oi hj hi) h'

/-! ### the check -/
def maskOf (A : List Nat) (o : Oper) : Nat := o.after.toList.foldr (fun e s => if Region.binds .any e then s ||| 2 ^ e.on ||| A.getD e.on 0 else s) 0

def anc : List Oper → List Nat → List Nat
  | [], A => A
  | o :: l, A => anc l (A ++ [maskOf A o])

def okAt (m : Bool) (ops : Array Oper) (A : List Nat) (i : Nat) (oi : Oper) : Bool :=
  (oi.after.toList.all fun e => !Region.binds .any e || decide (e.on < i)) && A.getD i 0 == maskOf A oi &&
  (List.range i).all fun j => (A.getD i 0).testBit j || (match ops[j]? with | some oj => indep m ops oj oi | none => true)

def okFrom (m : Bool) (ops : Array Oper) (A : List Nat) : Nat → List Oper → Bool
  | _, [] => true
  | i, o :: l => okAt m ops A i o && okFrom m ops A (i + 1) l

def regionOk (m : Bool) (ops : Array Oper) : Bool :=
  Region.noSelect ops && okFrom m ops (anc ops.toList []) 0 ops.toList

theorem okFrom_spec {A : List Nat} : ∀ (l : List Oper) (i : Nat), okFrom m ops A i l = true → ∀ k o, l[k]? = some o → okAt m ops A (i + k) o = true
  | [], _, _, k, o, h => by simp at h
  | o' :: l, i, hok, k, o, h => by
    simp only [okFrom, Bool.and_eq_true] at hok
    cases k with
    | zero => simp at h; subst h; simpa using hok.1
    | succ k =>
      have := okFrom_spec l (i + 1) hok.2 k o (by simpa using h)
      rwa [show i + 1 + k = i + (k + 1) by omega] at this

theorem maskOf_testBit {A : List Nat} {j : Nat} (o : Oper) (h : (maskOf A o).testBit j = true) : ∃ e ∈ o.after, Region.binds .any e = true ∧ (e.on = j ∨ (A.getD e.on 0).testBit j = true) := by
  unfold maskOf at h
  have key : ∀ (l : List Edge), (l.foldr (fun e s => if Region.binds .any e then s ||| 2 ^ e.on ||| A.getD e.on 0 else s) 0).testBit j = true →
      ∃ e ∈ l, Region.binds .any e = true ∧ (e.on = j ∨ (A.getD e.on 0).testBit j = true) := by
    intro l
    induction l with
    | nil => intro h; simp at h
    | cons e l ih =>
      intro h
      simp only [List.foldr_cons] at h
      split at h
      · rename_i hb
        simp only [Nat.testBit_or, Bool.or_eq_true] at h
        rcases h with (h | h) | h
        · obtain ⟨e', he', r⟩ := ih h; exact ⟨e', List.mem_cons_of_mem _ he', r⟩
        · refine ⟨e, List.mem_cons_self .., hb, .inl ?_⟩
          rw [Nat.testBit_two_pow] at h
          simpa using h
        · exact ⟨e, List.mem_cons_self .., hb, .inr h⟩
      · obtain ⟨e', he', r⟩ := ih h; exact ⟨e', List.mem_cons_of_mem _ he', r⟩
  obtain ⟨e, he, r⟩ := key _ h
  exact ⟨e, by simpa using he, r⟩

structure Inv (ops : Array Oper) (listed : Array Bool) : Prop where
  size : listed.size = ops.size
  closed : ∀ j oj, ops[j]? = some oj → listed.getD j false = true → ∀ e ∈ oj.after, Region.binds .any e = true → listed.getD e.on false = true

/-- Whoever must come ahead has been listed. -/
theorem listed_of_mask {A : List Nat} (hok : ∀ i o, ops[i]? = some o → okAt m ops A i o = true) {listed : Array Bool} (inv : Inv ops listed) :
    ∀ (n i : Nat), i ≤ n → ∀ o, ops[i]? = some o → (∀ e ∈ o.after, Region.binds .any e = true → listed.getD e.on false = true) → ∀ j, (A.getD i 0).testBit j = true → listed.getD j false = true := by
  intro n
  induction n with
  | zero =>
    intro i hi o ho hall j hj
    have h := hok i o ho
    simp only [okAt, Bool.and_eq_true, beq_iff_eq, List.all_eq_true, Bool.or_eq_true, decide_eq_true_eq, Bool.not_eq_true'] at h
    obtain ⟨⟨hlt, hm⟩, _⟩ := h
    rw [hm] at hj
    obtain ⟨e, he, hb, r⟩ := maskOf_testBit o hj
    rcases hlt e (by simpa using he) with h' | h'
    · rw [hb] at h'; cases h'
    · omega
  | succ n ih =>
    intro i hi o ho hall j hj
    have h := hok i o ho
    simp only [okAt, Bool.and_eq_true, beq_iff_eq, List.all_eq_true, Bool.or_eq_true, decide_eq_true_eq, Bool.not_eq_true'] at h
    obtain ⟨⟨hlt, hm⟩, _⟩ := h
    rw [hm] at hj
    obtain ⟨e, he, hb, r⟩ := maskOf_testBit o hj
    have hl := hall e he hb
    rcases r with r | r
    · rw [← r]; exact hl
    · rcases hlt e (by simpa using he) with h' | h'
      · rw [hb] at h'; cases h'
      · have hsz : e.on < ops.size := by
          rcases Nat.lt_or_ge e.on ops.size with h'' | h''
          · exact h''
          · have : listed.getD e.on false = false := by simp [Array.getElem?_eq_none (show listed.size ≤ e.on by rw [inv.size]; exact h'')]
            rw [this] at hl; cases hl
        have hoe : ops[e.on]? = some ops[e.on] := by simp [hsz]
        exact ih e.on (by omega) _ hoe (inv.closed e.on _ hoe hl) j r

def unlisted (ops : Array Oper) (listed : Array Bool) : List Nat := (List.range ops.size).filter fun i => !listed.getD i true

theorem getD_ft {listed : Array Bool} {i : Nat} (h : listed.getD i true = false) : listed.getD i false = false := by
  rcases Nat.lt_or_ge i listed.size with h' | h'
  · simp [h'] at h ⊢; exact h
  · simp [Array.getElem?_eq_none h'] at h

theorem tI_wpOp {i : Nat} {a : Act} {w : World} {K K' : Act → World → Prop} {Q : Exit → Act → World → Prop} (hC : C w) (h : ∀ a w, C w → K a w → K' a w) (hh : tI P ops C m i K a w) : wpOp P ops Q i K' a w := by
  unfold tI at hh
  unfold wpOp
  split
  · rename_i ho; simp only [ho] at hh; exact h _ _ hC hh
  · rename_i o ho
    simp only [ho] at hh
    unfold tOp at hh
    split
    · rename_i hw
      simp only [hw, if_true] at hh
      refine .inl ?_
      unfold tDo at hh
      unfold Oper.wp
      split at hh
      · obtain ⟨v, h1, h2⟩ := hh; rw [h1 w hC]; exact h _ _ hC h2
      · obtain ⟨v, h1, h2⟩ := hh; rw [h1]; exact h _ _ hC h2
      · generalize (execOp a.eval o).run P w = r at hh
        cases r with
        | ok n w' =>
          cases n <;> simp only [teUpon] at hh <;> simp only [Oper.upon]
          case value v => exact h _ _ hh.1 hh.2
          case skip => exact h _ _ hh.1 hh.2
          case enter f args => exact hh.mono fun e w'' ⟨v, he, hc, hk⟩ => by subst he; exact h _ _ hc hk
        | halt x w' => simp only [teUpon] at hh
    · rename_i hw; simp only [hw] at hh; exact h _ _ hC hh

theorem wpAny_of_text {A : List Nat} {Q : Exit → Act → World → Prop} (hsel : ∀ (j : Nat) (o : Oper) cs b, ops[j]? = some o → o.op ≠ .select cs b)
    (hok : ∀ i o, ops[i]? = some o → okAt m ops A i o = true) :
    ∀ (fuel : Nat) (listed : Array Bool) (a : Act) (w : World), C w → Inv ops listed → (unlisted ops listed).length = fuel → wpI P ops C m (Q .normal) (unlisted ops listed) a w → wpAny P .any ops Q fuel listed a w := by
  intro fuel
  induction fuel with
  | zero =>
    intro listed a w hC inv hlen h
    have hnil := List.length_eq_zero_iff.1 hlen
    refine ⟨?_, ?_⟩
    · refine List.eq_nil_iff_forall_not_mem.2 fun j hj => ?_
      obtain ⟨h1, o, ho, _⟩ := mem_ready.1 hj
      have hlt : j < ops.size := (Array.getElem?_eq_some_iff.1 ho).1
      have : j ∈ unlisted ops listed := List.mem_filter.2 ⟨List.mem_range.2 hlt, by simp [h1]⟩
      rw [hnil] at this; cases this
    · rw [hnil] at h; exact h
  | succ fuel ih =>
    intro listed a w hC inv hlen h
    refine ⟨fun hr => ?_, fun i hi => ?_⟩
    · -- the first that is not listed may come up
      exfalso
      cases hl : unlisted ops listed with
      | nil => rw [hl] at hlen; cases hlen
      | cons k l =>
        have hk : k ∈ unlisted ops listed := by rw [hl]; exact List.mem_cons_self ..
        obtain ⟨hk1, hk2⟩ := List.mem_filter.1 hk
        have hklt := List.mem_range.1 hk1
        have hko : ops[k]? = some ops[k] := by simp [hklt]
        have hke := hok k _ hko
        simp only [okAt, Bool.and_eq_true, beq_iff_eq, List.all_eq_true, Bool.or_eq_true, decide_eq_true_eq, Bool.not_eq_true'] at hke
        have : k ∈ Region.ready .any ops listed := by
          refine mem_ready.2 ⟨by simpa using hk2, _, hko, fun e he hb => ?_⟩
          rcases hke.1.1 e (by simpa using he) with h' | h'
          · rw [hb] at h'; cases h'
          · -- e.on < k: it is listed, or it would stand ahead of k in the list
            cases hc : listed.getD e.on true with
            | true =>
              have : e.on < listed.size := by rw [inv.size]; omega
              simp [this] at hc ⊢; exact hc
            | false =>
              have hmem : e.on ∈ unlisted ops listed := List.mem_filter.2 ⟨List.mem_range.2 (by omega), by rw [hc]; rfl⟩
              have hs : (unlisted ops listed).Pairwise (· < ·) := List.Pairwise.filter _ List.pairwise_lt_range
              rw [hl] at hs hmem
              rcases List.mem_cons.1 hmem with h'' | h''
              · omega
              · have := (List.pairwise_cons.1 hs).1 _ h''; omega
        rw [hr] at this; cases this
    · obtain ⟨hi1, oi, hoi, hall⟩ := mem_ready.1 hi
      have hilt : i < ops.size := (Array.getElem?_eq_some_iff.1 hoi).1
      have himem : i ∈ unlisted ops listed := List.mem_filter.2 ⟨List.mem_range.2 hilt, by simp [hi1]⟩
      have hs : (unlisted ops listed).Pairwise (· < ·) := List.Pairwise.filter _ List.pairwise_lt_range
      obtain ⟨l1, l2, hl⟩ := List.append_of_mem himem
      have hnd : ∀ x ∈ l1, x < i := by
        rw [hl] at hs
        intro x hx
        exact (List.pairwise_append.1 hs).2.2 x hx i (List.mem_cons_self ..)
      have hnd2 : ∀ x ∈ l2, i < x := by
        rw [hl] at hs
        exact (List.pairwise_cons.1 (List.pairwise_append.1 hs).2.1).1
      have hun : unlisted ops (listed.setIfInBounds i true) = l1 ++ l2 := by
        have e1 : unlisted ops (listed.setIfInBounds i true) = (unlisted ops listed).filter (fun x => x != i) := by
          unfold unlisted
          rw [List.filter_filter]
          refine List.filter_congr fun x hx => ?_
          by_cases hxi : x = i
          · subst hxi
            have : x < listed.size := by rw [inv.size]; exact hilt
            simp [this]
          · rw [getD_set_ne true (Ne.symm hxi)]
            simp [hxi]
        rw [e1, hl, List.filter_append, List.filter_cons]
        simp only [bne_self_eq_false, Bool.false_eq_true, if_false]
        rw [List.filter_eq_self.2 (fun x hx => by have := hnd x hx; simp; omega), List.filter_eq_self.2 (fun x hx => by have := hnd2 x hx; simp; omega)]
      have inv' : Inv ops (listed.setIfInBounds i true) := by
        refine ⟨by simp [inv.size], fun j oj hj hlj e he hb => ?_⟩
        by_cases hij : i = j
        · subst hij
          have : oj = oi := Option.some.inj (hj.symm.trans hoi)
          subst this
          exact getD_set_true (hall e he hb)
        · rw [getD_set_ne false hij] at hlj
          exact getD_set_true (inv.closed j oj hj hlj e he hb)
      rw [hl] at h
      have hfront := front (Q := Q .normal) hsel l2 l1 (fun j hj oj oi' hoj hoi' => by
        have : oi' = oi := Option.some.inj (hoi'.symm.trans hoi)
        subst this
        have h0 := hok i _ hoi
        simp only [okAt, Bool.and_eq_true, beq_iff_eq, List.all_eq_true, Bool.or_eq_true, decide_eq_true_eq, Bool.not_eq_true'] at h0
        rcases h0.2 j (List.mem_range.2 (hnd j hj)) with h' | h'
        · exfalso
          have := listed_of_mask hok inv i i (Nat.le_refl _) _ hoi hall j h'
          have hju : j ∈ unlisted ops listed := by rw [hl]; exact List.mem_append_left _ hj
          have := getD_ft (by simpa using (List.mem_filter.1 hju).2)
          simp_all
        · rw [hoj] at h'; exact h') a w hC h
      refine tI_wpOp hC (fun a' w' hC' h' => ?_) hfront
      refine ih _ a' w' hC' inv' ?_ (by rw [hun]; exact h')
      rw [hun]
      rw [hl] at hlen
      simp only [List.length_append, List.length_cons] at hlen ⊢
      omega

theorem wpI_of_wpT {Q : Act → World → Prop} : ∀ (l : List Oper) (k : Nat), (∀ j, l[j]? = ops[k + j]?) → ∀ (a : Act) (w : World), C w → wpT P ops C m Q l a w → wpI P ops C m Q (List.range' k l.length) a w
  | [], _, _, _, _, _, h => h
  | o :: l, k, hl, a, w, hC, h => by
    have h0 : ops[k]? = some o := by simpa using (hl 0).symm
    have ih := wpI_of_wpT (Q := Q) l (k + 1) (fun j => by have := hl (j + 1); simpa [Nat.add_assoc, Nat.add_comm 1 j] using this)
    simp only [List.length_cons, List.range'_succ, wpI, tI, h0]
    exact tOp_mono hC (fun a w hc => ih a w hc) h

/-- **A region that draws its order, walked in the order of the text.** -/
theorem wp_region_text {id : Nat} {Q : Exit → Act → World → Prop} {a : Act} {w : World} (hm : P.follows .mixedOrders = true) (hB : regionOk m ops = true) (hC : C { w with drawn := w.drawn + 1 })
    (h : wpT P ops C m (Q .normal) ops.toList a { w with drawn := w.drawn + 1 }) : (Code.region id ops true).wp P Q a w := by
  simp only [regionOk, Bool.and_eq_true] at hB
  have hok : ∀ i o, ops[i]? = some o → okAt m ops (anc ops.toList []) i o = true := fun i o ho => by
    have := okFrom_spec ops.toList 0 hB.2 i o (by simpa using ho)
    rwa [Nat.zero_add] at this
  refine wp_region_any hm (wpAny_of_text (Region.noSelect_spec hB.1) hok _ _ a _ hC ⟨by simp, fun j oj _ hl => ?_⟩ ?_ ?_)
  · exfalso
    rcases Nat.lt_or_ge j ops.size with h' | h'
    · simp [h'] at hl
    · simp [h'] at hl
  · have : unlisted ops (Array.replicate ops.size false) = List.range ops.size := by
      refine List.filter_eq_self.2 fun x hx => ?_
      have := List.mem_range.1 hx
      simp [this]
    rw [this]; simp
  · have : unlisted ops (Array.replicate ops.size false) = List.range ops.size := by
      refine List.filter_eq_self.2 fun x hx => ?_
      have := List.mem_range.1 hx
      simp [this]
    rw [this, List.range_eq_range', ← Array.length_toList]
    exact wpI_of_wpT ops.toList 0 (by simp) a _ hC h

/-- A region that draws nothing. -/
theorem wp_region_plain {id : Nat} {Q : Exit → Act → World → Prop} {a : Act} {w : World} (hC : C w) (h : wpT P ops C m (Q .normal) ops.toList a w) : (Code.region id ops false).wp P Q a w := by
  refine wp_region ?_
  have key : ∀ (l : List Nat) (a : Act) (w : World), C w → wpI P ops C m (Q .normal) l a w → wpOps P ops Q l a w := by
    intro l
    induction l with
    | nil => intro a w _ h; exact h
    | cons i l ih =>
      intro a w hC h
      rw [wpOps_cons]
      exact tI_wpOp hC (fun a w hc => ih a w hc) h
  refine key _ _ _ hC ?_
  rw [List.range_eq_range', ← Array.length_toList]
  exact wpI_of_wpT ops.toList 0 (by simp) a _ hC h
end
end Go.Sx
