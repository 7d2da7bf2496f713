/- Some texts put together: lemmas and contracts for the law. Conditions: as each text says. -/
import Derived.Test.YtngicmoadobgpaaDoorU1
import Derived.Below
import Derived.Laws.Build
import Derived.WalkKit
/- Separate pieces of memory ('stars'), and what holds of a machine at a list of things to do ('XS'), of a list of operations ('XO'), of a call ('Tri'). Conditions: none. -/
namespace Go.Sx
open Go Go.RowKit

/-! ### pieces of memory -/
abbrev Hp := Nat → Option Obj
abbrev HProp := Hp → Prop
def Hp.le (a b : Hp) : Prop := ∀ k o, a k = some o → b k = some o
def Hp.disj (a b : Hp) : Prop := ∀ k, a k = none ∨ b k = none
theorem Hp.le_refl (a : Hp) : a.le a := fun _ _ h => h
theorem Hp.le_trans {a b c : Hp} (h : a.le b) (k : b.le c) : a.le c := fun _ _ e => k _ _ (h _ _ e)
theorem Hp.disj_symm {a b : Hp} (h : a.disj b) : b.disj a := fun k => (h k).symm
theorem Hp.disj_le {a b a' b' : Hp} (h : a.disj b) (ha : a'.le a) (hb : b'.le b) : a'.disj b' := fun k => by
  rcases h k with h | h
  · refine .inl ?_
    cases e : a' k with
    | none => rfl
    | some o => rw [ha _ _ e] at h; cases h
  · refine .inr ?_
    cases e : b' k with
    | none => rfl
    | some o => rw [hb _ _ e] at h; cases h

def stars : List HProp → HProp
  | [] => fun _ => True
  | c :: H => fun h => ∃ h1 h2, Hp.disj h1 h2 ∧ Hp.le h1 h ∧ Hp.le h2 h ∧ c h1 ∧ stars H h2

def blk (b : Nat) (o : Obj) : HProp := fun h => h b = some o
def fact (p : Prop) : HProp := fun _ => p

def Ent (H H' : List HProp) : Prop := ∀ h, stars H h → stars H' h
theorem Ent.refl (H : List HProp) : Ent H H := fun _ h => h
theorem Ent.trans {H H' H'' : List HProp} (h : Ent H H') (k : Ent H' H'') : Ent H H'' := fun x y => k x (h x y)

theorem stars_le : ∀ {H : List HProp} {h h' : Hp}, Hp.le h h' → stars H h → stars H h'
  | [], _, _, _, _ => trivial
  | _ :: _, _, _, hl, ⟨h1, h2, d, l1, l2, c, s⟩ => ⟨h1, h2, d, Hp.le_trans l1 hl, Hp.le_trans l2 hl, c, s⟩

theorem Ent.cons (c : HProp) {H H' : List HProp} (h : Ent H H') : Ent (c :: H) (c :: H') := fun _ ⟨h1, h2, d, l1, l2, hc, s⟩ => ⟨h1, h2, d, l1, l2, hc, h _ s⟩

theorem Ent.swap (c d : HProp) (H : List HProp) : Ent (c :: d :: H) (d :: c :: H) := by
  rintro h ⟨h1, h2, dj, l1, l2, hc, h3, h4, dj', l3, l4, hd, s⟩
  refine ⟨h3, fun k => match h1 k with | some o => some o | none => h4 k, ?_, Hp.le_trans l3 l2, ?_, hd, h1, h4, Hp.disj_le dj (Hp.le_refl _) l4, ?_, ?_, hc, s⟩
  · intro k
    rcases dj k with e | e
    · rcases dj' k with e' | e'
      · exact .inl e'
      · right; simp [e, e']
    · left
      cases e3 : h3 k with
      | none => rfl
      | some o => rw [l3 _ _ e3] at e; cases e
  · intro k o hk
    simp only at hk
    cases e1 : h1 k with
    | none => rw [e1] at hk; exact l2 _ _ (l4 _ _ hk)
    | some o' => rw [e1] at hk; exact l1 _ _ (e1.trans hk)
  · intro k o hk; simp [hk]
  · intro k o hk
    rcases dj k with e | e
    · simp [e, hk]
    · rw [l4 _ _ hk] at e; cases e

theorem Ent.perm {H H' : List HProp} (p : H.Perm H') : Ent H H' := by
  induction p with
  | nil => exact Ent.refl _
  | cons c _ ih => exact Ent.cons c ih
  | swap c d H => exact Ent.swap d c H
  | trans _ _ ih1 ih2 => exact ih1.trans ih2

/-- A piece that is of no use any more. -/
theorem Ent.drop (c : HProp) (H : List HProp) : Ent (c :: H) H := fun _ ⟨_, _, _, _, l2, _, s⟩ => stars_le l2 s

theorem Ent.dropAll (H : List HProp) : Ent H [] := fun _ _ => trivial

theorem stars_append {H F : List HProp} : ∀ {h : Hp}, stars (H ++ F) h ↔ stars (stars H :: F) h := by
  induction H with
  | nil =>
    intro h
    constructor
    · intro s; exact ⟨fun _ => none, h, fun _ => .inl rfl, (fun _ _ e => by cases e), Hp.le_refl _, trivial, s⟩
    · rintro ⟨_, h2, _, _, l2, _, s⟩; exact stars_le l2 s
  | cons c H ih =>
    intro h
    constructor
    · rintro ⟨h1, h2, d, l1, l2, hc, s⟩
      obtain ⟨h3, h4, d', l3, l4, sH, sF⟩ := ih.1 s
      refine ⟨fun k => match h1 k with | some o => some o | none => h3 k, h4, ?_, ?_, Hp.le_trans l4 l2, ⟨h1, h3, Hp.disj_le d (Hp.le_refl _) l3, ?_, ?_, hc, sH⟩, sF⟩
      · intro k
        rcases d k with e | e
        · rcases d' k with e' | e'
          · left; simp [e, e']
          · exact .inr e'
        · right
          cases e4 : h4 k with
          | none => rfl
          | some o => rw [l4 _ _ e4] at e; cases e
      · intro k o hk
        simp only at hk
        cases e1 : h1 k with
        | none => rw [e1] at hk; exact l2 _ _ (l3 _ _ hk)
        | some o' => rw [e1] at hk; exact l1 _ _ (e1.trans hk)
      · intro k o hk; simp [hk]
      · intro k o hk
        rcases d k with e | e
        · simp [e, hk]
        · rw [l3 _ _ hk] at e; cases e
    · rintro ⟨h1, h2, d, l1, l2, ⟨h3, h4, d', l3, l4, hc, sH⟩, sF⟩
      have key : stars (stars H :: F) (fun k => match h4 k with | some o => some o | none => h2 k) := by
        refine ⟨h4, h2, Hp.disj_le d l4 (Hp.le_refl _), ?_, ?_, sH, sF⟩
        · intro k o hk; simp [hk]
        · intro k o hk
          rcases d k with e | e
          · have : h4 k = none := by
              cases e4 : h4 k with
              | none => rfl
              | some o => rw [l4 _ _ e4] at e; cases e
            simp [this, hk]
          · rw [hk] at e; cases e
      refine ⟨h3, _, ?_, Hp.le_trans l3 l1, ?_, hc, ih.2 key⟩
      · intro k
        rcases d' k with e | e
        · exact .inl e
        · rcases d k with e' | e'
          · left
            cases e3 : h3 k with
            | none => rfl
            | some o => rw [l3 _ _ e3] at e'; cases e'
          · right; simp [e, e']
      · intro k o hk
        simp only at hk
        cases e4 : h4 k with
        | none => rw [e4] at hk; exact l2 _ _ hk
        | some o' => rw [e4] at hk; exact l1 _ _ (l4 _ _ (e4.trans hk))

/-- A piece that is some pieces together is opened. -/
theorem Ent.open_ {c : HProp} {L F : List HProp} (h : ∀ x, c x → stars L x) : Ent (c :: F) (L ++ F) := fun _ ⟨h1, h2, d, l1, l2, hc, s⟩ => stars_append.2 ⟨h1, h2, d, l1, l2, h _ hc, s⟩
theorem Ent.close {c : HProp} {L F : List HProp} (h : ∀ x, stars L x → c x) : Ent (L ++ F) (c :: F) := fun _ s => by
  obtain ⟨h1, h2, d, l1, l2, hL, sF⟩ := stars_append.1 s
  exact ⟨h1, h2, d, l1, l2, h _ hL, sF⟩

/-! ### a world that holds them -/
structure Rel (w0 : World) (H : List HProp) (w : World) : Prop where
  below : Below w0.heap.size w0 w
  heap : ∃ h, stars H h ∧ ∀ b o, h b = some o → w0.heap.size ≤ b ∧ w.heap[b]? = some o

theorem Rel.ent {w0 w : World} {H H' : List HProp} (h : Rel w0 H w) (e : Ent H H') : Rel w0 H' w := ⟨h.below, let ⟨x, s, g⟩ := h.heap; ⟨x, e _ s, g⟩⟩
theorem Rel.start (w : World) : Rel w [] w := ⟨Below.refl _ _, fun _ => none, trivial, fun _ _ h => by cases h⟩
theorem Rel.drew {w0 w : World} {H : List HProp} (h : Rel w0 H w) : Rel w0 H { w with drawn := w.drawn + 1 } := ⟨h.below.drew, h.heap⟩

theorem Rel.get {w0 w : World} {H : List HProp} {b : Nat} {o : Obj} (h : Rel w0 (blk b o :: H) w) : w.heap[b]? = some o := by
  obtain ⟨x, ⟨h1, h2, d, l1, l2, hc, s⟩, g⟩ := h.heap
  exact (g b o (l1 _ _ hc)).2
theorem Rel.ge {w0 w : World} {H : List HProp} {b : Nat} {o : Obj} (h : Rel w0 (blk b o :: H) w) : w0.heap.size ≤ b := by
  obtain ⟨x, ⟨h1, h2, d, l1, l2, hc, s⟩, g⟩ := h.heap
  exact (g b o (l1 _ _ hc)).1
theorem Rel.pure_ {w0 w : World} {H : List HProp} {p : Prop} (h : Rel w0 (fact p :: H) w) : p := by
  obtain ⟨x, ⟨h1, h2, d, l1, l2, hc, s⟩, g⟩ := h.heap
  exact hc

theorem Rel.alloc {w0 w : World} {H : List HProp} (h : Rel w0 H w) (o : Obj) : Rel w0 (blk w.heap.size o :: H) { w with heap := w.heap.push o } := by
  refine ⟨h.below.alloc h.below.size o, ?_⟩
  obtain ⟨x, s, g⟩ := h.heap
  refine ⟨fun k => if k = w.heap.size then some o else x k, ⟨fun k => if k = w.heap.size then some o else none, x, ?_, ?_, ?_, ?_, s⟩, ?_⟩
  · intro k
    by_cases hk : k = w.heap.size
    · right
      cases e : x k with
      | none => rfl
      | some o' =>
        have := (g _ _ e).2
        rw [hk, Array.getElem?_eq_none (Nat.le_refl _)] at this; cases this
    · left; simp [hk]
  · intro k o' hk
    by_cases e : k = w.heap.size
    · simpa [e] using hk
    · simp [e] at hk
  · intro k o' hk
    have hne : k ≠ w.heap.size := fun e => by
      have := (g _ _ hk).2
      rw [e, Array.getElem?_eq_none (Nat.le_refl _)] at this; cases this
    simp [hne, hk]
  · simp [blk]
  · intro b o' hb
    by_cases e : b = w.heap.size
    · subst e
      simp at hb; subst hb
      exact ⟨h.below.size, by simp⟩
    · simp [e] at hb
      obtain ⟨g1, g2⟩ := g _ _ hb
      refine ⟨g1, ?_⟩
      have hlt : b < w.heap.size := by
        rcases Nat.lt_or_ge b w.heap.size with h' | h'
        · exact h'
        · rw [Array.getElem?_eq_none h'] at g2; cases g2
      show (w.heap.push o)[b]? = _
      rw [Array.getElem?_push, if_neg e]; exact g2

theorem Rel.set {w0 w w' : World} {H : List HProp} {b : Nat} {o o' : Obj} (h : Rel w0 (blk b o :: H) w) (hos : w'.os = w.os) (ht : w'.tape = w.tape) (hout : w'.output = w.output)
    (hsz : w'.heap.size = w.heap.size) (hb : w'.heap[b]? = some o') (hne : ∀ k, k ≠ b → w'.heap[k]? = w.heap[k]?) : Rel w0 (blk b o' :: H) w' := by
  have hge := h.ge
  obtain ⟨x, ⟨h1, h2, d, l1, l2, hc, s⟩, g⟩ := h.heap
  refine ⟨⟨hos.trans h.below.os, ht.trans h.below.tape, hout.trans h.below.output, by rw [hsz]; exact h.below.size, fun k hk => by rw [hne k (by omega)]; exact h.below.block k hk⟩, ?_⟩
  have hc' : h1 b = some o := hc
  refine ⟨fun k => if k = b then some o' else x k, ⟨fun k => if k = b then some o' else none, h2, ?_, ?_, ?_, by simp [blk], s⟩, ?_⟩
  · intro k
    by_cases e : k = b
    · right
      rcases d k with e' | e'
      · rw [e, hc'] at e'; cases e'
      · exact e'
    · left; simp [e]
  · intro k o'' hk
    by_cases e : k = b
    · simpa [e] using hk
    · simp [e] at hk
  · intro k o'' hk
    have : k ≠ b := fun e => by
      rcases d k with e' | e'
      · rw [e, hc'] at e'; cases e'
      · rw [hk] at e'; cases e'
    simp [this, l2 _ _ hk]
  · intro k o'' hk
    by_cases e : k = b
    · subst e; simp at hk; subst hk; exact ⟨hge, hb⟩
    · simp [e] at hk
      obtain ⟨g1, g2⟩ := g _ _ hk
      exact ⟨g1, by rw [hne k e]; exact g2⟩

theorem Rel.setCell {w0 w : World} {H : List HProp} {b : Nat} {cs : Array Value} {T : TypeId} {fz : Nat × Nat} (h : Rel w0 (blk b (.cells cs T fz) :: H) w) (off : Nat) (v : Value) :
    Rel w0 (blk b (.cells (cs.setIfInBounds off v) T fz) :: H) (w.setCell ⟨b, off, none⟩ v) := by
  have hg := h.get
  refine h.set rfl rfl rfl (by simp [World.setCell]) ?_ (fun k hk => ?_)
  · simp only [World.setCell, Array.getElem?_modify, if_true, hg]; rfl
  · simp only [World.setCell, Array.getElem?_modify]
    rw [if_neg (Ne.symm hk)]

theorem Rel.later {w0 w w' : World} {H : List HProp} (h : Rel w0 H w) (hb : Below w.heap.size w w') : Rel w0 H w' := by
  obtain ⟨x, s, g⟩ := h.heap
  refine ⟨h.below.trans (hb.mono h.below.size), x, s, fun b o hbo => ?_⟩
  obtain ⟨g1, g2⟩ := g b o hbo
  have hlt : b < w.heap.size := (Array.getElem?_eq_some_iff.1 g2).1
  exact ⟨g1, (hb.block b hlt).trans g2⟩

/-! ### the frame's slots -/
abbrev Env := Nat → Value
def Env.upd (e : Env) (i : Nat) (v : Value) : Env := fun j => if j = i then v else e j
def Env.act (e : Env) (n : Nat) : Act := ⟨((List.range n).map e).toArray, []⟩
def Env.ev (e : Env) (n : Nat) : Operand → Value
  | .tmp t => if t < n then e t else undef
  | .const v => v
  | .global g => .pointer (some ⟨g, 0, none⟩)
  | .func f => .func (.func f) #[] #[]
def Env.put (e : Env) (d : Option Tmp) (v : Value) : Env := match d with | some d => e.upd d v | none => e

theorem Env.act_eval (e : Env) (n : Nat) : (e.act n).eval = e.ev n := by
  funext x
  cases x with
  | tmp t =>
    simp only [Act.eval, Env.act, Env.ev]
    by_cases h : t < n
    · simp [h]
    · simp [h]
  | _ => rfl

theorem Env.act_put (e : Env) (n : Nat) (d : Option Tmp) (v : Value) : (e.act n).put d v = (e.put d v).act n := by
  cases d with
  | none => rfl
  | some d =>
    simp only [Act.put, Env.put, Env.act]
    congr 1
    refine Array.ext_getElem? fun i => ?_
    rw [Array.getElem?_setIfInBounds]
    by_cases h : d = i
    · subst h
      by_cases hn : d < n
      · simp [hn, Env.upd]
      · simp [hn]
    · by_cases hn : i < n
      · simp [h, hn, Env.upd, Ne.symm h]
      · simp [h, hn]

theorem Env.upd_self (e : Env) (i : Nat) (v : Value) (h : e i = v) : e.upd i v = e := by
  funext j
  simp only [Env.upd]
  split
  · rename_i hj; rw [hj, h]
  · rfl

/-! ### what holds of a list of things to do -/
section
variable {P : Program} {T : Tbl} {w0 : World}

structure XS (P : Program) (w0 : World) (b : Frame) (n : Nat) (R : Value → List HProp → Prop) (todo : List Item) (e : Env) (H : List HProp) : Prop where
  run : ∀ cs w, Rel w0 H w → ∃ v w' fr H', R v H' ∧ Rel w0 H' w' ∧ Steps P (lone (b.at (e.act n) todo) cs w) (lone fr cs w') ∧ fr.fn = b.fn ∧ fr.leaving P w' (.returned v)

structure Tri (P : Program) (f : FuncId) (args : Array Value) (w0 : World) (H : List HProp) (R : Value → List HProp → Prop) : Prop where
  run : ∀ w, Rel w0 H w → Calls P f args w fun x w' => ∃ v H', x = .returned v ∧ Rel w0 H' w' ∧ R v H'

theorem Tri.ent {f : FuncId} {args : Array Value} {H H' : List HProp} {R : Value → List HProp → Prop} (e : Ent H H') (h : Tri P f args w0 H' R) : Tri P f args w0 H R := ⟨fun w hr => h.run w (hr.ent e)⟩
theorem Tri.mono {f : FuncId} {args : Array Value} {H : List HProp} {R R' : Value → List HProp → Prop} (h : Tri P f args w0 H R) (k : ∀ v H', R v H' → R' v H') : Tri P f args w0 H R' :=
  ⟨fun w hr => (h.run w hr).mono fun _ _ ⟨v, H', he, hrel, hR⟩ => ⟨v, H', he, hrel, k _ _ hR⟩⟩
/-- A piece is opened: what it holds may be any. -/
theorem Tri.ex {ι : Sort _} {f : FuncId} {args : Array Value} {H : List HProp} {H' : ι → List HProp} {R : Value → List HProp → Prop} (e : ∀ w, Rel w0 H w → ∃ x, Rel w0 (H' x) w) (h : ∀ x, Tri P f args w0 (H' x) R) : Tri P f args w0 H R :=
  ⟨fun w hr => let ⟨x, hx⟩ := e w hr; (h x).run w hx⟩
theorem Tri.pure_ {p : Prop} {f : FuncId} {args : Array Value} {H : List HProp} {R : Value → List HProp → Prop} (e : ∀ w, Rel w0 H w → p) (h : p → Tri P f args w0 H R) : Tri P f args w0 H R :=
  ⟨fun w hr => (h (e w hr)).run w hr⟩

section
variable {b : Frame} {n : Nat} {R : Value → List HProp → Prop} {k : List Item} {e : Env} {H : List HProp}

theorem XS.ent {H' : List HProp} (x : Ent H H') (h : XS P w0 b n R k e H') : XS P w0 b n R k e H := ⟨fun cs w hr => h.run cs w (hr.ent x)⟩
theorem XS.ex {ι : Sort _} {H' : ι → List HProp} (x : ∀ w, Rel w0 H w → ∃ x, Rel w0 (H' x) w) (h : ∀ x, XS P w0 b n R k e (H' x)) : XS P w0 b n R k e H :=
  ⟨fun cs w hr => let ⟨y, hy⟩ := x w hr; (h y).run cs w hy⟩
theorem XS.pure_ {p : Prop} (x : ∀ w, Rel w0 H w → p) (h : p → XS P w0 b n R k e H) : XS P w0 b n R k e H := ⟨fun cs w hr => (h (x w hr)).run cs w hr⟩

theorem XS.step {k' : List Item} (hs : ∀ cs w, step P (lone (b.at (e.act n) k) cs w) = .next (lone (b.at (e.act n) k') cs w)) (h : XS P w0 b n R k' e H) : XS P w0 b n R k e H := ⟨fun cs w hr =>
  let ⟨v, w', fr, H', hR, hr', hst, r⟩ := h.run cs w hr; ⟨v, w', fr, H', hR, hr', .head (hs cs w) hst, r⟩⟩

theorem XS.seq {x y : Code} (h : XS P w0 b n R (.code x :: .code y :: k) e H) : XS P w0 b n R (.code (.seq x y) :: k) e H := .step (fun _ _ => step_seq) h
theorem XS.skip (h : XS P w0 b n R k e H) : XS P w0 b n R (.code .skip :: k) e H := .step (fun _ _ => step_skip) h
theorem XS.label {l : Nat} (h : XS P w0 b n R k e H) : XS P w0 b n R (.code (.label l) :: k) e H := .step (fun _ _ => step_label) h
theorem XS.block {id : Nat} {c : Code} (h : XS P w0 b n R (.code c :: .inBlock id :: k) e H) : XS P w0 b n R (.code (.block id c) :: k) e H := .step (fun _ _ => step_block) h
theorem XS.inBlock {id : Nat} (h : XS P w0 b n R k e H) : XS P w0 b n R (.inBlock id :: k) e H := .step (fun _ _ => step_inBlock) h
theorem XS.exit {id : Nat} {k' : List Item} (he : exitTo id k = some k') (h : XS P w0 b n R k' e H) : XS P w0 b n R (.code (.exit id) :: k) e H := .step (fun _ _ => step_exit he) h
theorem XS.loop {c : Code} (h : XS P w0 b n R (.code c :: .inLoop c :: k) e H) : XS P w0 b n R (.code (.loop c) :: k) e H := .step (fun _ _ => step_loop) h
theorem XS.inLoop {c : Code} (h : XS P w0 b n R (.code c :: .inLoop c :: k) e H) : XS P w0 b n R (.inLoop c :: k) e H := .step (fun _ _ => step_inLoop) h
theorem XS.cond {c : Operand} {x y : Code} {t : Bool} (hc : e.ev n c = .bool t) (h1 : t = true → XS P w0 b n R (.code x :: k) e H) (h2 : t = false → XS P w0 b n R (.code y :: k) e H) :
    XS P w0 b n R (.code (.cond c x y) :: k) e H := by
  cases t with
  | true => exact .step (fun _ _ => step_cond (t := true) (by rw [Env.act_eval]; exact hc)) (h1 rfl)
  | false => exact .step (fun _ _ => step_cond (t := false) (by rw [Env.act_eval]; exact hc)) (h2 rfl)
theorem XS.condT {c : Operand} {x y : Code} (hc : e.ev n c = .bool true) (h1 : XS P w0 b n R (.code x :: k) e H) : XS P w0 b n R (.code (.cond c x y) :: k) e H := .cond hc (fun _ => h1) (fun h => by cases h)
theorem XS.condF {c : Operand} {x y : Code} (hc : e.ev n c = .bool false) (h1 : XS P w0 b n R (.code y :: k) e H) : XS P w0 b n R (.code (.cond c x y) :: k) e H := .cond hc (fun h => by cases h) (fun _ => h1)

/-- The end, by a 'return' or by the last brace: the results, none of which lies in memory. -/
theorem XS.ret {fn : Func} {H' : List HProp} {v : Value} (hf : P.funcs[b.fn]? = some fn) (hk : b.kind = .normal) (hr : ∀ w, (results fn (e.act n).tmps).run P w = .ok v w) (x : Ent H H') (h : R v H') :
    XS P w0 b n R (.code .ret :: k) e H := ⟨fun _ w hrel =>
  ⟨v, w, _, H', h, hrel.ent x, .one step_ret, rfl, rfl, rfl, hk, fn, hf, hr w⟩⟩
theorem XS.nil {fn : Func} {H' : List HProp} {v : Value} (hf : P.funcs[b.fn]? = some fn) (hk : b.kind = .normal) (hr : ∀ w, (results fn (e.act n).tmps).run P w = .ok v w) (x : Ent H H') (h : R v H') :
    XS P w0 b n R [] e H := ⟨fun _ w hrel =>
  ⟨v, w, _, H', h, hrel.ent x, .one step_end, rfl, rfl, rfl, hk, fn, hf, hr w⟩⟩

/-! ### operations -/
/-- Cells that are held while a region is carried out in whatever order. -/
def Keeps (w0 : World) (H : List HProp) : List Fact → Prop
  | [] => True
  | p :: L => (∀ w, Rel w0 H w → p w) ∧ Keeps w0 H L
theorem Keeps.holds {H : List HProp} {w : World} (hr : Rel w0 H w) : ∀ {L : List Fact}, Keeps w0 H L → holds w L
  | [], _ => fun _ h => by cases h
  | p :: L, ⟨h1, h2⟩ => fun q hq => by
      rcases List.mem_cons.1 hq with rfl | hq
      · exact fun w' hb => h1 w' (hr.later hb)
      · exact Keeps.holds hr h2 q hq

structure XO (P : Program) (T : Tbl) (w0 : World) (n : Nat) (HL : Held) (ops : Array Oper) (J : Env → List HProp → Prop) (ix : Nat) (rest : List Oper) (e : Env) (H : List HProp) : Prop where
  run : ∀ w, Rel w0 H w → wpT P T ops HL (fun a w' => ∃ e' H', a = e'.act n ∧ Rel w0 H' w' ∧ J e' H') ix rest (e.act n) w

theorem XS.of_wp {c : Code} (h : ∀ w, Rel w0 H w → c.wp P (fun x a w' => match x with | .normal => ∃ e' H', a = e'.act n ∧ Rel w0 H' w' ∧ XS P w0 b n R k e' H' | _ => False) (e.act n) w) : XS P w0 b n R (.code c :: k) e H := by
  constructor
  intro cs w hr
  obtain ⟨x, a, w', hq, harr⟩ := h w hr b k cs
  cases x <;> try exact hq.elim
  obtain ⟨e', H', rfl, hr', hx⟩ := hq
  obtain ⟨v, w2, fr, H2, hR, hr2, hst, r⟩ := hx.run cs w' hr'
  exact ⟨v, w2, fr, H2, hR, hr2, Steps.trans harr hst, r⟩

theorem XS.region {id : Nat} {l : List Oper} (h : XO P T w0 n [] l.toArray (XS P w0 b n R k) 0 l e H) : XS P w0 b n R (.code (.region id l.toArray false) :: k) e H :=
  .of_wp fun w hr => wp_region_plain (T := T) (HL := []) (by simpa using h.run w hr)
theorem XS.draw {id : Nat} {l : List Oper} (hm : P.follows .mixedOrders = true) (hB : regionOk T [] l.toArray = true) (h : XO P T w0 n [] l.toArray (XS P w0 b n R k) 0 l e H) : XS P w0 b n R (.code (.region id l.toArray true) :: k) e H :=
  .of_wp fun w hr => wp_region_text (T := T) (HL := []) hm hB (by simpa using h.run _ hr.drew)
/-- A region in which cells are held. -/
theorem XS.drawH {id : Nat} {l : List Oper} (HL : Held) (sk : List (Nat × List Nat)) (hsk : skel HL = sk) (hm : P.follows .mixedOrders = true) (hB : regionOk T sk l.toArray = true) (h : XO P T w0 n HL l.toArray (XS P w0 b n R k) 0 l e H) : XS P w0 b n R (.code (.region id l.toArray true) :: k) e H :=
  .of_wp fun w hr => wp_region_text (T := T) (HL := HL) hm (by rw [hsk]; exact hB) (by simpa using h.run _ hr.drew)

variable {HL : Held} {ops : Array Oper} {J : Env → List HProp → Prop} {ix : Nat} {rest : List Oper} {o : Oper}

theorem XO.nil (h : J e H) : XO P T w0 n HL ops J ix [] e H := ⟨fun _ hr => ⟨e, H, rfl, hr, h⟩⟩
theorem XO.ent {l : List Oper} {H' : List HProp} (x : Ent H H') (h : XO P T w0 n HL ops J ix l e H') : XO P T w0 n HL ops J ix l e H := ⟨fun w hr => h.run w (hr.ent x)⟩
theorem XO.ex {ι : Sort _} {l : List Oper} {H' : ι → List HProp} (x : ∀ w, Rel w0 H w → ∃ x, Rel w0 (H' x) w) (h : ∀ x, XO P T w0 n HL ops J ix l e (H' x)) : XO P T w0 n HL ops J ix l e H :=
  ⟨fun w hr => let ⟨y, hy⟩ := x w hr; (h y).run w hy⟩
theorem XO.pure_ {p : Prop} {l : List Oper} (x : ∀ w, Rel w0 H w → p) (h : p → XO P T w0 n HL ops J ix l e H) : XO P T w0 n HL ops J ix l e H := ⟨fun w hr => (h (x w hr)).run w hr⟩

/-- Whether an operation is carried out. -/
def wantedE (ops : Array Oper) (e : Env) (n : Nat) (o : Oper) : Bool :=
  match o.guard with
  | none => true
  | some (j, want) => match (ops[j]?).bind (·.dst) with
    | some d => if d < n then (match e d with | .bool t => t == want | _ => false) else false
    | none => false

theorem wantedE_eq (ops : Array Oper) (e : Env) (n : Nat) (o : Oper) : Region.wanted o (yielded ops (e.act n).tmps) = wantedE ops e n o := by
  unfold Region.wanted wantedE
  cases o.guard with
  | none => rfl
  | some g =>
    obtain ⟨j, want⟩ := g
    simp only [yielded]
    cases hd : (ops[j]?).bind (·.dst) with
    | none => simp
    | some d =>
      simp only [Option.bind_some, Env.act]
      by_cases h : d < n
      · simp only [h, if_true]
        simp [h]
        cases e d <;> simp
      · simp [h]

theorem XO.skip (hg : wantedE ops e n o = false) (h : XO P T w0 n HL ops J (ix + 1) rest (e.put o.dst undef) H) : XO P T w0 n HL ops J ix (o :: rest) e H := by
  constructor
  intro w hr
  simp only [wpT, tOp, wantedE_eq, hg, Bool.false_eq_true, if_false, Env.act_put]
  exact h.run w hr

theorem XO.pureOp {v : Value} (hg : wantedE ops e n o = true) (hc : cls T o.op = .pure) (hv : ∀ w, (execOp (e.ev n) o).run P w = .ok (.value v) w) (h : XO P T w0 n HL ops J (ix + 1) rest (e.put o.dst v) H) : XO P T w0 n HL ops J ix (o :: rest) e H := by
  constructor
  intro w hr
  simp only [wpT, tOp, wantedE_eq, hg, if_true, tDo, hc, Env.act_eval]
  exact ⟨v, hv, by rw [Env.act_put]; exact h.run w hr⟩

/-- An operation that yields one value whatever the world. -/
theorem XO.valOp {v : Value} (hh : heldAt HL ix = none) (hg : wantedE ops e n o = true) (hc : cls T o.op ≠ .eff) (hv : ∀ w, (execOp (e.ev n) o).run P w = .ok (.value v) w) (h : XO P T w0 n HL ops J (ix + 1) rest (e.put o.dst v) H) : XO P T w0 n HL ops J ix (o :: rest) e H := by
  constructor
  intro w hr
  simp only [wpT, tOp, wantedE_eq, hg, if_true, tDo, Env.act_eval]
  split
  · exact ⟨v, hv, by rw [Env.act_put]; exact h.run w hr⟩
  · exact ⟨v, hv w, fun p hp => (by rw [hh] at hp; cases hp), fun p hp => (by rw [hh] at hp; cases hp), fun w' _ => hv w', by rw [Env.act_put]; exact h.run w hr⟩
  · rename_i hm; exact absurd hm hc

theorem XO.readOp {v : Value} (hh : heldAt HL ix = none) (hg : wantedE ops e n o = true) (hc : cls T o.op = .read) (hv : ∀ w, Rel w0 H w → (execOp (e.ev n) o).run P w = .ok (.value v) w) (h : XO P T w0 n HL ops J (ix + 1) rest (e.put o.dst v) H) : XO P T w0 n HL ops J ix (o :: rest) e H := by
  constructor
  intro w hr
  simp only [wpT, tOp, wantedE_eq, hg, if_true, tDo, hc, Env.act_eval]
  exact ⟨v, hv w hr, fun p hp => (by rw [hh] at hp; cases hp), fun p hp => (by rw [hh] at hp; cases hp), fun w' hb => hv w' (hr.later hb), by rw [Env.act_put]; exact h.run w hr⟩

theorem XO.holdOp {v : Value} {p : Fact} (hh : heldAt HL ix = some p) (hg : wantedE ops e n o = true) (hc : cls T o.op = .read) (hv : ∀ w, p w → (execOp (e.ev n) o).run P w = .ok (.value v) w) (hp : ∀ w, Rel w0 H w → p w)
    (h : XO P T w0 n HL ops J (ix + 1) rest (e.put o.dst v) H) : XO P T w0 n HL ops J ix (o :: rest) e H := by
  constructor
  intro w hr
  simp only [wpT, tOp, wantedE_eq, hg, if_true, tDo, hc, Env.act_eval]
  refine ⟨v, hv w (hp w hr), fun q hq w' hw' => ?_, fun q hq => ?_, fun w' hb => hv w' (hp w' (hr.later hb)), by rw [Env.act_put]; exact h.run w hr⟩
  · rw [hh] at hq; injection hq with hq; subst hq; exact hv w' hw'
  · rw [hh] at hq; injection hq with hq; subst hq; exact fun w' hb => hp w' (hr.later hb)

/-- An operation that acts. -/
theorem XO.effOp (hk : Keeps w0 H (keptBy HL ix)) (hg : wantedE ops e n o = true) (hc : cls T o.op = .eff)
    (hv : ∀ w, Rel w0 H w → ∃ v w' H', ((execOp (e.ev n) o).run P w = .ok (.value v) w' ∨ ((execOp (e.ev n) o).run P w = .ok .skip w' ∧ v = undef)) ∧ Rel w0 H' w' ∧ Keeps w0 H' (keptBy HL ix) ∧ XO P T w0 n HL ops J (ix + 1) rest (e.put o.dst v) H') : XO P T w0 n HL ops J ix (o :: rest) e H := by
  constructor
  intro w hr
  simp only [wpT, tOp, wantedE_eq, hg, if_true, tDo, hc, Env.act_eval]
  refine ⟨hk.holds hr, ?_⟩
  obtain ⟨v, w', H', hrun, hr', hk', hx⟩ := hv w hr
  rcases hrun with hrun | ⟨hrun, rfl⟩
  · rw [hrun]
    simp only [teUpon, Env.act_put]
    exact ⟨hk'.holds hr', hx.run w' hr'⟩
  · rw [hrun]
    simp only [teUpon, Env.act_put]
    exact ⟨hk'.holds hr', hx.run w' hr'⟩

/-- A call of a function of the program. -/
theorem XO.call {f : FuncId} {args : Array Value} (hk : Keeps w0 H (keptBy HL ix)) (hg : wantedE ops e n o = true) (hc : cls T o.op = .eff) (hrun : ∀ w, (execOp (e.ev n) o).run P w = .ok (.enter f args) w)
    (h : Tri P f args w0 H fun v H' => Keeps w0 H' (keptBy HL ix) ∧ XO P T w0 n HL ops J (ix + 1) rest (e.put o.dst v) H') : XO P T w0 n HL ops J ix (o :: rest) e H := by
  constructor
  intro w hr
  simp only [wpT, tOp, wantedE_eq, hg, if_true, tDo, hc, Env.act_eval]
  refine ⟨hk.holds hr, ?_⟩
  rw [hrun w]
  simp only [teUpon]
  refine (h.run w hr).mono fun x w' ⟨v, H', he, hr', hk', hx⟩ => ⟨v, he, hk'.holds hr', ?_⟩
  rw [Env.act_put]
  exact hx.run w' hr'
end

/-- The frame of a call; its slots when it begins. -/
def frm (f : FuncId) : Frame := { (default : Frame) with fn := f, kind := .normal }
def env : List Value → Env
  | [], _ => undef
  | v :: _, 0 => v
  | _ :: l, i + 1 => env l i
theorem env_eq : ∀ (l : List Value) (i : Nat), env l i = l.getD i undef
  | [], _ => rfl
  | _ :: _, 0 => rfl
  | _ :: l, i + 1 => by simp [env, env_eq l i]
/-- A function's body. -/
theorem Tri.enter {f : FuncId} {args : Array Value} {fn : Func} {c : Code} {H : List HProp} {R : Value → List HProp → Prop} {n : Nat} (hf : P.funcs[f]? = some fn) (hb : fn.body = some c) (hn : fn.ntmps = n) (hle : Nat.ble args.size n = true)
    (h : XS P w0 (frm f) n R [.code c] (env args.toList) H) : Tri P f args w0 H R := by
  constructor
  have hle := Nat.le_of_ble_eq_true hle
  intro w hr cs
  have henter : Frame.enter P f args .normal = (frm f).at (Env.act (env args.toList) n) [.code c] := by
    simp only [Frame.enter, Frame.at, frm, hf, hb, Env.act, Option.map_some, Option.bind_some, Option.getD_some, hn]
    congr 1
    refine Array.ext_getElem? fun i => ?_
    by_cases h1 : i < args.size
    · have : i < n := by omega
      simp [Array.getElem?_append, h1, this, env_eq]
    · by_cases h2 : i < n
      · have : i - args.size < n - args.size := by omega
        simp [Array.getElem?_append, h1, h2, this, env_eq]
      · have : ¬ i - args.size < n - args.size := by omega
        simp [Array.getElem?_append, h1, h2, this]
  obtain ⟨v, w', fr, H', hR, hr', hst, hfn, hlv⟩ := h.run cs w hr
  exact ⟨.returned v, w', fr, ⟨v, H', rfl, hr', hR⟩, by rw [henter]; exact hst, hfn, hlv⟩

/-- The end of it all. -/
theorem Tri.calls {f : FuncId} {args : Array Value} {w : World} {R : Value → List HProp → Prop} (h : Tri P f args w [] R) : Calls P f args w fun x w' => ∃ v H', x = .returned v ∧ R v H' ∧ Below w.heap.size w w' :=
  (h.run w (Rel.start w)).mono fun _ _ ⟨v, H', he, hr, hR⟩ => ⟨v, H', he, hR, hr.below⟩
/-- A contract of the library's. -/
theorem Tri.of_calls {f : FuncId} {args : Array Value} {H : List HProp} {R : Value → List HProp → Prop} (h : ∀ w, Rel w0 H w → Calls P f args w fun x w' => ∃ v H', x = .returned v ∧ Rel w0 H' w' ∧ R v H') : Tri P f args w0 H R := ⟨h⟩
end
end Go.Sx

/- What an operation that hangs on no memory comes to, by a function ('pev'). Conditions: the table 'T' fits the program. -/
namespace Go.Sx
open Go Go.RowKit

structure Tbl.Ok (P : Program) (T : Tbl) : Prop where
  und : ∀ t d, T.und t = some d → P.underlying t = some d
  size : ∀ t s, T.size t = some s → ∃ i, P.info? t = some i ∧ i.size = s
  bytes : ∀ t s, T.bytes t = some s → ∃ i, P.info? t = some i ∧ i.bytes = s
  zero : ∀ t z, T.zero t = some z → ∃ i, P.info? t = some i ∧ i.zero = some z
  off : ∀ t f k, T.off t f = some k → ∃ fs fd i, P.underlying t = some (.struct fs) ∧ fs[f]? = some fd ∧ fd.offset = k ∧ P.info? fd.type = some i ∧ i.size ≠ 0

def binI (op : BinOp) (k : IntKind) (a b : Int) : Option Value :=
  match op with
  | .add => some (.int k (k.wrap (a + b)))
  | .sub => some (.int k (k.wrap (a - b)))
  | .mul => some (.int k (k.wrap (a * b)))
  | .and => some (.int k (k.wrap ((BitVec.ofInt k.bits a &&& BitVec.ofInt k.bits b).toNat)))
  | .or => some (.int k (k.wrap ((BitVec.ofInt k.bits a ||| BitVec.ofInt k.bits b).toNat)))
  | .xor => some (.int k (k.wrap ((BitVec.ofInt k.bits a ^^^ BitVec.ofInt k.bits b).toNat)))
  | .andNot => some (.int k (k.wrap ((BitVec.ofInt k.bits a &&& ~~~BitVec.ofInt k.bits b).toNat)))
  | .eql => some (.bool (a == b))
  | .neq => some (.bool (a != b))
  | .lss => some (.bool (a < b))
  | .leq => some (.bool (a ≤ b))
  | .gtr => some (.bool (a > b))
  | .geq => some (.bool (a ≥ b))
  | _ => none

def binS (op : BinOp) (x y : ByteArray) : Option Value :=
  match op with
  | .eql => some (.bool (x.toList == y.toList))
  | .neq => some (.bool (!(x.toList == y.toList)))
  | .lss => some (.bool (Op.bytesLess x.toList y.toList))
  | .leq => some (.bool (Op.bytesLess x.toList y.toList || x.toList == y.toList))
  | .gtr => some (.bool (!(Op.bytesLess x.toList y.toList || x.toList == y.toList)))
  | .geq => some (.bool (!Op.bytesLess x.toList y.toList))
  | _ => none

/-- '==' where it reads no memory. -/
def eqv (T : Tbl) (t : TypeId) (x y : Value) : Option Bool :=
  match x, y with
  | .bool a, .bool b => match T.und t with | some .bool => some (a == b) | _ => none
  | .pointer none, .pointer b => match T.und t with | some (.pointer _) => some b.isNone | _ => none
  | .pointer (some _), .pointer none => match T.und t with | some (.pointer _) => some false | _ => none
  | .slice none _ _, .slice b _ _ => match T.und t with | some (.slice _) => some b.isNone | _ => none
  | .slice (some _) _ _, .slice none _ _ => match T.und t with | some (.slice _) => some false | _ => none
  | .map none, .map b => match T.und t with | some (.map _ _) => some b.isNone | _ => none
  | .map (some _), .map none => match T.und t with | some (.map _ _) => some false | _ => none
  | _, _ => none

def shf (op : BinOp) (k : IntKind) (a : Int) (m : Nat) : Option Value :=
  match op with
  | .shl => some (.int k (k.wrap (a * 2 ^ min m k.bits)))
  | .shr => some (.int k (a.fdiv (2 ^ min m k.bits)))
  | _ => none

def sameKind : IntKind → IntKind → Bool
  | .i8, .i8 | .i16, .i16 | .i32, .i32 | .i64, .i64 | .u8, .u8 | .u16, .u16 | .u32, .u32 | .u64, .u64 => true
  | _, _ => false
theorem sameKind_eq {k k' : IntKind} (h : sameKind k k' = true) : k = k' := by cases k <;> cases k' <;> first | rfl | cases h

def isShift : BinOp → Bool
  | .shl | .shr => true
  | _ => false

def binV (T : Tbl) (op : BinOp) (t : TypeId) (x y : Value) : Option Value :=
  match x, y with
  | .int k a, .int k' b => bif isShift op then (match b with | .ofNat m => shf op k a m | _ => none) else bif sameKind k k' then binI op k a b else none
  | .string a, .string b => binS op a b
  | x, y => match op with
    | .eql => (eqv T t x y).map .bool
    | .neq => (eqv T t x y).map fun b => .bool !b
    | _ => none

def partT (T : Tbl) (t : TypeId) (cs : Array Value) (off : Nat) : Option Value :=
  match T.und t with
  | some (.struct _) | some (.array _ _) => (T.size t).map fun s => .agg (cs.extract off (off + s))
  | some _ => cs[off]?
  | none => none

/-- The same value, its head in sight. -/
def Hd (v : Value) : Option Value :=
  match v with
  | .bool b => some (.bool b)
  | .int k n => some (.int k n)
  | .float k n => some (.float k n)
  | .complex k a b => some (.complex k a b)
  | .string s => some (.string s)
  | .pointer a => some (.pointer a)
  | .slice a l c => some (.slice a l c)
  | .map r => some (.map r)
  | .chan r => some (.chan r)
  | .func f a b => some (.func f a b)
  | .nilFunc => some .nilFunc
  | .iface t v => some (.iface t v)
  | .nilIface => some .nilIface
  | .agg cs => some (.agg cs)
  | .tuple vs => some (.tuple vs)
theorem Hd_eq (v : Value) : Hd v = some v := by cases v <;> rfl

def pev (T : Tbl) (ev : Operand → Value) : Op → Option Value
  | .move x => Hd (ev x)
  | .assign x => Hd (ev x)
  | .pick c a b => match ev c with | .bool true => Hd (ev a) | .bool false => Hd (ev b) | _ => none
  | .nilCheck x => match ev x with
    | .pointer (some a) => some (.pointer (some a))
    | .func (.func f) a b => some (.func (.func f) a b)
    | _ => none
  | .binOp op t x y _ => binV T op t (ev x) (ev y)
  | .unOp op _ x => match op, ev x with
    | .not, .bool b => some (.bool !b)
    | .neg, .int k n => some (.int k (k.wrap (0 - n)))
    | _, _ => none
  | .convert src dst x => match T.und src, T.und dst, ev x with
    | some (.int _), some (.int k), .int _ n => some (.int k (k.wrap n))
    | some .string, some .string, .string s => some (.string s)
    | _, _, _ => none
  | .fieldAddr s x f => match T.off s f, ev x with
    | some k, .pointer (some ⟨b, off, none⟩) => some (.pointer (some ⟨b, off + k, none⟩))
    | _, _ => none
  | .field t x f => match T.und t, ev x with
    | some (.struct fs), .agg cs => match fs[f]? with
      | some fd => partT T fd.type cs fd.offset
      | none => none
    | _, _ => none
  | .extract x i => match ev x with | .tuple vs => (vs.toList[i]?).bind Hd | _ => none
  | .makeFunc fn first captured => some (.func fn ⟨first.toList.map ev⟩ ⟨captured.toList.map ev⟩)
  | .makeInterface t x => match T.und t with
    | some (.interface _) => none
    | some _ => some (.iface t (ev x))
    | none => none
  | _ => none

theorem pev_cls {T : Tbl} {ev : Operand → Value} {op : Op} {v : Value} (h : pev T ev op = some v) : cls T op ≠ .eff := by
  cases op <;> first | (simp [cls]; done) | (simp [pev] at h; done) | skip
  case binOp op t x y t' => cases op <;> simp [cls] <;> split <;> simp
  case convert s d x =>
    simp only [pev] at h
    simp only [cls]
    split at h
    · rename_i h1 h2 h3; rw [h1, h2]; split <;> simp_all
    · rename_i h1 h2 h3; rw [h1, h2]; simp
    · cases h

section
variable {P : Program} {T : Tbl}

theorem run_und (hT : T.Ok P) {t : TypeId} {d : TypeDesc} (h : T.und t = some d) (w : World) : (underlying t).run P w = .ok d w := by
  simp [underlying, hT.und t d h]
theorem run_size (hT : T.Ok P) {t : TypeId} {s : Nat} (h : T.size t = some s) (w : World) : (sizeOf t).run P w = .ok s w := by
  obtain ⟨i, hi, hs⟩ := hT.size t s h
  simp [sizeOf, typeInfo, hi, hs]
theorem run_zero (hT : T.Ok P) {t : TypeId} {z : Value} (h : T.zero t = some z) (w : World) : (zeroValue t).run P w = .ok z w := by
  obtain ⟨i, hi, hs⟩ := hT.zero t z h
  simp [zeroValue, typeInfo, hi, hs]

theorem binI_sound {op : BinOp} {k : IntKind} {a b : Int} {v : Value} (t : TypeId) (h : binI op k a b = some v) (w : World) : (binOp op t (.int k a) (.int k b)).run P w = .ok v w := by
  cases op <;> simp only [binI] at h <;> (first | (cases h; done) | (injection h with h; subst h; simp [binOp, Op.intArith, Op.intBits, Op.intCmp]))

theorem binS_sound {op : BinOp} {a b : ByteArray} {v : Value} (t : TypeId) (h : binS op a b = some v) (w : World) : (binOp op t (.string a) (.string b)).run P w = .ok v w := by
  cases op <;> simp only [binS] at h <;> (first | (cases h; done) | (injection h with h; subst h; simp [binOp, Op.stringOp]))

theorem eqvIn_sound (hT : T.Ok P) (d : Nat) {t : TypeId} {x y : Value} {b : Bool} (h : eqv T t x y = some b) (w : World) : (Op.equalIn (d + 1) t x y).run P w = .ok b w := by
  unfold eqv at h
  split at h
  all_goals (first | (cases h; done) | skip)
  all_goals
    (split at h
     · rename_i hu
       injection h with h; subst h
       simp [Op.equalIn, run_und hT hu]
     · cases h)

theorem eqv_sound (hT : T.Ok P) {t : TypeId} {x y : Value} {b : Bool} (h : eqv T t x y = some b) (w : World) : (Op.equal t x y).run P w = .ok b w := by
  unfold Op.equal Op.maxDepth
  exact eqvIn_sound hT 9999 h w

theorem eqGuard_plain (op : BinOp) (t : TypeId) (x y : Operand) (a b : Value) (h1 : a ≠ .nilIface) (h2 : ∀ cs, a ≠ .agg cs) (w : World) : (eqGuard op t x y a b).run P w = .ok () w := by
  cases a <;> first | exact absurd rfl h1 | exact absurd rfl (h2 _) | (cases op <;> rfl)

theorem binV_sound (hT : T.Ok P) {op : BinOp} {t : TypeId} {x y : Value} {v : Value} (h : binV T op t x y = some v) (ox oy : Operand) (w : World) :
    (do eqGuard op t ox oy x y; binOp op t x y : Sem Value).run P w = .ok v w := by
  have hg : (eqGuard op t ox oy x y).run P w = .ok () w := by
    refine eqGuard_plain op t ox oy x y ?_ ?_ w
    · rintro rfl; simp only [binV, eqv] at h; cases op <;> simp at h
    · rintro cs rfl; simp only [binV, eqv] at h; cases op <;> simp at h
  rw [Sem.run_bind, hg, Result.andThen_ok]
  unfold binV at h
  split at h
  · rename_i k a k' b
    cases hs : isShift op with
    | true =>
      rw [hs] at h
      simp only [cond_true] at h
      split at h
      · rename_i m
        cases op <;> simp only [shf] at h <;> (first | (cases h; done) | skip)
        all_goals
          (injection h with h; subst h
           simp only [binOp, Op.shift]
           rw [if_neg (by simp)]
           simp)
      · cases h
    | false =>
      rw [hs] at h
      simp only [cond_false] at h
      cases hk : sameKind k k' with
      | true =>
        rw [hk] at h
        have := sameKind_eq hk
        subst this
        exact binI_sound t h w
      | false => rw [hk] at h; cases h
  · exact binS_sound t h w
  · rename_i h1 h2
    cases op <;> simp only at h <;> (first | (cases h; done) | skip)
    · simp only [Option.map_eq_some_iff] at h
      obtain ⟨c, hc, rfl⟩ := h
      have := eqv_sound hT hc w
      unfold binOp
      unfold eqv at hc
      split at hc <;> (first | (cases hc; done) | simp [this])
    · simp only [Option.map_eq_some_iff] at h
      obtain ⟨c, hc, rfl⟩ := h
      have := eqv_sound hT hc w
      unfold binOp
      unfold eqv at hc
      split at hc <;> (first | (cases hc; done) | simp [this])

theorem partT_sound (hT : T.Ok P) {t : TypeId} {cs : Array Value} {off : Nat} {v : Value} (h : partT T t cs off = some v) (w : World) : (part t cs off).run P w = .ok v w := by
  unfold partT at h
  split at h
  · rename_i hu
    simp only [Option.map_eq_some_iff] at h
    obtain ⟨s, hs, rfl⟩ := h
    simp [part, isAgg, run_und hT hu, run_size hT hs]
  · rename_i hu
    simp only [Option.map_eq_some_iff] at h
    obtain ⟨s, hs, rfl⟩ := h
    simp [part, isAgg, run_und hT hu, run_size hT hs]
  · rename_i d h1 h2 hu
    have : (isAgg t).run P w = .ok false w := by
      simp only [isAgg, Sem.run_bind, run_und hT hu, Result.andThen_ok]
      cases d <;> first | rfl | (exact absurd rfl (h1 _)) | (exact absurd rfl (h2 _ _))
    simp [part, this, h]
  · cases h

theorem pev_sound (hT : T.Ok P) {ev : Operand → Value} {o : Oper} {v : Value} (h : pev T ev o.op = some v) (w : World) : (execOp ev o).run P w = .ok (.value v) w := by
  obtain ⟨dst, op, type, pos, after, guard⟩ := o
  simp only at h
  cases op <;> simp only [pev] at h <;> (first | (cases h; done) | skip)
  case move x => rw [Hd_eq] at h; injection h with h; subst h; rfl
  case assign x => rw [Hd_eq] at h; injection h with h; subst h; rfl
  case pick c a b =>
    split at h
    · rename_i hc; rw [Hd_eq] at h; injection h with h; subst h; simp [execOp, hc, asBool]
    · rename_i hc; rw [Hd_eq] at h; injection h with h; subst h; simp [execOp, hc, asBool]
    · cases h
  case nilCheck x =>
    split at h
    · rename_i hc; injection h with h; subst h; simp [execOp, hc]
    · rename_i hc; injection h with h; subst h; simp [execOp, hc]
    · cases h
  case binOp op t x y yt =>
    have := binV_sound (P := P) hT h x y w
    simp only [execOp]
    rw [Sem.run_bind, this]
    rfl
  case unOp op t x =>
    split at h
    · rename_i hc; injection h with h; subst h; simp [execOp, hc, Op.unary]
    · rename_i hc; injection h with h; subst h; simp [execOp, hc, Op.unary, Op.intArith]
    · cases h
  case convert src dst x =>
    split at h
    · rename_i h1 h2 h3; injection h with h; subst h; simp [execOp, convert, run_und hT h1, run_und hT h2, h3, Conv.intToInt]
    · rename_i h1 h2 h3; injection h with h; subst h; simp [execOp, convert, run_und hT h1, run_und hT h2, h3]
    · cases h
  case fieldAddr s x f =>
    split at h
    · rename_i k b off h1 h2
      injection h with h; subst h
      obtain ⟨fs, fd, i, h3, h4, rfl, h5, h6⟩ := hT.off s f k h1
      have hadd : (⟨b, off, none⟩ : Addr).add fd.offset = ⟨b, off + fd.offset, none⟩ := by unfold Addr.add; split <;> simp_all
      simp [execOp, Instr.fieldAt, underlying, h3, h2, h4, Instr.sureAddr, fieldPlace, sizeOf, typeInfo, h5, h6, hadd]
    · cases h
  case field t x f =>
    split at h
    · rename_i h1 h2
      split at h
      · rename_i fd h3
        have := partT_sound hT h w
        simp [execOp, Instr.field, run_und hT h1, h2, h3, asAgg, this]
      · cases h
    · cases h
  case extract x i =>
    split at h
    · rename_i vs h1
      cases hu : vs.toList[i]? with
      | none => rw [hu] at h; cases h
      | some u =>
        rw [hu] at h
        simp only [Option.bind_some, Hd_eq] at h
        injection h with h; subst h
        simp at hu
        simp [execOp, Instr.extract, h1, hu]
    · cases h
  case makeFunc fn first captured => injection h with h; subst h; simp [execOp, Instr.makeFunc, ← Array.toList_map]
  case makeInterface t x =>
    split at h
    · cases h
    · rename_i d h1 h2
      injection h with h; subst h
      simp only [execOp, Instr.makeInterface, Sem.run_bind, run_und hT h2, Result.andThen_ok]
      cases d <;> first | rfl | (exact absurd rfl (h1 _))
    · cases h

/-- One operation that hangs on no memory. -/
theorem XO.p {w0 : World} {n : Nat} {HL : Held} {ops : Array Oper} {J : Env → List HProp → Prop} {ix : Nat} {rest : List Oper} {o : Oper} {e : Env} {H : List HProp} {v : Value} (hT : T.Ok P) (hh : heldAt HL ix = none)
    {d : Nat} (hg : wantedE ops e n o = true) (hd : o.dst = some d) (hv : pev T (e.ev n) o.op = some v) (h : XO P T w0 n HL ops J (ix + 1) rest (e.upd d v) H) : XO P T w0 n HL ops J ix (o :: rest) e H :=
  .valOp hh hg (pev_cls hv) (pev_sound hT hv) (by rw [hd]; exact h)
/-- A comparison: both ways. -/
theorem XO.cmp {w0 : World} {n : Nat} {HL : Held} {ops : Array Oper} {J : Env → List HProp → Prop} {ix : Nat} {rest : List Oper} {o : Oper} {e : Env} {H : List HProp} {c : Bool} {d : Nat} {op : BinOp} {t t' : TypeId} {x y : Operand} (hT : T.Ok P) (hh : heldAt HL ix = none)
    (hg : wantedE ops e n o = true) (hd : o.dst = some d) (hop : o.op = .binOp op t x y t') (hv : binV T op t (e.ev n x) (e.ev n y) = some (.bool c)) (h1 : c = true → XO P T w0 n HL ops J (ix + 1) rest (e.upd d (.bool true)) H)
    (h2 : c = false → XO P T w0 n HL ops J (ix + 1) rest (e.upd d (.bool false)) H) : XO P T w0 n HL ops J ix (o :: rest) e H := by
  refine .p (v := .bool c) hT hh hg hd (by rw [hop]; exact hv) ?_
  cases c
  · exact h2 rfl
  · exact h1 rfl
/-- An operation that isn't carried out. -/
theorem XO.no {w0 : World} {n : Nat} {HL : Held} {ops : Array Oper} {J : Env → List HProp → Prop} {ix : Nat} {rest : List Oper} {o : Oper} {e : Env} {H : List HProp} {d : Nat} (hg : wantedE ops e n o = false) (hd : o.dst = some d)
    (h : XO P T w0 n HL ops J (ix + 1) rest (e.upd d undef) H) : XO P T w0 n HL ops J ix (o :: rest) e H :=
  .skip hg (by rw [hd]; exact h)
end
end Go.Sx
