/- A region that draws its order and holds operations that do not commute (blocks that are laid, rows that grow): every order is walked, what only reads goes first. Conditions: the table 'T' fits the program. -/
import Derived.Test.YtpfnhkdhcjclpaaSxW
import Derived.OrdersHeld
namespace Go.Sx
open Go Go.RowKit
/-- Cells that stay as they are through the region. -/
def Still (S : List (Addr × Value)) (w : World) : Prop := ∀ p ∈ S, w.cell? p.1 = some p.2
def Stills (w0 : World) (S : List (Addr × Value)) (H : List HProp) : Prop := ∀ p ∈ S, Reads w0 H p.1 p.2
theorem Stills.still {w0 w : World} {S : List (Addr × Value)} {H : List HProp} (h : Stills w0 S H) (hr : Rel w0 H w) : Still S w := fun p hp => h p hp w hr
theorem Stills.nil {w0 : World} {H : List HProp} : Stills w0 [] H := fun _ h => by cases h
theorem Stills.cons {w0 : World} {S : List (Addr × Value)} {H : List HProp} {a : Addr} {v : Value} (h : Reads w0 H a v) (hs : Stills w0 S H) : Stills w0 ((a, v) :: S) H := fun p hp => by
  rcases List.mem_cons.1 hp with rfl | hp
  · exact h
  · exact hs p hp
def JX (w0 : World) (n : Nat) (J : Env → List HProp → Prop) : Exit → Act → World → Prop := fun x a w' => match x with | .normal => ∃ e' H', a = Env.act e' n ∧ Rel w0 H' w' ∧ J e' H' | _ => False
structure XA (P : Program) (T : Tbl) (w0 : World) (n : Nat) (ops : Array Oper) (J : Env → List HProp → Prop) (S : List (Addr × Value)) (fuel : Nat) (bs : List Bool) (e : Env) (H : List HProp) : Prop where
  run : ∀ w, Rel w0 H w → wpAnyH P .any ops (JX w0 n J) (Still S) fuel ⟨bs⟩ (e.act n) w
section
variable {P : Program} {T : Tbl} {w0 : World} {n : Nat} {ops : Array Oper} {J : Env → List HProp → Prop} {S : List (Addr × Value)} {fuel : Nat} {bs : List Bool} {e : Env} {H : List HProp}
theorem XS.drawA {b : Frame} {R : Value → List HProp → Prop} {k : List Item} {id : Nat} {l : List Oper} (S : List (Addr × Value)) (hm : P.follows .mixedOrders = true) (h : XA P T w0 n l.toArray (XS P w0 b n R k) S l.length (List.replicate l.length false) e H) : XS P w0 b n R (.code (.region id l.toArray true) :: k) e H := by
  refine .of_wp fun w hr => ?_
  refine wp_region_held (S := Still S) hm ?_
  have := h.run _ hr.drew
  have e1 : (⟨List.replicate l.length false⟩ : Array Bool) = Array.replicate l.toArray.size false := by apply Array.ext'; simp
  rw [e1] at this
  exact this
theorem XA.ent {H' : List HProp} (x : Ent H H') (h : XA P T w0 n ops J S fuel bs e H') : XA P T w0 n ops J S fuel bs e H := ⟨fun w hr => h.run w (hr.ent x)⟩
theorem XA.take (i : Nat) {o : Oper} {v : Value} {d : Nat} (hi : ops[i]? = some o) (hd : o.dst = some d) (hc : (Region.noSelect ops && Region.free .any ops ⟨bs⟩ i && (Region.ready .any ops ⟨bs⟩).contains i) = true) (hy : YieldsIf P ops (Still S) o v (e.act n)) (hS : Stills w0 S H)
    (h : XA P T w0 n ops J S fuel (bs.set i true) (e.upd d v) H) : XA P T w0 n ops J S (fuel + 1) bs e H := by
  simp only [Bool.and_eq_true] at hc
  refine ⟨fun w hr => wpAnyH_take hi hc.1.1 hc.1.2 hc.2 (fun c a w hq => hq) hy (hS.still hr) ?_⟩
  have := h.run w hr
  have e1 : (⟨bs⟩ : Array Bool).setIfInBounds i true = ⟨bs.set i true⟩ := by apply Array.ext'; simp
  have e2 : (e.act n).put o.dst v = (e.upd d v).act n := by rw [Env.act_put, hd]; rfl
  rw [e1, e2]
  exact this
/-- One that hangs on no memory. -/
theorem XA.p (i : Nat) {o : Oper} {v : Value} {d : Nat} (hT : T.Ok P) (hi : ops[i]? = some o) (hd : o.dst = some d) (hc : (Region.noSelect ops && Region.free .any ops ⟨bs⟩ i && (Region.ready .any ops ⟨bs⟩).contains i) = true) (hg : wantedE ops e n o = true) (hv : pev T (e.ev n) o.op = some v) (hS : Stills w0 S H)
    (h : XA P T w0 n ops J S fuel (bs.set i true) (e.upd d v) H) : XA P T w0 n ops J S (fuel + 1) bs e H :=
  .take i hi hd hc (.inl ⟨by rw [wantedE_eq]; exact hg, fun w _ => by rw [Env.act_eval]; exact pev_sound hT hv w⟩) hS h
theorem XA.lenS (i : Nat) {o : Oper} {d : Nat} {x : Operand} {t u : TypeId} {a : Option Addr} {k c : Nat} (hT : T.Ok P) (hi : ops[i]? = some o) (hd : o.dst = some d) (hc : (Region.noSelect ops && Region.free .any ops ⟨bs⟩ i && (Region.ready .any ops ⟨bs⟩).contains i) = true) (hg : wantedE ops e n o = true)
    (hop : o.op = .call { callee := .builtin .len, args := #[x], argTypes := #[t] }) (hu : T.und t = some (.slice u)) (hx : e.ev n x = .slice a k c) (hS : Stills w0 S H)
    (h : XA P T w0 n ops J S fuel (bs.set i true) (e.upd d (.int .i64 k)) H) : XA P T w0 n ops J S (fuel + 1) bs e H :=
  .take i hi hd hc (.inl ⟨by rw [wantedE_eq]; exact hg, fun w _ => by
    rw [Env.act_eval]
    simp [execOp, hop, resolve, invoke, builtin, Builtin.len_, run_und hT hu, hx, goInt]⟩) hS h
/-- One that is not carried out. -/
theorem XA.no (i : Nat) {o : Oper} {d : Nat} (hi : ops[i]? = some o) (hd : o.dst = some d) (hc : (Region.noSelect ops && Region.free .any ops ⟨bs⟩ i && (Region.ready .any ops ⟨bs⟩).contains i) = true) (hg : wantedE ops e n o = false) (hS : Stills w0 S H)
    (h : XA P T w0 n ops J S fuel (bs.set i true) (e.upd d undef) H) : XA P T w0 n ops J S (fuel + 1) bs e H :=
  .take i hi hd hc (.inr ⟨by rw [wantedE_eq]; exact hg, rfl⟩) hS h
/-- A cell that stays is read. -/
theorem XA.load (i : Nat) {o : Oper} {v : Value} {d : Nat} {t : TypeId} {x : Operand} {a : Addr} (hT : T.Ok P) (hi : ops[i]? = some o) (hd : o.dst = some d) (hc : (Region.noSelect ops && Region.free .any ops ⟨bs⟩ i && (Region.ready .any ops ⟨bs⟩).contains i) = true) (hg : wantedE ops e n o = true) (hop : o.op = .load t x) (hx : e.ev n x = .pointer (some a)) (ha : aggT T t = some false) (hm : (a, v) ∈ S) (hS : Stills w0 S H)
    (h : XA P T w0 n ops J S fuel (bs.set i true) (e.upd d v) H) : XA P T w0 n ops J S (fuel + 1) bs e H :=
  .take i hi hd hc (.inl ⟨by rw [wantedE_eq]; exact hg, fun w hw => by
    rw [Env.act_eval]
    have := hw _ hm
    simp only at this
    simp only [execOp, hop, hx, Instr.loadAt, Instr.sureAddr, loadVar, Sem.run_bind, Sem.run_pure, Result.andThen_ok, run_isAgg hT ha, Bool.false_eq_true, if_false, run_load, this]⟩) hS h
/-- What stands behind one operation that was carried out. -/
def JA (P : Program) (T : Tbl) (w0 : World) (n : Nat) (ops : Array Oper) (J : Env → List HProp → Prop) (S : List (Addr × Value)) (fuel : Nat) (bs : List Bool) (e : Env) (H : List HProp) : Prop := Stills w0 S H ∧ XA P T w0 n ops J S fuel bs e H
theorem XA.eff {i : Nat} {o : Oper} (hi : ops[i]? = some o) (h : XO P T w0 n [] ops (JA P T w0 n ops J S fuel (bs.set i true)) i [o] e H) {w : World} (hr : Rel w0 H w) :
    wpOp P ops (JX w0 n J) i (fun a' w' => Still S w' ∧ wpAnyH P .any ops (JX w0 n J) (Still S) fuel ((⟨bs⟩ : Array Bool).setIfInBounds i true) a' w') (e.act n) w := by
  have h1 := h.run w hr
  have e1 : (⟨bs⟩ : Array Bool).setIfInBounds i true = ⟨bs.set i true⟩ := by apply Array.ext'; simp
  rw [e1]
  refine tI_wpOp (T := T) (HL := []) (K := fun a w' => ∃ e' H', a = Env.act e' n ∧ Rel w0 H' w' ∧ JA P T w0 n ops J S fuel (bs.set i true) e' H') (fun a w' => ?_) ?_
  · rintro ⟨e', H', rfl, hr', hs, hx⟩
    exact ⟨hs.still hr', hx.run w' hr'⟩
  · unfold tI
    simp only [hi]
    exact h1
/-- One alone may come up. -/
theorem XA.one {i : Nat} {o : Oper} (hr : Region.ready .any ops ⟨bs⟩ = [i]) (hi : ops[i]? = some o) (h : XO P T w0 n [] ops (JA P T w0 n ops J S fuel (bs.set i true)) i [o] e H) : XA P T w0 n ops J S (fuel + 1) bs e H :=
  ⟨fun _ hrel => wpAnyH_all hr (by simp) fun j hj => by
    rw [List.mem_singleton] at hj; subst hj
    exact XA.eff hi h hrel⟩
/-- One of two may come up. -/
theorem XA.two {i j : Nat} {o o' : Oper} (hr : Region.ready .any ops ⟨bs⟩ = [i, j]) (hi : ops[i]? = some o) (hj : ops[j]? = some o') (h : XO P T w0 n [] ops (JA P T w0 n ops J S fuel (bs.set i true)) i [o] e H) (h' : XO P T w0 n [] ops (JA P T w0 n ops J S fuel (bs.set j true)) j [o'] e H) : XA P T w0 n ops J S (fuel + 1) bs e H :=
  ⟨fun _ hrel => wpAnyH_all hr (by simp) fun k hk => by
    simp only [List.mem_cons, List.not_mem_nil, or_false] at hk
    rcases hk with rfl | rfl
    · exact XA.eff hi h hrel
    · exact XA.eff hj h' hrel⟩
theorem XA.done (hr : Region.ready .any ops ⟨bs⟩ = []) (h : J e H) : XA P T w0 n ops J S fuel bs e H :=
  ⟨fun _ hrel => wpAnyH_done hr ⟨e, H, rfl, hrel, h⟩ fuel⟩
theorem JA.mk (hS : Stills w0 S H) (h : XA P T w0 n ops J S fuel bs e H) : JA P T w0 n ops J S fuel bs e H := ⟨hS, h⟩
end
end Go.Sx
