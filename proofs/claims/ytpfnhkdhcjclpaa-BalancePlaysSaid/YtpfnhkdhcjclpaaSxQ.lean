/- Operations walked with the world written out: for contracts that tell the very world behind a call. Conditions: the table 'T' fits the program. -/
import Derived.Test.YtpfnhkdhcjclpaaSxW
namespace Go.Sx
open Go Go.RowKit
structure XW (P : Program) (T : Tbl) (n : Nat) (HL : Held) (ops : Array Oper) (Q : Act → World → Prop) (ix : Nat) (rest : List Oper) (e : Env) (w : World) : Prop where
  run : wpT P T ops HL Q ix rest (e.act n) w
section
variable {P : Program} {T : Tbl} {n : Nat} {HL : Held} {ops : Array Oper} {Q : Act → World → Prop} {ix : Nat} {rest : List Oper} {o : Oper} {e : Env} {w : World}
theorem XW.nil (h : Q (e.act n) w) : XW P T n HL ops Q ix [] e w := ⟨h⟩
theorem XW.p {v : Value} {d : Nat} (hT : T.Ok P) (hh : heldAt HL ix = none) (hg : wantedE ops e n o = true) (hd : o.dst = some d) (hv : pev T (e.ev n) o.op = some v) (h : XW P T n HL ops Q (ix + 1) rest (e.upd d v) w) : XW P T n HL ops Q ix (o :: rest) e w := by
  have hs := pev_sound hT hv
  have hp : (e.act n).put o.dst v = (e.upd d v).act n := by rw [Env.act_put, hd]; rfl
  constructor
  simp only [wpT, tOp, wantedE_eq, hg, if_true, tDo, Env.act_eval]
  split
  · exact ⟨v, hs, by rw [hp]; exact h.run⟩
  · exact ⟨v, hs w, fun p hp => (by rw [hh] at hp; cases hp), fun p hp => (by rw [hh] at hp; cases hp), fun w' _ => hs w', by rw [hp]; exact h.run⟩
  · rename_i hm; exact absurd hm (pev_cls hv)
theorem XW.loadH {t : TypeId} {x : Operand} {a : Addr} {v : Value} {d : Nat} (hT : T.Ok P) (hh : heldAt HL ix = some (heldC a v)) (hg : wantedE ops e n o = true) (hd : o.dst = some d) (hop : o.op = .load t x) (hx : e.ev n x = .pointer (some a)) (ha : aggT T t = some false)
    (hr : clo (heldC a v) w) (h : XW P T n HL ops Q (ix + 1) rest (e.upd d v) w) : XW P T n HL ops Q ix (o :: rest) e w := by
  have hs : ∀ w' : World, w'.cell? a = some v → (execOp (e.ev n) o).run P w' = .ok (.value v) w' := fun w' hw => by
    simp only [execOp, hop, hx, Instr.loadAt, Instr.sureAddr, loadVar, Sem.run_bind, Sem.run_pure, Result.andThen_ok, run_isAgg hT ha, Bool.false_eq_true, if_false, run_load, hw]
  have hp : (e.act n).put o.dst v = (e.upd d v).act n := by rw [Env.act_put, hd]; rfl
  constructor
  have hc : cls T o.op = .read := by rw [hop]; rfl
  simp only [wpT, tOp, wantedE_eq, hg, if_true, tDo, Env.act_eval, hc]
  refine ⟨v, hs w hr.now, fun p hp w' hw' => ?_, fun p hp => ?_, fun w' hb => hs w' (hr w' hb), by rw [hp]; exact h.run⟩
  · rw [hh] at hp; injection hp with hp; subst hp; exact hs w' hw'
  · rw [hh] at hp; injection hp with hp; subst hp; exact hr
/-- A call that leaves the world as it is. -/
theorem XW.callQ {f : FuncId} {as : Array Operand} {ts : Array TypeId} {args : List Value} {v : Value} {d : Nat} (hk : holds w (keptBy HL ix)) (hg : wantedE ops e n o = true) (hd : o.dst = some d) (hop : o.op = .call { callee := .value (.func f), args := as, argTypes := ts }) (hf : callOk P f = true)
    (ha : evL (e.ev n) as.toList = some args) (hc : Calls P f ⟨args⟩ w fun x w' => x = .returned v ∧ w' = w) (h : XW P T n HL ops Q (ix + 1) rest (e.upd d v) w) : XW P T n HL ops Q ix (o :: rest) e w := by
  have hp : (e.act n).put o.dst v = (e.upd d v).act n := by rw [Env.act_put, hd]; rfl
  have : as.map (e.ev n) = ⟨args⟩ := by apply Array.ext'; simpa using evL_eq ha
  have hrun : (execOp (e.ev n) o).run P w = .ok (.enter f ⟨args⟩) w := by simp [execOp, hop, resolve, Env.ev, Deferred.ofValue, invoke, this, run_callFunc hf]
  constructor
  have hcl : cls T o.op = .eff := by rw [hop]; rfl
  simp only [wpT, tOp, wantedE_eq, hg, if_true, tDo, Env.act_eval, hcl]
  refine ⟨hk, ?_⟩
  rw [hrun]
  simp only [teUpon]
  refine hc.mono ?_
  rintro x w' ⟨rfl, rfl⟩
  exact ⟨v, rfl, hk, by rw [hp]; exact h.run⟩
theorem XW.buildSlice {t u : TypeId} {k s : Nat} {ps : Array (Nat × Operand)} {parts : List (Nat × Value)} {z : Value} {zl l : List Value} {d : Nat} (hT : T.Ok P) (hk0 : keptBy HL ix = []) (hg : wantedE ops e n o = true) (hd : o.dst = some d) (hop : o.op = .buildSlice t k ps) (hu : T.und t = some (.slice u)) (hs : T.size u = some s)
    (hz : T.zero u = some z) (hzl : z.cells = ⟨zl⟩) (hzs : zl.length = s) (hpos : Nat.blt 0 (k * s) = true) (hle : Nat.ble (k * s) 16777216 = true) (hp : evP (e.ev n) ps.toList = some parts) (hf : fillL s (zrow k zl) parts = some l)
    (h : XW P T n HL ops Q (ix + 1) rest (e.upd d (.slice (some ⟨w.heap.size, 0, none⟩) k k)) (w.alloc (.cells ⟨l⟩ u))) : XW P T n HL ops Q ix (o :: rest) e w := by
  have hpos : 0 < k * s := Nat.le_of_ble_eq_true hpos
  have hle : k * s ≤ 16777216 := Nat.le_of_ble_eq_true hle
  have hs0 : 0 < s := Nat.pos_of_mul_pos_left hpos
  have hparts : (ps.map fun p => (p.1, e.ev n p.2)).toList = parts := by simpa using evP_eq hp
  have hfill := fillL_eq hs0 parts _ _ hf
  subst hzs
  rw [← zeros_eq zl k] at hfill
  have hrun : (execOp (e.ev n) o).run P w = .ok (.value (.slice (some ⟨w.heap.size, 0, none⟩) k k)) (w.alloc (.cells ⟨l⟩ u)) := by
    simp only [execOp, hop, Instr.buildSlice, Sem.run_bind, run_und hT hu, run_size hT hs, Result.andThen_ok]
    rw [if_neg (by omega)]
    simp only [Sem.run_pure]
    rw [if_neg (by omega)]
    simp only [Sem.run_bind, run_zero hT hz, hzl, Sem.run_pure, Result.andThen_ok]
    rw [hparts, hfill]
    simp [newRow]
  have hp : (e.act n).put o.dst (.slice (some ⟨w.heap.size, 0, none⟩) k k) = (e.upd d (.slice (some ⟨w.heap.size, 0, none⟩) k k)).act n := by rw [Env.act_put, hd]; rfl
  constructor
  have hcl : cls T o.op = .eff := by rw [hop]; rfl
  simp only [wpT, tOp, wantedE_eq, hg, if_true, tDo, Env.act_eval, hcl]
  rw [hk0, hrun]
  exact ⟨holds_nil _, holds_nil _, by rw [hp]; exact h.run⟩
end
end Go.Sx
