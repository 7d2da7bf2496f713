/- Timers are compared; rows are appended to one another. Conditions: none. -/
import Derived.Test.YtnpnfgnhgjmlbaaDoorWheelS
namespace Go.Proofs.YtnpnfgnhgjmlbaaDoor
open Go Go.Sx Go.WheelM
variable {w0 : World} {F H : List HProp} {K : Value → List HProp → Prop}
theorem tenc_all : ∀ x, (tenc x).all (·.oneCell') = true := fun _ => rfl
theorem ReadsL.rowAll {b cap t es n : Nat} {l : List Value} : ReadsL w0 (RowAt b cap t es n l :: F) ⟨b, 0, none⟩ l := fun j v hj => by
  rw [Addr.add_mk]; exact Reads.row (by rw [Nat.zero_add]; exact hj)
theorem eq_int (k : Nat) (a b : Int) (w : World) : (Op.equalIn (k + 1) 3 (kI a) (kI b)).run Tryd.prog w = .ok (a == b) w := by
  have u3 := run_und TT_ok (t := 3) rfl w
  rw [Op.equalIn]
  simp only [Sem.run_bind, u3, Result.andThen_ok]
  rfl
theorem part_int (cs : Array Value) (off : Nat) (v : Value) (h : cs[off]? = some v) (w : World) : (part 3 cs off).run Tryd.prog w = .ok v w := by
  have ha := run_isAgg TT_ok (t := 3) (b := false) rfl w
  simp only [part, Sem.run_bind, ha, Result.andThen_ok, Bool.false_eq_true, if_false, h, Sem.run_pure]
theorem eq_timer (a b c d : Int) (w : World) : (Op.equal 33 (.agg ⟨[kI a, kI b]⟩) (.agg ⟨[kI c, kI d]⟩)).run Tryd.prog w = .ok (decide (a = c ∧ b = d)) w := by
  have u33 := run_und TT_ok (t := 33) rfl w
  have hst : Tryd.prog.stoodInHeld 33 = false := by kernel_rfl
  have p0 := part_int ⟨[kI a, kI b]⟩ 0 (kI a) rfl
  have p1 := part_int ⟨[kI a, kI b]⟩ 1 (kI b) rfl
  have q0 := part_int ⟨[kI c, kI d]⟩ 0 (kI c) rfl
  have q1 := part_int ⟨[kI c, kI d]⟩ 1 (kI d) rfl
  have e0 : ∀ (x y : Int) (w : World), (Op.equalIn 9999 3 (kI x) (kI y)).run Tryd.prog w = .ok (x == y) w := fun x y w => eq_int 9998 x y w
  show (Op.equalIn (9998 + 1 + 1) 33 _ _).run Tryd.prog w = _
  rw [Op.equalIn]
  simp only [Sem.run_bind, u33, Result.andThen_ok, run_program, hst, Bool.false_eq_true, if_false]
  simp [← Array.forIn_toList, List.forIn_cons, p0, p1, q0, q1, e0]
  by_cases h1 : a = c <;> by_cases h2 : b = d <;> simp [h1, h2]
theorem guard_timer (op : BinOp) (x y : Operand) (v u : Value) (w : World) (hv : ∃ c, v = .agg c) (hu : ∃ c, u = .agg c) : (eqGuard op 33 x y v u).run Tryd.prog w = .ok () w := by
  obtain ⟨c, rfl⟩ := hv
  obtain ⟨c', rfl⟩ := hu
  have hg : Tryd.prog.eqGuardType Tryd.prog.depth 33 = false := by kernel_rfl
  unfold eqGuard
  cases op <;> simp [hg]
theorem XO.neTimer {n : Nat} {HL : Held} {ops : Array Oper} {J : Env → List HProp → Prop} {ix : Nat} {rest : List Oper} {o : Oper} {e : Env} {x y : Operand} {t' : TypeId} {a b c d : Int} {k : Nat} (hh : heldAt HL ix = none) (hg : wantedE ops e n o = true) (hd : o.dst = some k) (hop : o.op = .binOp .neq 33 x y t')
    (hx : e.ev n x = .agg ⟨[kI a, kI b]⟩) (hy : e.ev n y = .agg ⟨[kI c, kI d]⟩) (h1 : a = c → b = d → XO Tryd.prog TT w0 n HL ops J (ix + 1) rest (e.upd k (.bool false)) H) (h2 : ¬ (a = c ∧ b = d) → XO Tryd.prog TT w0 n HL ops J (ix + 1) rest (e.upd k (.bool true)) H) :
    XO Tryd.prog TT w0 n HL ops J ix (o :: rest) e H := by
  have hcls : cls TT o.op ≠ .eff := by rw [hop]; simp only [cls]; split <;> simp
  have hg' := fun w => guard_timer .neq x y (.agg ⟨[kI a, kI b]⟩) (.agg ⟨[kI c, kI d]⟩) w ⟨_, rfl⟩ ⟨_, rfl⟩
  by_cases hq : a = c ∧ b = d
  · refine XO.valOp (T := TT) (v := .bool false) hh hg hcls (fun w => ?_) (by rw [hd]; exact h1 hq.1 hq.2)
    have := eq_timer a b c d w
    rw [decide_eq_true hq] at this
    simp [execOp, hop, hx, hy, hg', binOp, this]
  · refine XO.valOp (T := TT) (v := .bool true) hh hg hcls (fun w => ?_) (by rw [hd]; exact h2 hq)
    have := eq_timer a b c d w
    rw [decide_eq_false hq] at this
    simp [execOp, hop, hx, hy, hg', binOp, this]
end Go.Proofs.YtnpnfgnhgjmlbaaDoor
