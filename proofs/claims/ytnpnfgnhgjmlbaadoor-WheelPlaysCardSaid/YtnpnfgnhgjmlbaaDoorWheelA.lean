/- What the leaves of the wheel's functions come to. Conditions: numbers are of their kinds. -/
import Derived.Test.YtnpnfgnhgjmlbaaDoorTab
import Derived.Test.YtnpnfgnhgjmlbaaDoorSxP
import Derived.Test.YtnpnfgnhgjmlbaaDoorSxH
import Derived.Test.YtnpnfgnhgjmlbaaDoorWheelM
namespace Go.Proofs.YtnpnfgnhgjmlbaaDoor
open Go Go.Sx Go.WheelM
variable {w0 : World} {F H : List HProp} {K : Value → List HProp → Prop}
abbrev ptr (b : Nat) : Value := .pointer (some ⟨b, 0, none⟩)
abbrev kI (z : Int) : Value := .int .i64 z
theorem log2_shift {x m : Nat} (h : 0 < x / 2 ^ m) : Nat.log2 x = m + Nat.log2 (x / 2 ^ m) := by
  have hx : x ≠ 0 := fun e => by rw [e, Nat.zero_div] at h; omega
  have h1 := (Nat.le_log2 (show x / 2 ^ m ≠ 0 by omega) (k := Nat.log2 (x / 2 ^ m))).1 (Nat.le_refl _)
  have h2 := (Nat.log2_lt (show x / 2 ^ m ≠ 0 by omega) (k := Nat.log2 (x / 2 ^ m) + 1)).1 (by omega)
  have h3 : m + Nat.log2 (x / 2 ^ m) ≤ Nat.log2 x := by
    rw [Nat.le_log2 hx, Nat.pow_add, Nat.mul_comm]
    exact (Nat.le_div_iff_mul_le (Nat.pow_pos (by omega))).1 h1
  have h4 : Nat.log2 x < m + Nat.log2 (x / 2 ^ m) + 1 := by
    rw [Nat.log2_lt hx, Nat.add_assoc, Nat.pow_add, Nat.mul_comm]
    exact (Nat.div_lt_iff_lt_mul (Nat.pow_pos (by omega))).1 h2
  omega
def lenTab : ByteArray := ⟨(([0, 1, 2, 2, 3, 3, 3, 3] ++ List.replicate 8 4 ++ List.replicate 16 5 ++ List.replicate 32 6 ++ List.replicate 64 7 ++ List.replicate 128 8) : List UInt8).toArray⟩
theorem lenTab_at {y : Nat} (h : 0 < y) (h' : y < 256) : (byteAt lenTab y).toNat = Nat.log2 y + 1 := by
  have : ∀ y : Fin 256, 0 < y.val → (byteAt lenTab y.val).toNat = Nat.log2 y.val + 1 := by decide +kernel
  exact this ⟨y, h'⟩ h
section
variable {P : Program} {T : Tbl} {n : Nat} {HL : Held} {ops : Array Oper} {J : Env → List HProp → Prop} {ix : Nat} {rest : List Oper} {o : Oper} {e : Env}
theorem _root_.Go.Sx.XO.indexLen {x y : Operand} {t : TypeId} {k : IntKind} {i : Nat} {d : Nat} (hT : T.Ok P) (hg : wantedE ops e n o = true) (hd : o.dst = some d) (hop : o.op = .index t x y) (hu : T.und t = some .string)
    (hx : e.ev n x = .string lenTab) (hy : e.ev n y = .int k (i : Int)) (h0 : 0 < i) (h1 : i < 256) (h : ∀ g : Nat, g = Nat.log2 i + 1 → g ≤ 8 → XO P T w0 n HL ops J (ix + 1) rest (e.upd d (.int .u8 (g : Int))) H) : XO P T w0 n HL ops J ix (o :: rest) e H := by
  refine XO.indexStr hT hg hd hop hu hx hy (by omega) (by have : lenTab.size = 256 := by decide +kernel
                                                          omega) ?_
  have hl : Nat.log2 i < 8 := (Nat.log2_lt (by omega)).2 h1
  have e1 : ((byteAt lenTab (i : Int).toNat).toNat : Int) = ((Nat.log2 i + 1 : Nat) : Int) := by rw [Int.toNat_natCast, lenTab_at h0 h1]
  rw [e1]
  exact h _ rfl (by omega)
end
set_option maxHeartbeats 1000000 in
theorem len64_spec {x : Nat} (h0 : 0 < x) (h1 : x < 2 ^ 64) (h : K (kI ((Nat.log2 x + 1 : Nat) : Int)) H) : Tri Tryd.prog 34 #[.int .u64 (x : Int)] w0 H K := by
  have f1 := fun g => log2_shift (x := x) (m := 32) g
  have f2 := fun g => log2_shift (x := x) (m := 16) g
  have f3 := fun g => log2_shift (x := x / 2 ^ 32) (m := 16) g
  have f4 := fun g => log2_shift (x := x) (m := 8) g
  have f5 := fun g => log2_shift (x := x / 2 ^ 32) (m := 8) g
  have f6 := fun g => log2_shift (x := x / 2 ^ 16) (m := 8) g
  have f7 := fun g => log2_shift (x := x / 2 ^ 32 / 2 ^ 16) (m := 8) g
  have h' : ∀ z : Int, z = ((Nat.log2 x + 1 : Nat) : Int) → K (kI z) H := fun z hz => by rw [hz]; exact h
  clear h
  refine Tri.enter Tryd.func34 rfl Tryd.ntmps34 rfl ?_
  repeat' (first
    | refine XO.q TT_ok rfl rfl rfl rfl rfl ?_
    | refine XO.nil ?_
    | refine XO.shrN 32 TT_ok rfl rfl rfl rfl rfl rfl (by decide) ?_
    | refine XO.shrN 16 TT_ok rfl rfl rfl rfl rfl rfl (by decide) ?_
    | refine XO.shrN 8 TT_ok rfl rfl rfl rfl rfl rfl (by decide) ?_
    | refine XO.convN 8 TT_ok rfl rfl rfl rfl rfl rfl rfl rfl (by omega) ?_
    | refine XO.convN 63 TT_ok rfl rfl rfl rfl rfl rfl rfl rfl (by omega) ?_
    | refine XO.indexLen TT_ok rfl rfl rfl rfl rfl rfl (by omega) (by omega) (fun g hg1 hg2 => ?_)
    | refine XS.seq ?_
    | refine XS.region (T := TT) ?_
    | refine XS.draw (T := TT) follows_ok (by decide +kernel) ?_
    | refine XS.block ?_
    | refine XS.inBlock ?_
    | refine XS.exit rfl ?_
    | refine XS.condT rfl ?_
    | refine XS.condF rfl ?_
    | refine XS.skip ?_
    | refine XS.label ?_
    | refine XO.load TT_ok rfl rfl rfl rfl rfl rfl (Reads.here rfl) ?_
    | refine XO.load TT_ok rfl rfl rfl rfl rfl rfl (Reads.skip (Reads.here rfl)) ?_
    | refine XO.load TT_ok rfl rfl rfl rfl rfl rfl (Reads.skip (Reads.skip (Reads.here rfl))) ?_
    | refine XO.load TT_ok rfl rfl rfl rfl rfl rfl (Reads.skip (Reads.skip (Reads.skip (Reads.here rfl)))) ?_
    | refine XO.load TT_ok rfl rfl rfl rfl rfl rfl (Reads.skip (Reads.skip (Reads.skip (Reads.skip (Reads.here rfl))))) ?_
    | refine XO.load TT_ok rfl rfl rfl rfl rfl rfl (Reads.skip (Reads.skip (Reads.skip (Reads.skip (Reads.skip (Reads.here rfl)))))) ?_
    | refine XO.no rfl rfl ?_
    | (refine XO.cmpI TT_ok rfl rfl rfl rfl rfl rfl rfl (fun hc => ?_) (fun hc => ?_) <;> (try (exfalso; omega)))
    | refine XO.pT TT_ok rfl rfl rfl rfl rfl ?_
    | refine XO.pF TT_ok rfl rfl rfl rfl rfl ?_
    | refine XO.cmp TT_ok rfl rfl rfl rfl rfl (fun hc => ?_) (fun hc => ?_)
    | refine XO.add64 TT_ok rfl rfl rfl rfl rfl rfl (by omega) (by omega) ?_
    | refine XO.sub64 TT_ok rfl rfl rfl rfl rfl rfl (by omega) (by omega) ?_
    | refine XO.mul64 TT_ok rfl rfl rfl rfl rfl rfl (by omega) (by omega) ?_
    | refine XO.quo64 rfl rfl rfl rfl rfl (by omega) (by omega) (by omega) ?_
    | refine XO.rem64 rfl rfl rfl rfl rfl (by omega) (by omega) ?_
    | refine XO.p TT_ok rfl rfl rfl rfl ?_
    | refine XO.storeL TT_ok trivial rfl rfl rfl rfl rfl rfl rfl rfl rfl rfl trivial ?_
    | refine XO.ent Ent.front1 (XO.storeL TT_ok trivial rfl rfl rfl rfl rfl rfl rfl rfl rfl rfl trivial ?_)
    | refine XO.ent Ent.front2 (XO.storeL TT_ok trivial rfl rfl rfl rfl rfl rfl rfl rfl rfl rfl trivial ?_)
    | refine XO.ent Ent.front3 (XO.storeL TT_ok trivial rfl rfl rfl rfl rfl rfl rfl rfl rfl rfl trivial ?_)
    | refine XO.ent Ent.front4 (XO.storeL TT_ok trivial rfl rfl rfl rfl rfl rfl rfl rfl rfl rfl trivial ?_)
    | refine XO.ent Ent.front5 (XO.storeL TT_ok trivial rfl rfl rfl rfl rfl rfl rfl rfl rfl rfl trivial ?_)
    | refine XO.box trivial rfl rfl rfl rfl rfl (fun _ => trivial) (fun bb => ?_)
    | refine XO.alloc TT_ok trivial rfl rfl rfl rfl rfl (fun _ => trivial) (fun bb => ?_)
    | refine XO.build TT_ok rfl rfl rfl rfl rfl ?_
    | refine XO.lenSlice TT_ok rfl rfl rfl rfl rfl rfl ?_
    | refine XO.lenString TT_ok rfl rfl rfl rfl rfl rfl ?_
    | refine XO.indexStr TT_ok rfl rfl rfl rfl rfl rfl (by omega) (by omega) ?_
    | refine XO.indexAddr TT_ok rfl rfl rfl rfl rfl rfl rfl (by omega) (by omega) ?_
    | refine XO.addStr rfl rfl rfl rfl rfl (by omega) ?_
    | refine XO.buildSlice TT_ok trivial rfl rfl rfl rfl rfl rfl rfl rfl rfl rfl rfl rfl (fun _ => trivial) (fun bb => ?_)
    | refine XO.callF rfl rfl rfl (by kernel_rfl) rfl ?_)
  all_goals refine XS.ret1 Tryd.func34 rfl Tryd.results34 rfl (Ent.refl _) ?_
  all_goals refine h' _ ?_
  all_goals omega
/-- The level and the slot of a time that isn't now. -/
theorem where_spec {b m : Nat} {a t : Nat} {L : List Value} (h0 : a ≠ t) (ha : a ≤ 1099511627776) (ht : t ≤ 1099511627776) (h : K (.tuple #[kI (lev a t : Nat), kI (dig a (lev a t) : Nat)]) (cel b m (kI t :: L) :: F)) : Tri Tryd.prog 23 #[ptr b, kI a] w0 (cel b m (kI t :: L) :: F) K := by
  have hl := lev_lt ha ht h0
  have p1 : (2 : Nat) ^ 41 = 2199023255552 := by decide
  have hx : a ^^^ t ≠ 0 := fun e => h0 (xor_zero.1 e)
  have hxl : a ^^^ t < 2 ^ 41 := Nat.xor_lt_two_pow (by omega) (by omega)
  have hq : ((((a ^^^ t).log2 + 1 : Nat) : Int) - 1) / 6 = ((lev a t : Nat) : Int) := by unfold lev; omega
  have hq0 : (a ^^^ t).log2 < 41 := (Nat.log2_lt hx).2 hxl
  have hd : (a / 2 ^ (6 * lev a t)) &&& 63 = dig a (lev a t) := by
    rw [dig, p64, show (63 : Nat) = 2 ^ 6 - 1 from rfl, Nat.and_two_pow_sub_one_eq_mod]
  have hm : a / 2 ^ (6 * lev a t) < 2 ^ 41 := Nat.lt_of_le_of_lt (Nat.div_le_self _ _) (by omega)
  refine Tri.enter Tryd.func23 rfl Tryd.ntmps23 rfl ?_
  repeat' (first
    | refine XO.q TT_ok rfl rfl rfl rfl rfl ?_
    | refine XO.nil ?_
    | refine XO.xorN 41 TT_ok rfl rfl rfl rfl rfl rfl rfl (by omega) (by omega) ?_
    | refine XO.convN 41 TT_ok rfl rfl rfl rfl rfl rfl rfl rfl hxl ?_
    | refine len64_spec (Nat.pos_of_ne_zero hx) (by omega) ?_
    | (refine XO.quo64 rfl rfl rfl rfl rfl (by omega) (by omega) (by omega) ?_; rw [hq])
    | (refine XO.mul64 (a := 6) (b := ((lev a t : Nat) : Int)) TT_ok rfl rfl rfl rfl rfl rfl (by omega) (by omega) ?_; rw [show (6 : Int) * ((lev a t : Nat) : Int) = ((6 * lev a t : Nat) : Int) by omega])
    | refine XO.shrN (6 * lev a t) TT_ok rfl rfl rfl rfl rfl rfl (by simp only [IntKind.bits]; omega) ?_
    | (refine XO.andN (b := 63) 41 TT_ok rfl rfl rfl rfl rfl rfl rfl hm (by decide) ?_; rw [hd])
    | refine XS.seq ?_
    | refine XS.region (T := TT) ?_
    | refine XS.draw (T := TT) follows_ok (by decide +kernel) ?_
    | refine XS.block ?_
    | refine XS.inBlock ?_
    | refine XS.exit rfl ?_
    | refine XS.condT rfl ?_
    | refine XS.condF rfl ?_
    | refine XS.skip ?_
    | refine XS.label ?_
    | refine XO.load TT_ok rfl rfl rfl rfl rfl rfl (Reads.here rfl) ?_
    | refine XO.load TT_ok rfl rfl rfl rfl rfl rfl (Reads.skip (Reads.here rfl)) ?_
    | refine XO.load TT_ok rfl rfl rfl rfl rfl rfl (Reads.skip (Reads.skip (Reads.here rfl))) ?_
    | refine XO.load TT_ok rfl rfl rfl rfl rfl rfl (Reads.skip (Reads.skip (Reads.skip (Reads.here rfl)))) ?_
    | refine XO.load TT_ok rfl rfl rfl rfl rfl rfl (Reads.skip (Reads.skip (Reads.skip (Reads.skip (Reads.here rfl))))) ?_
    | refine XO.load TT_ok rfl rfl rfl rfl rfl rfl (Reads.skip (Reads.skip (Reads.skip (Reads.skip (Reads.skip (Reads.here rfl)))))) ?_
    | refine XO.no rfl rfl ?_
    | (refine XO.cmpI TT_ok rfl rfl rfl rfl rfl rfl rfl (fun hc => ?_) (fun hc => ?_) <;> (try (exfalso; omega)))
    | refine XO.pT TT_ok rfl rfl rfl rfl rfl ?_
    | refine XO.pF TT_ok rfl rfl rfl rfl rfl ?_
    | refine XO.cmp TT_ok rfl rfl rfl rfl rfl (fun hc => ?_) (fun hc => ?_)
    | refine XO.add64 TT_ok rfl rfl rfl rfl rfl rfl (by omega) (by omega) ?_
    | refine XO.sub64 TT_ok rfl rfl rfl rfl rfl rfl (by omega) (by omega) ?_
    | refine XO.mul64 TT_ok rfl rfl rfl rfl rfl rfl (by omega) (by omega) ?_
    | refine XO.quo64 rfl rfl rfl rfl rfl (by omega) (by omega) (by omega) ?_
    | refine XO.rem64 rfl rfl rfl rfl rfl (by omega) (by omega) ?_
    | refine XO.p TT_ok rfl rfl rfl rfl ?_
    | refine XO.storeL TT_ok trivial rfl rfl rfl rfl rfl rfl rfl rfl rfl rfl trivial ?_
    | refine XO.ent Ent.front1 (XO.storeL TT_ok trivial rfl rfl rfl rfl rfl rfl rfl rfl rfl rfl trivial ?_)
    | refine XO.ent Ent.front2 (XO.storeL TT_ok trivial rfl rfl rfl rfl rfl rfl rfl rfl rfl rfl trivial ?_)
    | refine XO.ent Ent.front3 (XO.storeL TT_ok trivial rfl rfl rfl rfl rfl rfl rfl rfl rfl rfl trivial ?_)
    | refine XO.ent Ent.front4 (XO.storeL TT_ok trivial rfl rfl rfl rfl rfl rfl rfl rfl rfl rfl trivial ?_)
    | refine XO.ent Ent.front5 (XO.storeL TT_ok trivial rfl rfl rfl rfl rfl rfl rfl rfl rfl rfl trivial ?_)
    | refine XO.box trivial rfl rfl rfl rfl rfl (fun _ => trivial) (fun bb => ?_)
    | refine XO.alloc TT_ok trivial rfl rfl rfl rfl rfl (fun _ => trivial) (fun bb => ?_)
    | refine XO.build TT_ok rfl rfl rfl rfl rfl ?_
    | refine XO.lenSlice TT_ok rfl rfl rfl rfl rfl rfl ?_
    | refine XO.lenString TT_ok rfl rfl rfl rfl rfl rfl ?_
    | refine XO.indexStr TT_ok rfl rfl rfl rfl rfl rfl (by omega) (by omega) ?_
    | refine XO.indexAddr TT_ok rfl rfl rfl rfl rfl rfl rfl (by omega) (by omega) ?_
    | refine XO.addStr rfl rfl rfl rfl rfl (by omega) ?_
    | refine XO.buildSlice TT_ok trivial rfl rfl rfl rfl rfl rfl rfl rfl rfl rfl rfl rfl (fun _ => trivial) (fun bb => ?_)
    | refine XO.callF rfl rfl rfl (by kernel_rfl) rfl ?_)
  exact XS.ret2 Tryd.func23 rfl Tryd.results23 rfl rfl (Ent.refl _) h
end Go.Proofs.YtnpnfgnhgjmlbaaDoor
