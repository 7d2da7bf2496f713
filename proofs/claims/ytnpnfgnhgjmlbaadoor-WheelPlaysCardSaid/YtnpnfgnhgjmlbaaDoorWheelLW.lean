/- WheelPlays comes to true. Conditions: the table of the lowest bits lies in memory; the script's row lies in memory, its fields are of their kinds. -/
import Derived.Test.YtnpnfgnhgjmlbaaDoorWheelR4
namespace Go.Proofs.YtnpnfgnhgjmlbaaDoor
open Go Go.Sx Go.WheelM
variable {w0 : World} {F H : List HProp} {K : Value → List HProp → Prop}
theorem XO.eqTimer {n : Nat} {HL : Held} {ops : Array Oper} {J : Env → List HProp → Prop} {ix : Nat} {rest : List Oper} {o : Oper} {e : Env} {x y : Operand} {t' : TypeId} {a b c d : Int} {k : Nat} (hh : heldAt HL ix = none) (hg : wantedE ops e n o = true) (hd : o.dst = some k) (hop : o.op = .binOp .eql 33 x y t')
    (hx : e.ev n x = .agg ⟨[kI a, kI b]⟩) (hy : e.ev n y = .agg ⟨[kI c, kI d]⟩) (h1 : a = c → b = d → XO Tryd.prog TT w0 n HL ops J (ix + 1) rest (e.upd k (.bool true)) H) (h2 : ¬ (a = c ∧ b = d) → XO Tryd.prog TT w0 n HL ops J (ix + 1) rest (e.upd k (.bool false)) H) :
    XO Tryd.prog TT w0 n HL ops J ix (o :: rest) e H := by
  have hcls : cls TT o.op ≠ .eff := by rw [hop]; simp only [cls]; split <;> simp
  have hg' := fun w => guard_timer .eql x y (.agg ⟨[kI a, kI b]⟩) (.agg ⟨[kI c, kI d]⟩) w ⟨_, rfl⟩ ⟨_, rfl⟩
  by_cases hq : a = c ∧ b = d
  · refine XO.valOp (T := TT) (v := .bool true) hh hg hcls (fun w => ?_) (by rw [hd]; exact h1 hq.1 hq.2)
    have := eq_timer a b c d w
    rw [decide_eq_true hq] at this
    simp [execOp, hop, hx, hy, hg', binOp, this]
  · refine XO.valOp (T := TT) (v := .bool false) hh hg hcls (fun w => ?_) (by rw [hd]; exact h2 hq)
    have := eq_timer a b c d w
    rw [decide_eq_false hq] at this
    simp [execOp, hop, hx, hy, hg', binOp, this]
/-- The wheel's timers and the document's are the same. -/
structure Same (tm all : Tm) : Prop where
  get : ∀ j, aget tm j = aget all j
  len : tm.length = all.length
  small : tm.length ≤ 4096
  keys : (tm.map (·.1)).Nodup
  rkeys : (all.map (·.1)).Nodup
theorem Same.first {tm all : Tm} (h : Same tm all) {id : Int} {a : Nat} (hf : First all id a) : First tm id a :=
  ⟨by rw [h.get]; exact hf.1, fun j b hb => hf.2 j b (by rw [← h.get]; exact hb)⟩
theorem Same.del {tm all : Tm} (h : Same tm all) {id : Int} {a : Nat} (ha : aget tm id = some a) : Same (adel tm id) (adel all id) where
  get := fun j => by rw [aget_del h.keys, aget_del h.rkeys, h.get]
  len := by rw [len_del ha, len_del (h.get id ▸ ha), h.len]
  small := by rw [len_del ha]; have := h.small; omega
  keys := nodup_del h.keys
  rkeys := nodup_del h.rkeys
theorem Same.set {tm all : Tm} (h : Same tm all) {id : Int} {a : Nat} (hs : aget tm id = none → tm.length < 4096) : Same (aset (adel tm id) id a) (aset all id a) := by
  have hdn : aget (adel tm id) id = none := by rw [aget_del h.keys, if_pos rfl]
  have h1 := h.small
  have h2 := h.len
  have hl : (aset (adel tm id) id a).length = (aset all id a).length ∧ (aset (adel tm id) id a).length ≤ 4096 := by
    rw [len_set, len_set, hdn, ← h.get]
    cases haa : aget tm id with
    | none => have := hs haa; rw [adel_none haa]; simp; omega
    | some c => rw [len_del haa]; have := List.length_pos_of_mem (aget_mem haa); simp; omega
  exact ⟨fun j => by
    rw [aget_set, aget_set]
    split
    · rfl
    · rename_i e; rw [aget_del h.keys, if_neg e, h.get], hl.1, hl.2, nodup_set (nodup_del h.keys), nodup_set h.rkeys⟩
theorem Same.adv {to : Nat} {all rest : Tm} {out : List (Int × Nat)} (hA : Adv to all out rest) : ∀ {tm : Tm}, Same tm all → ∃ rest', Adv to tm out rest' ∧ Same rest' rest := by
  induction hA with
  | done h => intro tm hs; exact ⟨tm, .done (fun j b hb => h j b (by rw [← hs.get]; exact hb)), hs⟩
  | step hf ha _ ih =>
    intro tm hs
    have hf' := hs.first hf
    obtain ⟨r, h1, h2⟩ := ih (hs.del hf'.1)
    exact ⟨r, .step hf' ha h1, h2⟩
set_option maxHeartbeats 16000000 in
theorem step_set {b1 b2 t : Nat} {tm all : Tm} {A B : Int} (hs : Same tm all) (h : ∀ tm' all', Same tm' all' → K (.bool true) (wheelP b1 t tm' [] :: rwheel b2 t all' :: F)) : Tri Tryd.prog 18 #[ptr b1, ptr b2, .agg #[kI 1, kI A, kI B]] w0 (wheelP b1 t tm [] :: rwheel b2 t all :: F) K := by
  have hl := hs.len
  have hsm := hs.small
  have hget := hs.get A
  refine Tri.enter Tryd.func18 rfl Tryd.ntmps18 rfl ?_
  by_cases g1 : OkId A
  · by_cases g2 : OkAt t B
    · by_cases g3 : aget tm A = none → tm.length < 4096
      · obtain ⟨c, rfl⟩ := Int.eq_ofNat_of_zero_le (show 0 ≤ B by unfold OkAt at g2; omega)
        repeat' (first
          | refine XO.q TT_ok rfl rfl rfl rfl rfl ?_
          | refine XO.nil ?_
          | refine set_good hsm g1 g2 g3 ?_
          | refine Tri.ent Ent.front1 (set_good hsm g1 g2 g3 ?_)
          | refine Tri.ent Ent.front2 (set_good hsm g1 g2 g3 ?_)
          | refine Tri.ent Ent.front3 (set_good hsm g1 g2 g3 ?_)
          | refine Tri.ent Ent.front4 (set_good hsm g1 g2 g3 ?_)
          | refine rset_good (by omega) g1 g2 (fun q => by have := g3 (hget.trans q); omega) ?_
          | refine Tri.ent Ent.front1 (rset_good (by omega) g1 g2 (fun q => by have := g3 (hget.trans q); omega) ?_)
          | refine Tri.ent Ent.front2 (rset_good (by omega) g1 g2 (fun q => by have := g3 (hget.trans q); omega) ?_)
          | refine Tri.ent Ent.front3 (rset_good (by omega) g1 g2 (fun q => by have := g3 (hget.trans q); omega) ?_)
          | refine Tri.ent Ent.front4 (rset_good (by omega) g1 g2 (fun q => by have := g3 (hget.trans q); omega) ?_)
          | refine XS.seq ?_
          | refine XS.region (T := TT) ?_
          | refine XS.draw (T := TT) follows_ok (by decide +kernel) ?_
          | refine XS.block ?_
          | refine XS.inBlock ?_
          | refine XS.exit rfl ?_
          | refine XS.condT rfl ?_
          | refine XS.condF rfl ?_
          | refine XS.skip ?_
          | refine XS.label ?_
          | refine XO.load TT_ok rfl rfl rfl rfl rfl rfl (Reads.here rfl) ?_
          | refine XO.load TT_ok rfl rfl rfl rfl rfl rfl (Reads.skip (Reads.here rfl)) ?_
          | refine XO.load TT_ok rfl rfl rfl rfl rfl rfl (Reads.skip (Reads.skip (Reads.here rfl))) ?_
          | refine XO.load TT_ok rfl rfl rfl rfl rfl rfl (Reads.skip (Reads.skip (Reads.skip (Reads.here rfl)))) ?_
          | refine XO.load TT_ok rfl rfl rfl rfl rfl rfl (Reads.skip (Reads.skip (Reads.skip (Reads.skip (Reads.here rfl))))) ?_
          | refine XO.load TT_ok rfl rfl rfl rfl rfl rfl (Reads.skip (Reads.skip (Reads.skip (Reads.skip (Reads.skip (Reads.here rfl)))))) ?_
          | refine XO.no rfl rfl ?_
          | (refine XO.cmpI TT_ok rfl rfl rfl rfl rfl rfl rfl (fun hc => ?_) (fun hc => ?_) <;> (try (exfalso; omega)))
          | refine XO.pT TT_ok rfl rfl rfl rfl rfl ?_
          | refine XO.pF TT_ok rfl rfl rfl rfl rfl ?_
          | refine XO.cmp TT_ok rfl rfl rfl rfl rfl (fun hc => ?_) (fun hc => ?_)
          | refine XO.add64 TT_ok rfl rfl rfl rfl rfl rfl (by omega) (by omega) ?_
          | refine XO.sub64 TT_ok rfl rfl rfl rfl rfl rfl (by omega) (by omega) ?_
          | refine XO.mul64 TT_ok rfl rfl rfl rfl rfl rfl (by omega) (by omega) ?_
          | refine XO.quo64 rfl rfl rfl rfl rfl (by omega) (by omega) (by omega) ?_
          | refine XO.rem64 rfl rfl rfl rfl rfl (by omega) (by omega) ?_
          | refine XO.p TT_ok rfl rfl rfl rfl ?_
          | refine XO.storeL TT_ok trivial rfl rfl rfl rfl rfl rfl rfl rfl rfl rfl trivial ?_
          | refine XO.ent Ent.front1 (XO.storeL TT_ok trivial rfl rfl rfl rfl rfl rfl rfl rfl rfl rfl trivial ?_)
          | refine XO.ent Ent.front2 (XO.storeL TT_ok trivial rfl rfl rfl rfl rfl rfl rfl rfl rfl rfl trivial ?_)
          | refine XO.ent Ent.front3 (XO.storeL TT_ok trivial rfl rfl rfl rfl rfl rfl rfl rfl rfl rfl trivial ?_)
          | refine XO.ent Ent.front4 (XO.storeL TT_ok trivial rfl rfl rfl rfl rfl rfl rfl rfl rfl rfl trivial ?_)
          | refine XO.ent Ent.front5 (XO.storeL TT_ok trivial rfl rfl rfl rfl rfl rfl rfl rfl rfl rfl trivial ?_)
          | refine XO.box trivial rfl rfl rfl rfl rfl (fun _ => trivial) (fun bb => ?_)
          | refine XO.alloc TT_ok trivial rfl rfl rfl rfl rfl (fun _ => trivial) (fun bb => ?_)
          | refine XO.build TT_ok rfl rfl rfl rfl rfl ?_
          | refine XO.lenSlice TT_ok rfl rfl rfl rfl rfl rfl ?_
          | refine XO.lenString TT_ok rfl rfl rfl rfl rfl rfl ?_
          | refine XO.indexStr TT_ok rfl rfl rfl rfl rfl rfl (by omega) (by omega) ?_
          | refine XO.indexAddr TT_ok rfl rfl rfl rfl rfl rfl rfl (by omega) (by omega) ?_
          | refine XO.addStr rfl rfl rfl rfl rfl (by omega) ?_
          | refine XO.buildSlice TT_ok trivial rfl rfl rfl rfl rfl rfl rfl rfl rfl rfl rfl rfl (fun _ => trivial) (fun bb => ?_)
          | refine XO.callF rfl rfl rfl (by kernel_rfl) rfl ?_)
        all_goals exact XS.ret1 Tryd.func18 rfl Tryd.results18 rfl (by repeat' (first | exact Ent.refl _ | exact Ent.dropAll _ | refine Ent.cons _ ?_ | refine Ent.trans Ent.front1 (Ent.cons _ ?_) | refine Ent.trans Ent.front2 (Ent.cons _ ?_) | refine Ent.trans Ent.front3 (Ent.cons _ ?_) | refine Ent.trans Ent.front4 (Ent.cons _ ?_) | refine Ent.trans Ent.front5 (Ent.cons _ ?_) | refine Ent.trans Row.of_at (Ent.cons _ ?_) | refine Ent.trans Ent.front1 (Ent.trans Row.of_at (Ent.cons _ ?_)) | refine Ent.trans Ent.front2 (Ent.trans Row.of_at (Ent.cons _ ?_)) | refine Ent.trans Ent.front3 (Ent.trans Row.of_at (Ent.cons _ ?_)) | refine Ent.trans Ent.front4 (Ent.trans Row.of_at (Ent.cons _ ?_)) | refine Ent.trans (Ent.drop _ _) ?_)) (h _ _ (hs.set g3))
      · have g4 : aget tm A = none := Classical.byContradiction fun q => g3 fun q' => absurd q' q
        have g5 : 4096 ≤ tm.length := Nat.le_of_not_lt fun q => g3 fun _ => q
        repeat' (first
          | refine XO.q TT_ok rfl rfl rfl rfl rfl ?_
          | refine XO.nil ?_
          | refine set_bad hsm (fun q => absurd g1 q) (fun _ q => absurd g2 q) (fun _ _ _ _ => ?_) (fun q => g3 q.2.2)
          | refine Tri.ent Ent.front1 (set_bad hsm (fun q => absurd g1 q) (fun _ q => absurd g2 q) (fun _ _ _ _ => ?_) (fun q => g3 q.2.2))
          | refine Tri.ent Ent.front2 (set_bad hsm (fun q => absurd g1 q) (fun _ q => absurd g2 q) (fun _ _ _ _ => ?_) (fun q => g3 q.2.2))
          | refine Tri.ent Ent.front3 (set_bad hsm (fun q => absurd g1 q) (fun _ q => absurd g2 q) (fun _ _ _ _ => ?_) (fun q => g3 q.2.2))
          | refine Tri.ent Ent.front4 (set_bad hsm (fun q => absurd g1 q) (fun _ q => absurd g2 q) (fun _ _ _ _ => ?_) (fun q => g3 q.2.2))
          | refine rset_bad (by omega) (fun q => absurd g1 q) (fun _ q => absurd g2 q) (fun _ _ _ _ => ?_) (fun q => by have := q.2.2 (hget.symm.trans g4); omega)
          | refine Tri.ent Ent.front1 (rset_bad (by omega) (fun q => absurd g1 q) (fun _ q => absurd g2 q) (fun _ _ _ _ => ?_) (fun q => by have := q.2.2 (hget.symm.trans g4); omega))
          | refine Tri.ent Ent.front2 (rset_bad (by omega) (fun q => absurd g1 q) (fun _ q => absurd g2 q) (fun _ _ _ _ => ?_) (fun q => by have := q.2.2 (hget.symm.trans g4); omega))
          | refine Tri.ent Ent.front3 (rset_bad (by omega) (fun q => absurd g1 q) (fun _ q => absurd g2 q) (fun _ _ _ _ => ?_) (fun q => by have := q.2.2 (hget.symm.trans g4); omega))
          | refine Tri.ent Ent.front4 (rset_bad (by omega) (fun q => absurd g1 q) (fun _ q => absurd g2 q) (fun _ _ _ _ => ?_) (fun q => by have := q.2.2 (hget.symm.trans g4); omega))
          | refine XS.seq ?_
          | refine XS.region (T := TT) ?_
          | refine XS.draw (T := TT) follows_ok (by decide +kernel) ?_
          | refine XS.block ?_
          | refine XS.inBlock ?_
          | refine XS.exit rfl ?_
          | refine XS.condT rfl ?_
          | refine XS.condF rfl ?_
          | refine XS.skip ?_
          | refine XS.label ?_
          | refine XO.load TT_ok rfl rfl rfl rfl rfl rfl (Reads.here rfl) ?_
          | refine XO.load TT_ok rfl rfl rfl rfl rfl rfl (Reads.skip (Reads.here rfl)) ?_
          | refine XO.load TT_ok rfl rfl rfl rfl rfl rfl (Reads.skip (Reads.skip (Reads.here rfl))) ?_
          | refine XO.load TT_ok rfl rfl rfl rfl rfl rfl (Reads.skip (Reads.skip (Reads.skip (Reads.here rfl)))) ?_
          | refine XO.load TT_ok rfl rfl rfl rfl rfl rfl (Reads.skip (Reads.skip (Reads.skip (Reads.skip (Reads.here rfl))))) ?_
          | refine XO.load TT_ok rfl rfl rfl rfl rfl rfl (Reads.skip (Reads.skip (Reads.skip (Reads.skip (Reads.skip (Reads.here rfl)))))) ?_
          | refine XO.no rfl rfl ?_
          | (refine XO.cmpI TT_ok rfl rfl rfl rfl rfl rfl rfl (fun hc => ?_) (fun hc => ?_) <;> (try (exfalso; omega)))
          | refine XO.pT TT_ok rfl rfl rfl rfl rfl ?_
          | refine XO.pF TT_ok rfl rfl rfl rfl rfl ?_
          | refine XO.cmp TT_ok rfl rfl rfl rfl rfl (fun hc => ?_) (fun hc => ?_)
          | refine XO.add64 TT_ok rfl rfl rfl rfl rfl rfl (by omega) (by omega) ?_
          | refine XO.sub64 TT_ok rfl rfl rfl rfl rfl rfl (by omega) (by omega) ?_
          | refine XO.mul64 TT_ok rfl rfl rfl rfl rfl rfl (by omega) (by omega) ?_
          | refine XO.quo64 rfl rfl rfl rfl rfl (by omega) (by omega) (by omega) ?_
          | refine XO.rem64 rfl rfl rfl rfl rfl (by omega) (by omega) ?_
          | refine XO.p TT_ok rfl rfl rfl rfl ?_
          | refine XO.storeL TT_ok trivial rfl rfl rfl rfl rfl rfl rfl rfl rfl rfl trivial ?_
          | refine XO.ent Ent.front1 (XO.storeL TT_ok trivial rfl rfl rfl rfl rfl rfl rfl rfl rfl rfl trivial ?_)
          | refine XO.ent Ent.front2 (XO.storeL TT_ok trivial rfl rfl rfl rfl rfl rfl rfl rfl rfl rfl trivial ?_)
          | refine XO.ent Ent.front3 (XO.storeL TT_ok trivial rfl rfl rfl rfl rfl rfl rfl rfl rfl rfl trivial ?_)
          | refine XO.ent Ent.front4 (XO.storeL TT_ok trivial rfl rfl rfl rfl rfl rfl rfl rfl rfl rfl trivial ?_)
          | refine XO.ent Ent.front5 (XO.storeL TT_ok trivial rfl rfl rfl rfl rfl rfl rfl rfl rfl rfl trivial ?_)
          | refine XO.box trivial rfl rfl rfl rfl rfl (fun _ => trivial) (fun bb => ?_)
          | refine XO.alloc TT_ok trivial rfl rfl rfl rfl rfl (fun _ => trivial) (fun bb => ?_)
          | refine XO.build TT_ok rfl rfl rfl rfl rfl ?_
          | refine XO.lenSlice TT_ok rfl rfl rfl rfl rfl rfl ?_
          | refine XO.lenString TT_ok rfl rfl rfl rfl rfl rfl ?_
          | refine XO.indexStr TT_ok rfl rfl rfl rfl rfl rfl (by omega) (by omega) ?_
          | refine XO.indexAddr TT_ok rfl rfl rfl rfl rfl rfl rfl (by omega) (by omega) ?_
          | refine XO.addStr rfl rfl rfl rfl rfl (by omega) ?_
          | refine XO.buildSlice TT_ok trivial rfl rfl rfl rfl rfl rfl rfl rfl rfl rfl rfl rfl (fun _ => trivial) (fun bb => ?_)
          | refine XO.callF rfl rfl rfl (by kernel_rfl) rfl ?_)
        all_goals exact XS.ret1 Tryd.func18 rfl Tryd.results18 rfl (by repeat' (first | exact Ent.refl _ | exact Ent.dropAll _ | refine Ent.cons _ ?_ | refine Ent.trans Ent.front1 (Ent.cons _ ?_) | refine Ent.trans Ent.front2 (Ent.cons _ ?_) | refine Ent.trans Ent.front3 (Ent.cons _ ?_) | refine Ent.trans Ent.front4 (Ent.cons _ ?_) | refine Ent.trans Ent.front5 (Ent.cons _ ?_) | refine Ent.trans Row.of_at (Ent.cons _ ?_) | refine Ent.trans Ent.front1 (Ent.trans Row.of_at (Ent.cons _ ?_)) | refine Ent.trans Ent.front2 (Ent.trans Row.of_at (Ent.cons _ ?_)) | refine Ent.trans Ent.front3 (Ent.trans Row.of_at (Ent.cons _ ?_)) | refine Ent.trans Ent.front4 (Ent.trans Row.of_at (Ent.cons _ ?_)) | refine Ent.trans (Ent.drop _ _) ?_)) (h _ _ hs)
    · repeat' (first
        | refine XO.q TT_ok rfl rfl rfl rfl rfl ?_
        | refine XO.nil ?_
        | refine set_bad hsm (fun q => absurd g1 q) (fun _ _ => ?_) (fun _ q => absurd q g2) (fun q => g2 q.2.1)
        | refine Tri.ent Ent.front1 (set_bad hsm (fun q => absurd g1 q) (fun _ _ => ?_) (fun _ q => absurd q g2) (fun q => g2 q.2.1))
        | refine Tri.ent Ent.front2 (set_bad hsm (fun q => absurd g1 q) (fun _ _ => ?_) (fun _ q => absurd q g2) (fun q => g2 q.2.1))
        | refine Tri.ent Ent.front3 (set_bad hsm (fun q => absurd g1 q) (fun _ _ => ?_) (fun _ q => absurd q g2) (fun q => g2 q.2.1))
        | refine Tri.ent Ent.front4 (set_bad hsm (fun q => absurd g1 q) (fun _ _ => ?_) (fun _ q => absurd q g2) (fun q => g2 q.2.1))
        | refine rset_bad (by omega) (fun q => absurd g1 q) (fun _ _ => ?_) (fun _ q => absurd q g2) (fun q => g2 q.2.1)
        | refine Tri.ent Ent.front1 (rset_bad (by omega) (fun q => absurd g1 q) (fun _ _ => ?_) (fun _ q => absurd q g2) (fun q => g2 q.2.1))
        | refine Tri.ent Ent.front2 (rset_bad (by omega) (fun q => absurd g1 q) (fun _ _ => ?_) (fun _ q => absurd q g2) (fun q => g2 q.2.1))
        | refine Tri.ent Ent.front3 (rset_bad (by omega) (fun q => absurd g1 q) (fun _ _ => ?_) (fun _ q => absurd q g2) (fun q => g2 q.2.1))
        | refine Tri.ent Ent.front4 (rset_bad (by omega) (fun q => absurd g1 q) (fun _ _ => ?_) (fun _ q => absurd q g2) (fun q => g2 q.2.1))
        | refine XS.seq ?_
        | refine XS.region (T := TT) ?_
        | refine XS.draw (T := TT) follows_ok (by decide +kernel) ?_
        | refine XS.block ?_
        | refine XS.inBlock ?_
        | refine XS.exit rfl ?_
        | refine XS.condT rfl ?_
        | refine XS.condF rfl ?_
        | refine XS.skip ?_
        | refine XS.label ?_
        | refine XO.load TT_ok rfl rfl rfl rfl rfl rfl (Reads.here rfl) ?_
        | refine XO.load TT_ok rfl rfl rfl rfl rfl rfl (Reads.skip (Reads.here rfl)) ?_
        | refine XO.load TT_ok rfl rfl rfl rfl rfl rfl (Reads.skip (Reads.skip (Reads.here rfl))) ?_
        | refine XO.load TT_ok rfl rfl rfl rfl rfl rfl (Reads.skip (Reads.skip (Reads.skip (Reads.here rfl)))) ?_
        | refine XO.load TT_ok rfl rfl rfl rfl rfl rfl (Reads.skip (Reads.skip (Reads.skip (Reads.skip (Reads.here rfl))))) ?_
        | refine XO.load TT_ok rfl rfl rfl rfl rfl rfl (Reads.skip (Reads.skip (Reads.skip (Reads.skip (Reads.skip (Reads.here rfl)))))) ?_
        | refine XO.no rfl rfl ?_
        | (refine XO.cmpI TT_ok rfl rfl rfl rfl rfl rfl rfl (fun hc => ?_) (fun hc => ?_) <;> (try (exfalso; omega)))
        | refine XO.pT TT_ok rfl rfl rfl rfl rfl ?_
        | refine XO.pF TT_ok rfl rfl rfl rfl rfl ?_
        | refine XO.cmp TT_ok rfl rfl rfl rfl rfl (fun hc => ?_) (fun hc => ?_)
        | refine XO.add64 TT_ok rfl rfl rfl rfl rfl rfl (by omega) (by omega) ?_
        | refine XO.sub64 TT_ok rfl rfl rfl rfl rfl rfl (by omega) (by omega) ?_
        | refine XO.mul64 TT_ok rfl rfl rfl rfl rfl rfl (by omega) (by omega) ?_
        | refine XO.quo64 rfl rfl rfl rfl rfl (by omega) (by omega) (by omega) ?_
        | refine XO.rem64 rfl rfl rfl rfl rfl (by omega) (by omega) ?_
        | refine XO.p TT_ok rfl rfl rfl rfl ?_
        | refine XO.storeL TT_ok trivial rfl rfl rfl rfl rfl rfl rfl rfl rfl rfl trivial ?_
        | refine XO.ent Ent.front1 (XO.storeL TT_ok trivial rfl rfl rfl rfl rfl rfl rfl rfl rfl rfl trivial ?_)
        | refine XO.ent Ent.front2 (XO.storeL TT_ok trivial rfl rfl rfl rfl rfl rfl rfl rfl rfl rfl trivial ?_)
        | refine XO.ent Ent.front3 (XO.storeL TT_ok trivial rfl rfl rfl rfl rfl rfl rfl rfl rfl rfl trivial ?_)
        | refine XO.ent Ent.front4 (XO.storeL TT_ok trivial rfl rfl rfl rfl rfl rfl rfl rfl rfl rfl trivial ?_)
        | refine XO.ent Ent.front5 (XO.storeL TT_ok trivial rfl rfl rfl rfl rfl rfl rfl rfl rfl rfl trivial ?_)
        | refine XO.box trivial rfl rfl rfl rfl rfl (fun _ => trivial) (fun bb => ?_)
        | refine XO.alloc TT_ok trivial rfl rfl rfl rfl rfl (fun _ => trivial) (fun bb => ?_)
        | refine XO.build TT_ok rfl rfl rfl rfl rfl ?_
        | refine XO.lenSlice TT_ok rfl rfl rfl rfl rfl rfl ?_
        | refine XO.lenString TT_ok rfl rfl rfl rfl rfl rfl ?_
        | refine XO.indexStr TT_ok rfl rfl rfl rfl rfl rfl (by omega) (by omega) ?_
        | refine XO.indexAddr TT_ok rfl rfl rfl rfl rfl rfl rfl (by omega) (by omega) ?_
        | refine XO.addStr rfl rfl rfl rfl rfl (by omega) ?_
        | refine XO.buildSlice TT_ok trivial rfl rfl rfl rfl rfl rfl rfl rfl rfl rfl rfl rfl (fun _ => trivial) (fun bb => ?_)
        | refine XO.callF rfl rfl rfl (by kernel_rfl) rfl ?_)
      all_goals exact XS.ret1 Tryd.func18 rfl Tryd.results18 rfl (by repeat' (first | exact Ent.refl _ | exact Ent.dropAll _ | refine Ent.cons _ ?_ | refine Ent.trans Ent.front1 (Ent.cons _ ?_) | refine Ent.trans Ent.front2 (Ent.cons _ ?_) | refine Ent.trans Ent.front3 (Ent.cons _ ?_) | refine Ent.trans Ent.front4 (Ent.cons _ ?_) | refine Ent.trans Ent.front5 (Ent.cons _ ?_) | refine Ent.trans Row.of_at (Ent.cons _ ?_) | refine Ent.trans Ent.front1 (Ent.trans Row.of_at (Ent.cons _ ?_)) | refine Ent.trans Ent.front2 (Ent.trans Row.of_at (Ent.cons _ ?_)) | refine Ent.trans Ent.front3 (Ent.trans Row.of_at (Ent.cons _ ?_)) | refine Ent.trans Ent.front4 (Ent.trans Row.of_at (Ent.cons _ ?_)) | refine Ent.trans (Ent.drop _ _) ?_)) (h _ _ hs)
  · repeat' (first
      | refine XO.q TT_ok rfl rfl rfl rfl rfl ?_
      | refine XO.nil ?_
      | refine set_bad hsm (fun _ => ?_) (fun q => absurd q g1) (fun q => absurd q g1) (fun q => g1 q.1)
      | refine Tri.ent Ent.front1 (set_bad hsm (fun _ => ?_) (fun q => absurd q g1) (fun q => absurd q g1) (fun q => g1 q.1))
      | refine Tri.ent Ent.front2 (set_bad hsm (fun _ => ?_) (fun q => absurd q g1) (fun q => absurd q g1) (fun q => g1 q.1))
      | refine Tri.ent Ent.front3 (set_bad hsm (fun _ => ?_) (fun q => absurd q g1) (fun q => absurd q g1) (fun q => g1 q.1))
      | refine Tri.ent Ent.front4 (set_bad hsm (fun _ => ?_) (fun q => absurd q g1) (fun q => absurd q g1) (fun q => g1 q.1))
      | refine rset_bad (by omega) (fun _ => ?_) (fun q => absurd q g1) (fun q => absurd q g1) (fun q => g1 q.1)
      | refine Tri.ent Ent.front1 (rset_bad (by omega) (fun _ => ?_) (fun q => absurd q g1) (fun q => absurd q g1) (fun q => g1 q.1))
      | refine Tri.ent Ent.front2 (rset_bad (by omega) (fun _ => ?_) (fun q => absurd q g1) (fun q => absurd q g1) (fun q => g1 q.1))
      | refine Tri.ent Ent.front3 (rset_bad (by omega) (fun _ => ?_) (fun q => absurd q g1) (fun q => absurd q g1) (fun q => g1 q.1))
      | refine Tri.ent Ent.front4 (rset_bad (by omega) (fun _ => ?_) (fun q => absurd q g1) (fun q => absurd q g1) (fun q => g1 q.1))
      | refine XS.seq ?_
      | refine XS.region (T := TT) ?_
      | refine XS.draw (T := TT) follows_ok (by decide +kernel) ?_
      | refine XS.block ?_
      | refine XS.inBlock ?_
      | refine XS.exit rfl ?_
      | refine XS.condT rfl ?_
      | refine XS.condF rfl ?_
      | refine XS.skip ?_
      | refine XS.label ?_
      | refine XO.load TT_ok rfl rfl rfl rfl rfl rfl (Reads.here rfl) ?_
      | refine XO.load TT_ok rfl rfl rfl rfl rfl rfl (Reads.skip (Reads.here rfl)) ?_
      | refine XO.load TT_ok rfl rfl rfl rfl rfl rfl (Reads.skip (Reads.skip (Reads.here rfl))) ?_
      | refine XO.load TT_ok rfl rfl rfl rfl rfl rfl (Reads.skip (Reads.skip (Reads.skip (Reads.here rfl)))) ?_
      | refine XO.load TT_ok rfl rfl rfl rfl rfl rfl (Reads.skip (Reads.skip (Reads.skip (Reads.skip (Reads.here rfl))))) ?_
      | refine XO.load TT_ok rfl rfl rfl rfl rfl rfl (Reads.skip (Reads.skip (Reads.skip (Reads.skip (Reads.skip (Reads.here rfl)))))) ?_
      | refine XO.no rfl rfl ?_
      | (refine XO.cmpI TT_ok rfl rfl rfl rfl rfl rfl rfl (fun hc => ?_) (fun hc => ?_) <;> (try (exfalso; omega)))
      | refine XO.pT TT_ok rfl rfl rfl rfl rfl ?_
      | refine XO.pF TT_ok rfl rfl rfl rfl rfl ?_
      | refine XO.cmp TT_ok rfl rfl rfl rfl rfl (fun hc => ?_) (fun hc => ?_)
      | refine XO.add64 TT_ok rfl rfl rfl rfl rfl rfl (by omega) (by omega) ?_
      | refine XO.sub64 TT_ok rfl rfl rfl rfl rfl rfl (by omega) (by omega) ?_
      | refine XO.mul64 TT_ok rfl rfl rfl rfl rfl rfl (by omega) (by omega) ?_
      | refine XO.quo64 rfl rfl rfl rfl rfl (by omega) (by omega) (by omega) ?_
      | refine XO.rem64 rfl rfl rfl rfl rfl (by omega) (by omega) ?_
      | refine XO.p TT_ok rfl rfl rfl rfl ?_
      | refine XO.storeL TT_ok trivial rfl rfl rfl rfl rfl rfl rfl rfl rfl rfl trivial ?_
      | refine XO.ent Ent.front1 (XO.storeL TT_ok trivial rfl rfl rfl rfl rfl rfl rfl rfl rfl rfl trivial ?_)
      | refine XO.ent Ent.front2 (XO.storeL TT_ok trivial rfl rfl rfl rfl rfl rfl rfl rfl rfl rfl trivial ?_)
      | refine XO.ent Ent.front3 (XO.storeL TT_ok trivial rfl rfl rfl rfl rfl rfl rfl rfl rfl rfl trivial ?_)
      | refine XO.ent Ent.front4 (XO.storeL TT_ok trivial rfl rfl rfl rfl rfl rfl rfl rfl rfl rfl trivial ?_)
      | refine XO.ent Ent.front5 (XO.storeL TT_ok trivial rfl rfl rfl rfl rfl rfl rfl rfl rfl rfl trivial ?_)
      | refine XO.box trivial rfl rfl rfl rfl rfl (fun _ => trivial) (fun bb => ?_)
      | refine XO.alloc TT_ok trivial rfl rfl rfl rfl rfl (fun _ => trivial) (fun bb => ?_)
      | refine XO.build TT_ok rfl rfl rfl rfl rfl ?_
      | refine XO.lenSlice TT_ok rfl rfl rfl rfl rfl rfl ?_
      | refine XO.lenString TT_ok rfl rfl rfl rfl rfl rfl ?_
      | refine XO.indexStr TT_ok rfl rfl rfl rfl rfl rfl (by omega) (by omega) ?_
      | refine XO.indexAddr TT_ok rfl rfl rfl rfl rfl rfl rfl (by omega) (by omega) ?_
      | refine XO.addStr rfl rfl rfl rfl rfl (by omega) ?_
      | refine XO.buildSlice TT_ok trivial rfl rfl rfl rfl rfl rfl rfl rfl rfl rfl rfl rfl (fun _ => trivial) (fun bb => ?_)
      | refine XO.callF rfl rfl rfl (by kernel_rfl) rfl ?_)
    all_goals exact XS.ret1 Tryd.func18 rfl Tryd.results18 rfl (by repeat' (first | exact Ent.refl _ | exact Ent.dropAll _ | refine Ent.cons _ ?_ | refine Ent.trans Ent.front1 (Ent.cons _ ?_) | refine Ent.trans Ent.front2 (Ent.cons _ ?_) | refine Ent.trans Ent.front3 (Ent.cons _ ?_) | refine Ent.trans Ent.front4 (Ent.cons _ ?_) | refine Ent.trans Ent.front5 (Ent.cons _ ?_) | refine Ent.trans Row.of_at (Ent.cons _ ?_) | refine Ent.trans Ent.front1 (Ent.trans Row.of_at (Ent.cons _ ?_)) | refine Ent.trans Ent.front2 (Ent.trans Row.of_at (Ent.cons _ ?_)) | refine Ent.trans Ent.front3 (Ent.trans Row.of_at (Ent.cons _ ?_)) | refine Ent.trans Ent.front4 (Ent.trans Row.of_at (Ent.cons _ ?_)) | refine Ent.trans (Ent.drop _ _) ?_)) (h _ _ hs)
set_option maxHeartbeats 16000000 in
theorem step_cancel {b1 b2 t : Nat} {tm all : Tm} {A B : Int} (hs : Same tm all) (h : ∀ tm' all', Same tm' all' → K (.bool true) (wheelP b1 t tm' [] :: rwheel b2 t all' :: F)) : Tri Tryd.prog 18 #[ptr b1, ptr b2, .agg #[kI 2, kI A, kI B]] w0 (wheelP b1 t tm [] :: rwheel b2 t all :: F) K := by
  have hl := hs.len
  have hsm := hs.small
  have hget := hs.get A
  refine Tri.enter Tryd.func18 rfl Tryd.ntmps18 rfl ?_
  cases haa : aget tm A with
  | none =>
    rw [haa] at hget
    repeat' (first
      | refine XO.q TT_ok rfl rfl rfl rfl rfl ?_
      | refine XO.nil ?_
      | refine cancel_spec hsm (fun _ => ?_) (fun _ q => absurd (q.symm.trans haa) (by simp))
      | refine Tri.ent Ent.front1 (cancel_spec hsm (fun _ => ?_) (fun _ q => absurd (q.symm.trans haa) (by simp)))
      | refine Tri.ent Ent.front2 (cancel_spec hsm (fun _ => ?_) (fun _ q => absurd (q.symm.trans haa) (by simp)))
      | refine Tri.ent Ent.front3 (cancel_spec hsm (fun _ => ?_) (fun _ q => absurd (q.symm.trans haa) (by simp)))
      | refine Tri.ent Ent.front4 (cancel_spec hsm (fun _ => ?_) (fun _ q => absurd (q.symm.trans haa) (by simp)))
      | refine rcancel_spec (by omega) (fun _ q => absurd (q.symm.trans hget.symm) (by simp)) (fun _ => ?_)
      | refine Tri.ent Ent.front1 (rcancel_spec (by omega) (fun _ q => absurd (q.symm.trans hget.symm) (by simp)) (fun _ => ?_))
      | refine Tri.ent Ent.front2 (rcancel_spec (by omega) (fun _ q => absurd (q.symm.trans hget.symm) (by simp)) (fun _ => ?_))
      | refine Tri.ent Ent.front3 (rcancel_spec (by omega) (fun _ q => absurd (q.symm.trans hget.symm) (by simp)) (fun _ => ?_))
      | refine Tri.ent Ent.front4 (rcancel_spec (by omega) (fun _ q => absurd (q.symm.trans hget.symm) (by simp)) (fun _ => ?_))
      | refine XS.seq ?_
      | refine XS.region (T := TT) ?_
      | refine XS.draw (T := TT) follows_ok (by decide +kernel) ?_
      | refine XS.block ?_
      | refine XS.inBlock ?_
      | refine XS.exit rfl ?_
      | refine XS.condT rfl ?_
      | refine XS.condF rfl ?_
      | refine XS.skip ?_
      | refine XS.label ?_
      | refine XO.load TT_ok rfl rfl rfl rfl rfl rfl (Reads.here rfl) ?_
      | refine XO.load TT_ok rfl rfl rfl rfl rfl rfl (Reads.skip (Reads.here rfl)) ?_
      | refine XO.load TT_ok rfl rfl rfl rfl rfl rfl (Reads.skip (Reads.skip (Reads.here rfl))) ?_
      | refine XO.load TT_ok rfl rfl rfl rfl rfl rfl (Reads.skip (Reads.skip (Reads.skip (Reads.here rfl)))) ?_
      | refine XO.load TT_ok rfl rfl rfl rfl rfl rfl (Reads.skip (Reads.skip (Reads.skip (Reads.skip (Reads.here rfl))))) ?_
      | refine XO.load TT_ok rfl rfl rfl rfl rfl rfl (Reads.skip (Reads.skip (Reads.skip (Reads.skip (Reads.skip (Reads.here rfl)))))) ?_
      | refine XO.no rfl rfl ?_
      | (refine XO.cmpI TT_ok rfl rfl rfl rfl rfl rfl rfl (fun hc => ?_) (fun hc => ?_) <;> (try (exfalso; omega)))
      | refine XO.pT TT_ok rfl rfl rfl rfl rfl ?_
      | refine XO.pF TT_ok rfl rfl rfl rfl rfl ?_
      | refine XO.cmp TT_ok rfl rfl rfl rfl rfl (fun hc => ?_) (fun hc => ?_)
      | refine XO.add64 TT_ok rfl rfl rfl rfl rfl rfl (by omega) (by omega) ?_
      | refine XO.sub64 TT_ok rfl rfl rfl rfl rfl rfl (by omega) (by omega) ?_
      | refine XO.mul64 TT_ok rfl rfl rfl rfl rfl rfl (by omega) (by omega) ?_
      | refine XO.quo64 rfl rfl rfl rfl rfl (by omega) (by omega) (by omega) ?_
      | refine XO.rem64 rfl rfl rfl rfl rfl (by omega) (by omega) ?_
      | refine XO.p TT_ok rfl rfl rfl rfl ?_
      | refine XO.storeL TT_ok trivial rfl rfl rfl rfl rfl rfl rfl rfl rfl rfl trivial ?_
      | refine XO.ent Ent.front1 (XO.storeL TT_ok trivial rfl rfl rfl rfl rfl rfl rfl rfl rfl rfl trivial ?_)
      | refine XO.ent Ent.front2 (XO.storeL TT_ok trivial rfl rfl rfl rfl rfl rfl rfl rfl rfl rfl trivial ?_)
      | refine XO.ent Ent.front3 (XO.storeL TT_ok trivial rfl rfl rfl rfl rfl rfl rfl rfl rfl rfl trivial ?_)
      | refine XO.ent Ent.front4 (XO.storeL TT_ok trivial rfl rfl rfl rfl rfl rfl rfl rfl rfl rfl trivial ?_)
      | refine XO.ent Ent.front5 (XO.storeL TT_ok trivial rfl rfl rfl rfl rfl rfl rfl rfl rfl rfl trivial ?_)
      | refine XO.box trivial rfl rfl rfl rfl rfl (fun _ => trivial) (fun bb => ?_)
      | refine XO.alloc TT_ok trivial rfl rfl rfl rfl rfl (fun _ => trivial) (fun bb => ?_)
      | refine XO.build TT_ok rfl rfl rfl rfl rfl ?_
      | refine XO.lenSlice TT_ok rfl rfl rfl rfl rfl rfl ?_
      | refine XO.lenString TT_ok rfl rfl rfl rfl rfl rfl ?_
      | refine XO.indexStr TT_ok rfl rfl rfl rfl rfl rfl (by omega) (by omega) ?_
      | refine XO.indexAddr TT_ok rfl rfl rfl rfl rfl rfl rfl (by omega) (by omega) ?_
      | refine XO.addStr rfl rfl rfl rfl rfl (by omega) ?_
      | refine XO.buildSlice TT_ok trivial rfl rfl rfl rfl rfl rfl rfl rfl rfl rfl rfl rfl (fun _ => trivial) (fun bb => ?_)
      | refine XO.callF rfl rfl rfl (by kernel_rfl) rfl ?_)
    all_goals exact XS.ret1 Tryd.func18 rfl Tryd.results18 rfl (by repeat' (first | exact Ent.refl _ | exact Ent.dropAll _ | refine Ent.cons _ ?_ | refine Ent.trans Ent.front1 (Ent.cons _ ?_) | refine Ent.trans Ent.front2 (Ent.cons _ ?_) | refine Ent.trans Ent.front3 (Ent.cons _ ?_) | refine Ent.trans Ent.front4 (Ent.cons _ ?_) | refine Ent.trans Ent.front5 (Ent.cons _ ?_) | refine Ent.trans Row.of_at (Ent.cons _ ?_) | refine Ent.trans Ent.front1 (Ent.trans Row.of_at (Ent.cons _ ?_)) | refine Ent.trans Ent.front2 (Ent.trans Row.of_at (Ent.cons _ ?_)) | refine Ent.trans Ent.front3 (Ent.trans Row.of_at (Ent.cons _ ?_)) | refine Ent.trans Ent.front4 (Ent.trans Row.of_at (Ent.cons _ ?_)) | refine Ent.trans (Ent.drop _ _) ?_)) (h _ _ hs)
  | some a =>
    rw [haa] at hget
    repeat' (first
      | refine XO.q TT_ok rfl rfl rfl rfl rfl ?_
      | refine XO.nil ?_
      | refine cancel_spec hsm (fun q => absurd (q.symm.trans haa) (by simp)) (fun _ _ => ?_)
      | refine Tri.ent Ent.front1 (cancel_spec hsm (fun q => absurd (q.symm.trans haa) (by simp)) (fun _ _ => ?_))
      | refine Tri.ent Ent.front2 (cancel_spec hsm (fun q => absurd (q.symm.trans haa) (by simp)) (fun _ _ => ?_))
      | refine Tri.ent Ent.front3 (cancel_spec hsm (fun q => absurd (q.symm.trans haa) (by simp)) (fun _ _ => ?_))
      | refine Tri.ent Ent.front4 (cancel_spec hsm (fun q => absurd (q.symm.trans haa) (by simp)) (fun _ _ => ?_))
      | refine rcancel_spec (by omega) (fun _ _ => ?_) (fun q => absurd (q.symm.trans hget.symm) (by simp))
      | refine Tri.ent Ent.front1 (rcancel_spec (by omega) (fun _ _ => ?_) (fun q => absurd (q.symm.trans hget.symm) (by simp)))
      | refine Tri.ent Ent.front2 (rcancel_spec (by omega) (fun _ _ => ?_) (fun q => absurd (q.symm.trans hget.symm) (by simp)))
      | refine Tri.ent Ent.front3 (rcancel_spec (by omega) (fun _ _ => ?_) (fun q => absurd (q.symm.trans hget.symm) (by simp)))
      | refine Tri.ent Ent.front4 (rcancel_spec (by omega) (fun _ _ => ?_) (fun q => absurd (q.symm.trans hget.symm) (by simp)))
      | refine XS.seq ?_
      | refine XS.region (T := TT) ?_
      | refine XS.draw (T := TT) follows_ok (by decide +kernel) ?_
      | refine XS.block ?_
      | refine XS.inBlock ?_
      | refine XS.exit rfl ?_
      | refine XS.condT rfl ?_
      | refine XS.condF rfl ?_
      | refine XS.skip ?_
      | refine XS.label ?_
      | refine XO.load TT_ok rfl rfl rfl rfl rfl rfl (Reads.here rfl) ?_
      | refine XO.load TT_ok rfl rfl rfl rfl rfl rfl (Reads.skip (Reads.here rfl)) ?_
      | refine XO.load TT_ok rfl rfl rfl rfl rfl rfl (Reads.skip (Reads.skip (Reads.here rfl))) ?_
      | refine XO.load TT_ok rfl rfl rfl rfl rfl rfl (Reads.skip (Reads.skip (Reads.skip (Reads.here rfl)))) ?_
      | refine XO.load TT_ok rfl rfl rfl rfl rfl rfl (Reads.skip (Reads.skip (Reads.skip (Reads.skip (Reads.here rfl))))) ?_
      | refine XO.load TT_ok rfl rfl rfl rfl rfl rfl (Reads.skip (Reads.skip (Reads.skip (Reads.skip (Reads.skip (Reads.here rfl)))))) ?_
      | refine XO.no rfl rfl ?_
      | (refine XO.cmpI TT_ok rfl rfl rfl rfl rfl rfl rfl (fun hc => ?_) (fun hc => ?_) <;> (try (exfalso; omega)))
      | refine XO.pT TT_ok rfl rfl rfl rfl rfl ?_
      | refine XO.pF TT_ok rfl rfl rfl rfl rfl ?_
      | refine XO.cmp TT_ok rfl rfl rfl rfl rfl (fun hc => ?_) (fun hc => ?_)
      | refine XO.add64 TT_ok rfl rfl rfl rfl rfl rfl (by omega) (by omega) ?_
      | refine XO.sub64 TT_ok rfl rfl rfl rfl rfl rfl (by omega) (by omega) ?_
      | refine XO.mul64 TT_ok rfl rfl rfl rfl rfl rfl (by omega) (by omega) ?_
      | refine XO.quo64 rfl rfl rfl rfl rfl (by omega) (by omega) (by omega) ?_
      | refine XO.rem64 rfl rfl rfl rfl rfl (by omega) (by omega) ?_
      | refine XO.p TT_ok rfl rfl rfl rfl ?_
      | refine XO.storeL TT_ok trivial rfl rfl rfl rfl rfl rfl rfl rfl rfl rfl trivial ?_
      | refine XO.ent Ent.front1 (XO.storeL TT_ok trivial rfl rfl rfl rfl rfl rfl rfl rfl rfl rfl trivial ?_)
      | refine XO.ent Ent.front2 (XO.storeL TT_ok trivial rfl rfl rfl rfl rfl rfl rfl rfl rfl rfl trivial ?_)
      | refine XO.ent Ent.front3 (XO.storeL TT_ok trivial rfl rfl rfl rfl rfl rfl rfl rfl rfl rfl trivial ?_)
      | refine XO.ent Ent.front4 (XO.storeL TT_ok trivial rfl rfl rfl rfl rfl rfl rfl rfl rfl rfl trivial ?_)
      | refine XO.ent Ent.front5 (XO.storeL TT_ok trivial rfl rfl rfl rfl rfl rfl rfl rfl rfl rfl trivial ?_)
      | refine XO.box trivial rfl rfl rfl rfl rfl (fun _ => trivial) (fun bb => ?_)
      | refine XO.alloc TT_ok trivial rfl rfl rfl rfl rfl (fun _ => trivial) (fun bb => ?_)
      | refine XO.build TT_ok rfl rfl rfl rfl rfl ?_
      | refine XO.lenSlice TT_ok rfl rfl rfl rfl rfl rfl ?_
      | refine XO.lenString TT_ok rfl rfl rfl rfl rfl rfl ?_
      | refine XO.indexStr TT_ok rfl rfl rfl rfl rfl rfl (by omega) (by omega) ?_
      | refine XO.indexAddr TT_ok rfl rfl rfl rfl rfl rfl rfl (by omega) (by omega) ?_
      | refine XO.addStr rfl rfl rfl rfl rfl (by omega) ?_
      | refine XO.buildSlice TT_ok trivial rfl rfl rfl rfl rfl rfl rfl rfl rfl rfl rfl rfl (fun _ => trivial) (fun bb => ?_)
      | refine XO.callF rfl rfl rfl (by kernel_rfl) rfl ?_)
    all_goals exact XS.ret1 Tryd.func18 rfl Tryd.results18 rfl (by repeat' (first | exact Ent.refl _ | exact Ent.dropAll _ | refine Ent.cons _ ?_ | refine Ent.trans Ent.front1 (Ent.cons _ ?_) | refine Ent.trans Ent.front2 (Ent.cons _ ?_) | refine Ent.trans Ent.front3 (Ent.cons _ ?_) | refine Ent.trans Ent.front4 (Ent.cons _ ?_) | refine Ent.trans Ent.front5 (Ent.cons _ ?_) | refine Ent.trans Row.of_at (Ent.cons _ ?_) | refine Ent.trans Ent.front1 (Ent.trans Row.of_at (Ent.cons _ ?_)) | refine Ent.trans Ent.front2 (Ent.trans Row.of_at (Ent.cons _ ?_)) | refine Ent.trans Ent.front3 (Ent.trans Row.of_at (Ent.cons _ ?_)) | refine Ent.trans Ent.front4 (Ent.trans Row.of_at (Ent.cons _ ?_)) | refine Ent.trans (Ent.drop _ _) ?_)) (h _ _ (hs.del haa))
end Go.Proofs.YtnpnfgnhgjmlbaaDoor
