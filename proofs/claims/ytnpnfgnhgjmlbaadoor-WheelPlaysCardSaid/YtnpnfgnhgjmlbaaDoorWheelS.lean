/- Settings of the wheel, in every case. Conditions: numbers are of their kinds. -/
import Derived.Test.YtnpnfgnhgjmlbaaDoorWheelL
import Derived.Test.YtnpnfgnhgjmlbaaDoorSxL
namespace Go.Proofs.YtnpnfgnhgjmlbaaDoor
open Go Go.Sx Go.WheelM
variable {w0 : World} {F H : List HProp} {K : Value → List HProp → Prop}
open Classical in
/-- What a setting answers, and the timers behind it. -/
noncomputable def setR (t : Nat) (tm : Tm) (id at' : Int) : Int × Tm :=
  if OkId id then if OkAt t at' then if aget tm id = none ∧ 4096 ≤ tm.length then (22, tm) else (0, aset (adel tm id) id at'.toNat) else (20, tm) else (21, tm)
theorem set_any {b t : Nat} {tm : Tm} {id at' : Int} (hn : tm.length ≤ 4096) (h : K (kI (setR t tm id at').1) (wheelP b t (setR t tm id at').2 [] :: F)) : Tri Tryd.prog 12 #[ptr b, kI id, kI at'] w0 (wheelP b t tm [] :: F) K := by
  by_cases g1 : OkId id
  · by_cases g2 : OkAt t at'
    · by_cases g3 : aget tm id = none ∧ 4096 ≤ tm.length
      · rw [setR, if_pos g1, if_pos g2, if_pos g3] at h
        exact set_bad hn (fun q => absurd g1 q) (fun _ q => absurd g2 q) (fun _ _ _ _ => h) (fun q => by have := q.2.2 g3.1; omega)
      · rw [setR, if_pos g1, if_pos g2, if_neg g3] at h
        obtain ⟨a, rfl⟩ := Int.eq_ofNat_of_zero_le (show 0 ≤ at' by unfold OkAt at g2; omega)
        exact set_good hn g1 g2 (fun q => Nat.lt_of_not_le fun q2 => g3 ⟨q, q2⟩) h
    · rw [setR, if_pos g1, if_neg g2] at h
      exact set_bad hn (fun q => absurd g1 q) (fun _ _ => h) (fun _ q => absurd q g2) (fun q => g2 q.2.1)
  · rw [setR, if_neg g1] at h
    exact set_bad hn (fun _ => h) (fun q => absurd q g1) (fun q => absurd q g1) (fun q => g1 q.1)
theorem setR_len {t : Nat} {tm : Tm} {id at' : Int} (hn : tm.length ≤ 4096) (hk : (tm.map (·.1)).Nodup) : (setR t tm id at').2.length ≤ 4096 ∧ (setR t tm id at').2.length ≤ tm.length + 1 := by
  unfold setR
  split
  · split
    · split
      · exact ⟨hn, Nat.le_succ _⟩
      · rename_i g3
        have hdn : aget (adel tm id) id = none := by rw [aget_del hk, if_pos rfl]
        dsimp only
        rw [len_set, hdn]
        cases haa : aget tm id with
        | none =>
          have : ¬ 4096 ≤ tm.length := fun q => g3 ⟨haa, q⟩
          rw [adel_none haa]; simp; omega
        | some c => rw [len_del haa]; have := List.length_pos_of_mem (aget_mem haa); simp; omega
    · exact ⟨hn, Nat.le_succ _⟩
  · exact ⟨hn, Nat.le_succ _⟩
theorem adv_none (db : DB w0) {b t to : Nat} {tm : Tm} (hn : tm.length ≤ 4096) (g1 : t ≤ to) (g2 : to ≤ 1099511627776) (hno : ∀ j c, aget tm j = some c → to < c) (h : ∀ x cap, K (.tuple #[.slice x 0 cap, kI 0]) (Row x cap 33 2 0 [] :: wheelP b to tm [] :: F)) : Tri Tryd.prog 14 #[ptr b, kI to] w0 (wheelP b t tm [] :: F) K :=
  adv_good db hn g1 g2 (fun x cap out rest hA => by
    obtain ⟨ho, hr⟩ := hA.none_due hno
    rw [ho, hr]; exact h x cap)
/-- A new timer. -/
theorem set_new {b t a : Nat} {tm : Tm} {id z : Int} (hz : z = (a : Nat)) (hid : aget tm id = none) (hn : tm.length < 4096) (g1 : OkId id) (g2 : OkAt t a) (h : K (kI 0) (wheelP b t (aset tm id a) [] :: F)) : Tri Tryd.prog 12 #[ptr b, kI id, kI z] w0 (wheelP b t tm [] :: F) K := by
  subst hz
  exact set_good (Nat.le_of_lt hn) g1 g2 (fun _ => hn) (by rw [adel_none hid]; exact h)
/-- What holds of the timers of a wheel. -/
structure Facts (t : Nat) (tm : Tm) : Prop where
  keys : (tm.map (·.1)).Nodup
  time : ∀ id a, aget tm id = some a → t ≤ a ∧ a ≤ 1099511627776
  now : t ≤ 1099511627776
theorem XS.winv {P : Program} {n : Nat} {fr : Frame} {R : Value → List HProp → Prop} {k : List Item} {e : Env} {b t : Nat} {tm : Tm} (h : Facts t tm → XS P w0 fr n R k e (wheelP b t tm [] :: F)) : XS P w0 fr n R k e (wheelP b t tm [] :: F) :=
  XS.wheel fun m _ _ ra rc rd I => XS.ent (wheel_mk (m := m) (rd := ⟨ra, rc, rd⟩) I) (h ⟨I.keys, I.time, I.now⟩)
end Go.Proofs.YtnpnfgnhgjmlbaaDoor
