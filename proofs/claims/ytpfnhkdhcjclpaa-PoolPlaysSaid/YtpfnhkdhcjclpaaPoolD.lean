/- What the pool's functions come to: Delete, DeleteFunc, Cancel. Conditions: numbers are of their kinds. -/
import Derived.Test.YtpfnhkdhcjclpaaPoolC
namespace Go.Proofs.Ytpfnhkdhcjclpaa
open Go Go.Sx Go.WheelM Go.PoolM
variable {w0 : World} {F H : List HProp} {K : Value → List HProp → Prop}
theorem flat_tail {qs : List (Int × Int)} (h0 : 0 < qs.length) : (((flat wenc qs).take (0 * 2) ++ (flat wenc qs).drop (1 * 2)) ++ (flat wenc qs).drop (0 * 2 + (qs.length - 1) * 2)).take ((0 + (qs.length - 1)) * 2) = flat wenc qs.tail := by
  cases qs with
  | nil => simp at h0
  | cons q l =>
    obtain ⟨x, y⟩ := q
    have e1 : (flat wenc ((x, y) :: l)).drop (1 * 2) = flat wenc l := by rw [flat_cons]; rfl
    rw [e1]
    simp only [Nat.zero_mul, List.take_zero, List.nil_append, List.length_cons, Nat.add_sub_cancel, Nat.zero_add, List.tail_cons]
    have hl := flat_length wenc_len l
    rw [List.take_append_of_le_length (by omega), List.take_of_length_le (by omega)]
theorem delete_spec {g cap : Nat} {qs : List (Int × Int)} (h0 : 0 < qs.length) (hl : qs.length ≤ 1048576) (h : K (.slice (some ⟨g, 0, none⟩) (0 + (qs.length - 1)) cap) (RowAt g cap 71 2 (0 + (qs.length - 1)) (flat wenc qs.tail) :: F)) :
    Tri Try.prog 34 #[.slice (some ⟨g, 0, none⟩) qs.length cap, kI 0, kI 1] w0 (RowAt g cap 71 2 qs.length (flat wenc qs) :: F) K := by
  refine Tri.enterF Try.func34 Try.ntmps34 Try.results34 rfl rfl fun fr hfr => ?_
  repeat' (first | refine walk ?_ | exact trivial | refine Tw.mk ?_ ?_ | (refine XO.rowLe (fun hle => ?_); refine XO.slice3 (l := 0) (h := 1) (m := qs.length) TT_ok rfl rfl rfl rfl rfl rfl rfl rfl rfl (by omega) (by omega) hle (fun v => ?_)) | (refine XO.rowLe (fun hle => ?_); refine XO.sliceHi (h := 0) TT_ok rfl rfl rfl rfl rfl rfl rfl (Nat.zero_le _) ?_) | (refine XO.rowLe (fun hle => ?_); refine XO.sliceLo (l := 1) TT_ok rfl rfl rfl rfl rfl rfl rfl h0 hle (fun ad had => ?_)) | refine XO.appendDel (i := 0) (j := 1) (k := qs.length) (by omega) h0 (by simpa using had) TT_ok trivial rfl rfl rfl rfl rfl (flat_all wenc_all _) rfl rfl trivial ?_ | intro _ | (refine XO.rowLe (fun hle => ?_); refine XO.sliceLH (l := 0 + (qs.length - 1)) (h := qs.length) TT_ok rfl rfl rfl rfl rfl rfl rfl rfl (by omega) hle (fun ad2 had2 => ?_)) | refine XO.clearTail (i := 0 + (qs.length - 1)) (m := qs.length) rfl (by omega) had2 (Nat.zero_add _) TT_ok trivial rfl rfl rfl rfl rfl rfl rfl rfl rfl trivial ?_ | fail)
  exact Out.i (by rw [flat_tail h0]; exact h)
theorem no_first {y : Int} : ∀ {ids : List (Int × Int)} {i : Nat}, (∀ (j : Nat) q, j < i → ids[j]? = some q → q.1 ≠ y) → no y (ids.take i) = ids.take i
  | [], i, _ => by simp
  | a :: l, 0, _ => by simp
  | a :: l, i + 1, h => by
    have h0 : a.1 ≠ y := h 0 a (by omega) rfl
    have ih := no_first (y := y) (ids := l) (i := i) (fun j q hj hq => h (j + 1) q (by omega) (by simpa using hq))
    unfold no at ih ⊢
    rw [List.take_succ_cons, List.filter_cons_of_pos (by simpa using h0), ih]
theorem no_step {y : Int} {z : Int × Int} {ids : List (Int × Int)} {j : Nat} (h : ids[j]? = some z) : no y (ids.take (j + 1)) = no y (ids.take j) ++ (if z.1 = y then [] else [z]) := by
  unfold no
  rw [List.take_add_one, h, List.filter_append]
  congr 1
  by_cases e : z.1 = y <;> simp [e]
set_option maxHeartbeats 1000000 in
theorem delF_spec {bx cap : Nat} {a : Option Addr} {x : Int} {qs : List (Int × Int)} (hl : qs.length ≤ 1048576) (h : K (.slice a (no x qs).length cap) (cel bx 3 [kI x] :: Row a cap 71 2 (no x qs).length (flat wenc (no x qs)) :: F)) :
    Tri Try.prog 32 #[.slice a qs.length cap, .func (.func 33) #[] #[ptr bx]] w0 (cel bx 3 [kI x] :: Row a cap 71 2 qs.length (flat wenc qs) :: F) K := by
  refine Tri.enterF Try.func32 Try.ntmps32 Try.results32 rfl rfl fun fr hfr => ?_
  repeat' (first | refine walk ?_ | exact trivial | refine Tw.mk ?_ ?_ | refine idx_spec hl (.inr rfl) (fun i hi hx hf => ?_) (fun hn => ?_) | intro hc | fail)
  · have hz := hx qs[i] (List.getElem?_eq_getElem hi)
    refine XS.sel1 (c := Row a cap 71 2 qs.length (flat wenc qs)) (XS.rowOpen (by omega) fun g hg => ?_)
    subst hg
    refine XS.loopI (ι := Nat × Nat × List (Int × Int)) (fun p => [(0, .slice (some ⟨g, 0, none⟩) qs.length cap), (1, .func (.func 33) #[] #[ptr bx]), (5, kI p.2.1), (6, kI p.1)]) (fun p => cel bx 3 [kI x] :: RowAt g cap 71 2 qs.length (flat wenc p.2.2) :: F)
      (fun p => p.1 ≤ qs.length ∧ p.2.1 < p.1 ∧ p.2.2.length = qs.length ∧ p.2.2.take p.2.1 = no x (qs.take p.1) ∧ p.2.2.drop p.1 = qs.drop p.1) (fun p => qs.length - p.1) (i + 1, i, qs)
      ⟨by dsimp only; omega, by dsimp only; omega, rfl, by dsimp only; rw [no_step (List.getElem?_eq_getElem hi), if_pos hz, List.append_nil, no_first hf], rfl⟩ ⟨rfl, rfl, rfl, rfl, trivial⟩ entA ?_
    rintro ⟨j, i', l⟩ e ⟨g1, g2, g3, g4, g5⟩ ih
    simp only at g1 g2 g3 g4 g5 ⊢
    by_cases hlt : j < qs.length
    · obtain ⟨z, hz⟩ : ∃ z, qs[j]? = some z := ⟨_, List.getElem?_eq_getElem hlt⟩
      have hz' : l[j]? = some z := by
        have := congrArg (fun q => q[0]?) g5
        simpa [hz] using this
      obtain ⟨z1, z2⟩ := z
      have hil : i' < l.length := by omega
      repeat' (first | refine walk ?_ | exact trivial | refine Tw.mk ?_ ?_ | intro bz | refine Tri.sel1 (isx_spec (q := (z1, z2)) (.inr rfl) ?_) | refine XO.sel1 (XO.storeRowE (xs := l) (z1, z2) wenc_len hil TT_ok trivial rfl rfl rfl rfl rfl rfl rfl rfl trivial ?_) | fail)
      · have hq : ¬ z1 = x := by simpa using bz
        exact ih (j + 1, i' + 1, l.set i' (z1, z2)) _ _ ⟨by dsimp only; omega, by dsimp only; omega, by dsimp only; rw [List.length_set]; exact g3, by
          dsimp only; rw [no_step hz, if_neg hq, ← g4, List.take_add_one, List.take_set_of_le (Nat.le_refl _), List.getElem?_set_self (by omega)]; rfl, by
          dsimp only; rw [List.drop_set_of_lt (by omega), ← List.drop_drop, g5, List.drop_drop]⟩ (by dsimp only; omega) ⟨rfl, rfl, rfl, rfl, trivial⟩ entA
      · have hq : z1 = x := by simpa using bz
        exact ih (j + 1, i', l) _ _ ⟨by dsimp only; omega, by dsimp only; omega, g3, by dsimp only; rw [no_step hz, if_pos hq, List.append_nil, g4], by
          dsimp only; rw [← List.drop_drop, g5, List.drop_drop]⟩ (by dsimp only; omega) ⟨rfl, rfl, rfl, rfl, trivial⟩ entA
    · obtain rfl : j = qs.length := by omega
      rw [List.take_length] at g4
      have hlen : i' = (no x qs).length := by rw [← g4, List.length_take]; omega
      have hflat : (flat wenc l).take (i' * 2) = flat wenc (no x qs) := by
        rw [← g4]
        have e1 : flat wenc l = flat wenc (l.take i') ++ flat wenc (l.drop i') := by rw [← flat_append, List.take_append_drop]
        have e2 : (flat wenc (l.take i')).length = i' * 2 := by rw [flat_length wenc_len, List.length_take]; omega
        rw [e1, List.take_append_of_le_length (by omega), List.take_of_length_le (by omega)]
      refine XS.ent Ent.front1 ?_
      repeat' (first | refine walk ?_ | exact trivial | refine Tw.mk ?_ ?_ | intro _ | (refine XO.rowLe (fun hle => ?_); refine XO.sliceLo (l := i') TT_ok rfl rfl rfl rfl rfl rfl rfl (by omega) hle (fun ad had => ?_)) | refine XO.clearTail (i := i') (m := qs.length) rfl (by omega) had (Nat.zero_add _) TT_ok trivial rfl rfl rfl rfl rfl rfl rfl rfl rfl trivial ?_ | (refine XO.rowLe (fun hle => ?_); refine XO.sliceHi (h := i') TT_ok rfl rfl rfl rfl rfl rfl rfl (by omega) ?_) | fail)
      rw [hflat]; subst hlen
      exact Out.s2 h
  · have e1 : no x qs = qs := List.filter_eq_self.2 fun q hq => by simpa using hn q hq
    rw [e1] at h
    exact Out.i h
theorem cancel_spec {b : Nat} {S : PS} {x : Int} (ok : S.Ok) (h : K (.bool (decide ((no x S.queue).length < S.queue.length))) (pool b { S with queue := no x S.queue } :: F)) : Tri Try.prog 18 #[ptr b, kI x] w0 (pool b S :: F) K := by
  have hq : S.queue.length ≤ 1048576 := by have := ok.ql; have := ok.pend; omega
  refine pool_open fun m a c => ?_
  refine Tri.enterF Try.func18 Try.ntmps18 Try.results18 rfl rfl fun fr hfr => ?_
  repeat' (first | refine walk ?_ | exact trivial | refine Tw.mk ?_ ?_ | intro bx | refine Tri.sel2 (delF_spec hq ?_) | intro hc | fail)
  · exact pool_out (by rw [decide_eq_true (by omega)] at h; exact h)
  · exact pool_out (by rw [decide_eq_false (by omega)] at h; exact h)
end Go.Proofs.Ytpfnhkdhcjclpaa
