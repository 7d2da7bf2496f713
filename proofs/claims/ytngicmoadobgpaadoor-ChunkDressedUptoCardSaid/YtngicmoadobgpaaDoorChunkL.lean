/- What the statements on chunked bodies say of the plain decoder. Conditions: none. -/
import Derived.Test.YtngicmoadobgpaaDoorChunkM
namespace Go.ChunkM
variable {fld : List UInt8 → Bool}
theorem take_succ {l : List UInt8} {i : Nat} {x : UInt8} (h : l[i]? = some x) : l.take (i + 1) = l.take i ++ [x] := by
  rw [List.take_add_one, h]; rfl
/-- Byte by byte, or at once. -/
theorem pieces_step {D0 : DS} {s : List UInt8} {i : Nat} {x : UInt8} (hx : s[i]? = some x) (h0 : D0.err = 0) (he : (run fld D0 (s.take i)).1.err = 0) :
    ((feed fld (run fld D0 (s.take i)).1 [x]).2.2.2.2 ≠ 0 ∧ (feed fld D0 s).2.1 = [] ∧ (feed fld D0 s).2.2.1 = 0 ∧ (feed fld D0 s).2.2.2.2 = (feed fld (run fld D0 (s.take i)).1 [x]).2.2.2.2) ∨
    (∃ o k t, feed fld (run fld D0 (s.take i)).1 [x] = ((run fld D0 (s.take (i + 1))).1, o, k, t, 0) ∧ (run fld D0 (s.take (i + 1))).1.err = 0 ∧ (run fld D0 (s.take (i + 1))).2.1 = (run fld D0 (s.take i)).2.1 ++ o ∧
      (run fld D0 (s.take (i + 1))).2.2 = (run fld D0 (s.take i)).2.2 + k ∧ t = ((feed fld D0 s).2.2.2.1 && decide ((run fld D0 (s.take (i + 1))).2.2 = (feed fld D0 s).2.2.1))) := by
  have hs : s = s.take (i + 1) ++ s.drop (i + 1) := (List.take_append_drop _ _).symm
  have e1 : run fld D0 (s.take (i + 1)) = ((run fld (run fld D0 (s.take i)).1 [x]).1, (run fld D0 (s.take i)).2.1 ++ (run fld (run fld D0 (s.take i)).1 [x]).2.1, (run fld D0 (s.take i)).2.2 + (run fld (run fld D0 (s.take i)).1 [x]).2.2) := by
    rw [take_succ hx, run_append]
  have e2 := run_append (fld := fld) (s.take (i + 1)) (s.drop (i + 1)) D0
  rw [← hs] at e2
  generalize hT : run fld D0 (s.take (i + 1)) = T at *
  generalize hR : run fld T.1 (s.drop (i + 1)) = R at *
  generalize hP : run fld (run fld D0 (s.take i)).1 [x] = Q at *
  have t1 : T.1 = Q.1 := by rw [e1]
  by_cases hq : Q.1.err = 0
  · right
    refine ⟨Q.2.1, Q.2.2, decide (Q.1.state = 4), ?_, by rw [t1]; exact hq, by rw [e1], by rw [e1], ?_⟩
    · unfold feed; rw [if_neg (by simp [he]), hP, if_neg (by simp [hq]), t1]
    · have hf : feed fld D0 s = if R.1.err ≠ 0 then (R.1, [], 0, false, R.1.err) else (R.1, T.2.1 ++ R.2.1, T.2.2 + R.2.2, decide (R.1.state = 4), 0) := by
        unfold feed; rw [if_neg (by simp [h0]), e2]
      by_cases h4 : Q.1.state = 4
      · have hRs : R = (T.1, [], 0) := by rw [← hR]; exact run_stop (by simp [stops, t1, h4]) _
        rw [hf, hRs, if_neg (by simp [t1, hq])]
        simp [h4, t1]
      · have hst : stops T.1 = false := by simp [stops, t1, h4, hq]
        have : R.2.2 = 0 → R.1 = T.1 := fun hz => by
          cases hd : s.drop (i + 1) with
          | nil => rw [hd] at hR; rw [← hR]; rfl
          | cons c l =>
            rw [hd] at hR
            rw [← hR] at hz
            simp [run, hst] at hz
        rw [hf]
        split
        · simp [h4]
        · simp only [h4, decide_false]
          by_cases hz : R.2.2 = 0
          · rw [this hz, t1]; simp [h4]
          · simp [hz]
  · left
    have hRs : R = (T.1, [], 0) := by rw [← hR]; exact run_stop (by simp [stops, t1, hq]) _
    have hf : feed fld D0 s = (T.1, [], 0, false, T.1.err) := by
      unfold feed; rw [if_neg (by simp [h0]), e2, hRs, if_pos (by rw [t1]; exact hq)]
    have hb : feed fld (run fld D0 (s.take i)).1 [x] = (Q.1, [], 0, false, Q.1.err) := by
      unfold feed; rw [if_neg (by simp [he]), hP, if_pos hq]
    rw [hf, hb, t1]
    exact ⟨hq, rfl, rfl, rfl⟩
theorem pieces_end {D0 : DS} {s : List UInt8} (h0 : D0.err = 0) (he : (run fld D0 s).1.err = 0) : (feed fld D0 s).2.1 = (run fld D0 s).2.1 ∧ (feed fld D0 s).2.2.1 = (run fld D0 s).2.2 ∧ (feed fld D0 s).2.2.2.2 = 0 := by
  unfold feed
  rw [if_neg (by simp [h0]), if_neg (by simp [he])]
  exact ⟨rfl, rfl, rfl⟩
theorem feed_facts {D : DS} (h : Ok D) (l : List UInt8) : Ok (feed fld D l).1 ∧ (feed fld D l).1.most = D.most ∧ D.size + (feed fld D l).2.1.length ≤ (feed fld D l).1.size ∧ (feed fld D l).2.1.length ≤ (feed fld D l).2.2.1 ∧ (feed fld D l).2.2.1 ≤ l.length ∧ ((feed fld D l).2.2.2.2 ≠ 0 → (feed fld D l).2.1 = []) := by
  have hr := run_ok (fld := fld) l h
  have hl := run_le (fld := fld) l D
  have ho := run_out (fld := fld) l D
  unfold feed
  split
  · exact ⟨h, rfl, by simp, Nat.le_refl _, Nat.zero_le _, fun _ => rfl⟩
  · split
    · exact ⟨hr.1, hr.2.1, by simp only [List.length_nil]; have := hr.2.2; omega, Nat.le_refl _, Nat.zero_le _, fun _ => rfl⟩
    · exact ⟨hr.1, hr.2.1, by simp only; have := hr.2.2; omega, ho, hl, fun h => absurd rfl h⟩
end Go.ChunkM
namespace Go.ChunkM
variable {fld : List UInt8 → Bool}
theorem back_feed (ts : List (List UInt8)) (tail : List UInt8) (h : ∀ t ∈ ts, t.length < 16 ^ 7) :
    ∃ D', feed fld (rdy ts.flatten.length 0 0) ((ts.map encT).flatten ++ [48, 13, 10, 13, 10] ++ tail) = (D', ts.flatten, (ts.map encT).flatten.length + 5, true, 0) := by
  obtain ⟨lf, hr⟩ := run_texts (fld := fld) ts ([48, 13, 10, 13, 10] ++ tail) ts.flatten.length 0 0 h (by omega)
  rw [show ([48, 13, 10, 13, 10] ++ tail : List UInt8) = 48 :: 13 :: 10 :: 13 :: 10 :: tail from rfl, run_last] at hr
  refine ⟨⟨ts.flatten.length, 0 + ts.flatten.length, 4, lf, [], false, 0, 0⟩, ?_⟩
  unfold feed
  rw [if_neg (by simp [rdy]), List.append_assoc, show ([48, 13, 10, 13, 10] ++ tail : List UInt8) = 48 :: 13 :: 10 :: 13 :: 10 :: tail from rfl, hr, if_neg (by simp)]
  simp
theorem over_feed (ts : List (List UInt8)) (h : ∀ t ∈ ts, t.length < 16 ^ 7) (hp : 0 < ts.flatten.length) :
    ∃ D', feed fld (rdy ((ts.flatten.length : Int) - 1) 0 0) ((ts.map encT).flatten ++ [48, 13, 10, 13, 10]) = (D', [], 0, false, 101) := by
  have hr := texts_over (fld := fld) ts [48, 13, 10, 13, 10] ((ts.flatten.length : Int) - 1) 0 0 h (by omega) (by omega)
  refine ⟨(run fld (rdy ((ts.flatten.length : Int) - 1) 0 0) ((ts.map encT).flatten ++ [48, 13, 10, 13, 10])).1, ?_⟩
  unfold feed
  rw [if_neg (by simp [rdy]), if_pos (by rw [hr]; decide), hr]
theorem encT_le {t : List UInt8} (h : t.length < 16 ^ 7) : (encT t).length ≤ 13 * t.length := by
  unfold encT
  split
  · exact Nat.zero_le _
  · rename_i h0
    have := hexE_len 7 _ h
    have := List.length_pos_iff.2 h0
    simp only [List.length_append, List.length_cons, List.length_nil]
    omega
theorem encs_le : ∀ {ts : List (List UInt8)}, (∀ t ∈ ts, t.length < 16 ^ 7) → (ts.map encT).flatten.length ≤ 13 * ts.flatten.length
  | [], _ => by simp
  | t :: ts, h => by
    have h1 := encT_le (h t List.mem_cons_self)
    have h2 := encs_le fun x hx => h x (List.mem_cons_of_mem t hx)
    simp only [List.map_cons, List.flatten_cons, List.length_append]
    omega
end Go.ChunkM
