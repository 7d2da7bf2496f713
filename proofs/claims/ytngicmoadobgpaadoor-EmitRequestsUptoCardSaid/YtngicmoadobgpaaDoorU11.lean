/- Some texts put together: lemmas and contracts for the law. Conditions: as each text says. -/
import Derived.Test.YtngicmoadobgpaaDoorU10
import Derived.Test.YtngicmoadobgpaaDoorU8
import Derived.Lib.Builder
import Derived.Lib.UnsafeStr
/- What the statements on chunked bodies say of the plain decoder. Conditions: none. -/
namespace Go.ChunkM
variable {fld : List UInt8 → Bool}
theorem take_succ {l : List UInt8} {i : Nat} {x : UInt8} (h : l[i]? = some x) : l.take (i + 1) = l.take i ++ [x] := by
  rw [List.take_add_one, h]; rfl
/-- Byte by byte, or at once. -/
theorem pieces_step {D0 : DS} {s : List UInt8} {i : Nat} {x : UInt8} (hx : s[i]? = some x) (h0 : D0.err = 0) (he : (run fld D0 (s.take i)).1.err = 0) :
    ((feed fld (run fld D0 (s.take i)).1 [x]).2.2.2.2 ≠ 0 ∧ (feed fld D0 s).2.1 = [] ∧ (feed fld D0 s).2.2.1 = 0 ∧ (feed fld D0 s).2.2.2.2 = (feed fld (run fld D0 (s.take i)).1 [x]).2.2.2.2) ∨
    (∃ o k t, feed fld (run fld D0 (s.take i)).1 [x] = ((run fld D0 (s.take (i + 1))).1, o, k, t, 0) ∧ (run fld D0 (s.take (i + 1))).1.err = 0 ∧ (run fld D0 (s.take (i + 1))).2.1 = (run fld D0 (s.take i)).2.1 ++ o ∧
      (run fld D0 (s.take (i + 1))).2.2 = (run fld D0 (s.take i)).2.2 + k ∧ t = ((feed fld D0 s).2.2.2.1 && decide ((run fld D0 (s.take (i + 1))).2.2 = (feed fld D0 s).2.2.1))) := by
  have hs : s = s.take (i + 1) ++ s.drop (i + 1) := (List.take_append_drop _ _).symm
  have e1 : run fld D0 (s.take (i + 1)) = ((run fld (run fld D0 (s.take i)).1 [x]).1, (run fld D0 (s.take i)).2.1 ++ (run fld (run fld D0 (s.take i)).1 [x]).2.1, (run fld D0 (s.take i)).2.2 + (run fld (run fld D0 (s.take i)).1 [x]).2.2) := by
    rw [take_succ hx, run_append]
  have e2 := run_append (fld := fld) (s.take (i + 1)) (s.drop (i + 1)) D0
  rw [← hs] at e2
  generalize hT : run fld D0 (s.take (i + 1)) = T at *
  generalize hR : run fld T.1 (s.drop (i + 1)) = R at *
  generalize hP : run fld (run fld D0 (s.take i)).1 [x] = Q at *
  have t1 : T.1 = Q.1 := by rw [e1]
  by_cases hq : Q.1.err = 0
  · right
    refine ⟨Q.2.1, Q.2.2, decide (Q.1.state = 4), ?_, by rw [t1]; exact hq, by rw [e1], by rw [e1], ?_⟩
    · unfold feed; rw [if_neg (by simp [he]), hP, if_neg (by simp [hq]), t1]
    · have hf : feed fld D0 s = if R.1.err ≠ 0 then (R.1, [], 0, false, R.1.err) else (R.1, T.2.1 ++ R.2.1, T.2.2 + R.2.2, decide (R.1.state = 4), 0) := by
        unfold feed; rw [if_neg (by simp [h0]), e2]
      by_cases h4 : Q.1.state = 4
      · have hRs : R = (T.1, [], 0) := by rw [← hR]; exact run_stop (by simp [stops, t1, h4]) _
        rw [hf, hRs, if_neg (by simp [t1, hq])]
        simp [h4, t1]
      · have hst : stops T.1 = false := by simp [stops, t1, h4, hq]
        have : R.2.2 = 0 → R.1 = T.1 := fun hz => by
          cases hd : s.drop (i + 1) with
          | nil => rw [hd] at hR; rw [← hR]; rfl
          | cons c l =>
            rw [hd] at hR
            rw [← hR] at hz
            simp [run, hst] at hz
        rw [hf]
        split
        · simp [h4]
        · simp only [h4, decide_false]
          by_cases hz : R.2.2 = 0
          · rw [this hz, t1]; simp [h4]
          · simp [hz]
  · left
    have hRs : R = (T.1, [], 0) := by rw [← hR]; exact run_stop (by simp [stops, t1, hq]) _
    have hf : feed fld D0 s = (T.1, [], 0, false, T.1.err) := by
      unfold feed; rw [if_neg (by simp [h0]), e2, hRs, if_pos (by rw [t1]; exact hq)]
    have hb : feed fld (run fld D0 (s.take i)).1 [x] = (Q.1, [], 0, false, Q.1.err) := by
      unfold feed; rw [if_neg (by simp [he]), hP, if_pos hq]
    rw [hf, hb, t1]
    exact ⟨hq, rfl, rfl, rfl⟩
theorem pieces_end {D0 : DS} {s : List UInt8} (h0 : D0.err = 0) (he : (run fld D0 s).1.err = 0) : (feed fld D0 s).2.1 = (run fld D0 s).2.1 ∧ (feed fld D0 s).2.2.1 = (run fld D0 s).2.2 ∧ (feed fld D0 s).2.2.2.2 = 0 := by
  unfold feed
  rw [if_neg (by simp [h0]), if_neg (by simp [he])]
  exact ⟨rfl, rfl, rfl⟩
theorem feed_facts {D : DS} (h : Ok D) (l : List UInt8) : Ok (feed fld D l).1 ∧ (feed fld D l).1.most = D.most ∧ D.size + (feed fld D l).2.1.length ≤ (feed fld D l).1.size ∧ (feed fld D l).2.1.length ≤ (feed fld D l).2.2.1 ∧ (feed fld D l).2.2.1 ≤ l.length ∧ ((feed fld D l).2.2.2.2 ≠ 0 → (feed fld D l).2.1 = []) := by
  have hr := run_ok (fld := fld) l h
  have hl := run_le (fld := fld) l D
  have ho := run_out (fld := fld) l D
  unfold feed
  split
  · exact ⟨h, rfl, by simp, Nat.le_refl _, Nat.zero_le _, fun _ => rfl⟩
  · split
    · exact ⟨hr.1, hr.2.1, by simp only [List.length_nil]; have := hr.2.2; omega, Nat.le_refl _, Nat.zero_le _, fun _ => rfl⟩
    · exact ⟨hr.1, hr.2.1, by simp only; have := hr.2.2; omega, ho, hl, fun h => absurd rfl h⟩
end Go.ChunkM
namespace Go.ChunkM
variable {fld : List UInt8 → Bool}
theorem back_feed (ts : List (List UInt8)) (tail : List UInt8) (h : ∀ t ∈ ts, t.length < 16 ^ 7) :
    ∃ D', feed fld (rdy ts.flatten.length 0 0) ((ts.map encT).flatten ++ [48, 13, 10, 13, 10] ++ tail) = (D', ts.flatten, (ts.map encT).flatten.length + 5, true, 0) := by
  obtain ⟨lf, hr⟩ := run_texts (fld := fld) ts ([48, 13, 10, 13, 10] ++ tail) ts.flatten.length 0 0 h (by omega)
  rw [show ([48, 13, 10, 13, 10] ++ tail : List UInt8) = 48 :: 13 :: 10 :: 13 :: 10 :: tail from rfl, run_last] at hr
  refine ⟨⟨ts.flatten.length, 0 + ts.flatten.length, 4, lf, [], false, 0, 0⟩, ?_⟩
  unfold feed
  rw [if_neg (by simp [rdy]), List.append_assoc, show ([48, 13, 10, 13, 10] ++ tail : List UInt8) = 48 :: 13 :: 10 :: 13 :: 10 :: tail from rfl, hr, if_neg (by simp)]
  simp
theorem over_feed (ts : List (List UInt8)) (h : ∀ t ∈ ts, t.length < 16 ^ 7) (hp : 0 < ts.flatten.length) :
    ∃ D', feed fld (rdy ((ts.flatten.length : Int) - 1) 0 0) ((ts.map encT).flatten ++ [48, 13, 10, 13, 10]) = (D', [], 0, false, 101) := by
  have hr := texts_over (fld := fld) ts [48, 13, 10, 13, 10] ((ts.flatten.length : Int) - 1) 0 0 h (by omega) (by omega)
  refine ⟨(run fld (rdy ((ts.flatten.length : Int) - 1) 0 0) ((ts.map encT).flatten ++ [48, 13, 10, 13, 10])).1, ?_⟩
  unfold feed
  rw [if_neg (by simp [rdy]), if_pos (by rw [hr]; decide), hr]
theorem encT_le {t : List UInt8} (h : t.length < 16 ^ 7) : (encT t).length ≤ 13 * t.length := by
  unfold encT
  split
  · exact Nat.zero_le _
  · rename_i h0
    have := hexE_len 7 _ h
    have := List.length_pos_iff.2 h0
    simp only [List.length_append, List.length_cons, List.length_nil]
    omega
theorem encs_le : ∀ {ts : List (List UInt8)}, (∀ t ∈ ts, t.length < 16 ^ 7) → (ts.map encT).flatten.length ≤ 13 * ts.flatten.length
  | [], _ => by simp
  | t :: ts, h => by
    have h1 := encT_le (h t List.mem_cons_self)
    have h2 := encs_le fun x hx => h x (List.mem_cons_of_mem t hx)
    simp only [List.map_cons, List.flatten_cons, List.length_append]
    omega
end Go.ChunkM

/- Chunks that are dressed: noughts, extensions, trailers. Conditions: none. -/
namespace Go.StrM
open Go.ChunkM
def isBl (c : UInt8) : Bool := ([32, 9] : List UInt8).contains c
theorem isBl_iff (c : UInt8) : isBl c = true ↔ c.toNat = 32 ∨ c.toNat = 9 := by
  unfold isBl
  rw [List.contains_iff_mem]
  simp only [List.mem_cons, List.not_mem_nil, or_false, ← UInt8.toNat_inj]
  rfl
abbrev trR (l : List UInt8) : List UInt8 := (l.reverse.dropWhile isBl).reverse
theorem trim_eq (l : List UInt8) : trim l = (trR l).dropWhile isBl := rfl
theorem trR_snoc (l : List UInt8) (c : UInt8) : trR (l ++ [c]) = if isBl c then trR l else l ++ [c] := by
  unfold trR
  rw [List.reverse_append, List.reverse_cons, List.reverse_nil, List.nil_append, List.singleton_append, List.dropWhile_cons]
  split
  · rfl
  · simp
theorem trR_ends (l : List UInt8) : trR l = [] ∨ ∃ m c, trR l = m ++ [c] ∧ isBl c = false := by
  unfold trR
  cases h : l.reverse.dropWhile isBl with
  | nil => left; rfl
  | cons c m =>
    right
    refine ⟨m.reverse, c, by simp, ?_⟩
    have := List.head?_dropWhile_not (p := isBl) (l := l.reverse)
    rw [h] at this
    simpa using this
theorem trR_self {m : List UInt8} {c : UInt8} (h : isBl c = false) : trR (m ++ [c]) = m ++ [c] := by rw [trR_snoc, h]; rfl
theorem dw_snoc {m : List UInt8} {c : UInt8} (h : isBl c = false) : ∃ m', (m ++ [c]).dropWhile isBl = m' ++ [c] := by
  induction m with
  | nil => exact ⟨[], by simp [h]⟩
  | cons x m ih =>
    rw [List.cons_append, List.dropWhile_cons]
    split
    · exact ih
    · exact ⟨x :: m, rfl⟩
theorem dw_idem (l : List UInt8) : (l.dropWhile isBl).dropWhile isBl = l.dropWhile isBl := by
  induction l with
  | nil => rfl
  | cons x l ih =>
    rw [List.dropWhile_cons]
    split
    · exact ih
    · rename_i h; rw [List.dropWhile_cons, if_neg h]
theorem trim_idem (l : List UInt8) : trim (trim l) = trim l := by
  rw [trim_eq, trim_eq]
  rcases trR_ends l with h | ⟨m, c, h, hc⟩
  · rw [h]; rfl
  · rw [h]
    obtain ⟨m', h'⟩ := dw_snoc (m := m) hc
    have h2 := dw_idem (m ++ [c])
    rw [h'] at h2 ⊢
    rw [trR_self hc, h2]
theorem trR_consR (x : UInt8) : ∀ r : List UInt8, trR (x :: r.reverse) = if trR r.reverse = [] then (if isBl x then [] else [x]) else x :: trR r.reverse
  | [] => by
    have : trR ([] : List UInt8).reverse = [] := rfl
    rw [if_pos this, show x :: ([] : List UInt8).reverse = [] ++ [x] from rfl, trR_snoc]; rfl
  | c :: r => by
    rw [List.reverse_cons, ← List.cons_append, trR_snoc, trR_snoc]
    by_cases hc : isBl c = true
    · simp only [hc, if_true]; exact trR_consR x r
    · simp only [hc, if_false, Bool.false_eq_true]
      simp
theorem trR_cons (l : List UInt8) (x : UInt8) : trR (x :: l) = if trR l = [] then (if isBl x then [] else [x]) else x :: trR l := by
  have := trR_consR x l.reverse
  rwa [List.reverse_reverse] at this
theorem trim_blank (l : List UInt8) : trim (32 :: l) = trim l := by
  rw [trim_eq, trim_eq, trR_cons]
  split
  · rename_i h; rw [h]; rfl
  · rfl
theorem trim_mem {l : List UInt8} {c : UInt8} (h : c ∈ trim l) : c ∈ l := by
  rw [trim_eq] at h
  have h1 := (List.dropWhile_sublist isBl).subset h
  have h2 := (List.dropWhile_sublist isBl).subset (List.mem_reverse.1 h1)
  exact List.mem_reverse.1 h2
/-- A trailer of text. -/
theorem field_tl {e : List UInt8} (h : ∀ c ∈ e, extB c = true) : fieldOk ([84, 58, 32] ++ trim e) = true := by
  have e1 : before 58 ([84, 58, 32] ++ trim e) = [84] := rfl
  have e2 : behind 58 ([84, 58, 32] ++ trim e) = 32 :: trim e := rfl
  have hp : fieldP ([84, 58, 32] ++ trim e) := by
    unfold fieldP
    rw [e1, e2, trim_blank, trim_idem]
    refine ⟨by simp, by decide, fun c hc => ?_, trim_idem e⟩
    have := h c (trim_mem hc)
    simp only [extB, decide_eq_true_eq] at this
    simp only [valB, decide_eq_true_eq]; omega
  simpa [fieldOk] using hp
end Go.StrM
namespace Go.ChunkM
open Go.StrM
def dress (z : Nat) (e t : List UInt8) : List UInt8 := List.replicate z 48 ++ hexE t.length ++ 59 :: e ++ 13 :: 10 :: (t ++ [13, 10])
theorem run_dressed {z : Nat} {e : List UInt8} (hz : z ≤ 4) (he : ∀ c ∈ e, extB c = true) (hl : e.length ≤ 40) : ∀ (ts : List (List UInt8)) (rest : List UInt8) (m s lf : Int), (∀ t ∈ ts, t ≠ [] ∧ t.length ≤ 4095) → s + ts.flatten.length ≤ m →
    ∃ lf', run fieldOk (rdy m s lf) ((ts.map (dress z e)).flatten ++ rest) = ((run fieldOk (rdy m (s + ts.flatten.length) lf') rest).1, ts.flatten ++ (run fieldOk (rdy m (s + ts.flatten.length) lf') rest).2.1, (ts.map (dress z e)).flatten.length + (run fieldOk (rdy m (s + ts.flatten.length) lf') rest).2.2)
  | [], rest, m, s, lf, _, _ => ⟨lf, by simp⟩
  | t :: ts, rest, m, s, lf, hs, hm => by
    simp only [List.map_cons, List.flatten_cons, List.length_append] at hm ⊢
    obtain ⟨h0, ht⟩ := hs t List.mem_cons_self
    have hl0 : t.length ≠ 0 := fun h => h0 (List.length_eq_zero_iff.1 h)
    obtain ⟨lf', ih⟩ := run_dressed hz he hl ts rest m (s + t.length) 0 (fun x hx => hs x (List.mem_cons_of_mem _ hx)) (by omega)
    refine ⟨lf', ?_⟩
    have hlen := hexE_len 3 t.length (by omega)
    obtain ⟨c1, c2, _, _⟩ := line_hex (z := z) (e := e) hl0 (by omega : t.length < 16 ^ 7) (by omega)
    have hno : ∀ c ∈ List.replicate z 48 ++ hexE t.length ++ 59 :: e, c ≠ 10 ∧ c ≠ 13 := by
      intro c hc
      rcases List.mem_append.1 hc with hc | hc
      · rcases List.mem_append.1 hc with hc | hc
        · rw [List.eq_of_mem_replicate hc]; decide
        · exact ⟨(hexE_plain _ c hc).1, (hexE_plain _ c hc).2.1⟩
      · rcases List.mem_cons.1 hc with rfl | hc
        · decide
        · have := he c hc
          simp only [extB, decide_eq_true_eq] at this
          refine ⟨fun h => ?_, fun h => ?_⟩ <;> subst h <;> revert this <;> decide
    have h1 := run_chunk (fld := fieldOk) (List.replicate z 48 ++ hexE t.length ++ 59 :: e) t ((ts.map (dress z e)).flatten ++ rest) (m := m) (s := s) (lf := lf) hno (by simp only [List.length_append, List.length_replicate, List.length_cons]; omega) c1 (by rw [c2, List.all_eq_true]; exact he) h0 (by omega)
    have e1 : dress z e t ++ (ts.map (dress z e)).flatten ++ rest = List.replicate z 48 ++ hexE t.length ++ 59 :: e ++ 13 :: 10 :: (t ++ 13 :: 10 :: ((ts.map (dress z e)).flatten ++ rest)) := by simp [dress]
    rw [e1, h1, ih]
    have e2 : (dress z e t).length = (List.replicate z 48 ++ hexE t.length ++ 59 :: e).length + t.length + 4 := by simp only [dress, List.length_append, List.length_cons, List.length_nil]; omega
    simp only [List.append_assoc, e2, Int.natCast_add, ← Int.add_assoc]
    congr 2
    simp only [List.length_append, List.length_cons]
    omega
/-- The last chunk's line. -/
theorem run_zero (rest : List UInt8) (m s lf : Int) : run fieldOk (rdy m s lf) (48 :: 13 :: 10 :: rest) = ((run fieldOk ⟨m, s, 3, lf, [], false, 0, 0⟩ rest).1, (run fieldOk ⟨m, s, 3, lf, [], false, 0, 0⟩ rest).2.1, 3 + (run fieldOk ⟨m, s, 3, lf, [], false, 0, 0⟩ rest).2.2) := by
  have h1 := run_line (fld := fieldOk) [48] (rdy m s lf) rest (by simp [rdy]) (by simp [rdy]) rfl rfl rfl (by simp) (show (1 : Nat) ≤ 64 by decide)
  have e1 : whole fieldOk (rdy m s lf) [48] = ({ rdy m s lf with state := 3 }, 0) := by
    have a1 : hexOf (before 59 [48]) 8 = some 0 := by decide
    have a2 : behind 59 [48] = [] := by decide
    simp [whole, rdy, sized, a1, a2]
  rw [e1] at h1
  exact h1
theorem run_trail {l : List UInt8} (hf : fieldOk l = true) (h0 : l ≠ []) (hno : ∀ c ∈ l, c ≠ 10 ∧ c ≠ 13) (hl : l.length ≤ 512) (m s lf : Int) : ∀ (k j : Nat) (rest : List UInt8), j + k ≤ 32 →
    run fieldOk ⟨m, s, 3, lf, [], false, j, 0⟩ ((List.replicate k (l ++ [13, 10])).flatten ++ rest) = ((run fieldOk ⟨m, s, 3, lf, [], false, (j + k : Nat), 0⟩ rest).1, (run fieldOk ⟨m, s, 3, lf, [], false, (j + k : Nat), 0⟩ rest).2.1, (List.replicate k (l ++ [13, 10])).flatten.length + (run fieldOk ⟨m, s, 3, lf, [], false, (j + k : Nat), 0⟩ rest).2.2)
  | 0, j, rest, _ => by simp
  | k + 1, j, rest, hj => by
    have h1 := run_line (fld := fieldOk) l ⟨m, s, 3, lf, [], false, j, 0⟩ ((List.replicate k (l ++ [13, 10])).flatten ++ rest) (by simp) (by simp) rfl rfl rfl hno hl
    have e1 : whole fieldOk ⟨m, s, 3, lf, [], false, j, 0⟩ l = (⟨m, s, 3, lf, [], false, (j + 1 : Nat), 0⟩, 0) := by
      have : ¬ (fieldOk l = false ∨ (32 : Int) < (j : Int) + 1) := by
        rintro (h | h)
        · rw [hf] at h; cases h
        · omega
      simp [whole, h0, this]
    rw [e1] at h1
    have ih := run_trail hf h0 hno hl m s lf k (j + 1) rest (by omega)
    rw [List.replicate_succ, List.flatten_cons]
    have e2 : l ++ [13, 10] ++ (List.replicate k (l ++ [13, 10])).flatten ++ rest = l ++ 13 :: 10 :: ((List.replicate k (l ++ [13, 10])).flatten ++ rest) := by simp
    rw [e2, h1]
    dsimp only
    rw [ih, show j + 1 + k = j + (k + 1) by omega]
    congr 2
    simp only [List.length_append, List.length_cons, List.length_nil]
    omega
theorem dressed_feed {z k : Nat} {e : List UInt8} (hz : z ≤ 4) (he : ∀ c ∈ e, extB c = true) (hl : e.length ≤ 40) (hk : k ≤ 32) (ts : List (List UInt8)) (hs : ∀ t ∈ ts, t ≠ [] ∧ t.length ≤ 4095) :
    ∃ lf, feed fieldOk (rdy ts.flatten.length 0 0) ((ts.map (dress z e)).flatten ++ [48, 13, 10] ++ (List.replicate k ([84, 58, 32] ++ trim e ++ [13, 10])).flatten ++ [13, 10]) =
      (⟨ts.flatten.length, ts.flatten.length, 4, lf, [], false, k, 0⟩, ts.flatten, ((ts.map (dress z e)).flatten ++ [48, 13, 10] ++ (List.replicate k ([84, 58, 32] ++ trim e ++ [13, 10])).flatten).length + 2, true, 0) := by
  obtain ⟨lf, hr⟩ := run_dressed hz he hl ts ([48, 13, 10] ++ (List.replicate k ([84, 58, 32] ++ trim e ++ [13, 10])).flatten ++ [13, 10]) ts.flatten.length 0 0 hs (by omega)
  refine ⟨lf, ?_⟩
  have htl := trim_le e
  have hno : ∀ c ∈ [84, 58, 32] ++ trim e, c ≠ 10 ∧ c ≠ 13 := by
    intro c hc
    rcases List.mem_append.1 hc with hc | hc
    · simp only [List.mem_cons, List.not_mem_nil, or_false] at hc
      rcases hc with rfl | rfl | rfl <;> decide
    · have := he c (trim_mem hc)
      simp only [extB, decide_eq_true_eq] at this
      refine ⟨fun h => ?_, fun h => ?_⟩ <;> subst h <;> revert this <;> decide
  have h2 := run_zero ((List.replicate k ([84, 58, 32] ++ trim e ++ [13, 10])).flatten ++ [13, 10]) ts.flatten.length (0 + ts.flatten.length) lf
  have h3 := run_trail (field_tl he) (by simp) hno (by simp only [List.length_append, List.length_cons, List.length_nil]; omega) ts.flatten.length (0 + ts.flatten.length) lf k 0 [13, 10] (by omega)
  have h4 := run_line (fld := fieldOk) [] ⟨ts.flatten.length, 0 + ts.flatten.length, 3, lf, [], false, (0 + k : Nat), 0⟩ [] (by simp) (by simp) rfl rfl rfl (fun _ h => by cases h) (Nat.zero_le _)
  have e4 : whole fieldOk ⟨ts.flatten.length, 0 + ts.flatten.length, 3, lf, [], false, (0 + k : Nat), 0⟩ [] = (⟨ts.flatten.length, 0 + ts.flatten.length, 4, lf, [], false, (0 + k : Nat), 0⟩, 0) := by simp [whole]
  rw [e4] at h4
  have h4' : run fieldOk ⟨ts.flatten.length, 0 + ts.flatten.length, 3, lf, [], false, (0 + k : Nat), 0⟩ [13, 10] = (⟨ts.flatten.length, 0 + ts.flatten.length, 4, lf, [], false, (0 + k : Nat), 0⟩, [], 2) := h4
  simp only [Int.natCast_zero] at h3
  rw [h4'] at h3
  rw [h3] at h2
  have e5 : [48, 13, 10] ++ (List.replicate k ([84, 58, 32] ++ trim e ++ [13, 10])).flatten ++ [13, 10] = 48 :: 13 :: 10 :: ((List.replicate k ([84, 58, 32] ++ trim e ++ [13, 10])).flatten ++ [13, 10]) := rfl
  rw [e5, h2] at hr
  have e6 : (ts.map (dress z e)).flatten ++ [48, 13, 10] ++ (List.replicate k ([84, 58, 32] ++ trim e ++ [13, 10])).flatten ++ [13, 10] = (ts.map (dress z e)).flatten ++ 48 :: 13 :: 10 :: ((List.replicate k ([84, 58, 32] ++ trim e ++ [13, 10])).flatten ++ [13, 10]) := by simp
  unfold feed
  rw [if_neg (by simp [rdy]), e6, hr, if_neg (by simp)]
  simp
  omega
end Go.ChunkM
namespace Go.StrM
theorem trim_cut {l : List UInt8} {i k : Nat} (hik : i ≤ k) (hk : k ≤ l.length) (h1 : ∀ (j : Nat) c, j < i → l[j]? = some c → isBl c = true) (h2 : ∀ (j : Nat) c, k ≤ j → l[j]? = some c → isBl c = true)
    (h3 : i < k → (∀ c, l[i]? = some c → isBl c = false) ∧ ∀ c, l[k - 1]? = some c → isBl c = false) : (l.drop i).take (k - i) = trim l := by
  by_cases h : i < k
  · obtain ⟨g1, g2⟩ := h3 h
    have e1 : Lib.trimRightS l [32, 9] = l.take k := Lib.trimRightS_take l [32, 9] k hk h2 (fun b _ hb => g2 b hb)
    have e2 : Lib.trimLeftS (l.take k) [32, 9] = (l.take k).drop i := Lib.trimLeftS_drop (l.take k) [32, 9] i (by rw [List.length_take]; omega)
      (fun j b hj hb => h1 j b hj (by rw [List.getElem?_take, if_pos (by omega)] at hb; exact hb)) (fun b hb => g1 b (by rw [List.getElem?_take, if_pos h] at hb; exact hb))
    unfold trim Lib.trimS
    rw [e1, e2, List.drop_take]
  · have e0 : i = k := by omega
    subst e0
    have e1 : Lib.trimRightS l [32, 9] = l.take 0 := Lib.trimRightS_take l [32, 9] 0 (Nat.zero_le _) (fun j b _ hb => by
      rcases Nat.lt_or_ge j i with hj | hj
      · exact h1 j b hj hb
      · exact h2 j b hj hb) (fun b hb => absurd hb (Nat.lt_irrefl _))
    unfold trim Lib.trimS
    rw [e1, Nat.sub_self, List.take_zero, List.take_zero]; rfl
end Go.StrM

/- Texts without their case, lists cut at commas, in plain Lean. Conditions: none. -/
namespace Go.EmitM
open Go.ChunkM Go.StrM
def upB (c : UInt8) : Bool := decide (65 ≤ c.toNat ∧ c.toNat ≤ 90)
def lowB (c : UInt8) : UInt8 := if upB c then c ||| 32 else c
def low (l : List UInt8) : List UInt8 := l.map lowB
theorem lowB_up {c : UInt8} (h1 : 65 ≤ c.toNat) (h2 : c.toNat ≤ 90) : lowB c = c ||| 32 := by simp [lowB, upB, h1, h2]
theorem lowB_not {c : UInt8} (h : ¬ (65 ≤ c.toNat ∧ c.toNat ≤ 90)) : lowB c = c := by simp [lowB, upB, h]
theorem or32 : ∀ n : Nat, n < 256 → 65 ≤ n → n ≤ 90 → n ||| 32 = n + 32 := by decide +kernel
theorem lowB_toNat {c : UInt8} (h1 : 65 ≤ c.toNat) (h2 : c.toNat ≤ 90) : (lowB c).toNat = c.toNat + 32 := by
  rw [lowB_up h1 h2, UInt8.toNat_or]
  exact or32 c.toNat c.toNat_lt h1 h2
theorem low_length (l : List UInt8) : (low l).length = l.length := List.length_map ..
theorem low_append (a b : List UInt8) : low (a ++ b) = low a ++ low b := List.map_append ..
def alike (a b : List UInt8) : Bool := decide (low a = low b)
theorem alike_len {a b : List UInt8} (h : alike a b = true) : a.length = b.length := by
  have := congrArg List.length (of_decide_eq_true h)
  simpa [low_length] using this
theorem alike_iff {a b : List UInt8} : alike a b = true ↔ low a = low b := by simp [alike]
theorem alike_comm (a b : List UInt8) : alike a b = alike b a := by simp [alike, eq_comm]
/-- A text cut at each c. -/
def pieces (c : UInt8) : List UInt8 → List (List UInt8)
  | [] => [[]]
  | x :: l => if x = c then [] :: pieces c l else match pieces c l with
    | p :: ps => (x :: p) :: ps
    | [] => [[x]]
theorem pieces_in {c : UInt8} : ∀ {l : List UInt8}, c ∈ l → pieces c l = before c l :: pieces c (behind c l)
  | [], h => by cases h
  | x :: l, h => by
    by_cases hx : x = c
    · subst hx; simp [pieces, before, behind]
    · have hm : c ∈ l := by rcases List.mem_cons.1 h with h | h; exact absurd h.symm hx; exact h
      have e1 : before c (x :: l) = x :: before c l := by simp [before, hx]
      have e2 : behind c (x :: l) = behind c l := by simp [behind, hx]
      rw [e1, e2, pieces, if_neg hx, pieces_in hm]
theorem pieces_not {c : UInt8} : ∀ {l : List UInt8}, c ∉ l → pieces c l = [l]
  | [], _ => rfl
  | x :: l, h => by
    have hx : x ≠ c := fun e => h (by subst e; exact List.mem_cons_self)
    rw [pieces, if_neg hx, pieces_not fun hm => h (List.mem_cons_of_mem _ hm)]
theorem pieces_count (c : UInt8) : ∀ l : List UInt8, (pieces c l).length = l.count c + 1
  | [] => rfl
  | x :: l => by
    have ih := pieces_count c l
    rw [pieces]
    by_cases hx : x = c
    · subst hx; simp [ih]
    · rw [if_neg hx, List.count_cons_of_ne hx]
      revert ih
      cases pieces c l with
      | nil => intro ih; simp at ih
      | cons p ps => intro ih; simpa using ih
theorem pieces_pos (c : UInt8) (l : List UInt8) : 0 < (pieces c l).length := by rw [pieces_count]; omega
theorem pieces_sum (c : UInt8) : ∀ l : List UInt8, (pieces c l).flatten.length ≤ l.length
  | [] => by simp [pieces]
  | x :: l => by
    have ih := pieces_sum c l
    rw [pieces]
    by_cases hx : x = c
    · simp only [hx, if_true, List.flatten_cons, List.length_append, List.length_nil, List.length_cons]; omega
    · rw [if_neg hx]
      revert ih
      cases pieces c l with
      | nil => intro ih; simp
      | cons p ps => intro ih; simp only [List.flatten_cons, List.length_append, List.length_cons] at ih ⊢; omega
/-- The elements of a list. -/
def elemsOf (ps : List (List UInt8)) : List (List UInt8) := (ps.map trim).filter (fun p => decide (p ≠ []))
def elems (l : List UInt8) : List (List UInt8) := elemsOf (pieces 44 l)
theorem elemsOf_append (a b : List (List UInt8)) : elemsOf (a ++ b) = elemsOf a ++ elemsOf b := by simp [elemsOf]
theorem elemsOf_one (p : List UInt8) : elemsOf [p] = if trim p = [] then [] else [trim p] := by
  by_cases h : trim p = [] <;> simp [elemsOf, h]
theorem elemsOf_len (ps : List (List UInt8)) : (elemsOf ps).length ≤ ps.length := by
  unfold elemsOf
  exact Nat.le_trans (List.length_filter_le _ _) (by rw [List.length_map]; exact Nat.le_refl _)
theorem elemsOf_sum : ∀ ps : List (List UInt8), (elemsOf ps).flatten.length ≤ ps.flatten.length
  | [] => by simp [elemsOf]
  | p :: ps => by
    have ih := elemsOf_sum ps
    have h1 : elemsOf (p :: ps) = elemsOf [p] ++ elemsOf ps := by rw [← elemsOf_append]; rfl
    have h2 := trim_le p
    rw [h1, elemsOf_one, List.flatten_append, List.length_append, List.flatten_cons, List.length_append]
    split <;> simp only [List.flatten_nil, List.length_nil, List.flatten_cons, List.length_append] <;> omega
theorem elems_len (l : List UInt8) : (elems l).length ≤ l.length + 1 := Nat.le_trans (elemsOf_len _) (by rw [pieces_count]; have := List.count_le_length (a := (44 : UInt8)) (l := l); omega)
theorem elems_sum (l : List UInt8) : (elems l).flatten.length ≤ l.length := Nat.le_trans (elemsOf_sum _) (pieces_sum _ _)
/-- An element is not empty. -/
theorem elems_ne {l e : List UInt8} (h : e ∈ elems l) : e ≠ [] := by
  have := (List.mem_filter.1 h).2
  simpa using this
/-- A header's fields. -/
abbrev Fld := List UInt8 × List UInt8
def values (fs : List Fld) (n : List UInt8) : List (List UInt8) := (fs.filter (fun f => alike f.1 n)).map (·.2)
def elemsF (fs : List Fld) (n : List UInt8) : List (List UInt8) := (values fs n).flatMap elems
def has (fs : List Fld) (n e : List UInt8) : Bool := (elemsF fs n).any fun x => alike x e
def remove (fs : List Fld) (n : List UInt8) : List Fld := fs.filter (fun f => !alike f.1 n)
def fixed : List (List UInt8) := [[67, 111, 110, 110, 101, 99, 116, 105, 111, 110], [75, 101, 101, 112, 45, 65, 108, 105, 118, 101], [80, 114, 111, 120, 121, 45, 67, 111, 110, 110, 101, 99, 116, 105, 111, 110], [84, 69], [84, 114, 97, 105, 108, 101, 114], [84, 114, 97, 110, 115, 102, 101, 114, 45, 69, 110, 99, 111, 100, 105, 110, 103], [85, 112, 103, 114, 97, 100, 101]]
def oneP (fs : List Fld) (n : List UInt8) : Bool := fixed.any (fun x => alike x n) || has fs [67, 111, 110, 110, 101, 99, 116, 105, 111, 110] n
def strip (fs : List Fld) : List Fld := fs.filter (fun f => !oneP fs f.1)
end Go.EmitM

/- Contracts: tokens, values, numbers in the base of sixteen, a field's line. Conditions: none. -/
namespace Go.Proofs.YtngicmoadobgpaaDoor
open Go Go.Sx Go.ChunkM Go.StrM
variable {w0 : World} {F H : List HProp} {K : Value → List HProp → Prop}
theorem all_step {p : UInt8 → Bool} {l : List UInt8} {i : Nat} {c : UInt8} (h : ∀ (j : Nat) x, j < i → l[j]? = some x → p x = true) (hc : l[i]? = some c) (hp : p c = true) : ∀ (j : Nat) x, j < i + 1 → l[j]? = some x → p x = true := fun j x hj hx => by
  by_cases e : j = i
  · subst e; rw [hc] at hx; injection hx with hx; subst hx; exact hp
  · exact h j x (by omega) hx
theorem all_done {p : UInt8 → Bool} {l : List UInt8} (h : ∀ (j : Nat) x, j < l.length → l[j]? = some x → p x = true) : ∀ c ∈ l, p c = true := fun c hc => by
  obtain ⟨j, hj⟩ := List.getElem?_of_mem hc
  exact h j c (List.getElem?_eq_some_iff.1 hj).1 hj
theorem marks_ix {c : UInt8} : (0 ≤ Lib.indexByte [33, 35, 36, 37, 38, 39, 42, 43, 45, 46, 94, 95, 124, 126, 96] c → marks.contains c = true) ∧ (Lib.indexByte [33, 35, 36, 37, 38, 39, 42, 43, 45, 46, 94, 95, 124, 126, 96] c < 0 → marks.contains c = false) := by
  by_cases h : c ∈ marks
  · have := idx_in c marks h
    exact ⟨fun _ => by simpa using h, fun h2 => by unfold marks at this; omega⟩
  · have := idx_not c marks h
    exact ⟨fun h2 => by unfold marks at this; omega, fun _ => by simpa using h⟩
theorem tokB_no {c : UInt8} (h1 : isLet c = false) (h2 : isDig c = false) (h3 : Lib.indexByte [33, 35, 36, 37, 38, 39, 42, 43, 45, 46, 94, 95, 124, 126, 96] c < 0) : tokB c = false := by
  simp only [tokB, h1, h2, marks_ix.2 h3, Bool.or_self]
theorem tokB_yes {c : UInt8} (h : isLet c = true ∨ isDig c = true ∨ 0 ≤ Lib.indexByte [33, 35, 36, 37, 38, 39, 42, 43, 45, 46, 94, 95, 124, 126, 96] c) : tokB c = true := by
  rcases h with h | h | h
  · simp only [tokB, h, Bool.true_or]
  · simp only [tokB, h, Bool.true_or, Bool.or_true]
  · simp only [tokB, marks_ix.1 h, Bool.or_true]
theorem token_spec {l : List UInt8} (hl : l.length ≤ 4611686018427387904) (h1 : tokenP l → K (.bool true) F) (h2 : ¬ tokenP l → K (.bool false) F) : Tri Tryd.prog 91 #[kS l] w0 F K := by
  refine Tri.enterF Tryd.func91 Tryd.ntmps91 Tryd.results91 rfl rfl fun fr hfr => ?_
  repeat' (first | refine walk ?_ | exact trivial | refine Tw.mk ?_ ?_ | fail)
  refine XS.loopI (ι := Nat) (fun i => [(0, kS l), (6, kI l.length), (7, kI i)]) (fun _ => F) (fun i => i ≤ l.length ∧ ∀ (j : Nat) c, j < i → l[j]? = some c → tokB c = true) (fun i => l.length - i) 0 ⟨Nat.zero_le _, fun j _ hj => absurd hj (by omega)⟩ ⟨rfl, rfl, rfl, trivial⟩ entA ?_
  rintro i e ⟨hi, ha⟩ ih
  by_cases hlt : i < l.length
  · obtain ⟨c, hc⟩ : ∃ c, l[i]? = some c := ⟨_, List.getElem?_eq_getElem hlt⟩
    repeat' (first | refine walk ?_ | exact trivial | refine Tw.mk ?_ ?_ | intro hx | refine letter_spec ?_ ?_ | refine digit_spec ?_ ?_ | refine ixb_spec ?_ | (exfalso; omega) | exact Out.i (h2 fun ht => by have := ht.2 c (List.mem_of_getElem? hc); rw [tokB_no (by assumption) (by assumption) (by assumption)] at this; cases this) | exact ih (i + 1) _ _ ⟨hlt, all_step ha hc (tokB_yes (by first | exact .inl (by assumption) | exact .inr (.inl (by assumption)) | exact .inr (.inr (by assumption)) | fail))⟩ (by omega) ⟨rfl, rfl, rfl, trivial⟩ entA | fail)
  · obtain rfl : i = l.length := by omega
    have ha := all_done ha
    clear ih
    repeat' (first | refine walk ?_ | exact trivial | refine Tw.mk ?_ ?_ | intro hx | (exfalso; omega) | exact Out.i (h1 ⟨by assumption, ha⟩) | exact Out.i (h2 fun ht => ht.1 (by assumption)) | fail)
theorem valB_no {c : UInt8} (h : (c.toNat : Int) ≠ 9 ∧ ((c.toNat : Int) < 32 ∨ (c.toNat : Int) = 127)) : valB c = false := by
  simp only [valB, decide_eq_false_iff_not]; omega
theorem valB_yes {c : UInt8} (h : (c.toNat : Int) = 9 ∨ ((32 : Int) ≤ c.toNat ∧ (c.toNat : Int) ≠ 127)) : valB c = true := by
  simp only [valB, decide_eq_true_eq]; omega
theorem value_spec {l : List UInt8} (hl : l.length ≤ 4611686018427387904) (h1 : valueP l → K (.bool true) F) (h2 : ¬ valueP l → K (.bool false) F) : Tri Tryd.prog 92 #[kS l] w0 F K := by
  refine Tri.enterF Tryd.func92 Tryd.ntmps92 Tryd.results92 rfl rfl fun fr hfr => ?_
  repeat' (first | refine walk ?_ | exact trivial | refine Tw.mk ?_ ?_ | fail)
  refine XS.loopI (ι := Nat) (fun i => [(0, kS l), (6, kI l.length), (7, kI i)]) (fun _ => F) (fun i => i ≤ l.length ∧ ∀ (j : Nat) c, j < i → l[j]? = some c → valB c = true) (fun i => l.length - i) 0 ⟨Nat.zero_le _, fun j _ hj => absurd hj (by omega)⟩ ⟨rfl, rfl, rfl, trivial⟩ entA ?_
  rintro i e ⟨hi, ha⟩ ih
  by_cases hlt : i < l.length
  · obtain ⟨c, hc⟩ : ∃ c, l[i]? = some c := ⟨_, List.getElem?_eq_getElem hlt⟩
    repeat' (first | refine walk ?_ | exact trivial | refine Tw.mk ?_ ?_ | intro hx | (exfalso; omega) | exact Out.i (h2 fun ht => by have := ht.1 c (List.mem_of_getElem? hc); rw [valB_no (by omega)] at this; cases this) | exact ih (i + 1) _ _ ⟨hlt, all_step ha hc (valB_yes (by omega))⟩ (by omega) ⟨rfl, rfl, rfl, trivial⟩ entA | fail)
  · obtain rfl : i = l.length := by omega
    have ha := all_done ha
    clear ih
    repeat' (first | refine walk ?_ | exact trivial | refine Tw.mk ?_ ?_ | intro hx | (exfalso; omega) | refine trim_spec (by omega) ?_ | exact Out.i (h1 ⟨ha, by assumption⟩) | exact Out.i (h2 fun ht => absurd ht.2 (by assumption)) | fail)
/-- A field's line. -/
abbrev fldV (l : List UInt8) : List Value := [kS (before 58 l), kS (trim (behind 58 l))]
theorem field_spec {l : List UInt8} (hl : l.length ≤ 4611686018427387904) (h1 : fieldP l → K (.tuple #[.agg ⟨fldV l⟩, kI 0]) F) (h2 : ¬ fieldP l → K (.tuple #[.agg ⟨[kS [], kS []]⟩, kI 70]) F) : Tri Tryd.prog 77 #[kS l] w0 F K := by
  refine Tri.enterF Tryd.func77 Tryd.ntmps77 Tryd.results77 rfl rfl fun fr hfr => ?_
  have hb : 58 ∈ l → (before 58 l).length ≤ l.length ∧ (behind 58 l).length ≤ l.length := fun h => by have := len_before h; omega
  repeat' (first | refine walk ?_ | exact trivial | refine Tw.mk ?_ ?_ | intro hx | (intro (bx : Nat)) | refine cut_spec hl ?_ ?_ | refine trim_spec (by have := hb (by assumption); omega) ?_ | refine trim_spec (by first | exact Nat.zero_le _ | omega) ?_ | refine token_spec (by have := hb (by assumption); omega) ?_ ?_ | refine value_spec (by have := hb (by assumption); have := trim_le (behind 58 l); omega) ?_ ?_ | fail)
  all_goals first | exact Out.s0 (h1 ⟨by assumption, by assumption, by assumption⟩) | exact Out.s0 (h2 fun ht => absurd ht.1 (by assumption)) | exact Out.s0 (h2 fun ht => absurd ht.2.1 (by assumption)) | exact Out.s0 (h2 fun ht => absurd ht.2.2 (by assumption))
end Go.Proofs.YtngicmoadobgpaaDoor

/- Contracts: numbers in the base of sixteen. Conditions: none. -/
namespace Go.Proofs.YtngicmoadobgpaaDoor
open Go Go.Sx Go.ChunkM Go.StrM
variable {w0 : World} {F H : List HProp} {K : Value → List HProp → Prop}
theorem hexDig_dig {c : UInt8} (h : isDig c = true) : hexDig c = some (c.toNat - 48) := by
  simp only [isDig, decide_eq_true_eq] at h
  unfold hexDig; rw [if_pos h]
theorem hexDig_let {c : UInt8} (h : isDig c = false) (h2 : 97 ≤ c.toNat ||| 32 ∧ c.toNat ||| 32 ≤ 102) : hexDig c = some ((c.toNat ||| 32) - 87) := by
  simp only [isDig, decide_eq_false_iff_not] at h
  unfold hexDig; rw [if_neg h, if_pos h2]
theorem hexDig_no {c : UInt8} (h : isDig c = false) (h2 : ¬ (97 ≤ c.toNat ||| 32 ∧ c.toNat ||| 32 ≤ 102)) : hexDig c = none := by
  simp only [isDig, decide_eq_false_iff_not] at h
  unfold hexDig; rw [if_neg h, if_neg h2]
theorem hexGo_step {l : List UInt8} {i n : Nat} {c : UInt8} (hc : l[i]? = some c) : hexGo (l.drop i) n = match hexDig c with | some d => hexGo (l.drop (i + 1)) (n * 16 + d) | none => none := by
  have hlt := (List.getElem?_eq_some_iff.1 hc)
  rw [List.drop_eq_getElem_cons hlt.1, hlt.2]; rfl
theorem hex_spec {l : List UInt8} (hl : l.length ≤ 4611686018427387904) (h1 : ∀ n : Nat, hexOf l 8 = some n → n < 4294967296 → K (.tuple #[kI n, .bool true]) F) (h2 : hexOf l 8 = none → K (.tuple #[kI 0, .bool false]) F) : Tri Tryd.prog 89 #[kS l, kI 8] w0 F K := by
  have hno : l = [] ∨ 8 < l.length → hexOf l 8 = none := fun h => by unfold hexOf; rw [if_pos h]
  refine Tri.enterF Tryd.func89 Tryd.ntmps89 Tryd.results89 rfl rfl fun fr hfr => ?_
  repeat' (first | refine walk ?_ | exact trivial | refine Tw.mk ?_ ?_ | intro hx | refine XO.minI rfl rfl rfl rfl rfl (fun hm => ?_) (fun hm => ?_) | (exfalso; omega) | exact Out.i (h2 (hno (by first | exact .inl (by assumption) | exact .inr (by omega)))) | fail)
  rename_i hne
  have hok : ¬ (l = [] ∨ 8 < l.length) := fun h => by
    rcases h with h | h
    · exact hne h
    · omega
  refine XS.loopI (ι := Nat × Nat) (fun q => [(0, kS l), (6, kI q.2), (19, kI l.length), (20, kI q.1)]) (fun _ => F) (fun q => q.1 ≤ l.length ∧ q.2 < 16 ^ q.1 ∧ hexGo l 0 = hexGo (l.drop q.1) q.2) (fun q => l.length - q.1) (0, 0) ⟨Nat.zero_le _, by decide, rfl⟩ ⟨rfl, rfl, rfl, rfl, trivial⟩ entA ?_
  rintro ⟨i, n⟩ e ⟨hi, hn, hg⟩ ih
  simp only at hi hn hg
  have h16 : (16 : Nat) ^ i ≤ 16 ^ 8 := Nat.pow_le_pow_right (by decide) (by omega)
  have h168 : (16 : Nat) ^ 8 = 4294967296 := by decide
  dsimp only
  by_cases hlt : i < l.length
  · obtain ⟨c, hc⟩ : ∃ c, l[i]? = some c := ⟨_, List.getElem?_eq_getElem hlt⟩
    have hs := hexGo_step (n := n) hc
    have hc8 := u8_lt c
    have hor : c.toNat ||| 32 < 2 ^ 8 := Nat.or_lt_two_pow hc8 (by decide)
    have hi16 : (16 : Nat) ^ (i + 1) = 16 ^ i * 16 := Nat.pow_succ ..
    have hdg : isDig c = true → 48 ≤ c.toNat ∧ c.toNat ≤ 57 := fun h => by simpa only [isDig, decide_eq_true_eq] using h
    have hs1 : isDig c = true → hexGo l 0 = hexGo (l.drop (i + 1)) (n * 2 ^ 4 + (c.toNat - 48)) := fun h => by rw [hg, hs, hexDig_dig h]
    have hs2 : isDig c = false → 97 ≤ c.toNat ||| 32 ∧ c.toNat ||| 32 ≤ 102 → hexGo l 0 = hexGo (l.drop (i + 1)) (n * 2 ^ 4 + ((c.toNat ||| 32) - 97 + 10)) := fun h h2 => by
      rw [hg, hs, hexDig_let h h2, show (c.toNat ||| 32) - 97 + 10 = (c.toNat ||| 32) - 87 by omega]
    have hs3 : isDig c = false → ¬ (97 ≤ c.toNat ||| 32 ∧ c.toNat ||| 32 ≤ 102) → hexOf l 8 = none := fun h h2 => by
      unfold hexOf; rw [if_neg hok, hg, hs, hexDig_no h h2]
    repeat' (first | refine walk ?_ | exact trivial | refine Tw.mk ?_ ?_ | (intro hx; have hy := hdg hx) | intro hx | refine digit_spec ?_ ?_ | (exfalso; omega) | fail)
    all_goals first
      | exact ih (i + 1, n * 2 ^ 4 + (c.toNat - 48)) _ _ ⟨hlt, by simp only; omega, hs1 hx⟩ (by simp only; omega) ⟨rfl, rfl, rfl, rfl, trivial⟩ entA
      | exact ih (i + 1, n * 2 ^ 4 + ((c.toNat ||| 32) - 97 + 10)) _ _ ⟨hlt, by simp only; omega, hs2 (by assumption) (by omega)⟩ (by simp only; omega) ⟨rfl, rfl, rfl, rfl, trivial⟩ entA
      | exact Out.i (h2 (hs3 (by assumption) (by omega)))
  · obtain rfl : i = l.length := by omega
    clear ih
    repeat' (first | refine walk ?_ | exact trivial | refine Tw.mk ?_ ?_ | intro hx | (exfalso; omega) | exact Out.i (h1 n (by unfold hexOf; rw [if_neg hok, hg, List.drop_length]; rfl) (by omega)) | fail)
end Go.Proofs.YtngicmoadobgpaaDoor

/- Rules: what a strings.Builder does with pointers and with the memory of its bytes. Conditions: the table 'T' fits the program. -/
namespace Go.Sx
open Go Go.RowKit
section
variable {P : Program} {T : Tbl} {w0 : World} {n : Nat} {HL : Held} {ops : Array Oper} {J : Env → List HProp → Prop} {ix : Nat} {rest : List Oper} {o : Oper} {e : Env} {H F : List HProp}
theorem shape_of {w : World} {b : Nat} {cs : Array Value} {t : TypeId} {fz : Nat × Nat} (h : w.heap[b]? = some (.cells cs t fz)) : w.shape? b = some (t, cs.size) := by
  simp [World.shape?, h]
theorem XO.toUnsafe {s t u tb : TypeId} {x : Operand} {b k : Nat} {l : List Value} {d : Nat} (hT : T.Ok P) (hk0 : Keeps w0 (cel b tb l :: F) (keptBy HL ix)) (hg : wantedE ops e n o = true) (hd : o.dst = some d) (hop : o.op = .convert s t x) (hs : T.und s = some (.pointer u)) (ht : T.und t = some .unsafePointer) (hz : T.size u = some (k + 1))
    (hx : e.ev n x = .pointer (some ⟨b, 0, none⟩)) (hl : Nat.blt 0 l.length = true) (h : XO P T w0 n HL ops J (ix + 1) rest (e.upd d (.pointer (some ⟨b, 0, none⟩))) (cel b tb l :: F)) : XO P T w0 n HL ops J ix (o :: rest) e (cel b tb l :: F) := by
  refine .effOp hk0 hg (by rw [hop]; simp [cls, hs, ht]) (fun w hrel => ⟨_, w, _, .inl ?_, hrel, hk0, by rw [hd]; exact h⟩)
  obtain ⟨i, hi, hsz⟩ := hT.size _ _ hz
  have hg2 := hrel.get
  have := Lib.run_to_unsafe (P := P) w ⟨b, 0, none⟩ (hT.und _ _ hs) (hT.und _ _ ht) hi (by omega) (shape_of hg2) (Nat.le_of_ble_eq_true hl)
  simp [execOp, hop, hx, this]
theorem XO.fromUnsafe {s t u tb : TypeId} {x : Operand} {b k : Nat} {l : List Value} {d : Nat} (hT : T.Ok P) (hk0 : Keeps w0 (cel b tb l :: F) (keptBy HL ix)) (hg : wantedE ops e n o = true) (hd : o.dst = some d) (hop : o.op = .convert s t x) (hs : T.und s = some .unsafePointer) (ht : T.und t = some (.pointer u)) (hz : T.size u = some k)
    (hx : e.ev n x = .pointer (some ⟨b, 0, none⟩)) (hl : liesAt P P.depth tb (l.length / P.cellsOf tb) 0 u 1 = true) (h : XO P T w0 n HL ops J (ix + 1) rest (e.upd d (.pointer (some ⟨b, 0, none⟩))) (cel b tb l :: F)) : XO P T w0 n HL ops J ix (o :: rest) e (cel b tb l :: F) := by
  refine .effOp hk0 hg (by rw [hop]; simp [cls, hs, ht]) (fun w hrel => ⟨_, w, _, .inl ?_, hrel, hk0, by rw [hd]; exact h⟩)
  obtain ⟨i, hi, hsz⟩ := hT.size _ _ hz
  have hg2 := hrel.get
  have := Lib.run_from_unsafe (P := P) w ⟨b, 0, none⟩ (hT.und _ _ hs) (hT.und _ _ ht) hi (shape_of hg2) hl
  simp [execOp, hop, hx, this]
theorem XO.neqSame {x y : Operand} {t t' u : TypeId} {a : Addr} {k : Nat} {d : Nat} (hT : T.Ok P) (hh : heldAt HL ix = none) (hg : wantedE ops e n o = true) (hd : o.dst = some d) (hop : o.op = .binOp .neq t x y t') (hu : T.und t = some (.pointer u)) (hz : T.size u = some k) (hlk : looks T t x y = true)
    (hx : e.ev n x = .pointer (some a)) (hy : e.ev n y = .pointer (some a)) (h : XO P T w0 n HL ops J (ix + 1) rest (e.upd d (.bool false)) H) : XO P T w0 n HL ops J ix (o :: rest) e H := by
  refine .readOp (v := .bool false) hh hg (by rw [hop]; simp [cls, hlk]) (fun w hrel => ?_) (by rw [hd]; exact h)
  obtain ⟨i, hi, hsz⟩ := hT.size _ _ hz
  have := Lib.run_neq_ptr_same (P := P) w a (hT.und _ _ hu) hi
  simp only [execOp, hop, hx, hy, Sem.run_bind, eqGuard_plain BinOp.neq t x y (.pointer (some a)) (.pointer (some a)) (by simp) (by simp), Result.andThen_ok, this]
  rfl
theorem XO.sliceData {x : Operand} {ts : Array TypeId} {a : Option Addr} {k c : Nat} {d : Nat} (hk0 : Keeps w0 H (keptBy HL ix)) (hg : wantedE ops e n o = true) (hd : o.dst = some d) (hop : o.op = .call { callee := .builtin .unsafeSliceData, args := #[x], argTypes := ts })
    (hx : e.ev n x = .slice a k c) (hc : a = none ∨ 0 < c) (h : XO P T w0 n HL ops J (ix + 1) rest (e.upd d (.pointer a)) H) : XO P T w0 n HL ops J ix (o :: rest) e H := by
  refine .effOp hk0 hg (by rw [hop]; rfl) (fun w hrel => ⟨.pointer a, w, _, .inl ?_, hrel, hk0, by rw [hd]; exact h⟩)
  have : (Builtin.unsafeSliceData_ ts o.type #[.slice a k c]).run P w = .ok (.pointer a) w := by
    cases a with
    | none => rfl
    | some a => exact Lib.run_unsafeSliceData_row w ts o.type a k c (by rcases hc with h | h; cases h; omega)
  simp only [execOp, hop, resolve, invoke, builtin, Sem.run_bind, Sem.run_pure, Result.andThen_ok, List.map_toArray, List.map_cons, List.map_nil, hx, this]
theorem XO.unsafeStr {x y : Operand} {pt it u : TypeId} {a : Option Addr} {cap : Nat} {l : List UInt8} {d : Nat} (hT : T.Ok P) (hk0 : Keeps w0 (Row a cap u 1 l.length (bys l) :: F) (keptBy HL ix)) (hk : keptBy HL ix = []) (hg : wantedE ops e n o = true) (hd : o.dst = some d) (hop : o.op = .call { callee := .builtin .unsafeString, args := #[x, y], argTypes := #[pt, it] })
    (hp : T.und pt = some (.pointer u)) (hc : P.cellsOf u = 1) (hx : e.ev n x = .pointer a) (hy : e.ev n y = .int .i64 l.length) (h : XO P T w0 n HL ops J (ix + 1) rest (e.upd d (kS l)) F) : XO P T w0 n HL ops J ix (o :: rest) e (Row a cap u 1 l.length (bys l) :: F) := by
  by_cases h0 : l = []
  · subst h0
    refine .effOp hk0 hg (by rw [hop]; rfl) (fun w hrel => ⟨kS [], w, F, .inl ?_, hrel.ent (Ent.drop _ _), by rw [hk]; trivial, by rw [hd]; exact h⟩)
    have := Lib.run_unsafeString_none (P := P) w pt it o.type a
    simp only [execOp, hop, resolve, invoke, builtin, Sem.run_bind, Sem.run_pure, Result.andThen_ok, List.map_toArray, List.map_cons, List.map_nil, hx, hy, List.length_nil, Int.natCast_zero, this]
    rfl
  · have hl : 0 < l.length := List.length_pos_iff.2 h0
    refine .effOp hk0 hg (by rw [hop]; rfl) (fun w hrel => ?_)
    obtain ⟨g, rfl, hr2⟩ := hrel.row_open hl
    obtain ⟨tail, hr3, hl1, hl2, hkc, hcm⟩ := hr2.rowAt_blk
    have hg2 := hr3.get
    have hlen : l.length ≤ (bys l ++ tail).length := by rw [List.length_append, bys_length]; omega
    have hrun : (Builtin.unsafeString_ #[pt, it] o.type #[.pointer (some ⟨g, 0, none⟩), .int .i64 l.length]).run P w = .ok (.string ⟨l.toArray⟩) (w.freeze ⟨g, 0, none⟩ l.length) := by
      refine Lib.run_unsafeString_row w pt it o.type u (hT.und _ _ hp) hc g _ (shape_of hg2) l h0 hlen (by simp only [maxLen] at hcm; omega) (fun j v hj => ?_)
      rw [Addr.add_mk, Nat.zero_add]
      exact Reads.row (bys_get hj) w hr2
    refine ⟨kS l, w.freeze ⟨g, 0, none⟩ l.length, F, .inl ?_, ?_, by rw [hk]; trivial, by rw [hd]; exact h⟩
    · simp only [execOp, hop, resolve, invoke, builtin, Sem.run_bind, Sem.run_pure, Result.andThen_ok, List.map_toArray, List.map_cons, List.map_nil, hx, hy, hrun]
    · have hne : ¬ l.length = 0 := by omega
      unfold World.freeze
      rw [if_neg hne]
      refine Rel.ent (H := blk g (.cells ⟨bys l ++ tail⟩ u (0, l.length)) :: F) ?_ (Ent.drop _ _)
      refine Rel.set (o' := .cells ⟨bys l ++ tail⟩ u (0, l.length)) hr3 rfl rfl rfl ?_ ?_ (fun j hj => ?_)
      · simp only [Array.size_modify]
      · simp only [Array.getElem?_modify, if_true, hg2, Option.map_some]
        simp
      · simp only [Array.getElem?_modify]
        rw [if_neg (Ne.symm hj)]
end
end Go.Sx

/- Contracts: strings.Builder. Conditions: no more bytes than memory bears. -/
namespace Go.Proofs.YtngicmoadobgpaaDoor
open Go Go.Sx Go.ChunkM Go.StrM
variable {w0 : World} {F H : List HProp} {K : Value → List HProp → Prop}
/-- A builder in a block of its own: what it holds. -/
def bld (b : Nat) (tb : TypeId) (l : List UInt8) : HProp := hex fun q : { q : Bool × Option Addr × Nat // q.2.1 = none ∨ 0 < q.2.2 } =>
  stars [cel b tb [.pointer (if q.1.1 then some ⟨b, 0, none⟩ else none), .slice q.1.2.1 l.length q.1.2.2], Row q.1.2.1 q.1.2.2 5 1 l.length (bys l)]
theorem bld_mk {b tb : Nat} {l : List UInt8} (p : Bool) {a : Option Addr} {c : Nat} (h : a = none ∨ 0 < c) : Ent (cel b tb [.pointer (if p then some ⟨b, 0, none⟩ else none), .slice a l.length c] :: Row a c 5 1 l.length (bys l) :: F) (bld b tb l :: F) :=
  Ent.trans Ent.pack2 (Ent.hex (f := fun q : { q : Bool × Option Addr × Nat // q.2.1 = none ∨ 0 < q.2.2 } => stars [cel b tb [.pointer (if q.1.1 then some ⟨b, 0, none⟩ else none), .slice q.1.2.1 l.length q.1.2.2], Row q.1.2.1 q.1.2.2 5 1 l.length (bys l)]) ⟨(p, a, c), h⟩)
theorem bld_open {f : FuncId} {args : Array Value} {b tb : Nat} {l : List UInt8} (h : ∀ (p : Bool) (a : Option Addr) (c : Nat), (a = none ∨ 0 < c) → Tri Tryd.prog f args w0 (cel b tb [.pointer (if p then some ⟨b, 0, none⟩ else none), .slice a l.length c] :: Row a c 5 1 l.length (bys l) :: F) K) : Tri Tryd.prog f args w0 (bld b tb l :: F) K :=
  Tri.ex (ι := { q : Bool × Option Addr × Nat // q.2.1 = none ∨ 0 < q.2.2 }) (H' := fun q => cel b tb [.pointer (if q.1.1 then some ⟨b, 0, none⟩ else none), .slice q.1.2.1 l.length q.1.2.2] :: Row q.1.2.1 q.1.2.2 5 1 l.length (bys l) :: F)
    (fun _ hr => let ⟨x, hx⟩ := Rel.hex hr; ⟨x, hx.ent Ent.unpack2⟩) (fun q => h q.1.1 q.1.2.1 q.1.2.2 q.2)
/-- A new one. -/
theorem bld_new {b tb : Nat} : Ent (cel b tb [.pointer none, .slice none 0 0] :: F) (bld b tb [] :: F) :=
  Ent.trans (Ent.cons _ (Row.nil 5 1 F)) (bld_mk (l := []) false (.inl rfl))
/-- The types at whose beginning a builder lies. -/
def bldT (tb : TypeId) : Prop := liesAt Tryd.prog Tryd.prog.depth tb (2 / Tryd.prog.cellsOf tb) 0 74 1 = true
theorem bldT_own : bldT 74 := by unfold bldT; kernel_rfl
set_option maxRecDepth 100000 in
theorem noEsc_run (v : Value) (w : World) : (callFunc 75 ⟨[v]⟩).run Tryd.prog w = .ok (.value v) w := by
  rw [run_callFunc_extern Tryd.func75 (by kernel_rfl) (by kernel_rfl) (by kernel_rfl) (e := Extern.AbiNoEscape.same) (by kernel_rfl), Lib.run_noEscape]
  rfl
set_option maxRecDepth 20000 in
theorem copyCheck_spec {b tb : Nat} {p : Bool} {v : Value} (ht : bldT tb) (h : K (.tuple #[]) (cel b tb [ptr b, v] :: F)) : Tri Tryd.prog 60 #[ptr b] w0 (cel b tb [.pointer (if p then some ⟨b, 0, none⟩ else none), v] :: F) K := by
  cases p with
  | true =>
    refine Tri.enterF Tryd.func60 Tryd.ntmps60 Tryd.results60 rfl rfl fun fr hfr => ?_
    simp only [if_true]
    repeat' (first | refine walk ?_ | exact trivial | refine Tw.mk ?_ ?_ | refine XO.neqSame TT_ok rfl rfl rfl rfl rfl rfl rfl rfl rfl ?_ | exact Out.i h | fail)
  | false =>
    refine Tri.enterF Tryd.func60 Tryd.ntmps60 Tryd.results60 rfl rfl fun fr hfr => ?_
    simp only [Bool.false_eq_true, if_false]
    have nx := noEsc_run (.pointer (some ⟨b, 0, none⟩))
    repeat' (first | refine walk ?_ | exact trivial | refine Tw.mk ?_ ?_ | refine XO.toUnsafe TT_ok trivial rfl rfl rfl rfl rfl rfl rfl rfl ?_ | refine XO.callX trivial rfl rfl rfl rfl (noEsc_run _) ?_ | refine XO.fromUnsafe TT_ok trivial rfl rfl rfl rfl rfl rfl rfl ht ?_ | exact Out.i h | fail)
theorem bld_of {b tb n : Nat} {l : List UInt8} {vs : List Value} {a : Option Addr} {c : Nat} (hn : n = l.length) (hv : vs = bys l) (h : a = none ∨ 0 < c) : Ent (cel b tb [ptr b, .slice a n c] :: Row a c 5 1 n vs :: F) (bld b tb l :: F) := by
  subst hn hv; exact bld_mk true h
set_option maxRecDepth 20000 in
theorem wstr_spec {b tb : Nat} {l s : List UInt8} (ht : bldT tb) (hN : l.length + s.length ≤ 140737488355328) (h : K (.tuple #[kI s.length, .nilIface]) (bld b tb (l ++ s) :: F)) : Tri Tryd.prog 36 #[ptr b, kS s] w0 (bld b tb l :: F) K := by
  refine bld_open fun p a c hac => ?_
  refine Tri.enterF Tryd.func36 Tryd.ntmps36 Tryd.results36 rfl rfl fun fr hfr => ?_
  repeat' (first | refine walk ?_ | exact trivial | refine Tw.mk ?_ ?_ | refine copyCheck_spec ht ?_ | (refine XO.sel1 (c := Row a c 5 1 l.length (bys l)) ?_; refine XO.appendS TT_ok trivial rfl rfl rfl rfl rfl rfl rfl rfl rfl rfl rfl hN (fun _ _ => trivial) (fun a' cap' hn => ?_)) | fail)
  exact Out.e h (Ent.trans (selA (c := cel b tb [ptr b, .slice a' (l.length + s.length) cap'])) (bld_of (by simp) (by simp [bys]) (hn hac)))
theorem bstr_spec {b tb : Nat} {l : List UInt8} (h : K (kS l) F) : Tri Tryd.prog 38 #[ptr b] w0 (bld b tb l :: F) K := by
  refine bld_open fun p a c hac => ?_
  refine Tri.enterF Tryd.func38 Tryd.ntmps38 Tryd.results38 rfl rfl fun fr hfr => ?_
  repeat' (first | refine walk ?_ | exact trivial | refine Tw.mk ?_ ?_ | refine XS.drawH (T := TT) [(8, [4], heldC ⟨b, 1, none⟩ (.slice a l.length c))] [(8, [4])] rfl follows_ok (by decide +kernel) ?_ | refine XO.sliceData (by repeat' (first | exact trivial | exact readA | exact heldM_0 | exact heldM_1 | exact heldM_2 | exact heldM_3 | exact heldM_4 | refine And.intro ?_ ?_ | exact Reads.here rfl | refine Reads.skip ?_)) rfl rfl rfl rfl hac ?_ | (refine XO.sel1 (c := Row a c 5 1 l.length (bys l)) ?_; refine XO.unsafeStr TT_ok trivial rfl rfl rfl rfl rfl (by kernel_rfl) rfl rfl ?_) | refine XO.callH (by repeat' (first | exact trivial | exact readA | exact heldM_0 | exact heldM_1 | exact heldM_2 | exact heldM_3 | exact heldM_4 | refine And.intro ?_ ?_ | exact Reads.here rfl | refine Reads.skip ?_)) rfl rfl rfl (by kernel_rfl) rfl ?_ | refine And.intro (by repeat' (first | exact trivial | exact readA | exact heldM_0 | exact heldM_1 | exact heldM_2 | exact heldM_3 | exact heldM_4 | refine And.intro ?_ ?_ | exact Reads.here rfl | refine Reads.skip ?_)) ?_ | refine XO.loadH TT_ok rfl rfl rfl rfl rfl rfl (by repeat' (first | exact trivial | exact readA | exact heldM_0 | exact heldM_1 | exact heldM_2 | exact heldM_3 | exact heldM_4 | refine And.intro ?_ ?_ | exact Reads.here rfl | refine Reads.skip ?_)) ?_ | refine XO.buildSlice TT_ok (by repeat' (first | exact trivial | exact readA | exact heldM_0 | exact heldM_1 | exact heldM_2 | exact heldM_3 | exact heldM_4 | refine And.intro ?_ ?_ | exact Reads.here rfl | refine Reads.skip ?_)) rfl rfl rfl rfl rfl rfl rfl rfl rfl rfl rfl rfl (fun _ => (by repeat' (first | exact trivial | exact readA | exact heldM_0 | exact heldM_1 | exact heldM_2 | exact heldM_3 | exact heldM_4 | refine And.intro ?_ ?_ | exact Reads.here rfl | refine Reads.skip ?_))) (fun b1 => ?_) | fail)
  exact Out.s0 h
end Go.Proofs.YtngicmoadobgpaaDoor

/- Contracts: a decoder of chunked bodies: its lines. Conditions: what a decoder keeps. -/
namespace Go.Proofs.YtngicmoadobgpaaDoor
open Go Go.Sx Go.ChunkM Go.StrM
variable {w0 : World} {F H : List HProp} {K : Value → List HProp → Prop}
theorem cut2_spec {l : List UInt8} {c : UInt8} (hl : l.length ≤ 4611686018427387904) (h : ∀ t, K (.tuple #[kS (before c l), kS (behind c l), .bool t]) F) : Tri Tryd.prog 88 #[kS l, kS [c]] w0 F K :=
  cut_spec hl (fun _ => h true) (fun hm => by have e := before_not c l hm; have := h false; rw [e.1, e.2] at this; exact this)
abbrev dcel (b : Nat) (D : DS) (a : Option Addr) (c : Nat) : HProp := cel b 71 [kI D.most, kI D.size, kI D.state, kI D.left, .slice a D.line.length c, .bool D.cr, kI D.trl, kI D.err]
/-- The numbers of a decoder lie in their bounds. -/
def lim (D : DS) : Prop := -9223372036854775808 ≤ D.most ∧ D.most ≤ 9223372036854775807
theorem bound_spec {b c : Nat} {D : DS} {a : Option Addr} (h : K (kI (bound D.state)) (dcel b D a c :: F)) : Tri Tryd.prog 62 #[ptr b] w0 (dcel b D a c :: F) K := by
  have e0 : D.state = 0 → bound D.state = 64 := fun h => by unfold bound; rw [if_pos h]
  have e3 : D.state ≠ 0 → D.state = 3 → bound D.state = 512 := fun h h2 => by unfold bound; rw [if_neg h, if_pos h2]
  have e9 : D.state ≠ 0 → D.state ≠ 3 → bound D.state = 0 := fun h h2 => by unfold bound; rw [if_neg h, if_neg h2]
  refine Tri.enterF Tryd.func62 Tryd.ntmps62 Tryd.results62 rfl rfl fun fr hfr => ?_
  repeat' (first | refine walk ?_ | exact trivial | refine Tw.mk ?_ ?_ | intro hx | fail)
  all_goals first
    | (rw [e0 (by assumption)] at h; exact Out.i h)
    | (rw [e3 (by assumption) (by assumption)] at h; exact Out.i h)
    | (rw [e9 (by assumption) (by assumption)] at h; exact Out.i h)
theorem extB_yes {c : UInt8} (h : (c.toNat : Int) = 9 ∨ ((32 : Int) ≤ c.toNat ∧ (c.toNat : Int) ≤ 126)) : extB c = true := by simp only [extB, decide_eq_true_eq]; omega
theorem extB_no {c : UInt8} (h : (c.toNat : Int) ≠ 9 ∧ ((c.toNat : Int) < 32 ∨ (126 : Int) < c.toNat)) : extB c = false := by simp only [extB, decide_eq_false_iff_not]; omega
theorem hexU_spec {l : List UInt8} (hl : l.length ≤ 4611686018427387904) (h : ∀ (n : Nat) (t : Bool), (t = true ∧ hexOf l 8 = some n ∧ n < 4294967296) ∨ (t = false ∧ n = 0 ∧ hexOf l 8 = none) → K (.tuple #[kI n, .bool t]) F) : Tri Tryd.prog 89 #[kS l, kI 8] w0 F K :=
  hex_spec hl (fun n h1 h2 => h n true (.inl ⟨rfl, h1, h2⟩)) (fun h1 => h 0 false (.inr ⟨rfl, rfl, h1⟩))
theorem sized_spec {b c : Nat} {D : DS} {a : Option Addr} {l : List UInt8} (hl : l.length ≤ 4611686018427387904) (hD : Ok D) (hm : lim D) (h : K (kI (sized D l).2) (dcel b (sized D l).1 a c :: F)) : Tri Tryd.prog 76 #[ptr b, kS l] w0 (dcel b D a c :: F) K := by
  have hb1 := before_le 59 l
  have hb2 := behind_le 59 l
  have s0 := hD.s0
  have s1 := hD.s1
  obtain ⟨m1, m2⟩ := hm
  refine Tri.enterF Tryd.func76 Tryd.ntmps76 Tryd.results76 rfl rfl fun fr hfr => ?_
  repeat' (first | refine walk ?_ | exact trivial | refine Tw.mk ?_ ?_ | intro (tb : Bool) | (intro (n : Nat) (t : Bool) hn) | refine cut2_spec hl ?_ | refine hexU_spec (by omega) ?_ | fail)
  generalize hx : behind 59 l = ext at *
  have hrest : ∀ tt : Bool, (tt = true ↔ t = true ∧ ext.all extB = true) → sized D l = if tt then (if n = 0 then ({ D with state := 3 }, 0) else if D.most - D.size < n then (D, 101) else ({ D with state := 1, left := n }, 0)) else (D, 100) := by
    intro tt htt
    unfold sized
    rw [hx]
    rcases hn with ⟨h1, h2, _⟩ | ⟨h1, _, h2⟩
    · rw [h2]
      subst h1
      simp only [true_and] at htt
      by_cases he : ext.all extB = true
      · have := htt.2 he; subst this; simp [he]
      · have : tt = false := by
          cases tt
          · rfl
          · exact absurd (htt.1 rfl) he
        subst this; simp [he]
    · rw [h2]
      subst h1
      have : tt = false := by
        cases tt
        · rfl
        · exact absurd (htt.1 rfl).1 (by simp)
      subst this; rfl
  refine XS.loopI (ι := Nat × Bool) (fun q => [(0, ptr b), (6, kS ext), (8, kI n), (9, .bool q.2), (23, kI ext.length), (24, kI q.1)]) (fun _ => dcel b D a c :: F) (fun q => q.1 ≤ ext.length ∧ (q.2 = true ↔ t = true ∧ ∀ (j : Nat) x, j < q.1 → ext[j]? = some x → extB x = true)) (fun q => ext.length - q.1) (0, t) ⟨Nat.zero_le _, ⟨fun h => ⟨h, fun j _ hj => absurd hj (by simp)⟩, fun h => h.1⟩⟩ ⟨rfl, rfl, rfl, rfl, rfl, rfl, trivial⟩ entA ?_
  rintro ⟨i, tt⟩ e ⟨hi, ht⟩ ih
  simp only at hi ht
  dsimp only
  by_cases hlt : i < ext.length
  · obtain ⟨x, hc⟩ : ∃ c, ext[i]? = some c := ⟨_, List.getElem?_eq_getElem hlt⟩
    have stepT : tt = true → extB x = true → (true = true ↔ t = true ∧ ∀ (j : Nat) y, j < i + 1 → ext[j]? = some y → extB y = true) := fun h1 h2 => ⟨fun _ => ⟨(ht.1 h1).1, all_step (ht.1 h1).2 hc h2⟩, fun _ => rfl⟩
    have stepF : tt = false ∨ extB x = false → (false = true ↔ t = true ∧ ∀ (j : Nat) y, j < i + 1 → ext[j]? = some y → extB y = true) := by
      intro h1
      refine ⟨fun h => (by cases h), fun h2 => ?_⟩
      rcases h1 with h1 | h1
      · have := ht.2 ⟨h2.1, fun j y hj hy => h2.2 j y (by omega) hy⟩
        rw [h1] at this; cases this
      · have := h2.2 i x (by omega) hc
        rw [h1] at this; cases this
    cases tt
    · repeat' (first | refine walk ?_ | exact trivial | refine Tw.mk ?_ ?_ | intro hy | (exfalso; omega) | exact ih (i + 1, false) _ _ ⟨hlt, stepF (.inl rfl)⟩ (by simp only; omega) ⟨rfl, rfl, rfl, rfl, rfl, rfl, trivial⟩ entA | fail)
    · repeat' (first | refine walk ?_ | exact trivial | refine Tw.mk ?_ ?_ | intro hy | (exfalso; omega) | fail)
      all_goals first
        | exact ih (i + 1, true) _ _ ⟨hlt, stepT rfl (extB_yes (by omega))⟩ (by simp only; omega) ⟨rfl, rfl, rfl, rfl, rfl, rfl, trivial⟩ entA
        | exact ih (i + 1, false) _ _ ⟨hlt, stepF (.inr (extB_no (by omega)))⟩ (by simp only; omega) ⟨rfl, rfl, rfl, rfl, rfl, rfl, trivial⟩ entA
  · obtain rfl : i = ext.length := by omega
    clear ih
    have hr := hrest tt (by rw [ht, List.all_eq_true]; exact ⟨fun h => ⟨h.1, all_done h.2⟩, fun h => ⟨h.1, fun j x _ hx => h.2 x (List.mem_of_getElem? hx)⟩⟩)
    have hn2 : tt = true → n < 4294967296 := fun h0 => by
      rcases hn with ⟨_, _, h⟩ | ⟨h, _⟩
      · exact h
      · have := (ht.1 h0).1; rw [h] at this; cases this
    cases tt
    · simp only [Bool.false_eq_true, if_false] at hr
      rw [hr] at h
      repeat' (first | refine walk ?_ | exact trivial | refine Tw.mk ?_ ?_ | intro hy | (exfalso; omega) | exact Out.i h | fail)
    · simp only [if_true] at hr
      have hn2 := hn2 rfl
      by_cases n0 : n = 0
      · subst n0
        rw [hr, if_pos rfl] at h
        repeat' (first | refine walk ?_ | exact trivial | refine Tw.mk ?_ ?_ | intro hy | (exfalso; omega) | exact Out.i h | fail)
      · rw [if_neg n0] at hr
        by_cases hov : D.most - D.size < n
        · rw [hr, if_pos hov] at h
          repeat' (first | refine walk ?_ | exact trivial | refine Tw.mk ?_ ?_ | intro hy | (exfalso; omega) | exact Out.i h | fail)
        · rw [hr, if_neg hov] at h
          repeat' (first | refine walk ?_ | exact trivial | refine Tw.mk ?_ ?_ | intro hy | (exfalso; omega) | exact Out.i h | fail)
end Go.Proofs.YtngicmoadobgpaaDoor
