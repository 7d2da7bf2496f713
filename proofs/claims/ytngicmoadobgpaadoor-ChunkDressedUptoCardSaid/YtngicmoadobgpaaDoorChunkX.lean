/- Chunks that are dressed: noughts, extensions, trailers. Conditions: none. -/
import Derived.Test.YtngicmoadobgpaaDoorStrM
import Derived.Test.YtngicmoadobgpaaDoorChunkL
namespace Go.StrM
open Go.ChunkM
def isBl (c : UInt8) : Bool := ([32, 9] : List UInt8).contains c
theorem isBl_iff (c : UInt8) : isBl c = true ↔ c.toNat = 32 ∨ c.toNat = 9 := by
  unfold isBl
  rw [List.contains_iff_mem]
  simp only [List.mem_cons, List.not_mem_nil, or_false, ← UInt8.toNat_inj]
  rfl
abbrev trR (l : List UInt8) : List UInt8 := (l.reverse.dropWhile isBl).reverse
theorem trim_eq (l : List UInt8) : trim l = (trR l).dropWhile isBl := rfl
theorem trR_snoc (l : List UInt8) (c : UInt8) : trR (l ++ [c]) = if isBl c then trR l else l ++ [c] := by
  unfold trR
  rw [List.reverse_append, List.reverse_cons, List.reverse_nil, List.nil_append, List.singleton_append, List.dropWhile_cons]
  split
  · rfl
  · simp
theorem trR_ends (l : List UInt8) : trR l = [] ∨ ∃ m c, trR l = m ++ [c] ∧ isBl c = false := by
  unfold trR
  cases h : l.reverse.dropWhile isBl with
  | nil => left; rfl
  | cons c m =>
    right
    refine ⟨m.reverse, c, by simp, ?_⟩
    have := List.head?_dropWhile_not (p := isBl) (l := l.reverse)
    rw [h] at this
    simpa using this
theorem trR_self {m : List UInt8} {c : UInt8} (h : isBl c = false) : trR (m ++ [c]) = m ++ [c] := by rw [trR_snoc, h]; rfl
theorem dw_snoc {m : List UInt8} {c : UInt8} (h : isBl c = false) : ∃ m', (m ++ [c]).dropWhile isBl = m' ++ [c] := by
  induction m with
  | nil => exact ⟨[], by simp [h]⟩
  | cons x m ih =>
    rw [List.cons_append, List.dropWhile_cons]
    split
    · exact ih
    · exact ⟨x :: m, rfl⟩
theorem dw_idem (l : List UInt8) : (l.dropWhile isBl).dropWhile isBl = l.dropWhile isBl := by
  induction l with
  | nil => rfl
  | cons x l ih =>
    rw [List.dropWhile_cons]
    split
    · exact ih
    · rename_i h; rw [List.dropWhile_cons, if_neg h]
theorem trim_idem (l : List UInt8) : trim (trim l) = trim l := by
  rw [trim_eq, trim_eq]
  rcases trR_ends l with h | ⟨m, c, h, hc⟩
  · rw [h]; rfl
  · rw [h]
    obtain ⟨m', h'⟩ := dw_snoc (m := m) hc
    have h2 := dw_idem (m ++ [c])
    rw [h'] at h2 ⊢
    rw [trR_self hc, h2]
theorem trR_consR (x : UInt8) : ∀ r : List UInt8, trR (x :: r.reverse) = if trR r.reverse = [] then (if isBl x then [] else [x]) else x :: trR r.reverse
  | [] => by
    have : trR ([] : List UInt8).reverse = [] := rfl
    rw [if_pos this, show x :: ([] : List UInt8).reverse = [] ++ [x] from rfl, trR_snoc]; rfl
  | c :: r => by
    rw [List.reverse_cons, ← List.cons_append, trR_snoc, trR_snoc]
    by_cases hc : isBl c = true
    · simp only [hc, if_true]; exact trR_consR x r
    · simp only [hc, if_false, Bool.false_eq_true]
      simp
theorem trR_cons (l : List UInt8) (x : UInt8) : trR (x :: l) = if trR l = [] then (if isBl x then [] else [x]) else x :: trR l := by
  have := trR_consR x l.reverse
  rwa [List.reverse_reverse] at this
theorem trim_blank (l : List UInt8) : trim (32 :: l) = trim l := by
  rw [trim_eq, trim_eq, trR_cons]
  split
  · rename_i h; rw [h]; rfl
  · rfl
theorem trim_mem {l : List UInt8} {c : UInt8} (h : c ∈ trim l) : c ∈ l := by
  rw [trim_eq] at h
  have h1 := (List.dropWhile_sublist isBl).subset h
  have h2 := (List.dropWhile_sublist isBl).subset (List.mem_reverse.1 h1)
  exact List.mem_reverse.1 h2
/-- A trailer of text. -/
theorem field_tl {e : List UInt8} (h : ∀ c ∈ e, extB c = true) : fieldOk ([84, 58, 32] ++ trim e) = true := by
  have e1 : before 58 ([84, 58, 32] ++ trim e) = [84] := rfl
  have e2 : behind 58 ([84, 58, 32] ++ trim e) = 32 :: trim e := rfl
  have hp : fieldP ([84, 58, 32] ++ trim e) := by
    unfold fieldP
    rw [e1, e2, trim_blank, trim_idem]
    refine ⟨by simp, by decide, fun c hc => ?_, trim_idem e⟩
    have := h c (trim_mem hc)
    simp only [extB, decide_eq_true_eq] at this
    simp only [valB, decide_eq_true_eq]; omega
  simpa [fieldOk] using hp
end Go.StrM
namespace Go.ChunkM
open Go.StrM
def dress (z : Nat) (e t : List UInt8) : List UInt8 := List.replicate z 48 ++ hexE t.length ++ 59 :: e ++ 13 :: 10 :: (t ++ [13, 10])
theorem run_dressed {z : Nat} {e : List UInt8} (hz : z ≤ 4) (he : ∀ c ∈ e, extB c = true) (hl : e.length ≤ 40) : ∀ (ts : List (List UInt8)) (rest : List UInt8) (m s lf : Int), (∀ t ∈ ts, t ≠ [] ∧ t.length ≤ 4095) → s + ts.flatten.length ≤ m →
    ∃ lf', run fieldOk (rdy m s lf) ((ts.map (dress z e)).flatten ++ rest) = ((run fieldOk (rdy m (s + ts.flatten.length) lf') rest).1, ts.flatten ++ (run fieldOk (rdy m (s + ts.flatten.length) lf') rest).2.1, (ts.map (dress z e)).flatten.length + (run fieldOk (rdy m (s + ts.flatten.length) lf') rest).2.2)
  | [], rest, m, s, lf, _, _ => ⟨lf, by simp⟩
  | t :: ts, rest, m, s, lf, hs, hm => by
    simp only [List.map_cons, List.flatten_cons, List.length_append] at hm ⊢
    obtain ⟨h0, ht⟩ := hs t List.mem_cons_self
    have hl0 : t.length ≠ 0 := fun h => h0 (List.length_eq_zero_iff.1 h)
    obtain ⟨lf', ih⟩ := run_dressed hz he hl ts rest m (s + t.length) 0 (fun x hx => hs x (List.mem_cons_of_mem _ hx)) (by omega)
    refine ⟨lf', ?_⟩
    have hlen := hexE_len 3 t.length (by omega)
    obtain ⟨c1, c2, _, _⟩ := line_hex (z := z) (e := e) hl0 (by omega : t.length < 16 ^ 7) (by omega)
    have hno : ∀ c ∈ List.replicate z 48 ++ hexE t.length ++ 59 :: e, c ≠ 10 ∧ c ≠ 13 := by
      intro c hc
      rcases List.mem_append.1 hc with hc | hc
      · rcases List.mem_append.1 hc with hc | hc
        · rw [List.eq_of_mem_replicate hc]; decide
        · exact ⟨(hexE_plain _ c hc).1, (hexE_plain _ c hc).2.1⟩
      · rcases List.mem_cons.1 hc with rfl | hc
        · decide
        · have := he c hc
          simp only [extB, decide_eq_true_eq] at this
          refine ⟨fun h => ?_, fun h => ?_⟩ <;> subst h <;> revert this <;> decide
    have h1 := run_chunk (fld := fieldOk) (List.replicate z 48 ++ hexE t.length ++ 59 :: e) t ((ts.map (dress z e)).flatten ++ rest) (m := m) (s := s) (lf := lf) hno (by simp only [List.length_append, List.length_replicate, List.length_cons]; omega) c1 (by rw [c2, List.all_eq_true]; exact he) h0 (by omega)
    have e1 : dress z e t ++ (ts.map (dress z e)).flatten ++ rest = List.replicate z 48 ++ hexE t.length ++ 59 :: e ++ 13 :: 10 :: (t ++ 13 :: 10 :: ((ts.map (dress z e)).flatten ++ rest)) := by simp [dress]
    rw [e1, h1, ih]
    have e2 : (dress z e t).length = (List.replicate z 48 ++ hexE t.length ++ 59 :: e).length + t.length + 4 := by simp only [dress, List.length_append, List.length_cons, List.length_nil]; omega
    simp only [List.append_assoc, e2, Int.natCast_add, ← Int.add_assoc]
    congr 2
    simp only [List.length_append, List.length_cons]
    omega
/-- The last chunk's line. -/
theorem run_zero (rest : List UInt8) (m s lf : Int) : run fieldOk (rdy m s lf) (48 :: 13 :: 10 :: rest) = ((run fieldOk ⟨m, s, 3, lf, [], false, 0, 0⟩ rest).1, (run fieldOk ⟨m, s, 3, lf, [], false, 0, 0⟩ rest).2.1, 3 + (run fieldOk ⟨m, s, 3, lf, [], false, 0, 0⟩ rest).2.2) := by
  have h1 := run_line (fld := fieldOk) [48] (rdy m s lf) rest (by simp [rdy]) (by simp [rdy]) rfl rfl rfl (by simp) (show (1 : Nat) ≤ 64 by decide)
  have e1 : whole fieldOk (rdy m s lf) [48] = ({ rdy m s lf with state := 3 }, 0) := by
    have a1 : hexOf (before 59 [48]) 8 = some 0 := by decide
    have a2 : behind 59 [48] = [] := by decide
    simp [whole, rdy, sized, a1, a2]
  rw [e1] at h1
  exact h1
theorem run_trail {l : List UInt8} (hf : fieldOk l = true) (h0 : l ≠ []) (hno : ∀ c ∈ l, c ≠ 10 ∧ c ≠ 13) (hl : l.length ≤ 512) (m s lf : Int) : ∀ (k j : Nat) (rest : List UInt8), j + k ≤ 32 →
    run fieldOk ⟨m, s, 3, lf, [], false, j, 0⟩ ((List.replicate k (l ++ [13, 10])).flatten ++ rest) = ((run fieldOk ⟨m, s, 3, lf, [], false, (j + k : Nat), 0⟩ rest).1, (run fieldOk ⟨m, s, 3, lf, [], false, (j + k : Nat), 0⟩ rest).2.1, (List.replicate k (l ++ [13, 10])).flatten.length + (run fieldOk ⟨m, s, 3, lf, [], false, (j + k : Nat), 0⟩ rest).2.2)
  | 0, j, rest, _ => by simp
  | k + 1, j, rest, hj => by
    have h1 := run_line (fld := fieldOk) l ⟨m, s, 3, lf, [], false, j, 0⟩ ((List.replicate k (l ++ [13, 10])).flatten ++ rest) (by simp) (by simp) rfl rfl rfl hno hl
    have e1 : whole fieldOk ⟨m, s, 3, lf, [], false, j, 0⟩ l = (⟨m, s, 3, lf, [], false, (j + 1 : Nat), 0⟩, 0) := by
      have : ¬ (fieldOk l = false ∨ (32 : Int) < (j : Int) + 1) := by
        rintro (h | h)
        · rw [hf] at h; cases h
        · omega
      simp [whole, h0, this]
    rw [e1] at h1
    have ih := run_trail hf h0 hno hl m s lf k (j + 1) rest (by omega)
    rw [List.replicate_succ, List.flatten_cons]
    have e2 : l ++ [13, 10] ++ (List.replicate k (l ++ [13, 10])).flatten ++ rest = l ++ 13 :: 10 :: ((List.replicate k (l ++ [13, 10])).flatten ++ rest) := by simp
    rw [e2, h1]
    dsimp only
    rw [ih, show j + 1 + k = j + (k + 1) by omega]
    congr 2
    simp only [List.length_append, List.length_cons, List.length_nil]
    omega
theorem dressed_feed {z k : Nat} {e : List UInt8} (hz : z ≤ 4) (he : ∀ c ∈ e, extB c = true) (hl : e.length ≤ 40) (hk : k ≤ 32) (ts : List (List UInt8)) (hs : ∀ t ∈ ts, t ≠ [] ∧ t.length ≤ 4095) :
    ∃ lf, feed fieldOk (rdy ts.flatten.length 0 0) ((ts.map (dress z e)).flatten ++ [48, 13, 10] ++ (List.replicate k ([84, 58, 32] ++ trim e ++ [13, 10])).flatten ++ [13, 10]) =
      (⟨ts.flatten.length, ts.flatten.length, 4, lf, [], false, k, 0⟩, ts.flatten, ((ts.map (dress z e)).flatten ++ [48, 13, 10] ++ (List.replicate k ([84, 58, 32] ++ trim e ++ [13, 10])).flatten).length + 2, true, 0) := by
  obtain ⟨lf, hr⟩ := run_dressed hz he hl ts ([48, 13, 10] ++ (List.replicate k ([84, 58, 32] ++ trim e ++ [13, 10])).flatten ++ [13, 10]) ts.flatten.length 0 0 hs (by omega)
  refine ⟨lf, ?_⟩
  have htl := trim_le e
  have hno : ∀ c ∈ [84, 58, 32] ++ trim e, c ≠ 10 ∧ c ≠ 13 := by
    intro c hc
    rcases List.mem_append.1 hc with hc | hc
    · simp only [List.mem_cons, List.not_mem_nil, or_false] at hc
      rcases hc with rfl | rfl | rfl <;> decide
    · have := he c (trim_mem hc)
      simp only [extB, decide_eq_true_eq] at this
      refine ⟨fun h => ?_, fun h => ?_⟩ <;> subst h <;> revert this <;> decide
  have h2 := run_zero ((List.replicate k ([84, 58, 32] ++ trim e ++ [13, 10])).flatten ++ [13, 10]) ts.flatten.length (0 + ts.flatten.length) lf
  have h3 := run_trail (field_tl he) (by simp) hno (by simp only [List.length_append, List.length_cons, List.length_nil]; omega) ts.flatten.length (0 + ts.flatten.length) lf k 0 [13, 10] (by omega)
  have h4 := run_line (fld := fieldOk) [] ⟨ts.flatten.length, 0 + ts.flatten.length, 3, lf, [], false, (0 + k : Nat), 0⟩ [] (by simp) (by simp) rfl rfl rfl (fun _ h => by cases h) (Nat.zero_le _)
  have e4 : whole fieldOk ⟨ts.flatten.length, 0 + ts.flatten.length, 3, lf, [], false, (0 + k : Nat), 0⟩ [] = (⟨ts.flatten.length, 0 + ts.flatten.length, 4, lf, [], false, (0 + k : Nat), 0⟩, 0) := by simp [whole]
  rw [e4] at h4
  have h4' : run fieldOk ⟨ts.flatten.length, 0 + ts.flatten.length, 3, lf, [], false, (0 + k : Nat), 0⟩ [13, 10] = (⟨ts.flatten.length, 0 + ts.flatten.length, 4, lf, [], false, (0 + k : Nat), 0⟩, [], 2) := h4
  simp only [Int.natCast_zero] at h3
  rw [h4'] at h3
  rw [h3] at h2
  have e5 : [48, 13, 10] ++ (List.replicate k ([84, 58, 32] ++ trim e ++ [13, 10])).flatten ++ [13, 10] = 48 :: 13 :: 10 :: ((List.replicate k ([84, 58, 32] ++ trim e ++ [13, 10])).flatten ++ [13, 10]) := rfl
  rw [e5, h2] at hr
  have e6 : (ts.map (dress z e)).flatten ++ [48, 13, 10] ++ (List.replicate k ([84, 58, 32] ++ trim e ++ [13, 10])).flatten ++ [13, 10] = (ts.map (dress z e)).flatten ++ 48 :: 13 :: 10 :: ((List.replicate k ([84, 58, 32] ++ trim e ++ [13, 10])).flatten ++ [13, 10]) := by simp
  unfold feed
  rw [if_neg (by simp [rdy]), e6, hr, if_neg (by simp)]
  simp
  omega
end Go.ChunkM
namespace Go.StrM
theorem trim_cut {l : List UInt8} {i k : Nat} (hik : i ≤ k) (hk : k ≤ l.length) (h1 : ∀ (j : Nat) c, j < i → l[j]? = some c → isBl c = true) (h2 : ∀ (j : Nat) c, k ≤ j → l[j]? = some c → isBl c = true)
    (h3 : i < k → (∀ c, l[i]? = some c → isBl c = false) ∧ ∀ c, l[k - 1]? = some c → isBl c = false) : (l.drop i).take (k - i) = trim l := by
  by_cases h : i < k
  · obtain ⟨g1, g2⟩ := h3 h
    have e1 : Lib.trimRightS l [32, 9] = l.take k := Lib.trimRightS_take l [32, 9] k hk h2 (fun b _ hb => g2 b hb)
    have e2 : Lib.trimLeftS (l.take k) [32, 9] = (l.take k).drop i := Lib.trimLeftS_drop (l.take k) [32, 9] i (by rw [List.length_take]; omega)
      (fun j b hj hb => h1 j b hj (by rw [List.getElem?_take, if_pos (by omega)] at hb; exact hb)) (fun b hb => g1 b (by rw [List.getElem?_take, if_pos h] at hb; exact hb))
    unfold trim Lib.trimS
    rw [e1, e2, List.drop_take]
  · have e0 : i = k := by omega
    subst e0
    have e1 : Lib.trimRightS l [32, 9] = l.take 0 := Lib.trimRightS_take l [32, 9] 0 (Nat.zero_le _) (fun j b _ hb => by
      rcases Nat.lt_or_ge j i with hj | hj
      · exact h1 j b hj hb
      · exact h2 j b hj hb) (fun b hb => absurd hb (Nat.lt_irrefl _))
    unfold trim Lib.trimS
    rw [e1, Nat.sub_self, List.take_zero, List.take_zero]; rfl
end Go.StrM
