/- Chunked bodies, in plain Lean: what a decoder does with each byte. Conditions: none. -/
import Derived.Test.YtngicmoadobgpaaDoorSxE
namespace Go.ChunkM
/-- A decoder. state: 0 a size's line, 1 data, 2 data's end, 3 a trailer, 4 done. -/
structure DS where
  most : Int
  size : Int
  state : Int
  left : Int
  line : List UInt8
  cr : Bool
  trl : Int
  err : Int
/-- A byte's digit. -/
def hexDig (c : UInt8) : Option Nat :=
  if 48 ≤ c.toNat ∧ c.toNat ≤ 57 then some (c.toNat - 48) else if 97 ≤ (c.toNat ||| 32) ∧ (c.toNat ||| 32) ≤ 102 then some ((c.toNat ||| 32) - 87) else none
def hexGo : List UInt8 → Nat → Option Nat
  | [], n => some n
  | c :: l, n => match hexDig c with | some d => hexGo l (n * 16 + d) | none => none
def hexOf (l : List UInt8) (digits : Nat) : Option Nat := if l = [] ∨ digits < l.length then none else hexGo l 0
def extB (c : UInt8) : Bool := decide (c.toNat = 9 ∨ 32 ≤ c.toNat ∧ c.toNat ≤ 126)
/-- A text is cut at a byte. -/
def before (b : UInt8) (l : List UInt8) : List UInt8 := l.takeWhile (· != b)
def behind (b : UInt8) (l : List UInt8) : List UInt8 := (l.dropWhile (· != b)).drop 1
def bound (s : Int) : Nat := if s = 0 then 64 else if s = 3 then 512 else 0
def sized (d : DS) (l : List UInt8) : DS × Int :=
  match hexOf (before 59 l) 8 with
  | none => (d, 100)
  | some n => if (behind 59 l).all extB then (if n = 0 then ({ d with state := 3 }, 0) else if d.most - d.size < n then (d, 101) else ({ d with state := 1, left := n }, 0)) else (d, 100)
section
variable (fld : List UInt8 → Bool)
def whole (d : DS) (l : List UInt8) : DS × Int :=
  if d.state = 0 then sized d l else if d.state = 2 then ({ d with state := 0 }, 0) else if l = [] then ({ d with state := 4 }, 0)
  else if fld l = false ∨ 32 < d.trl + 1 then ({ d with trl := d.trl + 1 }, 100) else ({ d with trl := d.trl + 1 }, 0)
def take (d : DS) (c : UInt8) : DS × Int :=
  if d.cr = true ∧ c = 10 then whole fld { d with line := [], cr := false } d.line
  else if d.cr = true ∨ c = 10 then (d, 100)
  else if c = 13 then ({ d with cr := true }, 0)
  else if bound d.state ≤ d.line.length then (d, 100)
  else ({ d with line := d.line ++ [c] }, 0)
/-- One byte. -/
def step (d : DS) (c : UInt8) : DS × List UInt8 :=
  if d.state = 1 then ({ d with left := d.left - 1, size := d.size + 1, state := if d.left - 1 = 0 then 2 else 1 }, [c])
  else ({ (take fld d c).1 with err := (take fld d c).2 }, [])
def stops (d : DS) : Bool := decide (d.state = 4) || decide (d.err ≠ 0)
/-- Bytes, one behind the other: what the decoder is then, what of the body they are, how many were taken. -/
def run : DS → List UInt8 → DS × List UInt8 × Nat
  | d, [] => (d, [], 0)
  | d, c :: l => if stops d then (d, [], 0) else ((run (step fld d c).1 l).1, (step fld d c).2 ++ (run (step fld d c).1 l).2.1, (run (step fld d c).1 l).2.2 + 1)
/-- What an answer is: the decoder, the bytes, the number, whether the body is whole, the error. -/
def feed (d : DS) (l : List UInt8) : DS × List UInt8 × Nat × Bool × Int :=
  if d.err ≠ 0 then (d, [], 0, false, d.err) else if (run fld d l).1.err ≠ 0 then ((run fld d l).1, [], 0, false, (run fld d l).1.err)
  else ((run fld d l).1, (run fld d l).2.1, (run fld d l).2.2, decide ((run fld d l).1.state = 4), 0)
/-- What a decoder keeps. -/
structure Ok (d : DS) : Prop where
  s0 : 0 ≤ d.size
  s1 : d.size = 0 ∨ d.size ≤ d.most
  st : 0 ≤ d.state ∧ d.state ≤ 4
  dat : d.state = 1 → 0 < d.left ∧ d.size + d.left ≤ d.most
  line : d.line.length ≤ 512
  trl : 0 ≤ d.trl ∧ d.trl ≤ 32 ∨ (0 ≤ d.trl ∧ d.trl ≤ 33 ∧ d.err ≠ 0)
variable {fld}
theorem run_append (a b : List UInt8) : ∀ d : DS, run fld d (a ++ b) = ((run fld (run fld d a).1 b).1, (run fld d a).2.1 ++ (run fld (run fld d a).1 b).2.1, (run fld d a).2.2 + (run fld (run fld d a).1 b).2.2) := by
  induction a with
  | nil => intro d; simp [run]
  | cons c l ih =>
    intro d
    by_cases h : stops d = true
    · simp only [List.cons_append, run, h, if_true, List.nil_append, Nat.zero_add]
      cases b with
      | nil => rfl
      | cons x b => simp [run, h]
    · simp only [List.cons_append, run, h, if_false, Bool.false_eq_true, ih, List.append_assoc]
      congr 2
      omega
theorem run_stop {d : DS} (h : stops d = true) (l : List UInt8) : run fld d l = (d, [], 0) := by
  cases l with
  | nil => rfl
  | cons => simp [run, h]
theorem run_le : ∀ (l : List UInt8) (d : DS), (run fld d l).2.2 ≤ l.length
  | [], _ => Nat.le_refl _
  | c :: l, d => by
    simp only [run]
    split
    · exact Nat.zero_le _
    · have := run_le l (step fld d c).1
      simp only [List.length_cons]; omega
theorem step_le (d : DS) (c : UInt8) : (step fld d c).2.length ≤ 1 := by
  unfold step; split <;> simp
theorem run_out : ∀ (l : List UInt8) (d : DS), (run fld d l).2.1.length ≤ (run fld d l).2.2
  | [], _ => Nat.le_refl _
  | c :: l, d => by
    simp only [run]
    split
    · exact Nat.le_refl _
    · have h1 := run_out l (step fld d c).1
      have h2 := step_le (fld := fld) d c
      simp only [List.length_append]; omega
/-- Not all bytes are taken just if the decoder stops. -/
theorem run_lt : ∀ (l : List UInt8) (d : DS), (run fld d l).2.2 < l.length → stops (run fld d l).1 = true
  | [], _, h => absurd h (Nat.not_lt_zero _)
  | c :: l, d, h => by
    simp only [run] at h ⊢
    split
    · assumption
    · rename_i hs
      rw [if_neg hs] at h
      simp only [List.length_cons] at h
      exact run_lt l _ (by omega)
/-- Many bytes of data. -/
theorem run_data : ∀ (n : Nat) (l : List UInt8) (d : DS), d.state = 1 → d.err = 0 → 0 < n → n ≤ l.length → (n : Int) ≤ d.left →
    run fld d l = ((run fld { d with left := d.left - n, size := d.size + n, state := if d.left - n = 0 then 2 else 1 } (l.drop n)).1, l.take n ++ (run fld { d with left := d.left - n, size := d.size + n, state := if d.left - n = 0 then 2 else 1 } (l.drop n)).2.1,
      n + (run fld { d with left := d.left - n, size := d.size + n, state := if d.left - n = 0 then 2 else 1 } (l.drop n)).2.2)
  | 0, _, _, _, _, h, _, _ => absurd h (Nat.lt_irrefl _)
  | _ + 1, [], _, _, _, _, h, _ => absurd h (by simp)
  | n + 1, c :: l, d, hs, he, _, hl, hd => by
    have hns : stops d = false := by simp [stops, hs, he]
    have e1 : step fld d c = ({ d with left := d.left - 1, size := d.size + 1, state := if d.left - 1 = 0 then 2 else 1 }, [c]) := by simp [step, hs]
    by_cases h0 : n = 0
    · subst h0
      simp only [run, hns, Bool.false_eq_true, if_false, e1, List.drop_succ_cons, List.drop_zero, List.take_succ_cons, List.take_zero, Int.natCast_one, Nat.zero_add]
      congr 2
      omega
    · have hne : d.left - 1 ≠ 0 := by omega
      have hl' : n ≤ l.length := by simpa using hl
      have ih := run_data n l { d with left := d.left - 1, size := d.size + 1, state := if d.left - 1 = 0 then 2 else 1 } (by simp [hne]) he (by omega) hl' (by simp only; omega)
      simp only [run, hns, Bool.false_eq_true, if_false, e1, List.drop_succ_cons, List.take_succ_cons]
      rw [ih]
      have x1 : d.left - 1 - (n : Int) = d.left - ((n + 1 : Nat) : Int) := by omega
      have x2 : d.size + 1 + (n : Int) = d.size + ((n + 1 : Nat) : Int) := by omega
      simp only [x1, x2, List.cons_append]
      congr 2
      omega
end
end Go.ChunkM
namespace Go.ChunkM
variable {fld : List UInt8 → Bool}
theorem Ok.trl0 {d : DS} (h : Ok d) (he : d.err = 0) : 0 ≤ d.trl ∧ d.trl ≤ 32 := by
  rcases h.trl with h | ⟨_, _, h⟩
  · exact h
  · exact absurd he h
theorem sized_ok {d : DS} (l : List UInt8) (h : Ok d) (he : d.err = 0) : Ok { (sized d l).1 with err := (sized d l).2 } ∧ (sized d l).1.most = d.most ∧ (sized d l).1.size = d.size := by
  have ht := h.trl0 he
  unfold sized
  split
  · exact ⟨⟨h.s0, h.s1, h.st, h.dat, h.line, .inl ht⟩, rfl, rfl⟩
  · split
    · split
      · exact ⟨⟨h.s0, h.s1, by simp, by simp, h.line, .inl ht⟩, rfl, rfl⟩
      · split
        · exact ⟨⟨h.s0, h.s1, h.st, h.dat, h.line, .inl ht⟩, rfl, rfl⟩
        · exact ⟨⟨h.s0, h.s1, by simp, fun _ => by simp only; omega, h.line, .inl ht⟩, rfl, rfl⟩
    · exact ⟨⟨h.s0, h.s1, h.st, h.dat, h.line, .inl ht⟩, rfl, rfl⟩
theorem whole_ok {d : DS} (l : List UInt8) (h : Ok d) (he : d.err = 0) : Ok { (whole fld d l).1 with err := (whole fld d l).2 } ∧ (whole fld d l).1.most = d.most ∧ (whole fld d l).1.size = d.size := by
  have ht := h.trl0 he
  unfold whole
  split
  · exact sized_ok l h he
  · split
    · exact ⟨⟨h.s0, h.s1, by simp, by simp, h.line, .inl ht⟩, rfl, rfl⟩
    · split
      · exact ⟨⟨h.s0, h.s1, by simp, by simp, h.line, .inl ht⟩, rfl, rfl⟩
      · split
        · exact ⟨⟨h.s0, h.s1, h.st, h.dat, h.line, .inr ⟨by simp only; omega, by simp only; omega, by simp⟩⟩, rfl, rfl⟩
        · rename_i hc
          exact ⟨⟨h.s0, h.s1, h.st, h.dat, h.line, .inl ⟨by simp only; omega, by simp only; omega⟩⟩, rfl, rfl⟩
theorem bound_le (s : Int) : bound s ≤ 512 := by unfold bound; split <;> (try split) <;> decide
theorem take_ok {d : DS} (c : UInt8) (h : Ok d) (he : d.err = 0) : Ok { (take fld d c).1 with err := (take fld d c).2 } ∧ (take fld d c).1.most = d.most ∧ (take fld d c).1.size = d.size := by
  have ht := h.trl0 he
  unfold take
  split
  · exact whole_ok (d := { d with line := [], cr := false }) _ ⟨h.s0, h.s1, h.st, h.dat, by simp, h.trl⟩ he
  · split
    · exact ⟨⟨h.s0, h.s1, h.st, h.dat, h.line, .inl ht⟩, rfl, rfl⟩
    · split
      · exact ⟨⟨h.s0, h.s1, h.st, h.dat, h.line, .inl ht⟩, rfl, rfl⟩
      · split
        · exact ⟨⟨h.s0, h.s1, h.st, h.dat, h.line, .inl ht⟩, rfl, rfl⟩
        · have := bound_le d.state
          exact ⟨⟨h.s0, h.s1, h.st, h.dat, by simp only [List.length_append, List.length_cons, List.length_nil]; omega, .inl ht⟩, rfl, rfl⟩
theorem step_ok {d : DS} (c : UInt8) (h : Ok d) (hs : stops d = false) : Ok (step fld d c).1 ∧ (step fld d c).1.most = d.most ∧ (step fld d c).1.size = d.size + (step fld d c).2.length := by
  have he : d.err = 0 := by simp only [stops, Bool.or_eq_false_iff, decide_eq_false_iff_not] at hs; omega
  unfold step
  split
  · rename_i h1
    have := h.dat h1
    have := h.s0
    refine ⟨⟨by simp only; omega, .inr (by simp only; omega), ?_, ?_, h.line, h.trl⟩, rfl, by simp⟩
    · simp only; split <;> simp
    · simp only; split
      · intro h; cases h
      · intro; omega
  · have := take_ok (fld := fld) c h he
    exact ⟨this.1, this.2.1, by simp [this.2.2]⟩
theorem run_ok : ∀ (l : List UInt8) {d : DS}, Ok d → Ok (run fld d l).1 ∧ (run fld d l).1.most = d.most ∧ (run fld d l).1.size = d.size + (run fld d l).2.1.length
  | [], d, h => ⟨h, rfl, by simp [run]⟩
  | c :: l, d, h => by
    simp only [run]
    by_cases hs : stops d = true
    · simp only [hs, if_true]; exact ⟨h, True.intro, by simp⟩
    · simp only [hs, if_false, Bool.false_eq_true]
      have h1 := step_ok (fld := fld) c h (by simpa using hs)
      have h2 := run_ok l h1.1
      exact ⟨h2.1, h2.2.1.trans h1.2.1, by rw [h2.2.2, h1.2.2, List.length_append]; omega⟩
end Go.ChunkM
namespace Go.ChunkM
/-! ### sizes, written -/
def dig (d : Nat) : UInt8 := if d < 10 then (48 + d).toUInt8 else (87 + d).toUInt8
def hexE (n : Nat) : List UInt8 := if _h : n = 0 then [] else hexE (n / 16) ++ [dig (n % 16)]
termination_by n
decreasing_by omega
theorem hexE_zero : hexE 0 = [] := by rw [hexE]; rfl
theorem hexE_pos {n : Nat} (h : n ≠ 0) : hexE n = hexE (n / 16) ++ [dig (n % 16)] := by rw [hexE, dif_neg h]
theorem hexE_ne {n : Nat} (h : n ≠ 0) : hexE n ≠ [] := by rw [hexE_pos h]; simp
theorem hexE_len : ∀ (k n : Nat), n < 16 ^ k → (hexE n).length ≤ k
  | 0, n, h => by have : n = 0 := by simpa using h
                  subst this; rw [hexE_zero]; exact Nat.le_refl _
  | k + 1, n, h => by
    by_cases h0 : n = 0
    · subst h0; rw [hexE_zero]; exact Nat.zero_le _
    · rw [hexE_pos h0, List.length_append]
      have := hexE_len k (n / 16) (by rw [Nat.pow_succ] at h; omega)
      simp only [List.length_cons, List.length_nil]; omega
theorem dig_hex : ∀ d : Nat, d < 16 → hexDig (dig d) = some d := by decide
theorem dig_plain : ∀ d : Nat, d < 16 → dig d ≠ 10 ∧ dig d ≠ 13 ∧ dig d ≠ 59 := by decide
theorem hexGo_append (a b : List UInt8) : ∀ n, hexGo (a ++ b) n = (hexGo a n).bind (hexGo b) := by
  induction a with
  | nil => intro n; rfl
  | cons c a ih =>
    intro n
    simp only [List.cons_append, hexGo]
    cases hexDig c with
    | none => rfl
    | some d => exact ih _
theorem hexGo_enc : ∀ n : Nat, hexGo (hexE n) 0 = some n := by
  intro n
  induction n using Nat.strongRecOn with
  | ind n ih =>
    by_cases h0 : n = 0
    · subst h0; rw [hexE_zero]; rfl
    · rw [hexE_pos h0, hexGo_append, ih _ (by omega)]
      simp only [Option.bind_some, hexGo, dig_hex _ (Nat.mod_lt _ (by decide : 16 > 0))]
      congr 1; omega
theorem hexGo_zeros (k : Nat) (l : List UInt8) : hexGo (List.replicate k 48 ++ l) 0 = hexGo l 0 := by
  induction k with
  | zero => rfl
  | succ k ih => simp only [List.replicate_succ, List.cons_append, hexGo, show hexDig 48 = some 0 from rfl]; exact ih
theorem hexE_plain : ∀ (n : Nat) (c : UInt8), c ∈ hexE n → c ≠ 10 ∧ c ≠ 13 ∧ c ≠ 59 := by
  intro n
  induction n using Nat.strongRecOn with
  | ind n ih =>
    intro c hc
    by_cases h0 : n = 0
    · subst h0; rw [hexE_zero] at hc; cases hc
    · rw [hexE_pos h0] at hc
      rcases List.mem_append.1 hc with hc | hc
      · exact ih _ (by omega) c hc
      · simp only [List.mem_cons, List.not_mem_nil, or_false] at hc
        subst hc
        exact dig_plain _ (Nat.mod_lt _ (by decide))
/-! ### lines -/
variable {fld : List UInt8 → Bool}
theorem run_text : ∀ (l : List UInt8) (d : DS) (rest : List UInt8), d.state ≠ 1 → d.state ≠ 4 → d.err = 0 → d.cr = false → (∀ c ∈ l, c ≠ 10 ∧ c ≠ 13) → d.line.length + l.length ≤ bound d.state →
    run fld d (l ++ rest) = ((run fld { d with line := d.line ++ l } rest).1, (run fld { d with line := d.line ++ l } rest).2.1, l.length + (run fld { d with line := d.line ++ l } rest).2.2)
  | [], d, rest, _, _, _, _, _, _ => by simp
  | c :: l, d, rest, h1, h4, he, hc, hl, hb => by
    have hs : stops d = false := by simp [stops, h4, he]
    have hcc := hl c List.mem_cons_self
    simp only [List.length_cons] at hb
    have e1 : step fld d c = ({ d with line := d.line ++ [c] }, []) := by
      simp only [step, h1, if_false, take, hc, Bool.false_eq_true, false_and, false_or, hcc.1, hcc.2]
      rw [if_neg (by omega)]
      cases d; simp_all
    have ih := run_text l { d with line := d.line ++ [c] } rest h1 h4 he hc (fun x hx => hl x (List.mem_cons_of_mem _ hx)) (by simp only [List.length_append, List.length_cons, List.length_nil]; omega)
    simp only [List.cons_append, run, hs, Bool.false_eq_true, if_false, e1, List.nil_append, List.length_cons]
    rw [ih]
    simp only [List.append_assoc, List.singleton_append]
    congr 2
    omega
/-- A whole line, its end too. -/
theorem run_line (l : List UInt8) (d : DS) (rest : List UInt8) (h1 : d.state ≠ 1) (h4 : d.state ≠ 4) (he : d.err = 0) (hc : d.cr = false) (hn : d.line = []) (hl : ∀ c ∈ l, c ≠ 10 ∧ c ≠ 13) (hb : l.length ≤ bound d.state) :
    run fld d (l ++ 13 :: 10 :: rest) = ((run fld { (whole fld d l).1 with err := (whole fld d l).2 } rest).1, (run fld { (whole fld d l).1 with err := (whole fld d l).2 } rest).2.1, l.length + 2 + (run fld { (whole fld d l).1 with err := (whole fld d l).2 } rest).2.2) := by
  rw [run_text l d _ h1 h4 he hc hl (by rw [hn]; simpa using hb)]
  obtain ⟨m, s, st, lf, ln, cr, tr, er⟩ := d
  simp only at h1 h4 he hc hn
  subst he hc hn
  have g1 : step fld ⟨m, s, st, lf, l, false, tr, 0⟩ 13 = (⟨m, s, st, lf, l, true, tr, 0⟩, []) := by simp [step, h1, take]
  have g2 : step fld ⟨m, s, st, lf, l, true, tr, 0⟩ 10 = ({ (whole fld ⟨m, s, st, lf, [], false, tr, 0⟩ l).1 with err := (whole fld ⟨m, s, st, lf, [], false, tr, 0⟩ l).2 }, []) := by simp [step, h1, take]
  have s1 : stops ⟨m, s, st, lf, l, false, tr, 0⟩ = false := by simp [stops, h4]
  have s2 : stops ⟨m, s, st, lf, l, true, tr, 0⟩ = false := by simp [stops, h4]
  simp only [List.nil_append]
  rw [run, s1, if_neg (by simp), g1, run, s2, if_neg (by simp), g2]
  simp only [List.nil_append]
  congr 2
  omega
end Go.ChunkM
namespace Go.ChunkM
/-! ### whole bodies -/
variable {fld : List UInt8 → Bool}
/-- A decoder between two chunks. -/
def rdy (m s lf : Int) : DS := ⟨m, s, 0, lf, [], false, 0, 0⟩
theorem run_chunk (sl t rest : List UInt8) {m s lf : Int} (hl : ∀ c ∈ sl, c ≠ 10 ∧ c ≠ 13) (hb : sl.length ≤ 64) (hx : hexOf (before 59 sl) 8 = some t.length) (he : (behind 59 sl).all extB = true) (ht : t ≠ []) (hm : s + t.length ≤ m) :
    run fld (rdy m s lf) (sl ++ 13 :: 10 :: (t ++ 13 :: 10 :: rest)) = ((run fld (rdy m (s + t.length) 0) rest).1, t ++ (run fld (rdy m (s + t.length) 0) rest).2.1, sl.length + t.length + 4 + (run fld (rdy m (s + t.length) 0) rest).2.2) := by
  have h0 : 0 < t.length := List.length_pos_iff.2 ht
  rw [run_line sl (rdy m s lf) _ (by simp [rdy]) (by simp [rdy]) rfl rfl rfl hl hb]
  have e1 : whole fld (rdy m s lf) sl = ({ rdy m s lf with state := 1, left := t.length }, 0) := by
    have a1 : ¬ (t.length = 0) := by omega
    have a2 : ¬ (m - s < (t.length : Int)) := by omega
    simp [whole, rdy, sized, hx, he, a1, a2]
  rw [e1]
  simp only [rdy]
  rw [run_data t.length (t ++ 13 :: 10 :: rest) ⟨m, s, 1, t.length, [], false, 0, 0⟩ rfl rfl h0 (by simp) (Int.le_refl _)]
  simp only [List.drop_left, List.take_left, Int.sub_self, if_true]
  have h2 := run_line (fld := fld) [] ⟨m, s + t.length, 2, 0, [], false, 0, 0⟩ rest (by simp) (by simp) rfl rfl rfl (fun _ h => by cases h) (Nat.zero_le _)
  simp only [List.nil_append] at h2
  rw [h2]
  have e2 : whole fld ⟨m, s + t.length, 2, 0, [], false, 0, 0⟩ [] = (⟨m, s + t.length, 0, 0, [], false, 0, 0⟩, 0) := by simp [whole]
  rw [e2]
  simp only [List.length_nil]
  congr 2
  omega
theorem run_over (sl t rest : List UInt8) {m s lf : Int} (hl : ∀ c ∈ sl, c ≠ 10 ∧ c ≠ 13) (hb : sl.length ≤ 64) (hx : hexOf (before 59 sl) 8 = some t.length) (he : (behind 59 sl).all extB = true) (ht : t ≠ []) (hm : m < s + t.length) :
    (run fld (rdy m s lf) (sl ++ 13 :: 10 :: rest)).1.err = 101 := by
  have h0 : 0 < t.length := List.length_pos_iff.2 ht
  rw [run_line sl (rdy m s lf) _ (by simp [rdy]) (by simp [rdy]) rfl rfl rfl hl hb]
  have e1 : whole fld (rdy m s lf) sl = (rdy m s lf, 101) := by
    have a1 : ¬ (t.length = 0) := by omega
    have a2 : m - s < (t.length : Int) := by omega
    simp [whole, rdy, sized, hx, he, a1, a2]
  rw [e1, run_stop (by simp [stops])]
/-- A size's line: noughts, the size, an extension. -/
theorem line_hex {z n : Nat} {e : List UInt8} (h0 : n ≠ 0) (_hn : n < 16 ^ 7) (hz : z + (hexE n).length ≤ 8) : hexOf (before 59 (List.replicate z 48 ++ hexE n ++ 59 :: e)) 8 = some n ∧ behind 59 (List.replicate z 48 ++ hexE n ++ 59 :: e) = e ∧ hexOf (before 59 (List.replicate z 48 ++ hexE n)) 8 = some n ∧ behind 59 (List.replicate z 48 ++ hexE n) = [] := by
  have hall : ∀ c ∈ List.replicate z 48 ++ hexE n, (c != 59) = true := fun c hc => by
    rcases List.mem_append.1 hc with hc | hc
    · rw [List.eq_of_mem_replicate hc]; rfl
    · have := (hexE_plain n c hc).2.2; simpa using this
  have hv : hexOf (List.replicate z 48 ++ hexE n) 8 = some n := by
    unfold hexOf
    rw [if_neg, hexGo_zeros, hexGo_enc]
    rintro (h | h)
    · exact hexE_ne h0 (List.append_eq_nil_iff.1 h).2
    · simp only [List.length_append, List.length_replicate] at h; omega
  have b1 : before 59 (List.replicate z 48 ++ hexE n ++ 59 :: e) = List.replicate z 48 ++ hexE n := by
    unfold before; rw [List.takeWhile_append_of_pos hall]; simp
  have b2 : behind 59 (List.replicate z 48 ++ hexE n ++ 59 :: e) = e := by
    unfold behind; rw [List.dropWhile_append_of_pos hall]; simp
  have b3 : before 59 (List.replicate z 48 ++ hexE n) = List.replicate z 48 ++ hexE n := by
    unfold before; rw [← List.append_nil (List.replicate z 48 ++ hexE n), List.takeWhile_append_of_pos hall]; simp
  have b4 : behind 59 (List.replicate z 48 ++ hexE n) = [] := by
    unfold behind; rw [← List.append_nil (List.replicate z 48 ++ hexE n), List.dropWhile_append_of_pos hall]; simp
  exact ⟨by rw [b1]; exact hv, b2, by rw [b3]; exact hv, b4⟩
def encT (t : List UInt8) : List UInt8 := if t = [] then [] else hexE t.length ++ 13 :: 10 :: (t ++ [13, 10])
theorem run_texts : ∀ (ts : List (List UInt8)) (rest : List UInt8) (m s lf : Int), (∀ t ∈ ts, t.length < 16 ^ 7) → s + ts.flatten.length ≤ m →
    ∃ lf', run fld (rdy m s lf) ((ts.map encT).flatten ++ rest) = ((run fld (rdy m (s + ts.flatten.length) lf') rest).1, ts.flatten ++ (run fld (rdy m (s + ts.flatten.length) lf') rest).2.1, (ts.map encT).flatten.length + (run fld (rdy m (s + ts.flatten.length) lf') rest).2.2)
  | [], rest, m, s, lf, _, _ => ⟨lf, by simp⟩
  | t :: ts, rest, m, s, lf, hs, hm => by
    simp only [List.map_cons, List.flatten_cons, List.length_append] at hm ⊢
    have hst : ∀ t ∈ ts, t.length < 16 ^ 7 := fun x hx => hs x (List.mem_cons_of_mem _ hx)
    by_cases h0 : t = []
    · subst h0
      obtain ⟨lf', ih⟩ := run_texts ts rest m s lf hst (by simp only [List.length_nil] at hm; omega)
      exact ⟨lf', by simpa [encT] using ih⟩
    · have ht := hs t List.mem_cons_self
      have hl0 : t.length ≠ 0 := fun h => h0 (List.length_eq_zero_iff.1 h)
      obtain ⟨lf', ih⟩ := run_texts ts rest m (s + t.length) 0 hst (by omega)
      refine ⟨lf', ?_⟩
      have hlen := hexE_len 7 _ ht
      obtain ⟨_, _, c3, c4⟩ := line_hex (z := 0) (e := []) hl0 ht (by omega)
      simp only [List.replicate_zero, List.nil_append] at c3 c4
      have h1 := run_chunk (fld := fld) (hexE t.length) t ((ts.map encT).flatten ++ rest) (m := m) (s := s) (lf := lf) (fun c hc => ⟨(hexE_plain _ c hc).1, (hexE_plain _ c hc).2.1⟩) (by omega) c3 (by rw [c4]; rfl) h0 (by omega)
      have e1 : encT t ++ (ts.map encT).flatten ++ rest = hexE t.length ++ 13 :: 10 :: (t ++ 13 :: 10 :: ((ts.map encT).flatten ++ rest)) := by simp [encT, h0]
      rw [e1, h1, ih]
      have e2 : (encT t).length = (hexE t.length).length + t.length + 4 := by simp only [encT, h0, if_false, List.length_append, List.length_cons, List.length_nil]; omega
      simp only [List.append_assoc, e2, Int.natCast_add, ← Int.add_assoc]
      congr 2
      omega
theorem texts_over : ∀ (ts : List (List UInt8)) (rest : List UInt8) (m s lf : Int), (∀ t ∈ ts, t.length < 16 ^ 7) → s ≤ m → m < s + ts.flatten.length → (run fld (rdy m s lf) ((ts.map encT).flatten ++ rest)).1.err = 101
  | [], rest, m, s, lf, _, h1, h2 => by simp at h2; omega
  | t :: ts, rest, m, s, lf, hs, h1, h2 => by
    simp only [List.map_cons, List.flatten_cons, List.length_append] at h2 ⊢
    have hst : ∀ t ∈ ts, t.length < 16 ^ 7 := fun x hx => hs x (List.mem_cons_of_mem _ hx)
    by_cases h0 : t = []
    · subst h0
      have ih := texts_over ts rest m s lf hst h1 (by simp only [List.length_nil] at h2; omega)
      simpa [encT] using ih
    · have ht := hs t List.mem_cons_self
      have hl0 : t.length ≠ 0 := fun h => h0 (List.length_eq_zero_iff.1 h)
      have hlen := hexE_len 7 _ ht
      obtain ⟨_, _, c3, c4⟩ := line_hex (z := 0) (e := []) hl0 ht (by omega)
      simp only [List.replicate_zero, List.nil_append] at c3 c4
      have e1 : encT t ++ (ts.map encT).flatten ++ rest = hexE t.length ++ 13 :: 10 :: (t ++ 13 :: 10 :: ((ts.map encT).flatten ++ rest)) := by simp [encT, h0]
      rw [e1]
      by_cases hf : s + t.length ≤ m
      · rw [run_chunk (fld := fld) (hexE t.length) t _ (fun c hc => ⟨(hexE_plain _ c hc).1, (hexE_plain _ c hc).2.1⟩) (by omega) c3 (by rw [c4]; rfl) h0 hf]
        exact texts_over ts rest m (s + t.length) 0 hst hf (by omega)
      · exact run_over _ t _ (fun c hc => ⟨(hexE_plain _ c hc).1, (hexE_plain _ c hc).2.1⟩) (by omega) c3 (by rw [c4]; rfl) h0 (by omega)
theorem run_last (tail : List UInt8) (m s lf : Int) : run fld (rdy m s lf) (48 :: 13 :: 10 :: 13 :: 10 :: tail) = (⟨m, s, 4, lf, [], false, 0, 0⟩, [], 5) := by
  have h1 := run_line (fld := fld) [48] (rdy m s lf) (13 :: 10 :: tail) (by simp [rdy]) (by simp [rdy]) rfl rfl rfl (by simp) (show (1 : Nat) ≤ 64 by decide)
  have e1 : whole fld (rdy m s lf) [48] = ({ rdy m s lf with state := 3 }, 0) := by
    have a1 : hexOf (before 59 [48]) 8 = some 0 := by decide
    have a2 : behind 59 [48] = [] := by decide
    simp [whole, rdy, sized, a1, a2]
  rw [e1] at h1
  simp only [List.singleton_append] at h1
  rw [h1]
  have h2 := run_line (fld := fld) [] ⟨m, s, 3, lf, [], false, 0, 0⟩ tail (by simp) (by simp) rfl rfl rfl (fun _ h => by cases h) (Nat.zero_le _)
  simp only [List.nil_append] at h2
  simp only [rdy]
  rw [h2]
  have e2 : whole fld ⟨m, s, 3, lf, [], false, 0, 0⟩ [] = (⟨m, s, 4, lf, [], false, 0, 0⟩, 0) := by simp [whole]
  rw [e2, run_stop (by simp [stops])]
  rfl
end Go.ChunkM
