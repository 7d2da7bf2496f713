/- Some texts put together: lemmas and contracts for the law. Conditions: as each text says. -/
import Derived.Test.YtngicmoadobgpaaDoorU3
import Derived.Lib.Bytealg
import Derived.Lib.SlTrimSet
/- Chunked bodies, in plain Lean: what a decoder does with each byte. Conditions: none. -/
namespace Go.ChunkM
/-- A decoder. state: 0 a size's line, 1 data, 2 data's end, 3 a trailer, 4 done. -/
structure DS where
  most : Int
  size : Int
  state : Int
  left : Int
  line : List UInt8
  cr : Bool
  trl : Int
  err : Int
/-- A byte's digit. -/
def hexDig (c : UInt8) : Option Nat :=
  if 48 ≤ c.toNat ∧ c.toNat ≤ 57 then some (c.toNat - 48) else if 97 ≤ (c.toNat ||| 32) ∧ (c.toNat ||| 32) ≤ 102 then some ((c.toNat ||| 32) - 87) else none
def hexGo : List UInt8 → Nat → Option Nat
  | [], n => some n
  | c :: l, n => match hexDig c with | some d => hexGo l (n * 16 + d) | none => none
def hexOf (l : List UInt8) (digits : Nat) : Option Nat := if l = [] ∨ digits < l.length then none else hexGo l 0
def extB (c : UInt8) : Bool := decide (c.toNat = 9 ∨ 32 ≤ c.toNat ∧ c.toNat ≤ 126)
/-- A text is cut at a byte. -/
def before (b : UInt8) (l : List UInt8) : List UInt8 := l.takeWhile (· != b)
def behind (b : UInt8) (l : List UInt8) : List UInt8 := (l.dropWhile (· != b)).drop 1
def bound (s : Int) : Nat := if s = 0 then 64 else if s = 3 then 512 else 0
def sized (d : DS) (l : List UInt8) : DS × Int :=
  match hexOf (before 59 l) 8 with
  | none => (d, 100)
  | some n => if (behind 59 l).all extB then (if n = 0 then ({ d with state := 3 }, 0) else if d.most - d.size < n then (d, 101) else ({ d with state := 1, left := n }, 0)) else (d, 100)
section
variable (fld : List UInt8 → Bool)
def whole (d : DS) (l : List UInt8) : DS × Int :=
  if d.state = 0 then sized d l else if d.state = 2 then ({ d with state := 0 }, 0) else if l = [] then ({ d with state := 4 }, 0)
  else if fld l = false ∨ 32 < d.trl + 1 then ({ d with trl := d.trl + 1 }, 100) else ({ d with trl := d.trl + 1 }, 0)
def take (d : DS) (c : UInt8) : DS × Int :=
  if d.cr = true ∧ c = 10 then whole fld { d with line := [], cr := false } d.line
  else if d.cr = true ∨ c = 10 then (d, 100)
  else if c = 13 then ({ d with cr := true }, 0)
  else if bound d.state ≤ d.line.length then (d, 100)
  else ({ d with line := d.line ++ [c] }, 0)
/-- One byte. -/
def step (d : DS) (c : UInt8) : DS × List UInt8 :=
  if d.state = 1 then ({ d with left := d.left - 1, size := d.size + 1, state := if d.left - 1 = 0 then 2 else 1 }, [c])
  else ({ (take fld d c).1 with err := (take fld d c).2 }, [])
def stops (d : DS) : Bool := decide (d.state = 4) || decide (d.err ≠ 0)
/-- Bytes, one behind the other: what the decoder is then, what of the body they are, how many were taken. -/
def run : DS → List UInt8 → DS × List UInt8 × Nat
  | d, [] => (d, [], 0)
  | d, c :: l => if stops d then (d, [], 0) else ((run (step fld d c).1 l).1, (step fld d c).2 ++ (run (step fld d c).1 l).2.1, (run (step fld d c).1 l).2.2 + 1)
/-- What an answer is: the decoder, the bytes, the number, whether the body is whole, the error. -/
def feed (d : DS) (l : List UInt8) : DS × List UInt8 × Nat × Bool × Int :=
  if d.err ≠ 0 then (d, [], 0, false, d.err) else if (run fld d l).1.err ≠ 0 then ((run fld d l).1, [], 0, false, (run fld d l).1.err)
  else ((run fld d l).1, (run fld d l).2.1, (run fld d l).2.2, decide ((run fld d l).1.state = 4), 0)
/-- What a decoder keeps. -/
structure Ok (d : DS) : Prop where
  s0 : 0 ≤ d.size
  s1 : d.size = 0 ∨ d.size ≤ d.most
  st : 0 ≤ d.state ∧ d.state ≤ 4
  dat : d.state = 1 → 0 < d.left ∧ d.size + d.left ≤ d.most
  line : d.line.length ≤ 512
  trl : 0 ≤ d.trl ∧ d.trl ≤ 32 ∨ (0 ≤ d.trl ∧ d.trl ≤ 33 ∧ d.err ≠ 0)
variable {fld}
theorem run_append (a b : List UInt8) : ∀ d : DS, run fld d (a ++ b) = ((run fld (run fld d a).1 b).1, (run fld d a).2.1 ++ (run fld (run fld d a).1 b).2.1, (run fld d a).2.2 + (run fld (run fld d a).1 b).2.2) := by
  induction a with
  | nil => intro d; simp [run]
  | cons c l ih =>
    intro d
    by_cases h : stops d = true
    · simp only [List.cons_append, run, h, if_true, List.nil_append, Nat.zero_add]
      cases b with
      | nil => rfl
      | cons x b => simp [run, h]
    · simp only [List.cons_append, run, h, if_false, Bool.false_eq_true, ih, List.append_assoc]
      congr 2
      omega
theorem run_stop {d : DS} (h : stops d = true) (l : List UInt8) : run fld d l = (d, [], 0) := by
  cases l with
  | nil => rfl
  | cons => simp [run, h]
theorem run_le : ∀ (l : List UInt8) (d : DS), (run fld d l).2.2 ≤ l.length
  | [], _ => Nat.le_refl _
  | c :: l, d => by
    simp only [run]
    split
    · exact Nat.zero_le _
    · have := run_le l (step fld d c).1
      simp only [List.length_cons]; omega
theorem step_le (d : DS) (c : UInt8) : (step fld d c).2.length ≤ 1 := by
  unfold step; split <;> simp
theorem run_out : ∀ (l : List UInt8) (d : DS), (run fld d l).2.1.length ≤ (run fld d l).2.2
  | [], _ => Nat.le_refl _
  | c :: l, d => by
    simp only [run]
    split
    · exact Nat.le_refl _
    · have h1 := run_out l (step fld d c).1
      have h2 := step_le (fld := fld) d c
      simp only [List.length_append]; omega
/-- Not all bytes are taken just if the decoder stops. -/
theorem run_lt : ∀ (l : List UInt8) (d : DS), (run fld d l).2.2 < l.length → stops (run fld d l).1 = true
  | [], _, h => absurd h (Nat.not_lt_zero _)
  | c :: l, d, h => by
    simp only [run] at h ⊢
    split
    · assumption
    · rename_i hs
      rw [if_neg hs] at h
      simp only [List.length_cons] at h
      exact run_lt l _ (by omega)
/-- Many bytes of data. -/
theorem run_data : ∀ (n : Nat) (l : List UInt8) (d : DS), d.state = 1 → d.err = 0 → 0 < n → n ≤ l.length → (n : Int) ≤ d.left →
    run fld d l = ((run fld { d with left := d.left - n, size := d.size + n, state := if d.left - n = 0 then 2 else 1 } (l.drop n)).1, l.take n ++ (run fld { d with left := d.left - n, size := d.size + n, state := if d.left - n = 0 then 2 else 1 } (l.drop n)).2.1,
      n + (run fld { d with left := d.left - n, size := d.size + n, state := if d.left - n = 0 then 2 else 1 } (l.drop n)).2.2)
  | 0, _, _, _, _, h, _, _ => absurd h (Nat.lt_irrefl _)
  | _ + 1, [], _, _, _, _, h, _ => absurd h (by simp)
  | n + 1, c :: l, d, hs, he, _, hl, hd => by
    have hns : stops d = false := by simp [stops, hs, he]
    have e1 : step fld d c = ({ d with left := d.left - 1, size := d.size + 1, state := if d.left - 1 = 0 then 2 else 1 }, [c]) := by simp [step, hs]
    by_cases h0 : n = 0
    · subst h0
      simp only [run, hns, Bool.false_eq_true, if_false, e1, List.drop_succ_cons, List.drop_zero, List.take_succ_cons, List.take_zero, Int.natCast_one, Nat.zero_add]
      congr 2
      omega
    · have hne : d.left - 1 ≠ 0 := by omega
      have hl' : n ≤ l.length := by simpa using hl
      have ih := run_data n l { d with left := d.left - 1, size := d.size + 1, state := if d.left - 1 = 0 then 2 else 1 } (by simp [hne]) he (by omega) hl' (by simp only; omega)
      simp only [run, hns, Bool.false_eq_true, if_false, e1, List.drop_succ_cons, List.take_succ_cons]
      rw [ih]
      have x1 : d.left - 1 - (n : Int) = d.left - ((n + 1 : Nat) : Int) := by omega
      have x2 : d.size + 1 + (n : Int) = d.size + ((n + 1 : Nat) : Int) := by omega
      simp only [x1, x2, List.cons_append]
      congr 2
      omega
end
end Go.ChunkM
namespace Go.ChunkM
variable {fld : List UInt8 → Bool}
theorem Ok.trl0 {d : DS} (h : Ok d) (he : d.err = 0) : 0 ≤ d.trl ∧ d.trl ≤ 32 := by
  rcases h.trl with h | ⟨_, _, h⟩
  · exact h
  · exact absurd he h
theorem sized_ok {d : DS} (l : List UInt8) (h : Ok d) (he : d.err = 0) : Ok { (sized d l).1 with err := (sized d l).2 } ∧ (sized d l).1.most = d.most ∧ (sized d l).1.size = d.size := by
  have ht := h.trl0 he
  unfold sized
  split
  · exact ⟨⟨h.s0, h.s1, h.st, h.dat, h.line, .inl ht⟩, rfl, rfl⟩
  · split
    · split
      · exact ⟨⟨h.s0, h.s1, by simp, by simp, h.line, .inl ht⟩, rfl, rfl⟩
      · split
        · exact ⟨⟨h.s0, h.s1, h.st, h.dat, h.line, .inl ht⟩, rfl, rfl⟩
        · exact ⟨⟨h.s0, h.s1, by simp, fun _ => by simp only; omega, h.line, .inl ht⟩, rfl, rfl⟩
    · exact ⟨⟨h.s0, h.s1, h.st, h.dat, h.line, .inl ht⟩, rfl, rfl⟩
theorem whole_ok {d : DS} (l : List UInt8) (h : Ok d) (he : d.err = 0) : Ok { (whole fld d l).1 with err := (whole fld d l).2 } ∧ (whole fld d l).1.most = d.most ∧ (whole fld d l).1.size = d.size := by
  have ht := h.trl0 he
  unfold whole
  split
  · exact sized_ok l h he
  · split
    · exact ⟨⟨h.s0, h.s1, by simp, by simp, h.line, .inl ht⟩, rfl, rfl⟩
    · split
      · exact ⟨⟨h.s0, h.s1, by simp, by simp, h.line, .inl ht⟩, rfl, rfl⟩
      · split
        · exact ⟨⟨h.s0, h.s1, h.st, h.dat, h.line, .inr ⟨by simp only; omega, by simp only; omega, by simp⟩⟩, rfl, rfl⟩
        · rename_i hc
          exact ⟨⟨h.s0, h.s1, h.st, h.dat, h.line, .inl ⟨by simp only; omega, by simp only; omega⟩⟩, rfl, rfl⟩
theorem bound_le (s : Int) : bound s ≤ 512 := by unfold bound; split <;> (try split) <;> decide
theorem take_ok {d : DS} (c : UInt8) (h : Ok d) (he : d.err = 0) : Ok { (take fld d c).1 with err := (take fld d c).2 } ∧ (take fld d c).1.most = d.most ∧ (take fld d c).1.size = d.size := by
  have ht := h.trl0 he
  unfold take
  split
  · exact whole_ok (d := { d with line := [], cr := false }) _ ⟨h.s0, h.s1, h.st, h.dat, by simp, h.trl⟩ he
  · split
    · exact ⟨⟨h.s0, h.s1, h.st, h.dat, h.line, .inl ht⟩, rfl, rfl⟩
    · split
      · exact ⟨⟨h.s0, h.s1, h.st, h.dat, h.line, .inl ht⟩, rfl, rfl⟩
      · split
        · exact ⟨⟨h.s0, h.s1, h.st, h.dat, h.line, .inl ht⟩, rfl, rfl⟩
        · have := bound_le d.state
          exact ⟨⟨h.s0, h.s1, h.st, h.dat, by simp only [List.length_append, List.length_cons, List.length_nil]; omega, .inl ht⟩, rfl, rfl⟩
theorem step_ok {d : DS} (c : UInt8) (h : Ok d) (hs : stops d = false) : Ok (step fld d c).1 ∧ (step fld d c).1.most = d.most ∧ (step fld d c).1.size = d.size + (step fld d c).2.length := by
  have he : d.err = 0 := by simp only [stops, Bool.or_eq_false_iff, decide_eq_false_iff_not] at hs; omega
  unfold step
  split
  · rename_i h1
    have := h.dat h1
    have := h.s0
    refine ⟨⟨by simp only; omega, .inr (by simp only; omega), ?_, ?_, h.line, h.trl⟩, rfl, by simp⟩
    · simp only; split <;> simp
    · simp only; split
      · intro h; cases h
      · intro; omega
  · have := take_ok (fld := fld) c h he
    exact ⟨this.1, this.2.1, by simp [this.2.2]⟩
theorem run_ok : ∀ (l : List UInt8) {d : DS}, Ok d → Ok (run fld d l).1 ∧ (run fld d l).1.most = d.most ∧ (run fld d l).1.size = d.size + (run fld d l).2.1.length
  | [], d, h => ⟨h, rfl, by simp [run]⟩
  | c :: l, d, h => by
    simp only [run]
    by_cases hs : stops d = true
    · simp only [hs, if_true]; exact ⟨h, True.intro, by simp⟩
    · simp only [hs, if_false, Bool.false_eq_true]
      have h1 := step_ok (fld := fld) c h (by simpa using hs)
      have h2 := run_ok l h1.1
      exact ⟨h2.1, h2.2.1.trans h1.2.1, by rw [h2.2.2, h1.2.2, List.length_append]; omega⟩
end Go.ChunkM
namespace Go.ChunkM
/-! ### sizes, written -/
def dig (d : Nat) : UInt8 := if d < 10 then (48 + d).toUInt8 else (87 + d).toUInt8
def hexE (n : Nat) : List UInt8 := if _h : n = 0 then [] else hexE (n / 16) ++ [dig (n % 16)]
termination_by n
decreasing_by omega
theorem hexE_zero : hexE 0 = [] := by rw [hexE]; rfl
theorem hexE_pos {n : Nat} (h : n ≠ 0) : hexE n = hexE (n / 16) ++ [dig (n % 16)] := by rw [hexE, dif_neg h]
theorem hexE_ne {n : Nat} (h : n ≠ 0) : hexE n ≠ [] := by rw [hexE_pos h]; simp
theorem hexE_len : ∀ (k n : Nat), n < 16 ^ k → (hexE n).length ≤ k
  | 0, n, h => by have : n = 0 := by simpa using h
                  subst this; rw [hexE_zero]; exact Nat.le_refl _
  | k + 1, n, h => by
    by_cases h0 : n = 0
    · subst h0; rw [hexE_zero]; exact Nat.zero_le _
    · rw [hexE_pos h0, List.length_append]
      have := hexE_len k (n / 16) (by rw [Nat.pow_succ] at h; omega)
      simp only [List.length_cons, List.length_nil]; omega
theorem dig_hex : ∀ d : Nat, d < 16 → hexDig (dig d) = some d := by decide
theorem dig_plain : ∀ d : Nat, d < 16 → dig d ≠ 10 ∧ dig d ≠ 13 ∧ dig d ≠ 59 := by decide
theorem hexGo_append (a b : List UInt8) : ∀ n, hexGo (a ++ b) n = (hexGo a n).bind (hexGo b) := by
  induction a with
  | nil => intro n; rfl
  | cons c a ih =>
    intro n
    simp only [List.cons_append, hexGo]
    cases hexDig c with
    | none => rfl
    | some d => exact ih _
theorem hexGo_enc : ∀ n : Nat, hexGo (hexE n) 0 = some n := by
  intro n
  induction n using Nat.strongRecOn with
  | ind n ih =>
    by_cases h0 : n = 0
    · subst h0; rw [hexE_zero]; rfl
    · rw [hexE_pos h0, hexGo_append, ih _ (by omega)]
      simp only [Option.bind_some, hexGo, dig_hex _ (Nat.mod_lt _ (by decide : 16 > 0))]
      congr 1; omega
theorem hexGo_zeros (k : Nat) (l : List UInt8) : hexGo (List.replicate k 48 ++ l) 0 = hexGo l 0 := by
  induction k with
  | zero => rfl
  | succ k ih => simp only [List.replicate_succ, List.cons_append, hexGo, show hexDig 48 = some 0 from rfl]; exact ih
theorem hexE_plain : ∀ (n : Nat) (c : UInt8), c ∈ hexE n → c ≠ 10 ∧ c ≠ 13 ∧ c ≠ 59 := by
  intro n
  induction n using Nat.strongRecOn with
  | ind n ih =>
    intro c hc
    by_cases h0 : n = 0
    · subst h0; rw [hexE_zero] at hc; cases hc
    · rw [hexE_pos h0] at hc
      rcases List.mem_append.1 hc with hc | hc
      · exact ih _ (by omega) c hc
      · simp only [List.mem_cons, List.not_mem_nil, or_false] at hc
        subst hc
        exact dig_plain _ (Nat.mod_lt _ (by decide))
/-! ### lines -/
variable {fld : List UInt8 → Bool}
theorem run_text : ∀ (l : List UInt8) (d : DS) (rest : List UInt8), d.state ≠ 1 → d.state ≠ 4 → d.err = 0 → d.cr = false → (∀ c ∈ l, c ≠ 10 ∧ c ≠ 13) → d.line.length + l.length ≤ bound d.state →
    run fld d (l ++ rest) = ((run fld { d with line := d.line ++ l } rest).1, (run fld { d with line := d.line ++ l } rest).2.1, l.length + (run fld { d with line := d.line ++ l } rest).2.2)
  | [], d, rest, _, _, _, _, _, _ => by simp
  | c :: l, d, rest, h1, h4, he, hc, hl, hb => by
    have hs : stops d = false := by simp [stops, h4, he]
    have hcc := hl c List.mem_cons_self
    simp only [List.length_cons] at hb
    have e1 : step fld d c = ({ d with line := d.line ++ [c] }, []) := by
      simp only [step, h1, if_false, take, hc, Bool.false_eq_true, false_and, false_or, hcc.1, hcc.2]
      rw [if_neg (by omega)]
      cases d; simp_all
    have ih := run_text l { d with line := d.line ++ [c] } rest h1 h4 he hc (fun x hx => hl x (List.mem_cons_of_mem _ hx)) (by simp only [List.length_append, List.length_cons, List.length_nil]; omega)
    simp only [List.cons_append, run, hs, Bool.false_eq_true, if_false, e1, List.nil_append, List.length_cons]
    rw [ih]
    simp only [List.append_assoc, List.singleton_append]
    congr 2
    omega
/-- A whole line, its end too. -/
theorem run_line (l : List UInt8) (d : DS) (rest : List UInt8) (h1 : d.state ≠ 1) (h4 : d.state ≠ 4) (he : d.err = 0) (hc : d.cr = false) (hn : d.line = []) (hl : ∀ c ∈ l, c ≠ 10 ∧ c ≠ 13) (hb : l.length ≤ bound d.state) :
    run fld d (l ++ 13 :: 10 :: rest) = ((run fld { (whole fld d l).1 with err := (whole fld d l).2 } rest).1, (run fld { (whole fld d l).1 with err := (whole fld d l).2 } rest).2.1, l.length + 2 + (run fld { (whole fld d l).1 with err := (whole fld d l).2 } rest).2.2) := by
  rw [run_text l d _ h1 h4 he hc hl (by rw [hn]; simpa using hb)]
  obtain ⟨m, s, st, lf, ln, cr, tr, er⟩ := d
  simp only at h1 h4 he hc hn
  subst he hc hn
  have g1 : step fld ⟨m, s, st, lf, l, false, tr, 0⟩ 13 = (⟨m, s, st, lf, l, true, tr, 0⟩, []) := by simp [step, h1, take]
  have g2 : step fld ⟨m, s, st, lf, l, true, tr, 0⟩ 10 = ({ (whole fld ⟨m, s, st, lf, [], false, tr, 0⟩ l).1 with err := (whole fld ⟨m, s, st, lf, [], false, tr, 0⟩ l).2 }, []) := by simp [step, h1, take]
  have s1 : stops ⟨m, s, st, lf, l, false, tr, 0⟩ = false := by simp [stops, h4]
  have s2 : stops ⟨m, s, st, lf, l, true, tr, 0⟩ = false := by simp [stops, h4]
  simp only [List.nil_append]
  rw [run, s1, if_neg (by simp), g1, run, s2, if_neg (by simp), g2]
  simp only [List.nil_append]
  congr 2
  omega
end Go.ChunkM
namespace Go.ChunkM
/-! ### whole bodies -/
variable {fld : List UInt8 → Bool}
/-- A decoder between two chunks. -/
def rdy (m s lf : Int) : DS := ⟨m, s, 0, lf, [], false, 0, 0⟩
theorem run_chunk (sl t rest : List UInt8) {m s lf : Int} (hl : ∀ c ∈ sl, c ≠ 10 ∧ c ≠ 13) (hb : sl.length ≤ 64) (hx : hexOf (before 59 sl) 8 = some t.length) (he : (behind 59 sl).all extB = true) (ht : t ≠ []) (hm : s + t.length ≤ m) :
    run fld (rdy m s lf) (sl ++ 13 :: 10 :: (t ++ 13 :: 10 :: rest)) = ((run fld (rdy m (s + t.length) 0) rest).1, t ++ (run fld (rdy m (s + t.length) 0) rest).2.1, sl.length + t.length + 4 + (run fld (rdy m (s + t.length) 0) rest).2.2) := by
  have h0 : 0 < t.length := List.length_pos_iff.2 ht
  rw [run_line sl (rdy m s lf) _ (by simp [rdy]) (by simp [rdy]) rfl rfl rfl hl hb]
  have e1 : whole fld (rdy m s lf) sl = ({ rdy m s lf with state := 1, left := t.length }, 0) := by
    have a1 : ¬ (t.length = 0) := by omega
    have a2 : ¬ (m - s < (t.length : Int)) := by omega
    simp [whole, rdy, sized, hx, he, a1, a2]
  rw [e1]
  simp only [rdy]
  rw [run_data t.length (t ++ 13 :: 10 :: rest) ⟨m, s, 1, t.length, [], false, 0, 0⟩ rfl rfl h0 (by simp) (Int.le_refl _)]
  simp only [List.drop_left, List.take_left, Int.sub_self, if_true]
  have h2 := run_line (fld := fld) [] ⟨m, s + t.length, 2, 0, [], false, 0, 0⟩ rest (by simp) (by simp) rfl rfl rfl (fun _ h => by cases h) (Nat.zero_le _)
  simp only [List.nil_append] at h2
  rw [h2]
  have e2 : whole fld ⟨m, s + t.length, 2, 0, [], false, 0, 0⟩ [] = (⟨m, s + t.length, 0, 0, [], false, 0, 0⟩, 0) := by simp [whole]
  rw [e2]
  simp only [List.length_nil]
  congr 2
  omega
theorem run_over (sl t rest : List UInt8) {m s lf : Int} (hl : ∀ c ∈ sl, c ≠ 10 ∧ c ≠ 13) (hb : sl.length ≤ 64) (hx : hexOf (before 59 sl) 8 = some t.length) (he : (behind 59 sl).all extB = true) (ht : t ≠ []) (hm : m < s + t.length) :
    (run fld (rdy m s lf) (sl ++ 13 :: 10 :: rest)).1.err = 101 := by
  have h0 : 0 < t.length := List.length_pos_iff.2 ht
  rw [run_line sl (rdy m s lf) _ (by simp [rdy]) (by simp [rdy]) rfl rfl rfl hl hb]
  have e1 : whole fld (rdy m s lf) sl = (rdy m s lf, 101) := by
    have a1 : ¬ (t.length = 0) := by omega
    have a2 : m - s < (t.length : Int) := by omega
    simp [whole, rdy, sized, hx, he, a1, a2]
  rw [e1, run_stop (by simp [stops])]
/-- A size's line: noughts, the size, an extension. -/
theorem line_hex {z n : Nat} {e : List UInt8} (h0 : n ≠ 0) (_hn : n < 16 ^ 7) (hz : z + (hexE n).length ≤ 8) : hexOf (before 59 (List.replicate z 48 ++ hexE n ++ 59 :: e)) 8 = some n ∧ behind 59 (List.replicate z 48 ++ hexE n ++ 59 :: e) = e ∧ hexOf (before 59 (List.replicate z 48 ++ hexE n)) 8 = some n ∧ behind 59 (List.replicate z 48 ++ hexE n) = [] := by
  have hall : ∀ c ∈ List.replicate z 48 ++ hexE n, (c != 59) = true := fun c hc => by
    rcases List.mem_append.1 hc with hc | hc
    · rw [List.eq_of_mem_replicate hc]; rfl
    · have := (hexE_plain n c hc).2.2; simpa using this
  have hv : hexOf (List.replicate z 48 ++ hexE n) 8 = some n := by
    unfold hexOf
    rw [if_neg, hexGo_zeros, hexGo_enc]
    rintro (h | h)
    · exact hexE_ne h0 (List.append_eq_nil_iff.1 h).2
    · simp only [List.length_append, List.length_replicate] at h; omega
  have b1 : before 59 (List.replicate z 48 ++ hexE n ++ 59 :: e) = List.replicate z 48 ++ hexE n := by
    unfold before; rw [List.takeWhile_append_of_pos hall]; simp
  have b2 : behind 59 (List.replicate z 48 ++ hexE n ++ 59 :: e) = e := by
    unfold behind; rw [List.dropWhile_append_of_pos hall]; simp
  have b3 : before 59 (List.replicate z 48 ++ hexE n) = List.replicate z 48 ++ hexE n := by
    unfold before; rw [← List.append_nil (List.replicate z 48 ++ hexE n), List.takeWhile_append_of_pos hall]; simp
  have b4 : behind 59 (List.replicate z 48 ++ hexE n) = [] := by
    unfold behind; rw [← List.append_nil (List.replicate z 48 ++ hexE n), List.dropWhile_append_of_pos hall]; simp
  exact ⟨by rw [b1]; exact hv, b2, by rw [b3]; exact hv, b4⟩
def encT (t : List UInt8) : List UInt8 := if t = [] then [] else hexE t.length ++ 13 :: 10 :: (t ++ [13, 10])
theorem run_texts : ∀ (ts : List (List UInt8)) (rest : List UInt8) (m s lf : Int), (∀ t ∈ ts, t.length < 16 ^ 7) → s + ts.flatten.length ≤ m →
    ∃ lf', run fld (rdy m s lf) ((ts.map encT).flatten ++ rest) = ((run fld (rdy m (s + ts.flatten.length) lf') rest).1, ts.flatten ++ (run fld (rdy m (s + ts.flatten.length) lf') rest).2.1, (ts.map encT).flatten.length + (run fld (rdy m (s + ts.flatten.length) lf') rest).2.2)
  | [], rest, m, s, lf, _, _ => ⟨lf, by simp⟩
  | t :: ts, rest, m, s, lf, hs, hm => by
    simp only [List.map_cons, List.flatten_cons, List.length_append] at hm ⊢
    have hst : ∀ t ∈ ts, t.length < 16 ^ 7 := fun x hx => hs x (List.mem_cons_of_mem _ hx)
    by_cases h0 : t = []
    · subst h0
      obtain ⟨lf', ih⟩ := run_texts ts rest m s lf hst (by simp only [List.length_nil] at hm; omega)
      exact ⟨lf', by simpa [encT] using ih⟩
    · have ht := hs t List.mem_cons_self
      have hl0 : t.length ≠ 0 := fun h => h0 (List.length_eq_zero_iff.1 h)
      obtain ⟨lf', ih⟩ := run_texts ts rest m (s + t.length) 0 hst (by omega)
      refine ⟨lf', ?_⟩
      have hlen := hexE_len 7 _ ht
      obtain ⟨_, _, c3, c4⟩ := line_hex (z := 0) (e := []) hl0 ht (by omega)
      simp only [List.replicate_zero, List.nil_append] at c3 c4
      have h1 := run_chunk (fld := fld) (hexE t.length) t ((ts.map encT).flatten ++ rest) (m := m) (s := s) (lf := lf) (fun c hc => ⟨(hexE_plain _ c hc).1, (hexE_plain _ c hc).2.1⟩) (by omega) c3 (by rw [c4]; rfl) h0 (by omega)
      have e1 : encT t ++ (ts.map encT).flatten ++ rest = hexE t.length ++ 13 :: 10 :: (t ++ 13 :: 10 :: ((ts.map encT).flatten ++ rest)) := by simp [encT, h0]
      rw [e1, h1, ih]
      have e2 : (encT t).length = (hexE t.length).length + t.length + 4 := by simp only [encT, h0, if_false, List.length_append, List.length_cons, List.length_nil]; omega
      simp only [List.append_assoc, e2, Int.natCast_add, ← Int.add_assoc]
      congr 2
      omega
theorem texts_over : ∀ (ts : List (List UInt8)) (rest : List UInt8) (m s lf : Int), (∀ t ∈ ts, t.length < 16 ^ 7) → s ≤ m → m < s + ts.flatten.length → (run fld (rdy m s lf) ((ts.map encT).flatten ++ rest)).1.err = 101
  | [], rest, m, s, lf, _, h1, h2 => by simp at h2; omega
  | t :: ts, rest, m, s, lf, hs, h1, h2 => by
    simp only [List.map_cons, List.flatten_cons, List.length_append] at h2 ⊢
    have hst : ∀ t ∈ ts, t.length < 16 ^ 7 := fun x hx => hs x (List.mem_cons_of_mem _ hx)
    by_cases h0 : t = []
    · subst h0
      have ih := texts_over ts rest m s lf hst h1 (by simp only [List.length_nil] at h2; omega)
      simpa [encT] using ih
    · have ht := hs t List.mem_cons_self
      have hl0 : t.length ≠ 0 := fun h => h0 (List.length_eq_zero_iff.1 h)
      have hlen := hexE_len 7 _ ht
      obtain ⟨_, _, c3, c4⟩ := line_hex (z := 0) (e := []) hl0 ht (by omega)
      simp only [List.replicate_zero, List.nil_append] at c3 c4
      have e1 : encT t ++ (ts.map encT).flatten ++ rest = hexE t.length ++ 13 :: 10 :: (t ++ 13 :: 10 :: ((ts.map encT).flatten ++ rest)) := by simp [encT, h0]
      rw [e1]
      by_cases hf : s + t.length ≤ m
      · rw [run_chunk (fld := fld) (hexE t.length) t _ (fun c hc => ⟨(hexE_plain _ c hc).1, (hexE_plain _ c hc).2.1⟩) (by omega) c3 (by rw [c4]; rfl) h0 hf]
        exact texts_over ts rest m (s + t.length) 0 hst hf (by omega)
      · exact run_over _ t _ (fun c hc => ⟨(hexE_plain _ c hc).1, (hexE_plain _ c hc).2.1⟩) (by omega) c3 (by rw [c4]; rfl) h0 (by omega)
theorem run_last (tail : List UInt8) (m s lf : Int) : run fld (rdy m s lf) (48 :: 13 :: 10 :: 13 :: 10 :: tail) = (⟨m, s, 4, lf, [], false, 0, 0⟩, [], 5) := by
  have h1 := run_line (fld := fld) [48] (rdy m s lf) (13 :: 10 :: tail) (by simp [rdy]) (by simp [rdy]) rfl rfl rfl (by simp) (show (1 : Nat) ≤ 64 by decide)
  have e1 : whole fld (rdy m s lf) [48] = ({ rdy m s lf with state := 3 }, 0) := by
    have a1 : hexOf (before 59 [48]) 8 = some 0 := by decide
    have a2 : behind 59 [48] = [] := by decide
    simp [whole, rdy, sized, a1, a2]
  rw [e1] at h1
  simp only [List.singleton_append] at h1
  rw [h1]
  have h2 := run_line (fld := fld) [] ⟨m, s, 3, lf, [], false, 0, 0⟩ tail (by simp) (by simp) rfl rfl rfl (fun _ h => by cases h) (Nat.zero_le _)
  simp only [List.nil_append] at h2
  simp only [rdy]
  rw [h2]
  have e2 : whole fld ⟨m, s, 3, lf, [], false, 0, 0⟩ [] = (⟨m, s, 4, lf, [], false, 0, 0⟩, 0) := by simp [whole]
  rw [e2, run_stop (by simp [stops])]
  rfl
end Go.ChunkM

/- Small pieces of texts, in plain Lean: cutting, blanks, tokens, values. Conditions: none. -/
namespace Go.StrM
open Go.ChunkM
theorem before_append (c : UInt8) : ∀ l : List UInt8, c ∈ l → l = before c l ++ c :: behind c l
  | [], h => by cases h
  | x :: l, h => by
    by_cases hx : x = c
    · subst hx; simp [before, behind]
    · have hm : c ∈ l := by rcases List.mem_cons.1 h with h | h; exact absurd h.symm hx; exact h
      have ih := before_append c l hm
      have e1 : before c (x :: l) = x :: before c l := by simp [before, hx]
      have e2 : behind c (x :: l) = behind c l := by simp [behind, hx]
      rw [e1, e2, List.cons_append, ← ih]
theorem before_not (c : UInt8) : ∀ l : List UInt8, c ∉ l → before c l = l ∧ behind c l = []
  | [], _ => ⟨rfl, rfl⟩
  | x :: l, h => by
    have hx : x ≠ c := fun e => h (by subst e; exact List.mem_cons_self)
    have ih := before_not c l fun hm => h (List.mem_cons_of_mem _ hm)
    refine ⟨?_, ?_⟩
    · have : before c (x :: l) = x :: before c l := by simp [before, hx]
      rw [this, ih.1]
    · have : behind c (x :: l) = behind c l := by simp [behind, hx]
      rw [this, ih.2]
theorem before_no (c : UInt8) (l : List UInt8) : c ∉ before c l := fun h => by
  induction l with
  | nil => cases h
  | cons x l ih =>
    by_cases hx : x = c
    · subst hx; simp [before] at h
    · have e1 : before c (x :: l) = x :: before c l := by simp [before, hx]
      rw [e1] at h
      rcases List.mem_cons.1 h with h | h
      · exact hx h.symm
      · exact ih h
theorem idx_in (c : UInt8) : ∀ l : List UInt8, c ∈ l → Lib.indexByte l c = (before c l).length
  | [], h => by cases h
  | x :: l, h => by
    by_cases hx : x = c
    · subst hx; simp [Lib.indexByte, before]
    · have hm : c ∈ l := by rcases List.mem_cons.1 h with h | h; exact absurd h.symm hx; exact h
      have ih := idx_in c l hm
      have e1 : before c (x :: l) = x :: before c l := by simp [before, hx]
      have hb : (x == c) = false := by simpa using hx
      have hn : (Lib.indexByte l c == -1) = false := by rw [ih]; simp
      rw [Lib.indexByte, hb, hn, e1, ih]; simp
theorem idx_not (c : UInt8) : ∀ l : List UInt8, c ∉ l → Lib.indexByte l c = -1
  | [], _ => rfl
  | x :: l, h => by
    have hx : x ≠ c := fun e => h (by subst e; exact List.mem_cons_self)
    have ih := idx_not c l fun hm => h (List.mem_cons_of_mem _ hm)
    have hb : (x == c) = false := by simpa using hx
    rw [Lib.indexByte, hb, ih]; rfl
theorem take_before {c : UInt8} {l : List UInt8} (h : c ∈ l) : l.take (before c l).length = before c l := by
  have e := before_append c l h
  have : (before c l ++ c :: behind c l).take (before c l).length = before c l := List.take_left
  rw [← e] at this; exact this
theorem drop_before {c : UInt8} {l : List UInt8} (h : c ∈ l) : l.drop ((before c l).length + 1) = behind c l := by
  have e := before_append c l h
  have : (before c l ++ c :: behind c l).drop ((before c l).length + 1) = behind c l := by
    rw [← List.drop_drop, List.drop_left]; rfl
  rw [← e] at this; exact this
theorem len_before {c : UInt8} {l : List UInt8} (h : c ∈ l) : (before c l).length + 1 + (behind c l).length = l.length := by
  have e := congrArg List.length (before_append c l h)
  simp only [List.length_append, List.length_cons] at e; omega
/-! ### kinds of bytes -/
def isDig (c : UInt8) : Bool := decide (48 ≤ c.toNat ∧ c.toNat ≤ 57)
def isLet (c : UInt8) : Bool := decide (97 ≤ c.toNat ∧ c.toNat ≤ 122 ∨ 65 ≤ c.toNat ∧ c.toNat ≤ 90)
def marks : List UInt8 := [33, 35, 36, 37, 38, 39, 42, 43, 45, 46, 94, 95, 124, 126, 96]
def tokB (c : UInt8) : Bool := isLet c || isDig c || marks.contains c
def valB (c : UInt8) : Bool := decide (c.toNat = 9 ∨ 32 ≤ c.toNat ∧ c.toNat ≠ 127)
def tokenP (l : List UInt8) : Prop := l ≠ [] ∧ ∀ c ∈ l, tokB c = true
abbrev trim (l : List UInt8) : List UInt8 := Lib.trimS l [32, 9]
def valueP (l : List UInt8) : Prop := (∀ c ∈ l, valB c = true) ∧ trim l = l
/-- Is a line a field? -/
def fieldP (l : List UInt8) : Prop := 58 ∈ l ∧ tokenP (before 58 l) ∧ valueP (trim (behind 58 l))
instance (l : List UInt8) : Decidable (tokenP l) := by unfold tokenP; infer_instance
instance (l : List UInt8) : Decidable (valueP l) := by unfold valueP; infer_instance
instance (l : List UInt8) : Decidable (fieldP l) := by unfold fieldP; infer_instance
def fieldOk (l : List UInt8) : Bool := decide (fieldP l)
theorem trim_le (l : List UInt8) : (trim l).length ≤ l.length := by
  have dl : ∀ (p : UInt8 → Bool) (l : List UInt8), (l.dropWhile p).length ≤ l.length := fun p l => (List.dropWhile_sublist p).length_le
  unfold trim Lib.trimS Lib.trimLeftS Lib.trimRightS
  refine Nat.le_trans (dl _ _) ?_
  rw [List.length_reverse]
  exact Nat.le_trans (dl _ _) (by simp)
/-! ### numbers in the base of sixteen -/
theorem hexDig_lt {c : UInt8} {d : Nat} (h : hexDig c = some d) : d < 16 := by
  unfold hexDig at h
  split at h
  · injection h; omega
  · split at h
    · injection h; omega
    · cases h
theorem hexGo_some : ∀ (l : List UInt8) (n k : Nat), n < 16 ^ k → ∀ r, hexGo l n = some r → r < 16 ^ (k + l.length)
  | [], n, k, h, r, hr => by injection hr with hr; subst hr; exact h
  | c :: l, n, k, h, r, hr => by
    simp only [hexGo] at hr
    cases hd : hexDig c with
    | none => rw [hd] at hr; cases hr
    | some d =>
      rw [hd] at hr
      have := hexDig_lt hd
      have h2 := hexGo_some l (n * 16 + d) (k + 1) (by rw [Nat.pow_succ]; omega) r hr
      rw [List.length_cons, show k + (l.length + 1) = k + 1 + l.length by omega]; exact h2
end Go.StrM
namespace Go.StrM
open Go.ChunkM
theorem before_le (c : UInt8) (l : List UInt8) : (before c l).length ≤ l.length := (List.takeWhile_sublist _).length_le
theorem behind_le (c : UInt8) (l : List UInt8) : (behind c l).length ≤ l.length := by
  unfold behind
  rw [List.length_drop]
  have := (List.dropWhile_sublist (p := (· != c)) (l := l)).length_le
  omega
end Go.StrM

/- What the statements on chunked bodies say of the plain decoder. Conditions: none. -/
namespace Go.ChunkM
variable {fld : List UInt8 → Bool}
theorem take_succ {l : List UInt8} {i : Nat} {x : UInt8} (h : l[i]? = some x) : l.take (i + 1) = l.take i ++ [x] := by
  rw [List.take_add_one, h]; rfl
/-- Byte by byte, or at once. -/
theorem pieces_step {D0 : DS} {s : List UInt8} {i : Nat} {x : UInt8} (hx : s[i]? = some x) (h0 : D0.err = 0) (he : (run fld D0 (s.take i)).1.err = 0) :
    ((feed fld (run fld D0 (s.take i)).1 [x]).2.2.2.2 ≠ 0 ∧ (feed fld D0 s).2.1 = [] ∧ (feed fld D0 s).2.2.1 = 0 ∧ (feed fld D0 s).2.2.2.2 = (feed fld (run fld D0 (s.take i)).1 [x]).2.2.2.2) ∨
    (∃ o k t, feed fld (run fld D0 (s.take i)).1 [x] = ((run fld D0 (s.take (i + 1))).1, o, k, t, 0) ∧ (run fld D0 (s.take (i + 1))).1.err = 0 ∧ (run fld D0 (s.take (i + 1))).2.1 = (run fld D0 (s.take i)).2.1 ++ o ∧
      (run fld D0 (s.take (i + 1))).2.2 = (run fld D0 (s.take i)).2.2 + k ∧ t = ((feed fld D0 s).2.2.2.1 && decide ((run fld D0 (s.take (i + 1))).2.2 = (feed fld D0 s).2.2.1))) := by
  have hs : s = s.take (i + 1) ++ s.drop (i + 1) := (List.take_append_drop _ _).symm
  have e1 : run fld D0 (s.take (i + 1)) = ((run fld (run fld D0 (s.take i)).1 [x]).1, (run fld D0 (s.take i)).2.1 ++ (run fld (run fld D0 (s.take i)).1 [x]).2.1, (run fld D0 (s.take i)).2.2 + (run fld (run fld D0 (s.take i)).1 [x]).2.2) := by
    rw [take_succ hx, run_append]
  have e2 := run_append (fld := fld) (s.take (i + 1)) (s.drop (i + 1)) D0
  rw [← hs] at e2
  generalize hT : run fld D0 (s.take (i + 1)) = T at *
  generalize hR : run fld T.1 (s.drop (i + 1)) = R at *
  generalize hP : run fld (run fld D0 (s.take i)).1 [x] = Q at *
  have t1 : T.1 = Q.1 := by rw [e1]
  by_cases hq : Q.1.err = 0
  · right
    refine ⟨Q.2.1, Q.2.2, decide (Q.1.state = 4), ?_, by rw [t1]; exact hq, by rw [e1], by rw [e1], ?_⟩
    · unfold feed; rw [if_neg (by simp [he]), hP, if_neg (by simp [hq]), t1]
    · have hf : feed fld D0 s = if R.1.err ≠ 0 then (R.1, [], 0, false, R.1.err) else (R.1, T.2.1 ++ R.2.1, T.2.2 + R.2.2, decide (R.1.state = 4), 0) := by
        unfold feed; rw [if_neg (by simp [h0]), e2]
      by_cases h4 : Q.1.state = 4
      · have hRs : R = (T.1, [], 0) := by rw [← hR]; exact run_stop (by simp [stops, t1, h4]) _
        rw [hf, hRs, if_neg (by simp [t1, hq])]
        simp [h4, t1]
      · have hst : stops T.1 = false := by simp [stops, t1, h4, hq]
        have : R.2.2 = 0 → R.1 = T.1 := fun hz => by
          cases hd : s.drop (i + 1) with
          | nil => rw [hd] at hR; rw [← hR]; rfl
          | cons c l =>
            rw [hd] at hR
            rw [← hR] at hz
            simp [run, hst] at hz
        rw [hf]
        split
        · simp [h4]
        · simp only [h4, decide_false]
          by_cases hz : R.2.2 = 0
          · rw [this hz, t1]; simp [h4]
          · simp [hz]
  · left
    have hRs : R = (T.1, [], 0) := by rw [← hR]; exact run_stop (by simp [stops, t1, hq]) _
    have hf : feed fld D0 s = (T.1, [], 0, false, T.1.err) := by
      unfold feed; rw [if_neg (by simp [h0]), e2, hRs, if_pos (by rw [t1]; exact hq)]
    have hb : feed fld (run fld D0 (s.take i)).1 [x] = (Q.1, [], 0, false, Q.1.err) := by
      unfold feed; rw [if_neg (by simp [he]), hP, if_pos hq]
    rw [hf, hb, t1]
    exact ⟨hq, rfl, rfl, rfl⟩
theorem pieces_end {D0 : DS} {s : List UInt8} (h0 : D0.err = 0) (he : (run fld D0 s).1.err = 0) : (feed fld D0 s).2.1 = (run fld D0 s).2.1 ∧ (feed fld D0 s).2.2.1 = (run fld D0 s).2.2 ∧ (feed fld D0 s).2.2.2.2 = 0 := by
  unfold feed
  rw [if_neg (by simp [h0]), if_neg (by simp [he])]
  exact ⟨rfl, rfl, rfl⟩
theorem feed_facts {D : DS} (h : Ok D) (l : List UInt8) : Ok (feed fld D l).1 ∧ (feed fld D l).1.most = D.most ∧ D.size + (feed fld D l).2.1.length ≤ (feed fld D l).1.size ∧ (feed fld D l).2.1.length ≤ (feed fld D l).2.2.1 ∧ (feed fld D l).2.2.1 ≤ l.length ∧ ((feed fld D l).2.2.2.2 ≠ 0 → (feed fld D l).2.1 = []) := by
  have hr := run_ok (fld := fld) l h
  have hl := run_le (fld := fld) l D
  have ho := run_out (fld := fld) l D
  unfold feed
  split
  · exact ⟨h, rfl, by simp, Nat.le_refl _, Nat.zero_le _, fun _ => rfl⟩
  · split
    · exact ⟨hr.1, hr.2.1, by simp only [List.length_nil]; have := hr.2.2; omega, Nat.le_refl _, Nat.zero_le _, fun _ => rfl⟩
    · exact ⟨hr.1, hr.2.1, by simp only; have := hr.2.2; omega, ho, hl, fun h => absurd rfl h⟩
end Go.ChunkM
namespace Go.ChunkM
variable {fld : List UInt8 → Bool}
theorem back_feed (ts : List (List UInt8)) (tail : List UInt8) (h : ∀ t ∈ ts, t.length < 16 ^ 7) :
    ∃ D', feed fld (rdy ts.flatten.length 0 0) ((ts.map encT).flatten ++ [48, 13, 10, 13, 10] ++ tail) = (D', ts.flatten, (ts.map encT).flatten.length + 5, true, 0) := by
  obtain ⟨lf, hr⟩ := run_texts (fld := fld) ts ([48, 13, 10, 13, 10] ++ tail) ts.flatten.length 0 0 h (by omega)
  rw [show ([48, 13, 10, 13, 10] ++ tail : List UInt8) = 48 :: 13 :: 10 :: 13 :: 10 :: tail from rfl, run_last] at hr
  refine ⟨⟨ts.flatten.length, 0 + ts.flatten.length, 4, lf, [], false, 0, 0⟩, ?_⟩
  unfold feed
  rw [if_neg (by simp [rdy]), List.append_assoc, show ([48, 13, 10, 13, 10] ++ tail : List UInt8) = 48 :: 13 :: 10 :: 13 :: 10 :: tail from rfl, hr, if_neg (by simp)]
  simp
theorem over_feed (ts : List (List UInt8)) (h : ∀ t ∈ ts, t.length < 16 ^ 7) (hp : 0 < ts.flatten.length) :
    ∃ D', feed fld (rdy ((ts.flatten.length : Int) - 1) 0 0) ((ts.map encT).flatten ++ [48, 13, 10, 13, 10]) = (D', [], 0, false, 101) := by
  have hr := texts_over (fld := fld) ts [48, 13, 10, 13, 10] ((ts.flatten.length : Int) - 1) 0 0 h (by omega) (by omega)
  refine ⟨(run fld (rdy ((ts.flatten.length : Int) - 1) 0 0) ((ts.map encT).flatten ++ [48, 13, 10, 13, 10])).1, ?_⟩
  unfold feed
  rw [if_neg (by simp [rdy]), if_pos (by rw [hr]; decide), hr]
theorem encT_le {t : List UInt8} (h : t.length < 16 ^ 7) : (encT t).length ≤ 13 * t.length := by
  unfold encT
  split
  · exact Nat.zero_le _
  · rename_i h0
    have := hexE_len 7 _ h
    have := List.length_pos_iff.2 h0
    simp only [List.length_append, List.length_cons, List.length_nil]
    omega
theorem encs_le : ∀ {ts : List (List UInt8)}, (∀ t ∈ ts, t.length < 16 ^ 7) → (ts.map encT).flatten.length ≤ 13 * ts.flatten.length
  | [], _ => by simp
  | t :: ts, h => by
    have h1 := encT_le (h t List.mem_cons_self)
    have h2 := encs_le fun x hx => h x (List.mem_cons_of_mem t hx)
    simp only [List.map_cons, List.flatten_cons, List.length_append]
    omega
end Go.ChunkM

/- Chunks that are dressed: noughts, extensions, trailers. Conditions: none. -/
namespace Go.StrM
open Go.ChunkM
def isBl (c : UInt8) : Bool := ([32, 9] : List UInt8).contains c
theorem isBl_iff (c : UInt8) : isBl c = true ↔ c.toNat = 32 ∨ c.toNat = 9 := by
  unfold isBl
  rw [List.contains_iff_mem]
  simp only [List.mem_cons, List.not_mem_nil, or_false, ← UInt8.toNat_inj]
  rfl
abbrev trR (l : List UInt8) : List UInt8 := (l.reverse.dropWhile isBl).reverse
theorem trim_eq (l : List UInt8) : trim l = (trR l).dropWhile isBl := rfl
theorem trR_snoc (l : List UInt8) (c : UInt8) : trR (l ++ [c]) = if isBl c then trR l else l ++ [c] := by
  unfold trR
  rw [List.reverse_append, List.reverse_cons, List.reverse_nil, List.nil_append, List.singleton_append, List.dropWhile_cons]
  split
  · rfl
  · simp
theorem trR_ends (l : List UInt8) : trR l = [] ∨ ∃ m c, trR l = m ++ [c] ∧ isBl c = false := by
  unfold trR
  cases h : l.reverse.dropWhile isBl with
  | nil => left; rfl
  | cons c m =>
    right
    refine ⟨m.reverse, c, by simp, ?_⟩
    have := List.head?_dropWhile_not (p := isBl) (l := l.reverse)
    rw [h] at this
    simpa using this
theorem trR_self {m : List UInt8} {c : UInt8} (h : isBl c = false) : trR (m ++ [c]) = m ++ [c] := by rw [trR_snoc, h]; rfl
theorem dw_snoc {m : List UInt8} {c : UInt8} (h : isBl c = false) : ∃ m', (m ++ [c]).dropWhile isBl = m' ++ [c] := by
  induction m with
  | nil => exact ⟨[], by simp [h]⟩
  | cons x m ih =>
    rw [List.cons_append, List.dropWhile_cons]
    split
    · exact ih
    · exact ⟨x :: m, rfl⟩
theorem dw_idem (l : List UInt8) : (l.dropWhile isBl).dropWhile isBl = l.dropWhile isBl := by
  induction l with
  | nil => rfl
  | cons x l ih =>
    rw [List.dropWhile_cons]
    split
    · exact ih
    · rename_i h; rw [List.dropWhile_cons, if_neg h]
theorem trim_idem (l : List UInt8) : trim (trim l) = trim l := by
  rw [trim_eq, trim_eq]
  rcases trR_ends l with h | ⟨m, c, h, hc⟩
  · rw [h]; rfl
  · rw [h]
    obtain ⟨m', h'⟩ := dw_snoc (m := m) hc
    have h2 := dw_idem (m ++ [c])
    rw [h'] at h2 ⊢
    rw [trR_self hc, h2]
theorem trR_consR (x : UInt8) : ∀ r : List UInt8, trR (x :: r.reverse) = if trR r.reverse = [] then (if isBl x then [] else [x]) else x :: trR r.reverse
  | [] => by
    have : trR ([] : List UInt8).reverse = [] := rfl
    rw [if_pos this, show x :: ([] : List UInt8).reverse = [] ++ [x] from rfl, trR_snoc]; rfl
  | c :: r => by
    rw [List.reverse_cons, ← List.cons_append, trR_snoc, trR_snoc]
    by_cases hc : isBl c = true
    · simp only [hc, if_true]; exact trR_consR x r
    · simp only [hc, if_false, Bool.false_eq_true]
      simp
theorem trR_cons (l : List UInt8) (x : UInt8) : trR (x :: l) = if trR l = [] then (if isBl x then [] else [x]) else x :: trR l := by
  have := trR_consR x l.reverse
  rwa [List.reverse_reverse] at this
theorem trim_blank (l : List UInt8) : trim (32 :: l) = trim l := by
  rw [trim_eq, trim_eq, trR_cons]
  split
  · rename_i h; rw [h]; rfl
  · rfl
theorem trim_mem {l : List UInt8} {c : UInt8} (h : c ∈ trim l) : c ∈ l := by
  rw [trim_eq] at h
  have h1 := (List.dropWhile_sublist isBl).subset h
  have h2 := (List.dropWhile_sublist isBl).subset (List.mem_reverse.1 h1)
  exact List.mem_reverse.1 h2
/-- A trailer of text. -/
theorem field_tl {e : List UInt8} (h : ∀ c ∈ e, extB c = true) : fieldOk ([84, 58, 32] ++ trim e) = true := by
  have e1 : before 58 ([84, 58, 32] ++ trim e) = [84] := rfl
  have e2 : behind 58 ([84, 58, 32] ++ trim e) = 32 :: trim e := rfl
  have hp : fieldP ([84, 58, 32] ++ trim e) := by
    unfold fieldP
    rw [e1, e2, trim_blank, trim_idem]
    refine ⟨by simp, by decide, fun c hc => ?_, trim_idem e⟩
    have := h c (trim_mem hc)
    simp only [extB, decide_eq_true_eq] at this
    simp only [valB, decide_eq_true_eq]; omega
  simpa [fieldOk] using hp
end Go.StrM
namespace Go.ChunkM
open Go.StrM
def dress (z : Nat) (e t : List UInt8) : List UInt8 := List.replicate z 48 ++ hexE t.length ++ 59 :: e ++ 13 :: 10 :: (t ++ [13, 10])
theorem run_dressed {z : Nat} {e : List UInt8} (hz : z ≤ 4) (he : ∀ c ∈ e, extB c = true) (hl : e.length ≤ 40) : ∀ (ts : List (List UInt8)) (rest : List UInt8) (m s lf : Int), (∀ t ∈ ts, t ≠ [] ∧ t.length ≤ 4095) → s + ts.flatten.length ≤ m →
    ∃ lf', run fieldOk (rdy m s lf) ((ts.map (dress z e)).flatten ++ rest) = ((run fieldOk (rdy m (s + ts.flatten.length) lf') rest).1, ts.flatten ++ (run fieldOk (rdy m (s + ts.flatten.length) lf') rest).2.1, (ts.map (dress z e)).flatten.length + (run fieldOk (rdy m (s + ts.flatten.length) lf') rest).2.2)
  | [], rest, m, s, lf, _, _ => ⟨lf, by simp⟩
  | t :: ts, rest, m, s, lf, hs, hm => by
    simp only [List.map_cons, List.flatten_cons, List.length_append] at hm ⊢
    obtain ⟨h0, ht⟩ := hs t List.mem_cons_self
    have hl0 : t.length ≠ 0 := fun h => h0 (List.length_eq_zero_iff.1 h)
    obtain ⟨lf', ih⟩ := run_dressed hz he hl ts rest m (s + t.length) 0 (fun x hx => hs x (List.mem_cons_of_mem _ hx)) (by omega)
    refine ⟨lf', ?_⟩
    have hlen := hexE_len 3 t.length (by omega)
    obtain ⟨c1, c2, _, _⟩ := line_hex (z := z) (e := e) hl0 (by omega : t.length < 16 ^ 7) (by omega)
    have hno : ∀ c ∈ List.replicate z 48 ++ hexE t.length ++ 59 :: e, c ≠ 10 ∧ c ≠ 13 := by
      intro c hc
      rcases List.mem_append.1 hc with hc | hc
      · rcases List.mem_append.1 hc with hc | hc
        · rw [List.eq_of_mem_replicate hc]; decide
        · exact ⟨(hexE_plain _ c hc).1, (hexE_plain _ c hc).2.1⟩
      · rcases List.mem_cons.1 hc with rfl | hc
        · decide
        · have := he c hc
          simp only [extB, decide_eq_true_eq] at this
          refine ⟨fun h => ?_, fun h => ?_⟩ <;> subst h <;> revert this <;> decide
    have h1 := run_chunk (fld := fieldOk) (List.replicate z 48 ++ hexE t.length ++ 59 :: e) t ((ts.map (dress z e)).flatten ++ rest) (m := m) (s := s) (lf := lf) hno (by simp only [List.length_append, List.length_replicate, List.length_cons]; omega) c1 (by rw [c2, List.all_eq_true]; exact he) h0 (by omega)
    have e1 : dress z e t ++ (ts.map (dress z e)).flatten ++ rest = List.replicate z 48 ++ hexE t.length ++ 59 :: e ++ 13 :: 10 :: (t ++ 13 :: 10 :: ((ts.map (dress z e)).flatten ++ rest)) := by simp [dress]
    rw [e1, h1, ih]
    have e2 : (dress z e t).length = (List.replicate z 48 ++ hexE t.length ++ 59 :: e).length + t.length + 4 := by simp only [dress, List.length_append, List.length_cons, List.length_nil]; omega
    simp only [List.append_assoc, e2, Int.natCast_add, ← Int.add_assoc]
    congr 2
    simp only [List.length_append, List.length_cons]
    omega
/-- The last chunk's line. -/
theorem run_zero (rest : List UInt8) (m s lf : Int) : run fieldOk (rdy m s lf) (48 :: 13 :: 10 :: rest) = ((run fieldOk ⟨m, s, 3, lf, [], false, 0, 0⟩ rest).1, (run fieldOk ⟨m, s, 3, lf, [], false, 0, 0⟩ rest).2.1, 3 + (run fieldOk ⟨m, s, 3, lf, [], false, 0, 0⟩ rest).2.2) := by
  have h1 := run_line (fld := fieldOk) [48] (rdy m s lf) rest (by simp [rdy]) (by simp [rdy]) rfl rfl rfl (by simp) (show (1 : Nat) ≤ 64 by decide)
  have e1 : whole fieldOk (rdy m s lf) [48] = ({ rdy m s lf with state := 3 }, 0) := by
    have a1 : hexOf (before 59 [48]) 8 = some 0 := by decide
    have a2 : behind 59 [48] = [] := by decide
    simp [whole, rdy, sized, a1, a2]
  rw [e1] at h1
  exact h1
theorem run_trail {l : List UInt8} (hf : fieldOk l = true) (h0 : l ≠ []) (hno : ∀ c ∈ l, c ≠ 10 ∧ c ≠ 13) (hl : l.length ≤ 512) (m s lf : Int) : ∀ (k j : Nat) (rest : List UInt8), j + k ≤ 32 →
    run fieldOk ⟨m, s, 3, lf, [], false, j, 0⟩ ((List.replicate k (l ++ [13, 10])).flatten ++ rest) = ((run fieldOk ⟨m, s, 3, lf, [], false, (j + k : Nat), 0⟩ rest).1, (run fieldOk ⟨m, s, 3, lf, [], false, (j + k : Nat), 0⟩ rest).2.1, (List.replicate k (l ++ [13, 10])).flatten.length + (run fieldOk ⟨m, s, 3, lf, [], false, (j + k : Nat), 0⟩ rest).2.2)
  | 0, j, rest, _ => by simp
  | k + 1, j, rest, hj => by
    have h1 := run_line (fld := fieldOk) l ⟨m, s, 3, lf, [], false, j, 0⟩ ((List.replicate k (l ++ [13, 10])).flatten ++ rest) (by simp) (by simp) rfl rfl rfl hno hl
    have e1 : whole fieldOk ⟨m, s, 3, lf, [], false, j, 0⟩ l = (⟨m, s, 3, lf, [], false, (j + 1 : Nat), 0⟩, 0) := by
      have : ¬ (fieldOk l = false ∨ (32 : Int) < (j : Int) + 1) := by
        rintro (h | h)
        · rw [hf] at h; cases h
        · omega
      simp [whole, h0, this]
    rw [e1] at h1
    have ih := run_trail hf h0 hno hl m s lf k (j + 1) rest (by omega)
    rw [List.replicate_succ, List.flatten_cons]
    have e2 : l ++ [13, 10] ++ (List.replicate k (l ++ [13, 10])).flatten ++ rest = l ++ 13 :: 10 :: ((List.replicate k (l ++ [13, 10])).flatten ++ rest) := by simp
    rw [e2, h1]
    dsimp only
    rw [ih, show j + 1 + k = j + (k + 1) by omega]
    congr 2
    simp only [List.length_append, List.length_cons, List.length_nil]
    omega
theorem dressed_feed {z k : Nat} {e : List UInt8} (hz : z ≤ 4) (he : ∀ c ∈ e, extB c = true) (hl : e.length ≤ 40) (hk : k ≤ 32) (ts : List (List UInt8)) (hs : ∀ t ∈ ts, t ≠ [] ∧ t.length ≤ 4095) :
    ∃ lf, feed fieldOk (rdy ts.flatten.length 0 0) ((ts.map (dress z e)).flatten ++ [48, 13, 10] ++ (List.replicate k ([84, 58, 32] ++ trim e ++ [13, 10])).flatten ++ [13, 10]) =
      (⟨ts.flatten.length, ts.flatten.length, 4, lf, [], false, k, 0⟩, ts.flatten, ((ts.map (dress z e)).flatten ++ [48, 13, 10] ++ (List.replicate k ([84, 58, 32] ++ trim e ++ [13, 10])).flatten).length + 2, true, 0) := by
  obtain ⟨lf, hr⟩ := run_dressed hz he hl ts ([48, 13, 10] ++ (List.replicate k ([84, 58, 32] ++ trim e ++ [13, 10])).flatten ++ [13, 10]) ts.flatten.length 0 0 hs (by omega)
  refine ⟨lf, ?_⟩
  have htl := trim_le e
  have hno : ∀ c ∈ [84, 58, 32] ++ trim e, c ≠ 10 ∧ c ≠ 13 := by
    intro c hc
    rcases List.mem_append.1 hc with hc | hc
    · simp only [List.mem_cons, List.not_mem_nil, or_false] at hc
      rcases hc with rfl | rfl | rfl <;> decide
    · have := he c (trim_mem hc)
      simp only [extB, decide_eq_true_eq] at this
      refine ⟨fun h => ?_, fun h => ?_⟩ <;> subst h <;> revert this <;> decide
  have h2 := run_zero ((List.replicate k ([84, 58, 32] ++ trim e ++ [13, 10])).flatten ++ [13, 10]) ts.flatten.length (0 + ts.flatten.length) lf
  have h3 := run_trail (field_tl he) (by simp) hno (by simp only [List.length_append, List.length_cons, List.length_nil]; omega) ts.flatten.length (0 + ts.flatten.length) lf k 0 [13, 10] (by omega)
  have h4 := run_line (fld := fieldOk) [] ⟨ts.flatten.length, 0 + ts.flatten.length, 3, lf, [], false, (0 + k : Nat), 0⟩ [] (by simp) (by simp) rfl rfl rfl (fun _ h => by cases h) (Nat.zero_le _)
  have e4 : whole fieldOk ⟨ts.flatten.length, 0 + ts.flatten.length, 3, lf, [], false, (0 + k : Nat), 0⟩ [] = (⟨ts.flatten.length, 0 + ts.flatten.length, 4, lf, [], false, (0 + k : Nat), 0⟩, 0) := by simp [whole]
  rw [e4] at h4
  have h4' : run fieldOk ⟨ts.flatten.length, 0 + ts.flatten.length, 3, lf, [], false, (0 + k : Nat), 0⟩ [13, 10] = (⟨ts.flatten.length, 0 + ts.flatten.length, 4, lf, [], false, (0 + k : Nat), 0⟩, [], 2) := h4
  simp only [Int.natCast_zero] at h3
  rw [h4'] at h3
  rw [h3] at h2
  have e5 : [48, 13, 10] ++ (List.replicate k ([84, 58, 32] ++ trim e ++ [13, 10])).flatten ++ [13, 10] = 48 :: 13 :: 10 :: ((List.replicate k ([84, 58, 32] ++ trim e ++ [13, 10])).flatten ++ [13, 10]) := rfl
  rw [e5, h2] at hr
  have e6 : (ts.map (dress z e)).flatten ++ [48, 13, 10] ++ (List.replicate k ([84, 58, 32] ++ trim e ++ [13, 10])).flatten ++ [13, 10] = (ts.map (dress z e)).flatten ++ 48 :: 13 :: 10 :: ((List.replicate k ([84, 58, 32] ++ trim e ++ [13, 10])).flatten ++ [13, 10]) := by simp
  unfold feed
  rw [if_neg (by simp [rdy]), e6, hr, if_neg (by simp)]
  simp
  omega
end Go.ChunkM
namespace Go.StrM
theorem trim_cut {l : List UInt8} {i k : Nat} (hik : i ≤ k) (hk : k ≤ l.length) (h1 : ∀ (j : Nat) c, j < i → l[j]? = some c → isBl c = true) (h2 : ∀ (j : Nat) c, k ≤ j → l[j]? = some c → isBl c = true)
    (h3 : i < k → (∀ c, l[i]? = some c → isBl c = false) ∧ ∀ c, l[k - 1]? = some c → isBl c = false) : (l.drop i).take (k - i) = trim l := by
  by_cases h : i < k
  · obtain ⟨g1, g2⟩ := h3 h
    have e1 : Lib.trimRightS l [32, 9] = l.take k := Lib.trimRightS_take l [32, 9] k hk h2 (fun b _ hb => g2 b hb)
    have e2 : Lib.trimLeftS (l.take k) [32, 9] = (l.take k).drop i := Lib.trimLeftS_drop (l.take k) [32, 9] i (by rw [List.length_take]; omega)
      (fun j b hj hb => h1 j b hj (by rw [List.getElem?_take, if_pos (by omega)] at hb; exact hb)) (fun b hb => g1 b (by rw [List.getElem?_take, if_pos h] at hb; exact hb))
    unfold trim Lib.trimS
    rw [e1, e2, List.drop_take]
  · have e0 : i = k := by omega
    subst e0
    have e1 : Lib.trimRightS l [32, 9] = l.take 0 := Lib.trimRightS_take l [32, 9] 0 (Nat.zero_le _) (fun j b _ hb => by
      rcases Nat.lt_or_ge j i with hj | hj
      · exact h1 j b hj hb
      · exact h2 j b hj hb) (fun b hb => absurd hb (Nat.lt_irrefl _))
    unfold trim Lib.trimS
    rw [e1, Nat.sub_self, List.take_zero, List.take_zero]; rfl
end Go.StrM

/- Texts without their case, lists cut at commas, in plain Lean. Conditions: none. -/
namespace Go.EmitM
open Go.ChunkM Go.StrM
def upB (c : UInt8) : Bool := decide (65 ≤ c.toNat ∧ c.toNat ≤ 90)
def lowB (c : UInt8) : UInt8 := if upB c then c ||| 32 else c
def low (l : List UInt8) : List UInt8 := l.map lowB
theorem lowB_up {c : UInt8} (h1 : 65 ≤ c.toNat) (h2 : c.toNat ≤ 90) : lowB c = c ||| 32 := by simp [lowB, upB, h1, h2]
theorem lowB_not {c : UInt8} (h : ¬ (65 ≤ c.toNat ∧ c.toNat ≤ 90)) : lowB c = c := by simp [lowB, upB, h]
theorem or32 : ∀ n : Nat, n < 256 → 65 ≤ n → n ≤ 90 → n ||| 32 = n + 32 := by decide +kernel
theorem lowB_toNat {c : UInt8} (h1 : 65 ≤ c.toNat) (h2 : c.toNat ≤ 90) : (lowB c).toNat = c.toNat + 32 := by
  rw [lowB_up h1 h2, UInt8.toNat_or]
  exact or32 c.toNat c.toNat_lt h1 h2
theorem low_length (l : List UInt8) : (low l).length = l.length := List.length_map ..
theorem low_append (a b : List UInt8) : low (a ++ b) = low a ++ low b := List.map_append ..
def alike (a b : List UInt8) : Bool := decide (low a = low b)
theorem alike_len {a b : List UInt8} (h : alike a b = true) : a.length = b.length := by
  have := congrArg List.length (of_decide_eq_true h)
  simpa [low_length] using this
theorem alike_iff {a b : List UInt8} : alike a b = true ↔ low a = low b := by simp [alike]
theorem alike_comm (a b : List UInt8) : alike a b = alike b a := by simp [alike, eq_comm]
/-- A text cut at each c. -/
def pieces (c : UInt8) : List UInt8 → List (List UInt8)
  | [] => [[]]
  | x :: l => if x = c then [] :: pieces c l else match pieces c l with
    | p :: ps => (x :: p) :: ps
    | [] => [[x]]
theorem pieces_in {c : UInt8} : ∀ {l : List UInt8}, c ∈ l → pieces c l = before c l :: pieces c (behind c l)
  | [], h => by cases h
  | x :: l, h => by
    by_cases hx : x = c
    · subst hx; simp [pieces, before, behind]
    · have hm : c ∈ l := by rcases List.mem_cons.1 h with h | h; exact absurd h.symm hx; exact h
      have e1 : before c (x :: l) = x :: before c l := by simp [before, hx]
      have e2 : behind c (x :: l) = behind c l := by simp [behind, hx]
      rw [e1, e2, pieces, if_neg hx, pieces_in hm]
theorem pieces_not {c : UInt8} : ∀ {l : List UInt8}, c ∉ l → pieces c l = [l]
  | [], _ => rfl
  | x :: l, h => by
    have hx : x ≠ c := fun e => h (by subst e; exact List.mem_cons_self)
    rw [pieces, if_neg hx, pieces_not fun hm => h (List.mem_cons_of_mem _ hm)]
theorem pieces_count (c : UInt8) : ∀ l : List UInt8, (pieces c l).length = l.count c + 1
  | [] => rfl
  | x :: l => by
    have ih := pieces_count c l
    rw [pieces]
    by_cases hx : x = c
    · subst hx; simp [ih]
    · rw [if_neg hx, List.count_cons_of_ne hx]
      revert ih
      cases pieces c l with
      | nil => intro ih; simp at ih
      | cons p ps => intro ih; simpa using ih
theorem pieces_pos (c : UInt8) (l : List UInt8) : 0 < (pieces c l).length := by rw [pieces_count]; omega
theorem pieces_sum (c : UInt8) : ∀ l : List UInt8, (pieces c l).flatten.length ≤ l.length
  | [] => by simp [pieces]
  | x :: l => by
    have ih := pieces_sum c l
    rw [pieces]
    by_cases hx : x = c
    · simp only [hx, if_true, List.flatten_cons, List.length_append, List.length_nil, List.length_cons]; omega
    · rw [if_neg hx]
      revert ih
      cases pieces c l with
      | nil => intro ih; simp
      | cons p ps => intro ih; simp only [List.flatten_cons, List.length_append, List.length_cons] at ih ⊢; omega
/-- The elements of a list. -/
def elemsOf (ps : List (List UInt8)) : List (List UInt8) := (ps.map trim).filter (fun p => decide (p ≠ []))
def elems (l : List UInt8) : List (List UInt8) := elemsOf (pieces 44 l)
theorem elemsOf_append (a b : List (List UInt8)) : elemsOf (a ++ b) = elemsOf a ++ elemsOf b := by simp [elemsOf]
theorem elemsOf_one (p : List UInt8) : elemsOf [p] = if trim p = [] then [] else [trim p] := by
  by_cases h : trim p = [] <;> simp [elemsOf, h]
theorem elemsOf_len (ps : List (List UInt8)) : (elemsOf ps).length ≤ ps.length := by
  unfold elemsOf
  exact Nat.le_trans (List.length_filter_le _ _) (by rw [List.length_map]; exact Nat.le_refl _)
theorem elemsOf_sum : ∀ ps : List (List UInt8), (elemsOf ps).flatten.length ≤ ps.flatten.length
  | [] => by simp [elemsOf]
  | p :: ps => by
    have ih := elemsOf_sum ps
    have h1 : elemsOf (p :: ps) = elemsOf [p] ++ elemsOf ps := by rw [← elemsOf_append]; rfl
    have h2 := trim_le p
    rw [h1, elemsOf_one, List.flatten_append, List.length_append, List.flatten_cons, List.length_append]
    split <;> simp only [List.flatten_nil, List.length_nil, List.flatten_cons, List.length_append] <;> omega
theorem elems_len (l : List UInt8) : (elems l).length ≤ l.length + 1 := Nat.le_trans (elemsOf_len _) (by rw [pieces_count]; have := List.count_le_length (a := (44 : UInt8)) (l := l); omega)
theorem elems_sum (l : List UInt8) : (elems l).flatten.length ≤ l.length := Nat.le_trans (elemsOf_sum _) (pieces_sum _ _)
/-- An element is not empty. -/
theorem elems_ne {l e : List UInt8} (h : e ∈ elems l) : e ≠ [] := by
  have := (List.mem_filter.1 h).2
  simpa using this
/-- A header's fields. -/
abbrev Fld := List UInt8 × List UInt8
def values (fs : List Fld) (n : List UInt8) : List (List UInt8) := (fs.filter (fun f => alike f.1 n)).map (·.2)
def elemsF (fs : List Fld) (n : List UInt8) : List (List UInt8) := (values fs n).flatMap elems
def has (fs : List Fld) (n e : List UInt8) : Bool := (elemsF fs n).any fun x => alike x e
def remove (fs : List Fld) (n : List UInt8) : List Fld := fs.filter (fun f => !alike f.1 n)
def fixed : List (List UInt8) := [[67, 111, 110, 110, 101, 99, 116, 105, 111, 110], [75, 101, 101, 112, 45, 65, 108, 105, 118, 101], [80, 114, 111, 120, 121, 45, 67, 111, 110, 110, 101, 99, 116, 105, 111, 110], [84, 69], [84, 114, 97, 105, 108, 101, 114], [84, 114, 97, 110, 115, 102, 101, 114, 45, 69, 110, 99, 111, 100, 105, 110, 103], [85, 112, 103, 114, 97, 100, 101]]
def oneP (fs : List Fld) (n : List UInt8) : Bool := fixed.any (fun x => alike x n) || has fs [67, 111, 110, 110, 101, 99, 116, 105, 111, 110] n
def strip (fs : List Fld) : List Fld := fs.filter (fun f => !oneP fs f.1)
end Go.EmitM

/- Fields that concern one connection alone: name after name left out, in plain Lean. Conditions: none. -/
namespace Go.EmitM
open Go.ChunkM Go.StrM
/-- The names that are left out. -/
def names (fs : List Fld) : List (List UInt8) := fixed ++ elemsF fs [67, 111, 110, 110, 101, 99, 116, 105, 111, 110]
def strips : List (List UInt8) → List Fld → List Fld
  | [], fs => fs
  | n :: ns, fs => strips ns (remove fs n)
theorem strips_eq : ∀ (ns : List (List UInt8)) (fs : List Fld), strips ns fs = fs.filter fun f => !ns.any fun n => alike f.1 n
  | [], fs => by rw [strips]; exact (List.filter_eq_self.2 fun _ _ => rfl).symm
  | n :: ns, fs => by
    rw [strips, strips_eq ns, remove, List.filter_filter]
    congr 1
    funext f
    simp [List.any_cons, Bool.and_comm]
theorem strip_eq (fs : List Fld) : strips (names fs) fs = strip fs := by
  rw [strips_eq, strip]
  congr 1
  funext f
  unfold names oneP has
  rw [List.any_append]
  congr 3 <;> funext x <;> exact alike_comm _ _
end Go.EmitM
