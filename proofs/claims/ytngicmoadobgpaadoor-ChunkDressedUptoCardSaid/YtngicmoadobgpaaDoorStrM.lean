/- Small pieces of texts, in plain Lean: cutting, blanks, tokens, values. Conditions: none. -/
import Derived.Test.YtngicmoadobgpaaDoorChunkM
import Derived.Lib.Bytealg
import Derived.Lib.SlTrimSet
namespace Go.StrM
open Go.ChunkM
theorem before_append (c : UInt8) : ∀ l : List UInt8, c ∈ l → l = before c l ++ c :: behind c l
  | [], h => by cases h
  | x :: l, h => by
    by_cases hx : x = c
    · subst hx; simp [before, behind]
    · have hm : c ∈ l := by rcases List.mem_cons.1 h with h | h; exact absurd h.symm hx; exact h
      have ih := before_append c l hm
      have e1 : before c (x :: l) = x :: before c l := by simp [before, hx]
      have e2 : behind c (x :: l) = behind c l := by simp [behind, hx]
      rw [e1, e2, List.cons_append, ← ih]
theorem before_not (c : UInt8) : ∀ l : List UInt8, c ∉ l → before c l = l ∧ behind c l = []
  | [], _ => ⟨rfl, rfl⟩
  | x :: l, h => by
    have hx : x ≠ c := fun e => h (by subst e; exact List.mem_cons_self)
    have ih := before_not c l fun hm => h (List.mem_cons_of_mem _ hm)
    refine ⟨?_, ?_⟩
    · have : before c (x :: l) = x :: before c l := by simp [before, hx]
      rw [this, ih.1]
    · have : behind c (x :: l) = behind c l := by simp [behind, hx]
      rw [this, ih.2]
theorem before_no (c : UInt8) (l : List UInt8) : c ∉ before c l := fun h => by
  induction l with
  | nil => cases h
  | cons x l ih =>
    by_cases hx : x = c
    · subst hx; simp [before] at h
    · have e1 : before c (x :: l) = x :: before c l := by simp [before, hx]
      rw [e1] at h
      rcases List.mem_cons.1 h with h | h
      · exact hx h.symm
      · exact ih h
theorem idx_in (c : UInt8) : ∀ l : List UInt8, c ∈ l → Lib.indexByte l c = (before c l).length
  | [], h => by cases h
  | x :: l, h => by
    by_cases hx : x = c
    · subst hx; simp [Lib.indexByte, before]
    · have hm : c ∈ l := by rcases List.mem_cons.1 h with h | h; exact absurd h.symm hx; exact h
      have ih := idx_in c l hm
      have e1 : before c (x :: l) = x :: before c l := by simp [before, hx]
      have hb : (x == c) = false := by simpa using hx
      have hn : (Lib.indexByte l c == -1) = false := by rw [ih]; simp
      rw [Lib.indexByte, hb, hn, e1, ih]; simp
theorem idx_not (c : UInt8) : ∀ l : List UInt8, c ∉ l → Lib.indexByte l c = -1
  | [], _ => rfl
  | x :: l, h => by
    have hx : x ≠ c := fun e => h (by subst e; exact List.mem_cons_self)
    have ih := idx_not c l fun hm => h (List.mem_cons_of_mem _ hm)
    have hb : (x == c) = false := by simpa using hx
    rw [Lib.indexByte, hb, ih]; rfl
theorem take_before {c : UInt8} {l : List UInt8} (h : c ∈ l) : l.take (before c l).length = before c l := by
  have e := before_append c l h
  have : (before c l ++ c :: behind c l).take (before c l).length = before c l := List.take_left
  rw [← e] at this; exact this
theorem drop_before {c : UInt8} {l : List UInt8} (h : c ∈ l) : l.drop ((before c l).length + 1) = behind c l := by
  have e := before_append c l h
  have : (before c l ++ c :: behind c l).drop ((before c l).length + 1) = behind c l := by
    rw [← List.drop_drop, List.drop_left]; rfl
  rw [← e] at this; exact this
theorem len_before {c : UInt8} {l : List UInt8} (h : c ∈ l) : (before c l).length + 1 + (behind c l).length = l.length := by
  have e := congrArg List.length (before_append c l h)
  simp only [List.length_append, List.length_cons] at e; omega
/-! ### kinds of bytes -/
def isDig (c : UInt8) : Bool := decide (48 ≤ c.toNat ∧ c.toNat ≤ 57)
def isLet (c : UInt8) : Bool := decide (97 ≤ c.toNat ∧ c.toNat ≤ 122 ∨ 65 ≤ c.toNat ∧ c.toNat ≤ 90)
def marks : List UInt8 := [33, 35, 36, 37, 38, 39, 42, 43, 45, 46, 94, 95, 124, 126, 96]
def tokB (c : UInt8) : Bool := isLet c || isDig c || marks.contains c
def valB (c : UInt8) : Bool := decide (c.toNat = 9 ∨ 32 ≤ c.toNat ∧ c.toNat ≠ 127)
def tokenP (l : List UInt8) : Prop := l ≠ [] ∧ ∀ c ∈ l, tokB c = true
abbrev trim (l : List UInt8) : List UInt8 := Lib.trimS l [32, 9]
def valueP (l : List UInt8) : Prop := (∀ c ∈ l, valB c = true) ∧ trim l = l
/-- Is a line a field? -/
def fieldP (l : List UInt8) : Prop := 58 ∈ l ∧ tokenP (before 58 l) ∧ valueP (trim (behind 58 l))
instance (l : List UInt8) : Decidable (tokenP l) := by unfold tokenP; infer_instance
instance (l : List UInt8) : Decidable (valueP l) := by unfold valueP; infer_instance
instance (l : List UInt8) : Decidable (fieldP l) := by unfold fieldP; infer_instance
def fieldOk (l : List UInt8) : Bool := decide (fieldP l)
theorem trim_le (l : List UInt8) : (trim l).length ≤ l.length := by
  have dl : ∀ (p : UInt8 → Bool) (l : List UInt8), (l.dropWhile p).length ≤ l.length := fun p l => (List.dropWhile_sublist p).length_le
  unfold trim Lib.trimS Lib.trimLeftS Lib.trimRightS
  refine Nat.le_trans (dl _ _) ?_
  rw [List.length_reverse]
  exact Nat.le_trans (dl _ _) (by simp)
/-! ### numbers in the base of sixteen -/
theorem hexDig_lt {c : UInt8} {d : Nat} (h : hexDig c = some d) : d < 16 := by
  unfold hexDig at h
  split at h
  · injection h; omega
  · split at h
    · injection h; omega
    · cases h
theorem hexGo_some : ∀ (l : List UInt8) (n k : Nat), n < 16 ^ k → ∀ r, hexGo l n = some r → r < 16 ^ (k + l.length)
  | [], n, k, h, r, hr => by injection hr with hr; subst hr; exact h
  | c :: l, n, k, h, r, hr => by
    simp only [hexGo] at hr
    cases hd : hexDig c with
    | none => rw [hd] at hr; cases hr
    | some d =>
      rw [hd] at hr
      have := hexDig_lt hd
      have h2 := hexGo_some l (n * 16 + d) (k + 1) (by rw [Nat.pow_succ]; omega) r hr
      rw [List.length_cons, show k + (l.length + 1) = k + 1 + l.length by omega]; exact h2
end Go.StrM
namespace Go.StrM
open Go.ChunkM
theorem before_le (c : UInt8) (l : List UInt8) : (before c l).length ≤ l.length := (List.takeWhile_sublist _).length_le
theorem behind_le (c : UInt8) (l : List UInt8) : (behind c l).length ≤ l.length := by
  unfold behind
  rw [List.length_drop]
  have := (List.dropWhile_sublist (p := (· != c)) (l := l)).length_le
  omega
end Go.StrM
