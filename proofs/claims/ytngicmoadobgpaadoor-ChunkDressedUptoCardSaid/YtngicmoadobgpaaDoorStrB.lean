/- Contracts: tokens, values, numbers in the base of sixteen, a field's line. Conditions: none. -/
import Derived.Test.YtngicmoadobgpaaDoorStrA
namespace Go.Proofs.YtngicmoadobgpaaDoor
open Go Go.Sx Go.ChunkM Go.StrM
variable {w0 : World} {F H : List HProp} {K : Value → List HProp → Prop}
theorem all_step {p : UInt8 → Bool} {l : List UInt8} {i : Nat} {c : UInt8} (h : ∀ (j : Nat) x, j < i → l[j]? = some x → p x = true) (hc : l[i]? = some c) (hp : p c = true) : ∀ (j : Nat) x, j < i + 1 → l[j]? = some x → p x = true := fun j x hj hx => by
  by_cases e : j = i
  · subst e; rw [hc] at hx; injection hx with hx; subst hx; exact hp
  · exact h j x (by omega) hx
theorem all_done {p : UInt8 → Bool} {l : List UInt8} (h : ∀ (j : Nat) x, j < l.length → l[j]? = some x → p x = true) : ∀ c ∈ l, p c = true := fun c hc => by
  obtain ⟨j, hj⟩ := List.getElem?_of_mem hc
  exact h j c (List.getElem?_eq_some_iff.1 hj).1 hj
theorem marks_ix {c : UInt8} : (0 ≤ Lib.indexByte [33, 35, 36, 37, 38, 39, 42, 43, 45, 46, 94, 95, 124, 126, 96] c → marks.contains c = true) ∧ (Lib.indexByte [33, 35, 36, 37, 38, 39, 42, 43, 45, 46, 94, 95, 124, 126, 96] c < 0 → marks.contains c = false) := by
  by_cases h : c ∈ marks
  · have := idx_in c marks h
    exact ⟨fun _ => by simpa using h, fun h2 => by unfold marks at this; omega⟩
  · have := idx_not c marks h
    exact ⟨fun h2 => by unfold marks at this; omega, fun _ => by simpa using h⟩
theorem tokB_no {c : UInt8} (h1 : isLet c = false) (h2 : isDig c = false) (h3 : Lib.indexByte [33, 35, 36, 37, 38, 39, 42, 43, 45, 46, 94, 95, 124, 126, 96] c < 0) : tokB c = false := by
  simp only [tokB, h1, h2, marks_ix.2 h3, Bool.or_self]
theorem tokB_yes {c : UInt8} (h : isLet c = true ∨ isDig c = true ∨ 0 ≤ Lib.indexByte [33, 35, 36, 37, 38, 39, 42, 43, 45, 46, 94, 95, 124, 126, 96] c) : tokB c = true := by
  rcases h with h | h | h
  · simp only [tokB, h, Bool.true_or]
  · simp only [tokB, h, Bool.true_or, Bool.or_true]
  · simp only [tokB, marks_ix.1 h, Bool.or_true]
theorem token_spec {l : List UInt8} (hl : l.length ≤ 4611686018427387904) (h1 : tokenP l → K (.bool true) F) (h2 : ¬ tokenP l → K (.bool false) F) : Tri Tryd.prog 91 #[kS l] w0 F K := by
  refine Tri.enterF Tryd.func91 Tryd.ntmps91 Tryd.results91 rfl rfl fun fr hfr => ?_
  repeat' (first | refine walk ?_ | exact trivial | refine Tw.mk ?_ ?_ | fail)
  refine XS.loopI (ι := Nat) (fun i => [(0, kS l), (6, kI l.length), (7, kI i)]) (fun _ => F) (fun i => i ≤ l.length ∧ ∀ (j : Nat) c, j < i → l[j]? = some c → tokB c = true) (fun i => l.length - i) 0 ⟨Nat.zero_le _, fun j _ hj => absurd hj (by omega)⟩ ⟨rfl, rfl, rfl, trivial⟩ entA ?_
  rintro i e ⟨hi, ha⟩ ih
  by_cases hlt : i < l.length
  · obtain ⟨c, hc⟩ : ∃ c, l[i]? = some c := ⟨_, List.getElem?_eq_getElem hlt⟩
    repeat' (first | refine walk ?_ | exact trivial | refine Tw.mk ?_ ?_ | intro hx | refine letter_spec ?_ ?_ | refine digit_spec ?_ ?_ | refine ixb_spec ?_ | (exfalso; omega) | exact Out.i (h2 fun ht => by have := ht.2 c (List.mem_of_getElem? hc); rw [tokB_no (by assumption) (by assumption) (by assumption)] at this; cases this) | exact ih (i + 1) _ _ ⟨hlt, all_step ha hc (tokB_yes (by first | exact .inl (by assumption) | exact .inr (.inl (by assumption)) | exact .inr (.inr (by assumption)) | fail))⟩ (by omega) ⟨rfl, rfl, rfl, trivial⟩ entA | fail)
  · obtain rfl : i = l.length := by omega
    have ha := all_done ha
    clear ih
    repeat' (first | refine walk ?_ | exact trivial | refine Tw.mk ?_ ?_ | intro hx | (exfalso; omega) | exact Out.i (h1 ⟨by assumption, ha⟩) | exact Out.i (h2 fun ht => ht.1 (by assumption)) | fail)
theorem valB_no {c : UInt8} (h : (c.toNat : Int) ≠ 9 ∧ ((c.toNat : Int) < 32 ∨ (c.toNat : Int) = 127)) : valB c = false := by
  simp only [valB, decide_eq_false_iff_not]; omega
theorem valB_yes {c : UInt8} (h : (c.toNat : Int) = 9 ∨ ((32 : Int) ≤ c.toNat ∧ (c.toNat : Int) ≠ 127)) : valB c = true := by
  simp only [valB, decide_eq_true_eq]; omega
theorem value_spec {l : List UInt8} (hl : l.length ≤ 4611686018427387904) (h1 : valueP l → K (.bool true) F) (h2 : ¬ valueP l → K (.bool false) F) : Tri Tryd.prog 92 #[kS l] w0 F K := by
  refine Tri.enterF Tryd.func92 Tryd.ntmps92 Tryd.results92 rfl rfl fun fr hfr => ?_
  repeat' (first | refine walk ?_ | exact trivial | refine Tw.mk ?_ ?_ | fail)
  refine XS.loopI (ι := Nat) (fun i => [(0, kS l), (6, kI l.length), (7, kI i)]) (fun _ => F) (fun i => i ≤ l.length ∧ ∀ (j : Nat) c, j < i → l[j]? = some c → valB c = true) (fun i => l.length - i) 0 ⟨Nat.zero_le _, fun j _ hj => absurd hj (by omega)⟩ ⟨rfl, rfl, rfl, trivial⟩ entA ?_
  rintro i e ⟨hi, ha⟩ ih
  by_cases hlt : i < l.length
  · obtain ⟨c, hc⟩ : ∃ c, l[i]? = some c := ⟨_, List.getElem?_eq_getElem hlt⟩
    repeat' (first | refine walk ?_ | exact trivial | refine Tw.mk ?_ ?_ | intro hx | (exfalso; omega) | exact Out.i (h2 fun ht => by have := ht.1 c (List.mem_of_getElem? hc); rw [valB_no (by omega)] at this; cases this) | exact ih (i + 1) _ _ ⟨hlt, all_step ha hc (valB_yes (by omega))⟩ (by omega) ⟨rfl, rfl, rfl, trivial⟩ entA | fail)
  · obtain rfl : i = l.length := by omega
    have ha := all_done ha
    clear ih
    repeat' (first | refine walk ?_ | exact trivial | refine Tw.mk ?_ ?_ | intro hx | (exfalso; omega) | refine trim_spec (by omega) ?_ | exact Out.i (h1 ⟨ha, by assumption⟩) | exact Out.i (h2 fun ht => absurd ht.2 (by assumption)) | fail)
/-- A field's line. -/
abbrev fldV (l : List UInt8) : List Value := [kS (before 58 l), kS (trim (behind 58 l))]
theorem field_spec {l : List UInt8} (hl : l.length ≤ 4611686018427387904) (h1 : fieldP l → K (.tuple #[.agg ⟨fldV l⟩, kI 0]) F) (h2 : ¬ fieldP l → K (.tuple #[.agg ⟨[kS [], kS []]⟩, kI 70]) F) : Tri Tryd.prog 77 #[kS l] w0 F K := by
  refine Tri.enterF Tryd.func77 Tryd.ntmps77 Tryd.results77 rfl rfl fun fr hfr => ?_
  have hb : 58 ∈ l → (before 58 l).length ≤ l.length ∧ (behind 58 l).length ≤ l.length := fun h => by have := len_before h; omega
  repeat' (first | refine walk ?_ | exact trivial | refine Tw.mk ?_ ?_ | intro hx | (intro (bx : Nat)) | refine cut_spec hl ?_ ?_ | refine trim_spec (by have := hb (by assumption); omega) ?_ | refine trim_spec (by first | exact Nat.zero_le _ | omega) ?_ | refine token_spec (by have := hb (by assumption); omega) ?_ ?_ | refine value_spec (by have := hb (by assumption); have := trim_le (behind 58 l); omega) ?_ ?_ | fail)
  all_goals first | exact Out.s0 (h1 ⟨by assumption, by assumption, by assumption⟩) | exact Out.s0 (h2 fun ht => absurd ht.1 (by assumption)) | exact Out.s0 (h2 fun ht => absurd ht.2.1 (by assumption)) | exact Out.s0 (h2 fun ht => absurd ht.2.2 (by assumption))
end Go.Proofs.YtngicmoadobgpaaDoor
