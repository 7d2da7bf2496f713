/- The document's balancer in plain terms: what Pick's pass over the hosts finds. Conditions: none. -/
import Derived.Test.YtpfnhkdhcjclpaaBalN
namespace Go.BalM
open Go Go.DiceM
theorem IsLeast.one (load : Nat → Int) (i : Nat) : IsLeast [i] load i := ⟨by simp, fun q hq => by rw [List.mem_singleton] at hq; subst hq; exact .inr ⟨rfl, Nat.le_refl _⟩⟩
theorem IsLeast.take {xs : List Nat} {load : Nat → Int} {i j : Nat} (h : IsLeast xs load j) (hl : load i < load j) : IsLeast (xs ++ [i]) load i := by
  refine ⟨by simp, fun q hq => ?_⟩
  rcases List.mem_append.1 hq with hq | hq
  · have := h.2 q hq; omega
  · rw [List.mem_singleton] at hq; subst hq; exact .inr ⟨rfl, Nat.le_refl _⟩
theorem IsLeast.keep {xs : List Nat} {load : Nat → Int} {i j : Nat} (h : IsLeast xs load j) (hl : load j ≤ load i) (hj : j ≤ i) : IsLeast (xs ++ [i]) load j := by
  refine ⟨List.mem_append_left _ h.1, fun q hq => ?_⟩
  rcases List.mem_append.1 hq with hq | hq
  · exact h.2 q hq
  · rw [List.mem_singleton] at hq; subst hq; omega
/-- The first, if there is one. -/
def Opt (o : Option Nat) (z : Int) : Prop := (z = -1 ∧ o = none) ∨ ∃ j : Nat, z = j ∧ o = some j
theorem Opt.none' {o : Option Nat} {z : Int} (h : Opt o z) (hz : z < 0) : o = none := by
  rcases h with ⟨_, h⟩ | ⟨j, rfl, _⟩
  · exact h
  · omega
theorem Opt.some' {o : Option Nat} {z : Int} (h : Opt o z) (hz : 0 ≤ z) : ∃ j : Nat, z = j ∧ o = some j := by
  rcases h with ⟨rfl, _⟩ | h
  · omega
  · exact h
theorem first_new {xs : List Nat} {z : Int} {i : Nat} (h : Opt xs.head? z) (hz : z < 0) : Opt (xs ++ [i]).head? i := by
  have := List.head?_eq_none_iff.1 (h.none' hz)
  subst this
  exact .inr ⟨i, rfl, rfl⟩
theorem first_old {xs : List Nat} {z : Int} {i : Nat} (h : Opt xs.head? z) (hz : 0 ≤ z) : Opt (xs ++ [i]).head? z := by
  obtain ⟨j, rfl, hj⟩ := h.some' hz
  refine .inr ⟨j, rfl, ?_⟩
  rw [List.head?_append, hj]; rfl
def above (xs : List Nat) (last : Int) : Option Nat := xs.find? fun i : Nat => decide ((i : Int) > last)
theorem next_new {xs : List Nat} {z last : Int} {i : Nat} (h : Opt (above xs last) z) (hz : z < 0) (hi : last < i) : Opt (above (xs ++ [i]) last) i := by
  have h1 := h.none' hz
  refine .inr ⟨i, rfl, ?_⟩
  unfold above at h1 ⊢
  rw [List.find?_append, h1, List.find?_cons, decide_eq_true (by omega)]
  rfl
theorem next_old {xs : List Nat} {z last : Int} {i : Nat} (h : Opt (above xs last) z) (hz : 0 ≤ z ∨ (i : Int) ≤ last) : Opt (above (xs ++ [i]) last) z := by
  rcases h with ⟨rfl, h1⟩ | ⟨j, rfl, h1⟩
  · refine .inl ⟨rfl, ?_⟩
    unfold above at h1 ⊢
    rw [List.find?_append, h1, List.find?_cons, decide_eq_false (by omega)]
    rfl
  · refine .inr ⟨j, rfl, ?_⟩
    unfold above at h1 ⊢
    rw [List.find?_append, h1]; rfl
theorem next_a {xs : List Nat} {z last : Int} (h : Opt (above xs last) z) (hz : 0 ≤ z) : z = nextOf xs last := by
  obtain ⟨j, rfl, hj⟩ := h.some' hz
  unfold above at hj
  simp only [nextOf, hj, Option.some_or, Option.getD_some]
theorem next_b {xs : List Nat} {z f last : Int} (h : Opt (above xs last) z) (hz : z < 0) (hf : Opt xs.head? f) (hne : xs ≠ []) : f = nextOf xs last := by
  have h1 := h.none' hz
  unfold above at h1
  rcases hf with ⟨_, h2⟩ | ⟨j, rfl, h2⟩
  · exact absurd (List.head?_eq_none_iff.1 h2) hne
  · simp only [nextOf, h1, h2, Option.none_or, Option.getD_some]
end Go.BalM
