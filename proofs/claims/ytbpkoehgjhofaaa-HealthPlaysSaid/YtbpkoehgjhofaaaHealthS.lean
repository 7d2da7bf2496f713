/- HealthPlays comes to true. Conditions: the script's row lies in memory, its fields are of their kinds. -/
import Derived.Test.YtbpkoehgjhofaaaHealthX
import Derived.Test.YtbpkoehgjhofaaaHealthO
import Derived.Test.YtbpkoehgjhofaaaSxL
namespace Go.Proofs.Ytbpkoehgjhofaaa.He
open Go Go.Sx
variable {w0 : World} {H : List HProp}
def rowsOf (R : RS) : List (Int × Int) := (List.range R.n).map fun i : Nat => ((accH R.fa R.ej i R.all).1, (accH R.fa R.ej i R.all).2.1)
/-- The state that the reports make. -/
def ofR (R : RS) : HS := ⟨R.fa, R.ej, R.pa, rowsOf R, R.seen, rEjsTo R R.n⟩
theorem rowsOf_length (R : RS) : (rowsOf R).length = R.n := by simp [rowsOf]
theorem rowsOf_at {R : RS} {i : Nat} (h : i < R.n) : (rowsOf R)[i]? = some ((accH R.fa R.ej i R.all).1, (accH R.fa R.ej i R.all).2.1) := by simp [rowsOf, h]
def push (R : RS) (now : Int) (i : Nat) (ok : Bool) : RS := { R with seen := now, all := R.all ++ [⟨now, i, ok⟩] }
theorem acc_push (R : RS) (now : Int) (i j : Nat) (ok : Bool) : accH R.fa R.ej j (push R now i ok).all = if i = j then
    ((repRow R.fa R.ej now ok ((accH R.fa R.ej i R.all).1, (accH R.fa R.ej i R.all).2.1)).1.1, (repRow R.fa R.ej now ok ((accH R.fa R.ej i R.all).1, (accH R.fa R.ej i R.all).2.1)).1.2, (accH R.fa R.ej i R.all).2.2 + (repRow R.fa R.ej now ok ((accH R.fa R.ej i R.all).1, (accH R.fa R.ej i R.all).2.1)).2)
    else accH R.fa R.ej j R.all := by
  rw [push, accH_snoc]
  by_cases e : i = j
  · subst e; rw [if_pos rfl]; exact if_pos rfl
  · rw [if_neg e]; exact if_neg (by simp only; omega)
theorem ejs_push (R : RS) (now : Int) (i : Nat) (ok : Bool) : ∀ k, rEjsTo (push R now i ok) k = rEjsTo R k + if i < k then (repRow R.fa R.ej now ok ((accH R.fa R.ej i R.all).1, (accH R.fa R.ej i R.all).2.1)).2 else 0
  | 0 => by simp [rEjsTo]
  | k + 1 => by
    rw [rEjs_succ, rEjs_succ, ejs_push R now i ok k]
    have h := acc_push R now i k ok
    rw [show (push R now i ok).fa = R.fa from rfl, show (push R now i ok).ej = R.ej from rfl, h]
    by_cases e : i = k
    · subst e; rw [if_pos rfl, if_neg (by omega), if_pos (by omega)]; simp only; omega
    · rw [if_neg e]
      by_cases h1 : i < k
      · rw [if_pos h1, if_pos (by omega)]; omega
      · rw [if_neg h1, if_neg (by omega)]; omega
theorem ofR_rep {R : RS} {now : Int} {i : Nat} {ok : Bool} (hi : i < R.n) : repS (ofR R) now i ((accH R.fa R.ej i R.all).1, (accH R.fa R.ej i R.all).2.1) ok = ofR (push R now i ok) := by
  have e1 := ejs_push R now i ok R.n
  rw [if_pos hi] at e1
  have e2 : (rowsOf R).set i (repRow R.fa R.ej now ok ((accH R.fa R.ej i R.all).1, (accH R.fa R.ej i R.all).2.1)).1 = rowsOf (push R now i ok) := by
    apply List.ext_getElem?
    intro j
    rw [List.getElem?_set]
    by_cases hj : j < R.n
    · rw [rowsOf_at (R := push R now i ok) hj, show (push R now i ok).fa = R.fa from rfl, show (push R now i ok).ej = R.ej from rfl, acc_push]
      by_cases e : i = j
      · subst e; rw [if_pos rfl, if_pos rfl, if_pos (by rw [rowsOf_length]; exact hi)]
      · rw [if_neg e, if_neg e, rowsOf_at hj]
    · rw [List.getElem?_eq_none (by rw [rowsOf_length]; exact Nat.le_of_not_lt hj), List.getElem?_eq_none (by rw [rowsOf_length]; exact Nat.le_of_not_lt hj)]
      by_cases e : i = j
      · subst e; exact absurd hi hj
      · rw [if_neg e]
  unfold repS ofR
  simp only [e2]
  rw [show (push R now i ok).n = R.n from rfl, e1]
  rfl
theorem ofR_open (R : RS) (now : Int) : openL (ofR R) now = rOpenL R now := by
  have h : openI (ofR R) now = rOpenI R now := by simp only [openI, ofR, rowsOf, rOpenI, List.map_map]; rfl
  unfold openL rOpenL
  rw [h, show (ofR R).rows.length = R.n from rowsOf_length R]
  rfl
theorem accH_row (fa ej host : Int) (l : List Rp) : 0 ≤ (accH fa ej host l).1 ∧ (accH fa ej host l).1 ≤ l.length := by
  have key : ∀ k, k ≤ l.length → 0 ≤ (accH fa ej host (l.take k)).1 ∧ (accH fa ej host (l.take k)).1 ≤ k := by
    intro k
    induction k with
    | zero => intro _; simp [accH]
    | succ k ih =>
      intro hk
      obtain ⟨i1, i2⟩ := ih (by omega)
      obtain ⟨p, hp⟩ : ∃ p, l[k]? = some p := ⟨_, List.getElem?_eq_getElem (by omega)⟩
      rw [accH_take hp]
      generalize accH fa ej host (l.take k) = s at *
      unfold rep1 repRow
      split
      · have hr : 0 ≤ (if p.ok = true then (0 : Int) else s.1 + 1) ∧ (if p.ok = true then (0 : Int) else s.1 + 1) ≤ s.1 + 1 := by split <;> omega
        generalize (if p.ok = true then (0 : Int) else s.1 + 1) = r at *
        by_cases h : r = fa
        · simp only [if_pos h]; omega
        · simp only [if_neg h]; omega
      · omega
  have := key l.length (Nat.le_refl _)
  rwa [List.take_length] at this
theorem rEjs_le (R : RS) : ∀ k : Nat, 0 ≤ rEjsTo R k ∧ rEjsTo R k ≤ k * (R.all.length : Int)
  | 0 => by simp [rEjsTo]
  | k + 1 => by
    have := rEjs_le R k
    have h := accH_cnt R.fa R.ej k R.all
    rw [rEjs_succ, Int.natCast_add, Int.add_mul]
    omega
theorem RS.Fit.ofR {R : RS} (h : R.Fit) (hn : R.n ≤ 16) : (ofR R).Fit := by
  refine ⟨h.fa, h.ej, h.seen, ?_, ?_, ?_, h.pa⟩
  · have h1 := rEjs_le R R.n
    have h2 := Int.mul_le_mul (show (R.n : Int) ≤ 16 by omega) (show (R.all.length : Int) ≤ 4398046511104 by have := h.len; omega) (by omega) (by decide)
    exact ⟨h1.1, by have := h1.2; show rEjsTo R R.n ≤ _; omega⟩
  · intro p hp
    obtain ⟨i, _, rfl⟩ := List.mem_map.1 hp
    have h1 := accH_row R.fa R.ej i R.all
    have h2 := h.len
    exact ⟨h1.1, by simp only; omega⟩
  · rw [show (Go.Proofs.Ytbpkoehgjhofaaa.He.ofR R).rows.length = R.n from rowsOf_length R]; exact h.n
theorem RS.Fit.push {R : RS} (h : R.Fit) {now : Int} {i : Nat} {ok : Bool} (h1 : R.seen ≤ now) (h2 : now ≤ 1099511627776) (h3 : R.all.length + 1 < 4398046511104) : (push R now i ok).Fit := by
  have hs := h.seen
  refine ⟨h.fa, h.ej, ⟨by show 0 ≤ now; omega, h2⟩, ?_, by simpa [Go.Proofs.Ytbpkoehgjhofaaa.He.push] using h3, h.n, h.pa⟩
  intro r hr
  rcases List.mem_append.1 hr with hr | hr
  · exact h.all r hr
  · obtain rfl := List.mem_singleton.1 hr
    exact ⟨by dsimp only; omega, h2⟩
theorem RS.Fit.tick {R : RS} (h : R.Fit) {now : Int} (h1 : R.seen ≤ now) (h2 : now ≤ 1099511627776) : RS.Fit { R with seen := now } := by
  have hs := h.seen
  exact ⟨h.fa, h.ej, ⟨by dsimp only; omega, h2⟩, h.all, h.len, h.n, h.pa⟩
theorem rOpenL_length (R : RS) (now : Int) : (rOpenL R now).length = R.n := by unfold rOpenL; split <;> simp [rOpenI]
end Go.Proofs.Ytbpkoehgjhofaaa.He
