/- Tables as rows: what a change at a place comes to. Conditions: none. -/
import Derived.Test.YtpfnhkdhcjclpaaPoolO
namespace Go.PoolM
open Go.WheelM
variable {h x n : Int}
theorem aset_place : ∀ {cs : List (Int × Lk)} {i : Nat} {p : Int × Lk} {v : Lk}, (cs.map (·.1)).Pairwise (· < ·) → cs[i]? = some p → aset cs p.1 v = cs.set i (p.1, v)
  | [], i, p, v, _, h => by simp at h
  | q :: cs, 0, p, v, _, h => by
    simp only [List.getElem?_cons_zero, Option.some.injEq] at h
    subst h; simp [aset]
  | q :: cs, i + 1, p, v, ha, h => by
    simp only [List.map_cons, List.pairwise_cons] at ha
    have h' : cs[i]? = some p := by simpa using h
    have hne : p.1 ≠ q.1 := by
      have := ha.1 p.1 (List.mem_map.2 ⟨p, List.mem_of_getElem? h', rfl⟩); omega
    simp only [aset, if_neg hne, List.set_cons_succ]
    rw [aset_place ha.2 h']
theorem adel_place : ∀ {cs : List (Int × Lk)} {i : Nat} {p : Int × Lk}, (cs.map (·.1)).Pairwise (· < ·) → cs[i]? = some p → adel cs p.1 = cs.eraseIdx i
  | [], i, p, _, h => by simp at h
  | q :: cs, 0, p, _, h => by
    simp only [List.getElem?_cons_zero, Option.some.injEq] at h
    subst h; simp [adel]
  | q :: cs, i + 1, p, ha, h => by
    simp only [List.map_cons, List.pairwise_cons] at ha
    have h' : cs[i]? = some p := by simpa using h
    have hne : p.1 ≠ q.1 := by
      have := ha.1 p.1 (List.mem_map.2 ⟨p, List.mem_of_getElem? h', rfl⟩); omega
    simp only [adel, if_neg hne, List.eraseIdx_cons_succ]
    rw [adel_place ha.2 h']
theorem idle_next {cs : List (Int × Lk)} {i : Nat} {p : Int × Lk} {any : Bool} (hp : cs[i]? = some p) : idle (cs.take (i + 1)) h any = (idle (cs.take i) h any).or (if p.2.free h any then some p else none) := by
  unfold idle
  rw [List.take_add_one, hp, List.find?_append]
  congr 1
  by_cases e : p.2.free h any = true <;> simp [e]
theorem idle_stay {cs : List (Int × Lk)} {i : Nat} {any : Bool} {p : Int × Lk} (hs : idle (cs.take i) h any = some p) : idle cs h any = some p := by
  have := List.take_append_drop i cs
  unfold idle at hs ⊢
  rw [← this, List.find?_append, hs]; rfl
end Go.PoolM
