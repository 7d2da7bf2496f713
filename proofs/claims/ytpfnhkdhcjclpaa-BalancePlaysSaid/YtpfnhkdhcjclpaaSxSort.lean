/- From the kit's contract of sorting to triples: a row that is sorted in place. Conditions: none. -/
import Derived.Test.YtpfnhkdhcjclpaaSxU
import Derived.Shelf.SlSortCmp.NoneTotal
namespace Go.Sx
open Go Go.Proofs Go.Sort
section
variable {α : Type} [Inhabited α] {enc : α → List Value} {k : Nat}
theorem flatK_eq (hk : ∀ x, (enc x).length = k) (xs : List α) : flatK enc k xs.toArray = ⟨flat enc xs⟩ := by
  apply Array.ext'
  apply List.ext_getElem?
  intro i
  by_cases hi : i < xs.length * k
  · have h0 : 0 < k := Nat.pos_of_ne_zero (by rintro rfl; simp at hi)
    have hq : i / k < xs.length := Nat.div_lt_of_lt_mul (by rw [Nat.mul_comm]; exact hi)
    have hm : i % k < k := Nat.mod_lt _ h0
    have hx : xs[i / k]? = some xs[i / k] := List.getElem?_eq_getElem hq
    have hv : (enc xs[i / k])[i % k]? = some ((enc xs[i / k])[i % k]'(by rw [hk]; exact hm)) := List.getElem?_eq_getElem _
    have h1 := flat_get (es := k) hk hx hv
    rw [Nat.mul_comm, Nat.div_add_mod] at h1
    show _ = (flat enc xs)[i]?
    rw [h1]
    simp only [flatK, Array.toList_map, Array.toList_range, List.getElem?_map]
    rw [List.getElem?_range (by simpa using hi)]
    simp only [Option.map_some]
    congr 1
    have e1 : (xs.toArray[i / k]! : α) = xs[i / k] := by simp [hq]
    rw [e1]
    simp [hk, hm]
  · have e1 : (flatK enc k xs.toArray).toList[i]? = none := by
      rw [List.getElem?_eq_none]
      simp [flatK]; omega
    rw [e1]
    show none = (flat enc xs)[i]?
    rw [List.getElem?_eq_none]
    rw [flat_length hk]; omega
variable {w0 w : World} {F : List HProp} {g cap : Nat} {t : TypeId} {xs ys : List α}
theorem Rel.holdsK (hk : ∀ x, (enc x).length = k) (h : Rel w0 (RowAt g cap t k xs.length (flat enc xs) :: F) w) : HoldsK enc k w g 0 xs.toArray := by
  obtain ⟨tail, h2, h3, h4, h5, h6⟩ := h.rowAt_blk
  have hg := h2.get
  intro j hj
  rw [size_flatK] at hj
  simp only [List.size_toArray] at hj
  rw [flatK_eq hk]
  have hlt : j < (flat enc xs).length := by rw [flat_length hk]; exact hj
  refine ⟨?_, ?_⟩
  · simp only [World.cell?, hg, Nat.zero_add]
    simp [List.getElem?_append_left hlt, hlt]
  · simp [World.frozen?, hg]
theorem Rel.sortedK (hk : ∀ x, (enc x).length = k) (h : Rel w0 (RowAt g cap t k xs.length (flat enc xs) :: F) w) (hl : ys.length = xs.length) (m : Nat) (os : Array Obj) : Rel w0 (RowAt g cap t k xs.length (flat enc ys) :: F) (sortWorldK enc k w g 0 m ys.toArray os) := by
  obtain ⟨tail, h2, h3, h4, h5, h6⟩ := h.rowAt_blk
  have hg := h2.get
  have hfl : (flat enc ys).length = (flat enc xs).length := by rw [flat_length hk, flat_length hk, hl]
  have hput : putCells id 0 (flatK enc k ys.toArray) ⟨flat enc xs ++ tail⟩ = ⟨flat enc ys ++ tail⟩ := by
    rw [flatK_eq hk]
    apply Array.ext'
    apply List.ext_getElem?
    intro i
    simp only [putCells, Array.toList_mapIdx, List.getElem?_mapIdx]
    by_cases hi : i < (flat enc ys).length
    · rw [List.getElem?_append_left (by omega), List.getElem?_append_left hi, List.getElem?_eq_getElem (by omega : i < (flat enc xs).length), List.getElem?_eq_getElem hi]
      simp [hi]
    · rw [List.getElem?_append_right (by omega), List.getElem?_append_right (by omega), hfl]
      cases tail[i - (flat enc xs).length]? with
      | none => rfl
      | some v => simp [hi]
  have hs : Rel w0 (blk g (.cells ⟨flat enc ys ++ tail⟩ t (0, 0)) :: F) (putRowK enc k (Go.Sort.ahead w m) g 0 ys.toArray) := by
    refine h2.set rfl rfl rfl (by simp [putRowK, putRow, mapBlock, Go.Sort.ahead]) ?_ (fun j hj => ?_)
    · simp only [putRowK, putRow, mapBlock, Go.Sort.ahead, Array.getElem?_modify, if_true, hg, Option.map_some, onCells, hput]
    · simp only [putRowK, putRow, mapBlock, Go.Sort.ahead, Array.getElem?_modify]
      rw [if_neg (Ne.symm hj)]
  have hs2 := Rel.rowAt_mk hs (cap := cap) (es := k) (n := xs.length) (by rw [List.length_append, hfl, ← List.length_append]; exact h3) (by rw [flat_length hk, hl]) h5 h6
  refine hs2.later ⟨rfl, rfl, rfl, by simp [sortWorldK, grow], fun j hj => ?_⟩
  show (_ ++ os)[j]? = _
  rw [Array.getElem?_append_left hj]
end
end Go.Sx
