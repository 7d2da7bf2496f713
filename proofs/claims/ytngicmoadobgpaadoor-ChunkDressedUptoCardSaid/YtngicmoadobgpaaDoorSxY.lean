/- A store into a field of an element of a row. Conditions: the table 'T' fits the program. -/
import Derived.Test.YtngicmoadobgpaaDoorSxX
namespace Go.Sx
open Go Go.RowKit
section
variable {P : Program} {T : Tbl} {w0 : World} {n : Nat} {HL : Held} {ops : Array Oper} {J : Env → List HProp → Prop} {ix : Nat} {rest : List Oper} {o : Oper} {e : Env} {F : List HProp} {α : Type} {enc : α → List Value} {es : Nat}
theorem XO.storeRowF {t tb : TypeId} {x y : Operand} {b i j cap k : Nat} {xs : List α} {p : α} {cs : List Value} {v : Value} (p' : α) (he : ∀ x, (enc x).length = es) (hi : xs[i]? = some p) (hT : T.Ok P) (hk0 : Keeps w0 (RowAt b cap tb es k (flat enc xs) :: F) (keptBy HL ix)) (hg : wantedE ops e n o = true) (hd : o.dst = none) (hop : o.op = .store t x y) (hx : e.ev n x = .pointer (some ⟨b, i * es + j, none⟩))
    (hy : Hd (e.ev n y) = some v) (hcs : v.cells = ⟨cs⟩) (hs : T.size t = some cs.length) (h1 : cs.all (·.oneCell') = true) (hj : Nat.ble (j + cs.length) es = true) (hw : wr (enc p) j cs = enc p')
    (hk : Keeps w0 (RowAt b cap tb es k (flat enc (xs.set i p')) :: F) (keptBy HL ix)) (h : XO P T w0 n HL ops J (ix + 1) rest e (RowAt b cap tb es k (flat enc (xs.set i p')) :: F)) : XO P T w0 n HL ops J ix (o :: rest) e (RowAt b cap tb es k (flat enc xs) :: F) := by
  have hj' := Nat.le_of_ble_eq_true hj
  have hlt0 := (List.getElem?_eq_some_iff.1 hi).1
  have hq : wr (flat enc xs) (i * es + j) cs = flat enc (xs.set i p') := flat_wr he hi hj' hw
  refine .storeRow hT hk0 hg hd hop hx hy hcs hs h1 ?_ (by rw [hq]; exact hk) (by rw [hq]; exact h)
  have hlt : (i + 1) * es ≤ xs.length * es := Nat.mul_le_mul_right _ (by omega)
  rw [Nat.add_mul, Nat.one_mul] at hlt
  rw [flat_length he]
  omega
end
end Go.Sx
