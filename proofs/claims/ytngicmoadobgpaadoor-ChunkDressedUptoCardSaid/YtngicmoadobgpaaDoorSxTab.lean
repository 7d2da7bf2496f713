/- A table of types out of rows. Conditions: each row fits the program. -/
import Derived.Test.YtngicmoadobgpaaDoorSxD
namespace Go.Sx
open Go

structure TRow where
  t : Nat
  und : TypeDesc
  size : Nat
  bytes : Nat
  zero : Value
  offs : List Nat := []

def find : List TRow → Nat → Option TRow
  | [], _ => none
  | r :: l, t => bif Nat.beq r.t t then some r else find l t

def tbl (l : List TRow) : Tbl := ⟨fun t => (find l t).map (·.und), fun t => (find l t).map (·.size), fun t => (find l t).map (·.bytes), fun t => (find l t).map (·.zero), fun t f => (find l t).bind fun r => r.offs[f]?⟩

def RowsOk (P : Program) : List TRow → Prop
  | [] => True
  | r :: l => (P.underlying r.t = some r.und ∧ (P.info? r.t).map (fun i => (i.size, i.bytes, i.zero)) = some (r.size, r.bytes, some r.zero)) ∧ RowsOk P l

theorem find_ok {P : Program} : ∀ {l : List TRow} {t : Nat} {r : TRow}, RowsOk P l → find l t = some r → P.underlying t = some r.und ∧ (P.info? t).map (fun i => (i.size, i.bytes, i.zero)) = some (r.size, r.bytes, some r.zero)
  | [], _, _, _, h => by cases h
  | r' :: l, t, r, ⟨h1, h2⟩, h => by
    simp only [find] at h
    cases hb : Nat.beq r'.t t with
    | true =>
      rw [hb] at h
      injection h with h; subst h
      have := Nat.eq_of_beq_eq_true hb
      subst this
      exact h1
    | false => rw [hb] at h; exact find_ok h2 h

/-- The fields' places are those that the table of types has. -/
def offsOk (l : List TRow) : Bool :=
  l.all fun r => (List.range r.offs.length).all fun f => match r.und with
    | .struct fs => match fs[f]?, r.offs[f]? with
      | some fd, some k => fd.offset == k && (match (find l fd.type).map (·.size) with | some (_ + 1) => true | _ => false)
      | _, _ => false
    | _ => false

theorem find_mem : ∀ {l : List TRow} {t : Nat} {r : TRow}, find l t = some r → r ∈ l
  | [], _, _, h => by cases h
  | r' :: l, t, r, h => by
    simp only [find] at h
    cases hb : Nat.beq r'.t t with
    | true => rw [hb] at h; injection h with h; subst h; exact List.mem_cons_self ..
    | false => rw [hb] at h; exact List.mem_cons_of_mem _ (find_mem h)

theorem tbl_ok {P : Program} {l : List TRow} (h : RowsOk P l) (ho : offsOk l = true) : (tbl l).Ok P := by
  refine ⟨fun t d hd => ?_, fun t d hd => ?_, fun t d hd => ?_, fun t d hd => ?_, fun t f k hk => ?_⟩
  case refine_5 =>
    simp only [tbl, Option.bind_eq_some_iff] at hk
    obtain ⟨r, hr, hk⟩ := hk
    have h1 := (find_ok h hr).1
    have h2 := List.all_eq_true.1 ho r (find_mem hr)
    have hlt : f < r.offs.length := (List.getElem?_eq_some_iff.1 hk).1
    have h3 := List.all_eq_true.1 h2 f (List.mem_range.2 hlt)
    split at h3
    · rename_i fs hu
      split at h3
      · rename_i fd k' hf hk'
        simp only [Bool.and_eq_true, beq_iff_eq] at h3
        rw [hk] at hk'
        injection hk' with hk'; subst hk'
        obtain ⟨h3, h4⟩ := h3
        split at h4
        · rename_i m hm
          simp only [Option.map_eq_some_iff] at hm
          obtain ⟨r', hr', hs⟩ := hm
          have h5 := (find_ok h hr').2
          simp only [Option.map_eq_some_iff, Prod.mk.injEq] at h5
          obtain ⟨i, hi, h6, _, _⟩ := h5
          exact ⟨fs, fd, i, by rw [h1, hu], hf, h3, hi, by omega⟩
        · cases h4
      · cases h3
    · cases h3
  all_goals
    simp only [tbl, Option.map_eq_some_iff] at hd
    obtain ⟨r, hr, rfl⟩ := hd
    obtain ⟨h1, h2⟩ := find_ok h hr
    first
      | exact h1
      | (simp only [Option.map_eq_some_iff, Prod.mk.injEq] at h2
         obtain ⟨i, hi, h3, h4, h5⟩ := h2
         exact ⟨i, hi, by first | exact h3 | exact h4 | exact h5⟩)
end Go.Sx
