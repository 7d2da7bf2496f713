/- What time that passes fires: in which order, and what of it. Conditions: none. -/
import Derived.Test.YtnpnfgnhgjmlbaaDoorWheelM
namespace Go.WheelM
variable {to t1 t2 : Nat} {tm rest r1 r2 : Tm} {out o1 o2 : List (Int × Nat)}
theorem First.not_nil {id : Int} {a : Nat} (h : First tm id a) : tm ≠ [] := fun e => by rw [e] at h; cases h.1
theorem First.one {id : Int} {a : Nat} : First [(id, a)] id a := by
  refine ⟨by simp [aget], fun j b h => ?_⟩
  simp only [aget] at h
  split at h
  · rename_i e; injection h with h; omega
  · cases h
theorem Adv.nil (h : Adv to [] out rest) : out = [] ∧ rest = [] := by
  cases h with
  | done _ => exact ⟨rfl, rfl⟩
  | step hf _ _ => exact absurd rfl hf.not_nil
/-- What is fired and what is left is one. -/
theorem Adv.unique (h : Adv to tm o1 r1) : ∀ {o2 : List (Int × Nat)} {r2 : Tm}, Adv to tm o2 r2 → o1 = o2 ∧ r1 = r2 := by
  induction h with
  | done h =>
    intro o2 r2 g
    cases g with
    | done _ => exact ⟨rfl, rfl⟩
    | step hf hle _ => have := h _ _ hf.1; omega
  | step hf hle _ ih =>
    intro o2 r2 g
    cases g with
    | done h => have := h _ _ hf.1; omega
    | step hf' _ g' =>
      obtain ⟨rfl, rfl⟩ := hf.unique hf'
      obtain ⟨rfl, rfl⟩ := ih g'
      exact ⟨rfl, rfl⟩
/-- Time that passes in pieces. -/
theorem Adv.append (h : Adv t1 tm o1 r1) (hle : t1 ≤ t2) : ∀ {o2 : List (Int × Nat)} {r2 : Tm}, Adv t2 r1 o2 r2 → Adv t2 tm (o1 ++ o2) r2 := by
  induction h with
  | done _ => intro o2 r2 g; exact g
  | step hf ha _ ih => intro o2 r2 g; exact .step hf (by omega) (ih g)
theorem Adv.len (h : Adv to tm out rest) : out.length + rest.length = tm.length := by
  induction h with
  | done _ => simp
  | step hf _ _ ih =>
    have := len_del hf.1
    have := List.length_pos_of_mem (aget_mem hf.1)
    simp only [List.length_cons]; omega
theorem Adv.all (h : Adv to tm out rest) (hall : ∀ j b, aget tm j = some b → b ≤ to) (hk : (tm.map (·.1)).Nodup) : rest = [] := by
  induction h with
  | done h =>
    rename_i tm'
    cases tm' with
    | nil => rfl
    | cons p l =>
      have hc : aget (p :: l) p.1 = some p.2 := by simp [aget]
      have := h _ _ hc
      have := hall _ _ hc
      omega
  | step hf _ _ ih =>
    refine ih (fun j b hb => ?_) (nodup_del hk)
    rw [aget_del hk] at hb
    split at hb
    · cases hb
    · exact hall j b hb
/-- What is fired was set, and is due. -/
theorem Adv.mem (h : Adv to tm out rest) (hk : (tm.map (·.1)).Nodup) : ∀ p ∈ out, aget tm p.1 = some p.2 ∧ p.2 ≤ to := by
  induction h with
  | done _ => intro p hp; cases hp
  | step hf ha _ ih =>
    intro p hp
    rcases List.mem_cons.1 hp with rfl | hp
    · exact ⟨hf.1, ha⟩
    · have := ih (nodup_del hk) p hp
      rw [aget_del hk] at this
      split at this
      · cases this.1
      · exact this
/-- One lies ahead of the next. -/
def Before (p q : Int × Nat) : Prop := p.2 < q.2 ∨ (p.2 = q.2 ∧ p.1 < q.1)
theorem Adv.sorted (h : Adv to tm out rest) (hk : (tm.map (·.1)).Nodup) : ∀ (i : Nat) (p q : Int × Nat), out[i]? = some p → out[i + 1]? = some q → Before p q := by
  induction h with
  | done _ => intro i p q hp; simp at hp
  | step hf ha hrest ih =>
    rename_i tm' rest' id a out'
    intro i p q hp hq
    cases i with
    | zero =>
      simp at hp; subst hp
      simp only [Nat.zero_add, List.getElem?_cons_succ] at hq
      have := (hrest.mem (nodup_del hk) q (List.mem_of_getElem? hq)).1
      rw [aget_del hk] at this
      split at this
      · cases this
      · rename_i hne
        have := hf.2 _ _ this
        show a < q.2 ∨ (a = q.2 ∧ id < q.1)
        omega
    | succ i =>
      simp only [List.getElem?_cons_succ] at hp hq
      exact ih (nodup_del hk) i p q hp hq
theorem Adv.rest_get (h : Adv to tm out rest) (hk : (tm.map (·.1)).Nodup) : (rest.map (·.1)).Nodup ∧ ∀ j b, aget rest j = some b ↔ aget tm j = some b ∧ to < b := by
  induction h with
  | done h => exact ⟨hk, fun j b => ⟨fun g => ⟨g, h j b g⟩, fun g => g.1⟩⟩
  | step hf ha _ ih =>
    obtain ⟨h1, h2⟩ := ih (nodup_del hk)
    refine ⟨h1, fun j b => ?_⟩
    rw [h2, aget_del hk]
    split
    · rename_i e; subst e
      constructor
      · rintro ⟨h, _⟩; cases h
      · rintro ⟨h, h3⟩; rw [hf.1] at h; injection h with h; omega
    · exact Iff.rfl
theorem Adv.one {id : Int} {a : Nat} (h : Adv to [(id, a)] out rest) (hle : a ≤ to) : out = [(id, a)] ∧ rest = [] :=
  h.unique (.step First.one hle (by rw [show adel [(id, a)] id = [] by simp [adel]]; exact .done (fun _ _ h => by cases h)))
theorem Adv.late {id : Int} {a : Nat} (h : Adv to [(id, a)] out rest) (hlt : to < a) : out = [] ∧ rest = [(id, a)] :=
  h.unique (.done fun j b hb => by
    simp only [aget] at hb
    split at hb
    · injection hb with hb; omega
    · cases hb)
theorem Adv.cons_of_first {id : Int} {a : Nat} (h : Adv to tm out rest) (hf : First tm id a) (ha : a ≤ to) : ∃ out', out = (id, a) :: out' ∧ Adv to (adel tm id) out' rest := by
  cases h with
  | done h => have := h _ _ hf.1; omega
  | step hf' _ g =>
    obtain ⟨rfl, rfl⟩ := hf.unique hf'
    exact ⟨_, rfl, g⟩
theorem Adv.none_due (h : Adv to tm out rest) (hno : ∀ j b, aget tm j = some b → to < b) : out = [] ∧ rest = tm := by
  cases h with
  | done _ => exact ⟨rfl, rfl⟩
  | step hf ha _ => have := hno _ _ hf.1; omega
/-- Timers of one time, one id behind another. -/
theorem Adv.row {c : Int} {v : Nat} (hv : v ≤ to) {n : Nat} : ∀ (d i0 : Nat) {tm : Tm} {out : List (Int × Nat)} {rest : Tm}, d + i0 = n → Adv to tm out rest → (tm.map (·.1)).Nodup → (∀ j b, aget tm j = some b → (∃ i : Nat, i0 ≤ i ∧ i < n ∧ j = c + i ∧ b = v) ∨ to < b) → (∀ i : Nat, i0 ≤ i → i < n → aget tm (c + i) = some v) →
    out = (List.range' i0 d).map (fun i : Nat => (c + (i : Int), v))
  | 0, i0, tm, out, rest, e, h, _, h1, _ => by
    rw [(h.none_due fun j b hb => (h1 j b hb).resolve_left fun ⟨i, q1, q2, _⟩ => by omega).1]; rfl
  | d + 1, i0, tm, out, rest, e, h, hk, h1, h2 => by
    have hf : First tm (c + i0) v := ⟨h2 i0 (Nat.le_refl _) (by omega), fun j b hb => by
      rcases h1 j b hb with ⟨i, q1, q2, q3, q4⟩ | q
      · right; omega
      · left; omega⟩
    obtain ⟨out', rfl, h'⟩ := h.cons_of_first hf hv
    have ih := Adv.row hv (n := n) d (i0 + 1) (by omega) h' (nodup_del hk) (fun j b hb => by
      rw [aget_del hk] at hb
      split at hb
      · cases hb
      · rename_i hne
        rcases h1 j b hb with ⟨i, q1, q2, q3, q4⟩ | q
        · have : i ≠ i0 := fun e => hne (by rw [q3, e])
          exact .inl ⟨i, by omega, q2, q3, q4⟩
        · exact .inr q) (fun i q1 q2 => by
      rw [aget_del hk, if_neg (by omega)]; exact h2 i (by omega) q2)
    rw [ih, List.range'_succ]; rfl
end Go.WheelM
