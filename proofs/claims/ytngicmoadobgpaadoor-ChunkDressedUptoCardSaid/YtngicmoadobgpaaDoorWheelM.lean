/- The numbers of a wheel of timers: the level and the slot of a time, what lies ahead of what. Conditions: none. -/
import Derived.Test.YtngicmoadobgpaaDoorSxN
namespace Go.WheelM
def lev (a n : Nat) : Nat := (Nat.log2 (a ^^^ n)) / 6
def dig (a l : Nat) : Nat := a / 64 ^ l % 64
theorem xor_zero {a b : Nat} : a ^^^ b = 0 ↔ a = b := by
  constructor
  · intro h
    have h1 : a = (a ^^^ b) ^^^ b := by rw [Nat.xor_assoc, Nat.xor_self, Nat.xor_zero]
    rw [h1, h, Nat.zero_xor]
  · intro h; rw [h, Nat.xor_self]
theorem p64 (k : Nat) : 64 ^ k = 2 ^ (6 * k) := by rw [Nat.pow_mul]
theorem shr64 (a k : Nat) : a >>> (6 * k) = a / 64 ^ k := by rw [Nat.shiftRight_eq_div_pow, p64]
theorem xor_shr_zero {a n k : Nat} : (a ^^^ n) / 64 ^ k = 0 ↔ a / 64 ^ k = n / 64 ^ k := by
  rw [← shr64, Nat.shiftRight_xor_distrib, ← shr64, ← shr64, xor_zero]
theorem div_step (a k : Nat) : a / 64 ^ (k + 1) = a / 64 ^ k / 64 := by rw [Nat.pow_succ, Nat.div_div_eq_div_mul]
theorem div_up {a n k : Nat} (h : a / 64 ^ k = n / 64 ^ k) : ∀ d, a / 64 ^ (k + d) = n / 64 ^ (k + d)
  | 0 => h
  | d + 1 => by rw [← Nat.add_assoc, div_step, div_step, div_up h d]
theorem div_le {a n k j : Nat} (h : a / 64 ^ k = n / 64 ^ k) (hj : k ≤ j) : a / 64 ^ j = n / 64 ^ j := by
  obtain ⟨d, rfl⟩ := Nat.exists_eq_add_of_le hj
  exact div_up h d
theorem lev_eq {a n : Nat} (h : a ≠ n) : a / 64 ^ (lev a n + 1) = n / 64 ^ (lev a n + 1) := by
  have hx : a ^^^ n ≠ 0 := fun e => h (xor_zero.1 e)
  rw [← xor_shr_zero, p64]
  refine Nat.div_eq_of_lt ((Nat.log2_lt hx).1 ?_)
  unfold lev; omega
theorem lev_ne {a n : Nat} (h : a ≠ n) : a / 64 ^ lev a n ≠ n / 64 ^ lev a n := by
  have hx : a ^^^ n ≠ 0 := fun e => h (xor_zero.1 e)
  intro e
  rw [← xor_shr_zero, p64] at e
  have := (Nat.le_log2 hx (k := 6 * lev a n)).1 (by unfold lev; omega)
  rw [Nat.div_eq_zero_iff] at e
  have h0 : 0 < 2 ^ (6 * lev a n) := Nat.pow_pos (by omega)
  omega
theorem lev_unique {a n k : Nat} (h1 : a / 64 ^ (k + 1) = n / 64 ^ (k + 1)) (h2 : a / 64 ^ k ≠ n / 64 ^ k) : lev a n = k := by
  have h : a ≠ n := fun e => h2 (by rw [e])
  rcases Nat.lt_trichotomy (lev a n) k with g | g | g
  · exact absurd (div_le (lev_eq h) g) h2
  · exact g
  · exact absurd (div_le h1 g) (lev_ne h)
theorem lev_lt {a n : Nat} (ha : a ≤ 1099511627776) (hn : n ≤ 1099511627776) (h : a ≠ n) : lev a n < 7 := by
  rcases Nat.lt_or_ge (lev a n) 7 with g | g
  · exact g
  · exact absurd (div_le (k := 7) (by rw [Nat.div_eq_of_lt (by omega), Nat.div_eq_of_lt (by omega)]) g) (lev_ne h)
theorem dig_lt (a l : Nat) : dig a l < 64 := Nat.mod_lt _ (by decide)
theorem div_dig (a k : Nat) : a / 64 ^ k = 64 * (a / 64 ^ (k + 1)) + dig a k := by
  rw [div_step, dig]; omega
theorem lt_of_div {a b k : Nat} (h : a / 64 ^ k < b / 64 ^ k) : a < b := by
  rcases Nat.lt_or_ge a b with g | g
  · exact g
  · exact absurd (Nat.div_le_div_right (c := 64 ^ k) g) (by omega)
/-- Lower levels lie ahead. -/
theorem lev_order {a b n : Nat} (ha : a ≠ n) (hb : n < b) (h : lev a n < lev b n) : a < b := by
  have h1 := div_le (lev_eq ha) h
  have h2 := lev_ne (show b ≠ n by omega)
  have h3 := Nat.div_le_div_right (c := 64 ^ lev b n) (Nat.le_of_lt hb)
  exact lt_of_div (k := lev b n) (by omega)
/-- On a level lower slots lie ahead. -/
theorem dig_order {a b n : Nat} (ha : a ≠ n) (hb : b ≠ n) (h : lev a n = lev b n) (hd : dig a (lev a n) < dig b (lev b n)) : a < b := by
  have h1 := lev_eq ha
  have h2 := lev_eq hb
  rw [← h] at h2 hd
  refine lt_of_div (k := lev a n) ?_
  rw [div_dig a, div_dig b, h1, h2]; omega
/-- Time that passes leaves the other slots as they are. -/
theorem lev_move {a t n : Nat} (h1 : n < t) (h2 : t < a) (h : ¬ (lev a n = lev t n ∧ dig a (lev a n) = dig t (lev t n))) : lev a t = lev a n := by
  have hk := lev_eq (show a ≠ n by omega)
  have hk' := lev_ne (show a ≠ n by omega)
  have ht := lev_eq (show t ≠ n by omega)
  rcases Nat.lt_trichotomy (lev a n) (lev t n) with g | g | g
  · exact absurd (lev_order (show a ≠ n by omega) h1 g) (by omega)
  · refine lev_unique (by rw [hk, g, ht]) (fun e => h ⟨g, ?_⟩)
    rw [← g]; unfold dig; rw [e]
  · refine lev_unique (by rw [hk, div_le ht (by omega)]) (fun e => hk' ?_)
    rw [e, div_le ht (by omega)]
/-- The slot of a time that isn't now. -/
def slot (a n : Nat) : Nat := lev a n * 64 + dig a (lev a n)
theorem slot_lt {a n : Nat} (ha : a ≤ 1099511627776) (hn : n ≤ 1099511627776) (h : a ≠ n) : slot a n < 448 := by
  have := lev_lt ha hn h
  have := dig_lt a (lev a n)
  unfold slot; omega
theorem slot_eq {a b n m : Nat} : slot a n = slot b m ↔ lev a n = lev b m ∧ dig a (lev a n) = dig b (lev b m) := by
  have := dig_lt a (lev a n)
  have := dig_lt b (lev b m)
  unfold slot
  constructor
  · intro h; omega
  · rintro ⟨h1, h2⟩; omega
theorem slot_order {a b n : Nat} (ha : n < a) (hb : n < b) (h : slot a n < slot b n) : a < b := by
  have h1 := dig_lt a (lev a n)
  have h2 := dig_lt b (lev b n)
  unfold slot at h
  rcases Nat.lt_trichotomy (lev a n) (lev b n) with g | g | g
  · exact lev_order (by omega) hb g
  · exact dig_order (by omega) (by omega) g (by omega)
  · omega
theorem slot_move {a t n : Nat} (h1 : n < t) (h2 : t < a) (h : slot a n ≠ slot t n) : slot a t = slot a n := by
  have := lev_move h1 h2 (fun e => h (slot_eq.2 e))
  unfold slot; rw [this]

/-! ### tables -/
section
variable {κ β : Type} [DecidableEq κ]
def aget : List (κ × β) → κ → Option β
  | [], _ => none
  | p :: l, k => if k = p.1 then some p.2 else aget l k
def aset : List (κ × β) → κ → β → List (κ × β)
  | [], k, v => [(k, v)]
  | p :: l, k, v => if k = p.1 then (p.1, v) :: l else p :: aset l k v
def adel : List (κ × β) → κ → List (κ × β)
  | [], _ => []
  | p :: l, k => if k = p.1 then l else p :: adel l k
theorem aget_none {k : κ} : ∀ {l : List (κ × β)}, aget l k = none ↔ k ∉ l.map (·.1)
  | [] => by simp [aget]
  | p :: l => by
    simp only [aget, List.map_cons, List.mem_cons]
    split
    · rename_i h; simp [h]
    · rename_i h; rw [aget_none (l := l)]; simp [h]
theorem aget_mem {k : κ} {v : β} : ∀ {l : List (κ × β)}, aget l k = some v → (k, v) ∈ l
  | [], h => by cases h
  | p :: l, h => by
    simp only [aget] at h
    split at h
    · rename_i e; injection h with h; subst h; subst e; exact List.mem_cons_self ..
    · exact List.mem_cons_of_mem _ (aget_mem h)
theorem aget_set {k j : κ} {v : β} : ∀ {l : List (κ × β)}, aget (aset l k v) j = if j = k then some v else aget l j
  | [] => by simp [aset, aget]
  | p :: l => by
    simp only [aset]
    split
    · rename_i h
      subst h
      simp only [aget]
      split <;> simp
    · rename_i h
      simp only [aget, aget_set (l := l)]
      split
      · rename_i h2; subst h2; rw [if_neg (fun e => h e.symm)]
      · rfl
theorem keys_set {k : κ} {v : β} : ∀ {l : List (κ × β)}, (aset l k v).map (·.1) = if k ∈ l.map (·.1) then l.map (·.1) else l.map (·.1) ++ [k]
  | [] => by simp [aset]
  | p :: l => by
    simp only [aset]
    split
    · rename_i h; simp [h]
    · rename_i h
      simp only [List.map_cons, keys_set (l := l), List.mem_cons, h, false_or]
      split <;> simp
theorem keys_del {k : κ} : ∀ {l : List (κ × β)}, (adel l k).map (·.1) = (l.map (·.1)).erase k
  | [] => rfl
  | p :: l => by
    simp only [adel, List.map_cons]
    split
    · rename_i h; rw [h, List.erase_cons_head]
    · rename_i h
      rw [List.erase_cons_tail (by simpa using fun e => h e.symm), List.map_cons, keys_del (l := l)]
theorem aget_del {k j : κ} : ∀ {l : List (κ × β)}, (l.map (·.1)).Nodup → aget (adel l k) j = if j = k then none else aget l j
  | [], _ => by simp [adel, aget]
  | p :: l, hn => by
    simp only [List.map_cons, List.nodup_cons] at hn
    simp only [adel]
    split
    · rename_i h
      subst h
      split
      · rename_i h; subst h; exact aget_none.2 hn.1
      · rename_i h; simp only [aget, if_neg h]
    · rename_i h
      simp only [aget, aget_del hn.2]
      split
      · rename_i h2; subst h2; rw [if_neg (fun e => h e.symm)]
      · rfl
theorem nodup_set {l : List (κ × β)} {k : κ} {v : β} (h : (l.map (·.1)).Nodup) : ((aset l k v).map (·.1)).Nodup := by
  rw [keys_set]
  split
  · exact h
  · rename_i hk; rw [List.nodup_append]; exact ⟨h, by simp, by intro a ha b hb; simp at hb; subst hb; exact fun e => hk (e ▸ ha)⟩
theorem nodup_del {l : List (κ × β)} {k : κ} (h : (l.map (·.1)).Nodup) : ((adel l k).map (·.1)).Nodup := by
  rw [keys_del]; exact h.erase k
theorem len_set {l : List (κ × β)} {k : κ} {v : β} : (aset l k v).length = if (aget l k).isSome then l.length else l.length + 1 := by
  have h := congrArg List.length (keys_set (l := l) (k := k) (v := v))
  rw [List.length_map] at h
  rw [h]
  by_cases hm : k ∈ l.map (·.1)
  · rw [if_pos hm, List.length_map]
    have : aget l k ≠ none := fun e => aget_none.1 e hm
    rw [if_pos (Option.isSome_iff_ne_none.2 this)]
  · rw [if_neg hm, aget_none.2 hm]; simp
theorem len_del {l : List (κ × β)} {k : κ} {v : β} (h : aget l k = some v) : (adel l k).length = l.length - 1 := by
  have h1 := congrArg List.length (keys_del (l := l) (k := k))
  rw [List.length_map] at h1
  rw [h1, List.length_erase_of_mem, List.length_map]
  exact Classical.byContradiction fun e => by rw [aget_none.2 e] at h; cases h
/-- A list without repetitions all of whose members lie in another one is no longer. -/
theorem len_sub {l m : List κ} (hn : l.Nodup) (h : ∀ x ∈ l, x ∈ m) : l.length ≤ m.length := by
  induction l generalizing m with
  | nil => exact Nat.zero_le _
  | cons x l ih =>
    rw [List.nodup_cons] at hn
    have hx := h x (List.mem_cons_self ..)
    have := ih (m := m.erase x) hn.2 (fun y hy => (List.mem_erase_of_ne (fun e => hn.1 (by rw [← e]; exact hy))).2 (h y (List.mem_cons_of_mem _ hy)))
    rw [List.length_erase_of_mem hx] at this
    have := List.length_pos_of_mem hx
    simp only [List.length_cons]; omega
end

/-! ### first timers -/
abbrev Tm := List (Int × Nat)
/-- A timer that is set, and none lies ahead of it. -/
def First (tm : Tm) (id : Int) (a : Nat) : Prop := aget tm id = some a ∧ ∀ j b, aget tm j = some b → a < b ∨ (a = b ∧ id ≤ j)
theorem First.unique {tm : Tm} {id j : Int} {a b : Nat} (h : First tm id a) (g : First tm j b) : id = j ∧ a = b := by
  have h1 := h.2 _ _ g.1
  have h2 := g.2 _ _ h.1
  omega
/-- What time that passes fires, and what is left. -/
inductive Adv (to : Nat) : Tm → List (Int × Nat) → Tm → Prop
  | done {tm : Tm} : (∀ j b, aget tm j = some b → to < b) → Adv to tm [] tm
  | step {tm rest : Tm} {id : Int} {a : Nat} {out : List (Int × Nat)} : First tm id a → a ≤ to → Adv to (adel tm id) out rest → Adv to tm ((id, a) :: out) rest
end Go.WheelM
