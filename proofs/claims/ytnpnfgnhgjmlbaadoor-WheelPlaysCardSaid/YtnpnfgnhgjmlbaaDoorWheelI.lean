/- What holds of a wheel between its steps. Conditions: none. -/
import Derived.Test.YtnpnfgnhgjmlbaaDoorWheelM
import Derived.Test.YtnpnfgnhgjmlbaaDoorSxP
namespace Go.WheelM
open Go.Sx (without without_bit without_lt)
/-- The timers that are set lie in their places, but for those that are still to be placed. -/
structure InvP (t : Nat) (tm : Tm) (pend : List Int) (ls : List (List Int)) (full : List Nat) (rd : List Int) : Prop where
  keys : (tm.map (·.1)).Nodup
  now : t ≤ 1099511627776
  time : ∀ id a, aget tm id = some a → t ≤ a ∧ a ≤ 1099511627776
  lsn : ls.length = 448
  fulln : full.length = 7
  rdn : rd.Nodup
  rdm : ∀ id, id ∈ rd ↔ aget tm id = some t ∧ id ∉ pend
  sln : ∀ (k : Nat) (l : List Int), ls[k]? = some l → l.Nodup
  slm : ∀ (k : Nat) (l : List Int), ls[k]? = some l → ∀ id, id ∈ l ↔ ∃ a, aget tm id = some a ∧ a ≠ t ∧ slot a t = k ∧ id ∉ pend
  big : ∀ (j f : Nat), full[j]? = some f → f < 2 ^ 64
  bits : ∀ (j s f : Nat) (l : List Int), full[j]? = some f → s < 64 → ls[j * 64 + s]? = some l → (f.testBit s = true ↔ l ≠ [])
variable {t : Nat} {tm : Tm} {pend : List Int} {ls : List (List Int)} {full : List Nat} {rd : List Int}
theorem InvP.rd_len (I : InvP t tm pend ls full rd) : rd.length ≤ tm.length := by
  have := len_sub I.rdn (m := tm.map (·.1)) (fun x hx => List.mem_map_of_mem (f := (·.1)) (aget_mem ((I.rdm x).1 hx).1))
  rwa [List.length_map] at this
theorem InvP.sl_len (I : InvP t tm pend ls full rd) {k : Nat} {l : List Int} (h : ls[k]? = some l) : l.length ≤ tm.length := by
  have := len_sub (I.sln k l h) (m := tm.map (·.1)) (fun x hx => let ⟨_, ha, _⟩ := (I.slm k l h x).1 hx; List.mem_map_of_mem (f := (·.1)) (aget_mem ha))
  rwa [List.length_map] at this
theorem InvP.place_now (I : InvP t tm pend ls full rd) {id : Int} (hp : id ∈ pend) (ha : aget tm id = some t) {pend' : List Int} (hp' : ∀ j, j ∈ pend' ↔ j ∈ pend ∧ j ≠ id) : InvP t tm pend' ls full (rd ++ [id]) where
  keys := I.keys
  now := I.now
  time := I.time
  lsn := I.lsn
  fulln := I.fulln
  rdn := by
    rw [List.nodup_append]
    refine ⟨I.rdn, by simp, fun x hx y hy => ?_⟩
    rw [List.mem_singleton.1 hy]
    exact fun e => ((I.rdm x).1 hx).2 (e ▸ hp)
  rdm := fun j => by
    rw [List.mem_append, List.mem_singleton, I.rdm, hp']
    by_cases e : j = id
    · subst e; simp [ha]
    · simp [e]
  sln := I.sln
  slm := fun k l h j => by
    rw [I.slm k l h, hp']
    constructor
    · rintro ⟨a, h1, h2, h3, h4⟩; exact ⟨a, h1, h2, h3, fun h => h4 h.1⟩
    · rintro ⟨a, h1, h2, h3, h4⟩
      refine ⟨a, h1, h2, h3, fun h => h4 ⟨h, fun e => ?_⟩⟩
      subst e; rw [ha] at h1; injection h1 with h1; exact h2 h1.symm
  big := I.big
  bits := I.bits
theorem slot_split {a t : Nat} {j s : Nat} (hs : s < 64) : slot a t = j * 64 + s ↔ lev a t = j ∧ dig a (lev a t) = s := by
  have := dig_lt a (lev a t)
  unfold slot; omega
theorem InvP.place_slot (I : InvP t tm pend ls full rd) {id : Int} {a : Nat} (hp : id ∈ pend) (ha : aget tm id = some a) (hn : a ≠ t) {pend' : List Int} (hp' : ∀ j, j ∈ pend' ↔ j ∈ pend ∧ j ≠ id) {l : List Int} {f : Nat} (hl : ls[slot a t]? = some l) (hf : full[lev a t]? = some f) :
    InvP t tm pend' (ls.set (slot a t) (l ++ [id])) (full.set (lev a t) (f ||| 2 ^ dig a (lev a t))) rd where
  keys := I.keys
  now := I.now
  time := I.time
  lsn := by rw [List.length_set]; exact I.lsn
  fulln := by rw [List.length_set]; exact I.fulln
  rdn := I.rdn
  rdm := fun j => by
    rw [I.rdm, hp']
    constructor
    · rintro ⟨h1, h2⟩; exact ⟨h1, fun h => h2 h.1⟩
    · rintro ⟨h1, h2⟩
      refine ⟨h1, fun h => h2 ⟨h, fun e => ?_⟩⟩
      subst e; rw [ha] at h1; injection h1 with h1; exact hn h1
  sln := fun k l' h => by
    rw [List.getElem?_set] at h
    split at h
    · split at h
      · injection h with h; subst h
        rw [List.nodup_append]
        refine ⟨I.sln _ _ hl, by simp, fun x hx y hy => ?_⟩
        rw [List.mem_singleton.1 hy]
        obtain ⟨_, _, _, _, h4⟩ := (I.slm _ _ hl x).1 hx
        exact fun e => h4 (e ▸ hp)
      · cases h
    · exact I.sln k l' h
  slm := fun k l' h j => by
    rw [List.getElem?_set] at h
    split at h
    · rename_i hk
      split at h
      · injection h with h; subst h
        subst hk
        rw [List.mem_append, List.mem_singleton, I.slm _ _ hl, hp']
        constructor
        · rintro (⟨c, h1, h2, h3, h4⟩ | h)
          · exact ⟨c, h1, h2, h3, fun h => h4 h.1⟩
          · subst h; exact ⟨a, ha, hn, rfl, fun h => h.2 rfl⟩
        · rintro ⟨c, h1, h2, h3, h4⟩
          by_cases e : j = id
          · exact .inr e
          · exact .inl ⟨c, h1, h2, h3, fun h => h4 ⟨h, e⟩⟩
      · cases h
    · rename_i hk
      rw [I.slm k l' h, hp']
      constructor
      · rintro ⟨c, h1, h2, h3, h4⟩; exact ⟨c, h1, h2, h3, fun h => h4 h.1⟩
      · rintro ⟨c, h1, h2, h3, h4⟩
        refine ⟨c, h1, h2, h3, fun h => h4 ⟨h, fun e => ?_⟩⟩
        subst e; rw [ha] at h1; injection h1 with h1; subst h1; exact hk h3
  big := fun j f' h => by
    rw [List.getElem?_set] at h
    split at h
    · split at h
      · injection h with h; subst h
        exact Nat.or_lt_two_pow (I.big _ _ hf) (Nat.pow_lt_pow_right (by omega) (dig_lt _ _))
      · cases h
    · exact I.big _ _ h
  bits := fun j s f' l' h hs hl' => by
    have hd := dig_lt a (lev a t)
    have hsl := slot_split (a := a) (t := t) (j := j) hs
    rw [List.getElem?_set] at h hl'
    by_cases hj : lev a t = j
    · rw [if_pos hj] at h
      split at h
      · injection h with h; subst h
        rw [Nat.testBit_or, Nat.testBit_two_pow]
        by_cases hds : dig a (lev a t) = s
        · rw [if_pos (hsl.2 ⟨hj, hds⟩)] at hl'
          split at hl'
          · injection hl' with hl'; subst hl'; simp [hds]
          · cases hl'
        · rw [if_neg (fun e => hds (hsl.1 e).2)] at hl'
          rw [decide_eq_false hds, Bool.or_false]
          exact I.bits j s f l' (hj ▸ hf) hs hl'
      · cases h
    · rw [if_neg hj] at h
      rw [if_neg (fun e => hj (hsl.1 e).1)] at hl'
      exact I.bits j s f' l' h hs hl'
/-- A timer is struck that lies in the list of the present. -/
theorem InvP.cancel_now (I : InvP t tm [] ls full rd) {id : Int} (ha : aget tm id = some t) : InvP t (adel tm id) [] ls full (rd.filter (fun x => decide (x ≠ id))) where
  keys := nodup_del I.keys
  now := I.now
  time := fun j a h => by
    rw [aget_del I.keys] at h
    split at h
    · cases h
    · exact I.time j a h
  lsn := I.lsn
  fulln := I.fulln
  rdn := I.rdn.filter _
  rdm := fun j => by
    rw [List.mem_filter, I.rdm, aget_del I.keys]
    by_cases e : j = id <;> simp [e]
  sln := I.sln
  slm := fun k l h j => by
    rw [I.slm k l h, aget_del I.keys]
    by_cases e : j = id
    · subst e
      rw [if_pos rfl]
      constructor
      · rintro ⟨a, h1, h2, _⟩; rw [ha] at h1; injection h1 with h1; exact absurd h1.symm h2
      · rintro ⟨a, h1, _⟩; cases h1
    · rw [if_neg e]
  big := I.big
  bits := I.bits
/-- The bits of a level behind a strike. -/
def clr (f s : Nat) (l : List Int) : Nat := if l = [] then without f (2 ^ s) else f
theorem InvP.cancel_slot (I : InvP t tm [] ls full rd) {id : Int} {a : Nat} (ha : aget tm id = some a) (hn : a ≠ t) {l : List Int} {f : Nat} (hl : ls[slot a t]? = some l) (hf : full[lev a t]? = some f) :
    InvP t (adel tm id) [] (ls.set (slot a t) (l.filter (fun x => decide (x ≠ id)))) (full.set (lev a t) (clr f (dig a (lev a t)) (l.filter (fun x => decide (x ≠ id))))) rd where
  keys := nodup_del I.keys
  now := I.now
  time := fun j a h => by
    rw [aget_del I.keys] at h
    split at h
    · cases h
    · exact I.time j a h
  lsn := by rw [List.length_set]; exact I.lsn
  fulln := by rw [List.length_set]; exact I.fulln
  rdn := I.rdn
  rdm := fun j => by
    rw [I.rdm, aget_del I.keys]
    by_cases e : j = id
    · subst e; rw [if_pos rfl, ha]; constructor
      · rintro ⟨h, _⟩; injection h with h; exact absurd h hn
      · rintro ⟨h, _⟩; cases h
    · rw [if_neg e]
  sln := fun k l' h => by
    rw [List.getElem?_set] at h
    split at h
    · split at h
      · injection h with h; subst h; exact (I.sln _ _ hl).filter _
      · cases h
    · exact I.sln k l' h
  slm := fun k l' h j => by
    rw [List.getElem?_set] at h
    split at h
    · rename_i hk
      split at h
      · injection h with h; subst h
        subst hk
        rw [List.mem_filter, I.slm _ _ hl, aget_del I.keys]
        by_cases e : j = id <;> simp [e]
      · cases h
    · rename_i hk
      rw [I.slm k l' h, aget_del I.keys]
      by_cases e : j = id
      · subst e
        rw [if_pos rfl]
        constructor
        · rintro ⟨c, h1, _, h3, _⟩; rw [ha] at h1; injection h1 with h1; subst h1; exact absurd h3 hk
        · rintro ⟨c, h1, _⟩; cases h1
      · rw [if_neg e]
  big := fun j f' h => by
    rw [List.getElem?_set] at h
    split at h
    · split at h
      · injection h with h; subst h
        unfold clr
        split
        · exact without_lt (I.big _ _ hf)
        · exact I.big _ _ hf
      · cases h
    · exact I.big _ _ h
  bits := fun j s f' l' h hs hl' => by
    have hd := dig_lt a (lev a t)
    have hsl := slot_split (a := a) (t := t) (j := j) hs
    have hb : 2 ^ dig a (lev a t) < 2 ^ 64 := Nat.pow_lt_pow_right (by omega) hd
    rw [List.getElem?_set] at h hl'
    by_cases hj : lev a t = j
    · rw [if_pos hj] at h
      split at h
      · injection h with h; subst h
        by_cases hds : dig a (lev a t) = s
        · rw [if_pos (hsl.2 ⟨hj, hds⟩)] at hl'
          split at hl'
          · injection hl' with hl'; subst hl'
            unfold clr
            split
            · rename_i he
              rw [without_bit hb (by omega), Nat.testBit_two_pow, decide_eq_true hds]
              exact ⟨fun q => by simp at q, fun q => absurd he q⟩
            · rename_i he
              have hne : l ≠ [] := fun e => he (by rw [e]; rfl)
              have := (I.bits (lev a t) s f l hf hs (by rw [show lev a t * 64 + s = slot a t from ((slot_split hs).2 ⟨rfl, hds⟩).symm]; exact hl)).2 hne
              simp only [this, he, ne_eq, not_false_eq_true]
          · cases hl'
        · rw [if_neg (fun e => hds (hsl.1 e).2)] at hl'
          have hi := I.bits j s f l' (hj ▸ hf) hs hl'
          unfold clr
          split
          · rw [without_bit hb (by omega), Nat.testBit_two_pow, decide_eq_false hds]; simpa using hi
          · exact hi
      · cases h
    · rw [if_neg hj] at h
      rw [if_neg (fun e => hj (hsl.1 e).1)] at hl'
      exact I.bits j s f' l' h hs hl'
/-- The time is set; the timers of its slot are to be placed anew. -/
theorem InvP.move (I : InvP t tm [] ls full rd) {to : Nat} (hto : t < to) (hmax : to ≤ 1099511627776) (hno : ∀ id a, aget tm id = some a → to ≤ a) {l : List Int} {f : Nat} (hl : ls[slot to t]? = some l) (hf : full[lev to t]? = some f) :
    InvP to tm l (ls.set (slot to t) []) (full.set (lev to t) (without f (2 ^ dig to (lev to t)))) rd where
  keys := I.keys
  now := hmax
  time := fun id a h => ⟨hno id a h, (I.time id a h).2⟩
  lsn := by rw [List.length_set]; exact I.lsn
  fulln := by rw [List.length_set]; exact I.fulln
  rdn := I.rdn
  rdm := fun j => by
    rw [I.rdm]
    constructor
    · rintro ⟨h, _⟩; have := hno _ _ h; omega
    · rintro ⟨h, h2⟩
      exact absurd ((I.slm _ _ hl j).2 ⟨to, h, by omega, rfl, List.not_mem_nil⟩) h2
  sln := fun k l' h => by
    rw [List.getElem?_set] at h
    split at h
    · split at h
      · injection h with h; subst h; exact List.nodup_nil
      · cases h
    · exact I.sln k l' h
  slm := fun k l' h j => by
    have key : ∀ c, aget tm j = some c → c ≠ to → j ∉ l → slot c to = slot c t ∧ slot c t ≠ slot to t := fun c hc hct hj => by
      have hge := hno j c hc
      have hs : slot c t ≠ slot to t := fun e => hj ((I.slm _ _ hl j).2 ⟨c, hc, by omega, e, List.not_mem_nil⟩)
      exact ⟨slot_move hto (by omega) hs, hs⟩
    rw [List.getElem?_set] at h
    split at h
    · rename_i hk
      split at h
      · injection h with h; subst h
        refine ⟨fun h => absurd h List.not_mem_nil, ?_⟩
        rintro ⟨c, h1, h2, h3, h4⟩
        have := key c h1 h2 h4
        omega
      · cases h
    · rename_i hk
      rw [I.slm k l' h]
      constructor
      · rintro ⟨c, h1, h2, h3, _⟩
        have hct : c ≠ to := fun e => by subst e; exact hk h3
        have hj : j ∉ l := fun hj => by
          obtain ⟨c', g1, _, g3, _⟩ := (I.slm _ _ hl j).1 hj
          rw [h1] at g1; injection g1 with g1; subst g1; omega
        exact ⟨c, h1, hct, by rw [(key c h1 hct hj).1]; exact h3, hj⟩
      · rintro ⟨c, h1, h2, h3, h4⟩
        have := hno j c h1
        exact ⟨c, h1, by omega, by rw [← (key c h1 h2 h4).1]; exact h3, List.not_mem_nil⟩
  big := fun j f' h => by
    rw [List.getElem?_set] at h
    split at h
    · split at h
      · injection h with h; subst h; exact without_lt (I.big _ _ hf)
      · cases h
    · exact I.big _ _ h
  bits := fun j s f' l' h hs hl' => by
    have hd := dig_lt to (lev to t)
    have hsl := slot_split (a := to) (t := t) (j := j) hs
    have hb : 2 ^ dig to (lev to t) < 2 ^ 64 := Nat.pow_lt_pow_right (by omega) hd
    rw [List.getElem?_set] at h hl'
    by_cases hj : lev to t = j
    · rw [if_pos hj] at h
      split at h
      · injection h with h; subst h
        rw [without_bit hb hs, Nat.testBit_two_pow]
        by_cases hds : dig to (lev to t) = s
        · rw [if_pos (hsl.2 ⟨hj, hds⟩)] at hl'
          split at hl'
          · injection hl' with hl'; subst hl'; simp [hds]
          · cases hl'
        · rw [if_neg (fun e => hds (hsl.1 e).2)] at hl'
          have hi := I.bits j s f l' (hj ▸ hf) hs hl'
          rw [decide_eq_false hds]; simpa using hi
      · cases h
    · rw [if_neg hj] at h
      rw [if_neg (fun e => hj (hsl.1 e).1)] at hl'
      exact I.bits j s f' l' h hs hl'
/-- A timer that isn't set yet is noted, and is to be placed. -/
theorem InvP.add (I : InvP t tm [] ls full rd) {id : Int} {a : Nat} (hid : aget tm id = none) (h1 : t ≤ a) (h2 : a ≤ 1099511627776) : InvP t (aset tm id a) [id] ls full rd where
  keys := nodup_set I.keys
  now := I.now
  time := fun j c h => by
    rw [aget_set] at h
    split at h
    · injection h with h; subst h; exact ⟨h1, h2⟩
    · exact I.time j c h
  lsn := I.lsn
  fulln := I.fulln
  rdn := I.rdn
  rdm := fun j => by
    rw [I.rdm, aget_set]
    by_cases e : j = id
    · subst e; simp [hid]
    · simp [e]
  sln := I.sln
  slm := fun k l h j => by
    rw [I.slm k l h, aget_set]
    by_cases e : j = id
    · subst e; simp [hid]
    · simp [e]
  big := I.big
  bits := I.bits
theorem InvP.new : InvP 0 [] [] (List.replicate 448 []) (List.replicate 7 0) [] where
  keys := List.nodup_nil
  now := by decide
  time := fun _ _ h => by cases h
  lsn := List.length_replicate
  fulln := List.length_replicate
  rdn := List.nodup_nil
  rdm := fun j => by simp [aget]
  sln := fun k l h => by rw [List.getElem?_replicate] at h; split at h <;> cases h; exact List.nodup_nil
  slm := fun k l h j => by rw [List.getElem?_replicate] at h; split at h <;> cases h; simp [aget]
  big := fun j f h => by rw [List.getElem?_replicate] at h; split at h <;> cases h; decide
  bits := fun j s f l h _ hl => by
    rw [List.getElem?_replicate] at h hl
    split at h <;> cases h
    split at hl <;> cases hl
    simp
/-- The first timer lies in the list of the present, if this isn't empty. -/
theorem InvP.first_now (I : InvP t tm [] ls full rd) {id : Int} {a : Nat} (hid : id ∈ rd) (ha : aget tm id = some a) (hle : ∀ j ∈ rd, ∀ b c, aget tm id = some b → aget tm j = some c → b < c ∨ (b = c ∧ id ≤ j)) : First tm id a := by
  have h0 := ((I.rdm id).1 hid).1
  rw [ha] at h0; injection h0 with h0; subst h0
  refine ⟨ha, fun j c hc => ?_⟩
  by_cases e : c = a
  · subst e; exact hle j ((I.rdm j).2 ⟨hc, List.not_mem_nil⟩) c c ha hc
  · have := (I.time j c hc).1; omega
/-- Else it lies in the lowest slot of the lowest level that isn't empty. -/
theorem InvP.first_slot (I : InvP t tm [] ls full []) {j s f : Nat} {l : List Int} (hf : full[j]? = some f) (hlow : ∀ (j' f' : Nat), j' < j → full[j']? = some f' → f' = 0) (hs : s < 64) (hsl : ∀ i, i < s → f.testBit i = false) (hl : ls[j * 64 + s]? = some l)
    {id : Int} {a : Nat} (hid : id ∈ l) (ha : aget tm id = some a) (hle : ∀ j ∈ l, ∀ b c, aget tm id = some b → aget tm j = some c → b < c ∨ (b = c ∧ id ≤ j)) : First tm id a := by
  have hgt : ∀ i c, aget tm i = some c → t < c := fun i c hc => by
    rcases Nat.lt_or_ge t c with g | g
    · exact g
    · have h1 := (I.time i c hc).1
      have : c = t := by omega
      subst this
      exact absurd ((I.rdm i).2 ⟨hc, List.not_mem_nil⟩) List.not_mem_nil
  obtain ⟨a', h1, h2, h3, _⟩ := (I.slm _ _ hl id).1 hid
  rw [ha] at h1; injection h1 with h1; subst h1
  refine ⟨ha, fun i c hc => ?_⟩
  have hct := hgt i c hc
  have hcs := slot_lt (I.time i c hc).2 I.now (show c ≠ t by omega)
  obtain ⟨lc, hlc⟩ : ∃ lc, ls[slot c t]? = some lc := ⟨_, List.getElem?_eq_getElem (by rw [I.lsn]; exact hcs)⟩
  have hic : i ∈ lc := (I.slm _ _ hlc i).2 ⟨c, hc, by omega, rfl, List.not_mem_nil⟩
  have hne : lc ≠ [] := fun e => by rw [e] at hic; cases hic
  rcases Nat.lt_trichotomy (slot c t) (j * 64 + s) with g | g | g
  · exfalso
    have hd := dig_lt c (lev c t)
    obtain ⟨fc, hfc⟩ : ∃ fc, full[lev c t]? = some fc := ⟨_, List.getElem?_eq_getElem (by rw [I.fulln]; exact lev_lt (I.time i c hc).2 I.now (by omega))⟩
    have hb := (I.bits _ _ _ _ hfc hd (show ls[lev c t * 64 + dig c (lev c t)]? = some lc from hlc)).2 hne
    unfold slot at g
    rcases Nat.lt_or_ge (lev c t) j with g2 | g2
    · rw [hlow _ _ g2 hfc] at hb; simp at hb
    · have e : lev c t = j := by omega
      rw [e] at hfc; rw [hf] at hfc; injection hfc with hfc; subst hfc
      rw [hsl _ (by omega)] at hb; cases hb
  · rw [g] at hlc; rw [hl] at hlc; injection hlc with hlc; subst hlc
    exact hle i hic a c ha hc
  · have := slot_order (a := a) (b := c) (n := t) (hgt id a ha) hct (by omega)
    omega
theorem InvP.slot_some (I : InvP t tm [] ls full rd) {j s f : Nat} {l : List Int} (hf : full[j]? = some f) (hs : s < 64) (hb : f.testBit s = true) (hl : ls[j * 64 + s]? = some l) : l ≠ [] := (I.bits _ _ _ _ hf hs hl).1 hb
/-- Where no list holds any, there is none. -/
theorem InvP.empty (I : InvP t tm [] ls full []) (h : ∀ (j f : Nat), full[j]? = some f → f = 0) : tm = [] := by
  cases tm with
  | nil => rfl
  | cons p tm =>
    exfalso
    have hc : aget (p :: tm) p.1 = some p.2 := by simp [aget]
    by_cases e : p.2 = t
    · rw [e] at hc; exact absurd ((I.rdm p.1).2 ⟨hc, List.not_mem_nil⟩) List.not_mem_nil
    · have hcs := slot_lt (I.time _ _ hc).2 I.now e
      obtain ⟨lc, hlc⟩ : ∃ lc, ls[slot p.2 t]? = some lc := ⟨_, List.getElem?_eq_getElem (by rw [I.lsn]; exact hcs)⟩
      have hic : p.1 ∈ lc := (I.slm _ _ hlc p.1).2 ⟨_, hc, e, rfl, List.not_mem_nil⟩
      obtain ⟨fc, hfc⟩ : ∃ fc, full[lev p.2 t]? = some fc := ⟨_, List.getElem?_eq_getElem (by rw [I.fulln]; exact lev_lt (I.time _ _ hc).2 I.now e)⟩
      have hb := (I.bits _ _ _ _ hfc (dig_lt _ _) (show ls[lev p.2 t * 64 + dig p.2 (lev p.2 t)]? = some lc from hlc)).2 (fun e => by rw [e] at hic; cases hic)
      rw [h _ _ hfc] at hb; simp at hb
end Go.WheelM
