/- The document's pool: a table of connections in the order of their numbers, those that wait. Conditions: none. -/
import Derived.Test.YtpfnhkdhcjclpaaWheelM
import Derived.Test.YtpfnhkdhcjclpaaSxH
namespace Go.PoolM
open Go.WheelM
/-- A connection: its host, its exchange, whether it is busy. -/
structure Lk where
  h : Int
  b : Int
  u : Bool
  deriving DecidableEq
structure PS where
  most : Int
  pend : Int
  opened : Int
  conns : List (Int × Lk)
  queue : List (Int × Int)
  deriving DecidableEq
def PS.holder (S : PS) (n : Int) : Int × Bool := match aget S.conns n with
  | some l => (l.b, l.u)
  | none => (0, false)
def Lk.by_ (l : Lk) (x : Int) : Bool := l.u && decide (l.b = x)
def PS.knows (S : PS) (x : Int) : Bool := S.conns.any (fun p => p.2.by_ x) || S.queue.any (fun q => decide (q.1 = x))
def PS.busy (S : PS) : Nat := S.conns.countP fun p => p.2.u
/-- Idle, and fit for a host. -/
def Lk.free (l : Lk) (h : Int) (any : Bool) : Bool := !l.u && (any || decide (l.h = h))
def idle (cs : List (Int × Lk)) (h : Int) (any : Bool) : Option (Int × Lk) := cs.find? fun p => p.2.free h any
def PS.release (S : PS) (n : Int) : Int × PS :=
  match aget S.conns n with
  | some l => if l.u then (0, { S with conns := aset S.conns n ⟨l.h, 0, false⟩ }) else (191, S)
  | none => (191, S)
def PS.remove (S : PS) (n : Int) : Int × PS :=
  match aget S.conns n with
  | some _ => (0, { S with conns := adel S.conns n })
  | none => (191, S)
abbrev no (y : Int) (ids : List (Int × Int)) : List (Int × Int) := ids.filter (fun q => decide (q.1 ≠ y))
def PS.cancel (S : PS) (x : Int) : Bool × PS := (decide ((no x S.queue).length < S.queue.length), { S with queue := no x S.queue })
/-- What the state of a pool is like. -/
structure PS.Ok (S : PS) : Prop where
  asc : (S.conns.map (·.1)).Pairwise (· < ·)
  low : ∀ p ∈ S.conns, 1 ≤ p.1 ∧ p.1 ≤ S.opened
  op : 0 ≤ S.opened ∧ S.opened ≤ 4611686018427387904
  cl : (S.conns.length : Int) ≤ S.most
  most : 1 ≤ S.most ∧ S.most ≤ 256
  pend : 0 ≤ S.pend ∧ S.pend ≤ 256
  ql : (S.queue.length : Int) ≤ S.pend
def asc : List Int → Bool
  | [] => true
  | [_] => true
  | a :: b :: l => decide (a < b) && asc (b :: l)
theorem asc_spec : ∀ {l : List Int}, asc l = true → l.Pairwise (· < ·)
  | [], _ => List.Pairwise.nil
  | [_], _ => List.pairwise_singleton ..
  | a :: b :: l, h => by
    simp only [asc, Bool.and_eq_true, decide_eq_true_eq] at h
    have ih := asc_spec h.2
    refine List.pairwise_cons.2 ⟨fun c hc => ?_, ih⟩
    rcases List.mem_cons.1 hc with rfl | hc
    · exact h.1
    · exact Int.lt_trans h.1 ((List.pairwise_cons.1 ih).1 c hc)
def PS.okb (S : PS) : Bool :=
  asc (S.conns.map (·.1)) && S.conns.all (fun p => decide (1 ≤ p.1) && decide (p.1 ≤ S.opened)) && decide (0 ≤ S.opened) && decide (S.opened ≤ 4611686018427387904) && decide ((S.conns.length : Int) ≤ S.most) && decide (1 ≤ S.most) && decide (S.most ≤ 256) && decide (0 ≤ S.pend) && decide (S.pend ≤ 256) && decide ((S.queue.length : Int) ≤ S.pend)
theorem PS.okb_ok {S : PS} (h : S.okb = true) : S.Ok := by
  simp only [PS.okb, Bool.and_eq_true, decide_eq_true_eq, List.all_eq_true] at h
  obtain ⟨⟨⟨⟨⟨⟨⟨⟨⟨h1, h2⟩, h3⟩, h4⟩, h5⟩, h6⟩, h7⟩, h8⟩, h9⟩, h10⟩ := h
  exact ⟨asc_spec h1, fun p hp => h2 p hp, ⟨h3, h4⟩, h5, ⟨h6, h7⟩, ⟨h8, h9⟩, h10⟩
/-- What can be had: the grant (kind, connection, closed), the pool behind it. -/
def PS.can (S : PS) (x h : Int) : Option ((Int × Int × Int) × PS) :=
  match idle S.conns h false with
  | some p => some ((1, p.1, 0), { S with conns := aset S.conns p.1 ⟨h, x, true⟩ })
  | none =>
    if S.most ≤ S.conns.length then
      match idle S.conns 0 true with
      | some p => some ((2, S.opened + 1, p.1), { S with opened := S.opened + 1, conns := adel S.conns p.1 ++ [(S.opened + 1, ⟨h, x, true⟩)] })
      | none => none
    else some ((2, S.opened + 1, 0), { S with opened := S.opened + 1, conns := S.conns ++ [(S.opened + 1, ⟨h, x, true⟩)] })
def PS.acquire (S : PS) (x h : Int) : ((Int × Int × Int) × Int) × PS :=
  if S.knows x then (((0, 0, 0), 190), S)
  else match (if S.queue.length = 0 then S.can x h else none) with
    | some (g, S') => ((g, 0), S')
    | none => if S.pend ≤ S.queue.length then (((4, 0, 0), 0), S) else (((3, 0, 0), 0), { S with queue := S.queue ++ [(x, h)] })
def PS.serve (S : PS) : (Int × (Int × Int × Int) × Bool) × PS :=
  match S.queue with
  | [] => ((0, (0, 0, 0), false), S)
  | w :: l => match S.can w.1 w.2 with
    | some (g, S') => ((w.1, g, true), { S' with queue := l })
    | none => ((0, (0, 0, 0), false), S)
section
variable {S : PS} {x h : Int} {p : Int × Lk}
theorem can_reuse (hp : idle S.conns h false = some p) : S.can x h = some ((1, p.1, 0), { S with conns := aset S.conns p.1 ⟨h, x, true⟩ }) := by simp only [PS.can, hp]
theorem can_close (hn : idle S.conns h false = none) (hm : S.most ≤ S.conns.length) (hp : idle S.conns 0 true = some p) : S.can x h = some ((2, S.opened + 1, p.1), { S with opened := S.opened + 1, conns := adel S.conns p.1 ++ [(S.opened + 1, ⟨h, x, true⟩)] }) := by
  simp only [PS.can, hn, if_pos hm, hp]
theorem can_none (hn : idle S.conns h false = none) (hm : S.most ≤ S.conns.length) (hp : idle S.conns 0 true = none) : S.can x h = none := by simp only [PS.can, hn, if_pos hm, hp]
theorem can_dial (hn : idle S.conns h false = none) (hm : ¬ S.most ≤ S.conns.length) : S.can x h = some ((2, S.opened + 1, 0), { S with opened := S.opened + 1, conns := S.conns ++ [(S.opened + 1, ⟨h, x, true⟩)] }) := by simp only [PS.can, hn, if_neg hm]
end
section
variable {S S' : PS} {x h : Int} {g : Int × Int × Int}
theorem acq_known (hk : S.knows x = true) : S.acquire x h = (((0, 0, 0), 190), S) := by simp only [PS.acquire, hk, if_true]
theorem acq_got (hk : S.knows x = false) (hq : (S.queue.length : Int) = 0) (hc : S.can x h = some (g, S')) : S.acquire x h = ((g, 0), S') := by
  have hq : S.queue.length = 0 := by omega
  simp only [PS.acquire, hk, Bool.false_eq_true, if_false, hq, if_true, hc]
theorem acq_else (hk : S.knows x = false) (hn : (S.queue.length : Int) = 0 → S.can x h = none) : S.acquire x h = if S.pend ≤ S.queue.length then (((4, 0, 0), 0), S) else (((3, 0, 0), 0), { S with queue := S.queue ++ [(x, h)] }) := by
  have e : (if S.queue.length = 0 then S.can x h else none) = none := by
    split
    · exact hn (by omega)
    · rfl
  simp only [PS.acquire, hk, Bool.false_eq_true, if_false, e]
end
theorem can_queue {S S' : PS} {x h : Int} {g : Int × Int × Int} (hc : S.can x h = some (g, S')) : S'.queue = S.queue := by
  unfold PS.can at hc
  split at hc
  · injection hc with hc; injection hc with _ hc; subst hc; rfl
  · split at hc
    · split at hc
      · injection hc with hc; injection hc with _ hc; subst hc; rfl
      · cases hc
    · injection hc with hc; injection hc with _ hc; subst hc; rfl
/-- One more at a place, if there is such a place. -/
def bump (xs : List Int) (h : Int) : List Int := if 0 ≤ h then xs.modify h.toNat (· + 1) else xs
theorem bump_in {xs : List Int} {i : Nat} {z : Int} (h : xs[i]? = some z) : bump xs (i : Nat) = xs.set i (z + 1) := by
  have hi := (List.getElem?_eq_some_iff.1 h).1
  have hz := (List.getElem?_eq_some_iff.1 h).2
  unfold bump
  rw [if_pos (by omega), Int.toNat_natCast]
  apply List.ext_getElem
  · simp
  · intro k h1 h2
    rw [List.getElem_modify, List.getElem_set]
    split
    · rename_i e; subst e; rw [hz]
    · rfl
theorem bump_out {xs : List Int} {h : Int} (hn : ¬ (0 ≤ h ∧ h < xs.length)) : bump xs h = xs := by
  unfold bump
  split
  · rename_i h0
    apply List.ext_getElem
    · simp
    · intro k h1 h2
      rw [List.getElem_modify]
      rw [if_neg (by omega)]
  · rfl
theorem bump_len (xs : List Int) (h : Int) : (bump xs h).length = xs.length := by
  unfold bump; split <;> simp
/-- How often each number below n stands in a list. -/
def tally (hs : List Int) (n : Nat) : List Int := (List.range n).map fun i : Nat => ((hs.count (i : Int) : Nat) : Int)
theorem tally_len (hs : List Int) (n : Nat) : (tally hs n).length = n := by simp [tally]
theorem tally_nil (n : Nat) : tally [] n = List.replicate n 0 := by
  apply List.ext_getElem
  · simp [tally]
  · intro i h1 h2; simp [tally]
theorem tally_perm {hs hs' : List Int} (h : hs.Perm hs') (n : Nat) : tally hs n = tally hs' n := by
  unfold tally
  exact List.map_congr_left fun i _ => by rw [h.count_eq]
theorem tally_bump (hs : List Int) (n : Nat) (h : Int) : bump (tally hs n) h = tally (h :: hs) n := by
  apply List.ext_getElem
  · rw [bump_len, tally_len, tally_len]
  · intro i h1 h2
    have hi : i < n := by rw [tally_len] at h2; exact h2
    unfold bump
    by_cases h0 : 0 ≤ h
    · simp only [if_pos h0]
      rw [List.getElem_modify]
      simp only [tally, List.getElem_map, List.getElem_range, List.count_cons]
      by_cases e : h.toNat = i
      · have : h = (i : Int) := by omega
        subst this
        simp
      · rw [if_neg e]
        have : ¬ (h == (i : Int)) = true := by simp; omega
        simp [this]
    · simp only [if_neg h0]
      simp only [tally, List.getElem_map, List.getElem_range, List.count_cons]
      have : ¬ (h == (i : Int)) = true := by simp; omega
      simp [this]
theorem tally_le {hs : List Int} {n : Nat} : ∀ z ∈ tally hs n, z ≤ hs.length ∧ 0 ≤ z := by
  intro z hz
  obtain ⟨i, _, rfl⟩ := List.mem_map.1 hz
  have := List.count_le_length (a := (i : Int)) (l := hs)
  omega
def busyHosts (cs : List (Int × Lk)) : List Int := (cs.filter fun p => p.2.u).map fun p => p.2.h
def PS.hosts (S : PS) : List Int := busyHosts S.conns ++ S.queue.map (·.2)
theorem busy_rest {l : List (Int × Lk)} {i : Nat} {p : Int × Lk} (h : l[i]? = some p) : (busyHosts l).Perm ((if p.2.u then [p.2.h] else []) ++ busyHosts (l.eraseIdx i)) := by
  have hp : l.Perm (p :: l.eraseIdx i) := Go.Sx.perm_at h
  refine ((hp.filter _).map _).trans ?_
  unfold busyHosts
  rw [List.filter_cons]
  split <;> simp
theorem aget_of_asc : ∀ {cs : List (Int × Lk)} {p : Int × Lk}, (cs.map (·.1)).Pairwise (· < ·) → p ∈ cs → aget cs p.1 = some p.2
  | [], _, _, h => by cases h
  | q :: l, p, ha, h => by
    rw [List.map_cons, List.pairwise_cons] at ha
    simp only [aget]
    rcases List.mem_cons.1 h with rfl | h
    · simp
    · have := ha.1 p.1 (List.mem_map.2 ⟨p, h, rfl⟩)
      rw [if_neg (by omega)]
      exact aget_of_asc ha.2 h
theorem aset_new {cs : List (Int × Lk)} {k : Int} {v : Lk} (h : aget cs k = none) : aset cs k v = cs ++ [(k, v)] := by
  induction cs with
  | nil => rfl
  | cons p l ih =>
    simp only [aget] at h
    split at h
    · cases h
    · rename_i hne
      simp only [aset, if_neg hne, ih h, List.cons_append]
theorem aget_above {cs : List (Int × Lk)} {k : Int} (h : ∀ p ∈ cs, p.1 < k) : aget cs k = none := by
  rw [aget_none]
  intro hm
  obtain ⟨p, hp, rfl⟩ := List.mem_map.1 hm
  have := h p hp
  omega
theorem mem_del {cs : List (Int × Lk)} {k : Int} {p : Int × Lk} (h : p ∈ adel cs k) : p ∈ cs := by
  induction cs with
  | nil => exact h
  | cons q l ih =>
    simp only [adel] at h
    split at h
    · exact List.mem_cons_of_mem _ h
    · rcases List.mem_cons.1 h with rfl | h
      · exact List.mem_cons_self ..
      · exact List.mem_cons_of_mem _ (ih h)
theorem find_at {host : Int} {any : Bool} : ∀ {cs : List (Int × Lk)} {k : Nat} {p : Int × Lk}, cs[k]? = some p → p.2.free host any = true → (∀ (j : Nat) q, j < k → cs[j]? = some q → q.2.free host any = false) → idle cs host any = some p
  | [], _, _, h, _, _ => by simp at h
  | q :: l, 0, p, h, hf, _ => by
    simp at h; subst h
    simp [idle, hf]
  | q :: l, k + 1, p, h, hf, hn => by
    have h0 := hn 0 q (by omega) rfl
    have ih := find_at (cs := l) (k := k) (p := p) (by simpa using h) hf (fun j r hj hr => hn (j + 1) r (by omega) (by simpa using hr))
    unfold idle at ih ⊢
    rw [List.find?_cons, h0]
    exact ih
theorem find_none {host : Int} {any : Bool} {cs : List (Int × Lk)} (h : ∀ q ∈ cs, q.2.free host any = false) : idle cs host any = none := by
  unfold idle
  rw [List.find?_eq_none]
  intro q hq
  rw [h q hq]; simp
/-! ### one connection, and those that wait -/
def od (m h x : Int) (u : Bool) (q : List (Int × Int)) : PS := ⟨1, 256, m, [(m, ⟨h, x, u⟩)], q⟩
theorem od_ok {m h x : Int} {u : Bool} {q : List (Int × Int)} (h1 : 1 ≤ m) (h2 : m ≤ 4611686018427387904) (hq : q.length ≤ 256) : (od m h x u q).Ok :=
  ⟨by simp [od], by simp [od, h1], by simp [od]; omega, by simp [od], by simp [od], by simp [od], by simp [od]; omega⟩
abbrev wish (i : Nat) : Int × Int := ((i : Int), (i : Int) % 3)
/-- Who waits, from k on, but for those who gave it up. -/
def wq (out : List Bool) (k : Nat) : List (Int × Int) := ((List.range' k (out.length - k)).filter fun i => !(out.getD i true)).map wish
def allq (k : Nat) : List (Int × Int) := (List.range k).map wish
theorem allq_step (k : Nat) : allq (k + 1) = allq k ++ [wish k] := by simp [allq, List.range_succ]
theorem wq_start (n : Nat) : wq (List.replicate n false) 0 = allq n := by
  unfold wq allq
  rw [List.length_replicate, Nat.sub_zero, ← List.range_eq_range', List.filter_eq_self.2]
  intro i hi
  have := List.mem_range.1 hi
  simp [List.getD, this]
theorem acq_wait {k : Nat} (h : k ≤ 200) : (od 1 0 (-1) true (allq k)).acquire k ((k : Int) % 3) = (((3, 0, 0), 0), od 1 0 (-1) true (allq (k + 1))) := by
  have hk : (od 1 0 (-1) true (allq k)).knows k = false := by
    simp only [PS.knows, od, List.any_cons, List.any_nil, Lk.by_, Bool.true_and, Bool.or_false, Bool.or_eq_false_iff]
    refine ⟨decide_eq_false (by omega), List.any_eq_false.2 fun q hq => ?_⟩
    obtain ⟨i, hi, rfl⟩ := List.mem_map.1 hq
    have := List.mem_range.1 hi
    simp
    omega
  rw [acq_else hk (fun _ => can_none (by simp [od, idle, Lk.free]) (by simp [od]) (by simp [od, idle, Lk.free])), if_neg (by simp [od, allq]; omega)]
  simp [od, allq_step]
theorem getD_set {out : List Bool} {i j : Nat} (hi : i < out.length) : (out.set i true).getD j true = if j = i then true else out.getD j true := by
  simp only [List.getD, List.getElem?_set]
  by_cases e : i = j
  · subst e; simp [hi]
  · simp [e, Ne.symm e]
theorem wq_cancel {out : List Bool} {i k : Nat} (hi : i < out.length) : no (i : Int) (wq out k) = wq (out.set i true) k := by
  unfold no wq
  rw [List.length_set, List.filter_map, List.filter_filter]
  congr 1
  refine List.filter_congr fun j _ => ?_
  rw [getD_set hi]
  by_cases e : j = i
  · subst e; simp
  · simp only [e, if_false, Function.comp]
    have : (decide ((wish j).1 ≠ (i : Int))) = true := by simp; omega
    simp [this]
theorem wq_mem {out : List Bool} {i : Nat} (h : out[i]? = some false) : wish i ∈ wq out 0 := by
  have hi := (List.getElem?_eq_some_iff.1 h).1
  refine List.mem_map.2 ⟨i, List.mem_filter.2 ⟨by rw [Nat.sub_zero, ← List.range_eq_range']; exact List.mem_range.2 hi, by simp [List.getD, h]⟩, rfl⟩
theorem wq_shrinks {out : List Bool} {i : Nat} {o : Bool} (h : out[i]? = some o) : decide ((no (i : Int) (wq out 0)).length < (wq out 0).length) = !o := by
  have hi := (List.getElem?_eq_some_iff.1 h).1
  cases o with
  | true =>
    have e : out.set i true = out := by
      apply List.ext_getElem?
      intro j
      rw [List.getElem?_set]
      split
      · rename_i e; subst e; rw [h]
      · rfl
    rw [wq_cancel hi, e]; simp
  | false =>
    simp only [Bool.not_false, decide_eq_true_eq]
    have hm := wq_mem h
    have hle : (no (i : Int) (wq out 0)).length ≤ (wq out 0).length := List.length_filter_le ..
    rcases Nat.lt_or_ge (no (i : Int) (wq out 0)).length (wq out 0).length with g | g
    · exact g
    · have heq := List.length_filter_eq_length_iff.1 (Nat.le_antisymm hle g) _ hm
      simp at heq
theorem wq_next {out : List Bool} {k : Nat} (hk : k < out.length) : wq out k = (if out.getD k true then [] else [wish k]) ++ wq out (k + 1) := by
  unfold wq
  rw [show out.length - k = (out.length - (k + 1)) + 1 by omega, List.range'_succ, List.filter_cons]
  cases out.getD k true <;> simp
theorem wq_end (out : List Bool) : wq out out.length = [] := by simp [wq]
theorem wq_len (out : List Bool) (k : Nat) : (wq out k).length ≤ out.length := by
  unfold wq
  rw [List.length_map]
  refine Nat.le_trans (List.length_filter_le ..) ?_
  rw [List.length_range']; omega
theorem od_release (m h x : Int) (q : List (Int × Int)) : (od m h x true q).release m = (0, od m h 0 false q) := by simp [PS.release, od, aget, aset]
theorem od_same {m h x y : Int} {l : List (Int × Int)} : (od m h x false ((y, h) :: l)).serve = ((y, (1, m, 0), true), od m h y true l) := by
  simp [PS.serve, PS.can, od, idle, Lk.free, aset]
theorem od_other {m h x y h' : Int} {l : List (Int × Int)} (hn : h ≠ h') : (od m h x false ((y, h') :: l)).serve = ((y, (2, m + 1, m), true), od (m + 1) h' y true l) := by
  simp [PS.serve, PS.can, od, idle, Lk.free, adel, hn]
theorem od_cancel {m h x : Int} {u : Bool} {out : List Bool} {i : Nat} {o : Bool} (hi : out[i]? = some o) : (od m h x u (wq out 0)).cancel i = (!o, od m h x u (wq (out.set i true) 0)) := by
  have h1 := wq_shrinks hi
  have h2 := wq_cancel (k := 0) (List.getElem?_eq_some_iff.1 hi).1
  rw [h2] at h1
  simp only [PS.cancel, od, h2, h1]
theorem od_none {m h x : Int} {u : Bool} : (od m h x u []).serve = ((0, (0, 0, 0), false), od m h x u []) := rfl
end Go.PoolM
