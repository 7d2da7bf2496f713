/- What every step on a pool keeps. Conditions: none. -/
import Derived.Test.YtpfnhkdhcjclpaaPoolM
namespace Go.PoolM
open Go.WheelM
variable {S S' : PS} {x h n : Int} {g : Int × Int × Int}
/-- The state behind a step: right, and hardly further than before. -/
structure Step (S S' : PS) : Prop where
  ok : S'.Ok
  op : S.opened ≤ S'.opened ∧ S'.opened ≤ S.opened + 1
  most : S'.most = S.most
  pend : S'.pend = S.pend
theorem Step.refl (ok : S.Ok) : Step S S := ⟨ok, by omega, rfl, rfl⟩
theorem keys_aset {cs : List (Int × Lk)} {p : Int × Lk} {v : Lk} (h : p ∈ cs) : (aset cs p.1 v).map (·.1) = cs.map (·.1) := by
  rw [keys_set, if_pos (List.mem_map.2 ⟨p, h, rfl⟩)]
theorem low_of_keys {cs cs' : List (Int × Lk)} {m : Int} (hk : ∀ k ∈ cs'.map (·.1), k ∈ cs.map (·.1)) (h : ∀ p ∈ cs, 1 ≤ p.1 ∧ p.1 ≤ m) : ∀ p ∈ cs', 1 ≤ p.1 ∧ p.1 ≤ m := by
  intro p hp
  obtain ⟨q, hq, e⟩ := List.mem_map.1 (hk p.1 (List.mem_map.2 ⟨p, hp, rfl⟩))
  have := h q hq
  rw [e] at this; exact this
theorem len_of_keys {cs cs' : List (Int × Lk)} (hk : cs'.map (·.1) = cs.map (·.1)) : cs'.length = cs.length := by
  have := congrArg List.length hk
  simpa using this
theorem set_step (ok : S.Ok) {p : Int × Lk} {v : Lk} (hp : p ∈ S.conns) : Step S { S with conns := aset S.conns p.1 v } := by
  have hk := keys_aset (v := v) hp
  exact ⟨⟨by show List.Pairwise _ _; rw [hk]; exact ok.asc, low_of_keys (by rw [hk]; exact fun _ h => h) ok.low, ok.op, by show ((aset S.conns p.1 v).length : Int) ≤ _; rw [len_of_keys hk]; exact ok.cl, ok.most, ok.pend, ok.ql⟩, by simp; omega, rfl, rfl⟩
theorem del_keys (cs : List (Int × Lk)) (k : Int) : (adel cs k).map (·.1) = (cs.map (·.1)).erase k := keys_del
theorem del_sub (cs : List (Int × Lk)) (k : Int) : List.Sublist ((adel cs k).map (·.1)) (cs.map (·.1)) := by rw [del_keys]; exact List.erase_sublist ..
theorem del_step (ok : S.Ok) (k : Int) : Step S { S with conns := adel S.conns k } := by
  have hs := del_sub S.conns k
  have hl := hs.length_le
  simp only [List.length_map] at hl
  exact ⟨⟨ok.asc.sublist hs, low_of_keys (fun k hk => hs.subset hk) ok.low, ok.op, by have := ok.cl; simp only; omega, ok.most, ok.pend, ok.ql⟩, by simp; omega, rfl, rfl⟩
theorem snoc_step (ok : S.Ok) (ho : S.opened < 4611686018427387904) (hl : (S.conns.length : Int) < S.most) (v : Lk) : Step S { S with opened := S.opened + 1, conns := S.conns ++ [(S.opened + 1, v)] } := by
  refine ⟨⟨?_, ?_, ?_, ?_, ok.most, ok.pend, ok.ql⟩, by simp; omega, rfl, rfl⟩
  · simp only [List.map_append, List.map_cons, List.map_nil]
    refine List.pairwise_append.2 ⟨ok.asc, List.pairwise_singleton .., fun a ha b hb => ?_⟩
    obtain ⟨p, hp, rfl⟩ := List.mem_map.1 ha
    rw [List.mem_singleton] at hb; subst hb
    have := (ok.low p hp).2; omega
  · intro p hp
    have := ok.op
    rcases List.mem_append.1 hp with hp | hp
    · have := ok.low p hp; simp only; omega
    · rw [List.mem_singleton] at hp; subst hp; simp only; omega
  · have := ok.op; simp only; omega
  · simp; omega
theorem Step.trans' {S1 S2 : PS} (h1 : Step S S1) (h2 : Step S1 S2) (e : S1.opened = S.opened) : Step S S2 := ⟨h2.ok, by have := h2.op; omega, h2.most.trans h1.most, h2.pend.trans h1.pend⟩
theorem idle_mem {cs : List (Int × Lk)} {any : Bool} {p : Int × Lk} (hp : idle cs h any = some p) : p ∈ cs := List.mem_of_find?_eq_some hp
theorem adel_len {cs : List (Int × Lk)} {p : Int × Lk} (hp : p ∈ cs) : (adel cs p.1).length = cs.length - 1 := by
  have := congrArg List.length (del_keys cs p.1)
  rw [List.length_map, List.length_erase_of_mem (List.mem_map.2 ⟨p, hp, rfl⟩), List.length_map] at this
  exact this
theorem can_step (ok : S.Ok) (ho : S.opened < 4611686018427387904) (hc : S.can x h = some (g, S')) : Step S S' := by
  unfold PS.can at hc
  split at hc
  · rename_i p hp
    injection hc with hc; injection hc with _ hc; subst hc
    exact set_step ok (idle_mem hp)
  · split at hc
    · split at hc
      · rename_i p hp
        injection hc with hc; injection hc with _ hc; subst hc
        have h1 := del_step ok p.1
        have hm := idle_mem hp
        have hl := adel_len hm
        have h0 : 0 < S.conns.length := by cases hcs : S.conns with
          | nil => rw [hcs] at hm; cases hm
          | cons _ _ => simp
        exact h1.trans' (snoc_step h1.ok ho (by have := ok.cl; simp only [hl]; omega) _) rfl
      · cases hc
    · rename_i hm
      injection hc with hc; injection hc with _ hc; subst hc
      exact snoc_step ok ho (by omega) _
theorem acquire_step (ok : S.Ok) (ho : S.opened < 4611686018427387904) : Step S (S.acquire x h).2 := by
  unfold PS.acquire
  split
  · exact .refl ok
  · split
    · rename_i hc
      split at hc
      · exact can_step ok ho hc
      · cases hc
    · split
      · exact .refl ok
      · rename_i hp
        exact ⟨⟨ok.asc, ok.low, ok.op, ok.cl, ok.most, ok.pend, by simp; omega⟩, by simp; omega, rfl, rfl⟩
theorem serve_step (ok : S.Ok) (ho : S.opened < 4611686018427387904) : Step S S.serve.2 := by
  unfold PS.serve
  split
  · exact .refl ok
  · rename_i w l hq
    split
    · rename_i g S' hc
      have h1 := can_step ok ho hc
      have h2 := can_queue hc
      have h3 := h1.ok.ql
      rw [h2, hq] at h3
      exact ⟨⟨h1.ok.asc, h1.ok.low, h1.ok.op, h1.ok.cl, h1.ok.most, h1.ok.pend, by simp at h3 ⊢; omega⟩, h1.op, h1.most, h1.pend⟩
    · exact .refl ok
theorem aget_mem' {cs : List (Int × Lk)} {l : Lk} (h : aget cs n = some l) : (n, l) ∈ cs := aget_mem h
theorem release_step (ok : S.Ok) : Step S (S.release n).2 := by
  unfold PS.release
  split
  · rename_i l hl
    split
    · exact set_step ok (p := (n, l)) (aget_mem' hl)
    · exact .refl ok
  · exact .refl ok
theorem remove_step (ok : S.Ok) : Step S (S.remove n).2 := by
  unfold PS.remove
  split
  · exact del_step ok n
  · exact .refl ok
theorem cancel_step (ok : S.Ok) : Step S (S.cancel x).2 := by
  have : (no x S.queue).length ≤ S.queue.length := List.length_filter_le ..
  exact ⟨⟨ok.asc, ok.low, ok.op, ok.cl, ok.most, ok.pend, by have := ok.ql; simp only [PS.cancel]; omega⟩, by simp [PS.cancel]; omega, rfl, rfl⟩
/-! ### hosts within bounds -/
def AllIn (P : Int → Prop) (S : PS) : Prop := (∀ p ∈ S.conns, P p.2.h) ∧ ∀ q ∈ S.queue, P q.2
theorem mem_aset {cs : List (Int × Lk)} {k : Int} {v : Lk} {p : Int × Lk} (hp : p ∈ aset cs k v) : p ∈ cs ∨ p.2 = v := by
  induction cs with
  | nil => simp only [aset, List.mem_singleton] at hp; subst hp; exact .inr rfl
  | cons q l ih =>
    simp only [aset] at hp
    split at hp
    · rcases List.mem_cons.1 hp with rfl | hp
      · exact .inr rfl
      · exact .inl (List.mem_cons_of_mem _ hp)
    · rcases List.mem_cons.1 hp with rfl | hp
      · exact .inl (List.mem_cons_self ..)
      · exact (ih hp).imp (List.mem_cons_of_mem _) id
variable {P : Int → Prop}
theorem can_in (hS : AllIn P S) (hh : P h) (hc : S.can x h = some (g, S')) : AllIn P S' := by
  have hq := can_queue hc
  refine ⟨?_, by rw [hq]; exact hS.2⟩
  unfold PS.can at hc
  split at hc
  · injection hc with hc; injection hc with _ hc; subst hc
    intro p hp
    rcases mem_aset hp with hp | hp
    · exact hS.1 p hp
    · rw [hp]; exact hh
  · split at hc
    · split at hc
      · injection hc with hc; injection hc with _ hc; subst hc
        intro p hp
        rcases List.mem_append.1 hp with hp | hp
        · exact hS.1 p (mem_del hp)
        · rw [List.mem_singleton] at hp; subst hp; exact hh
      · cases hc
    · injection hc with hc; injection hc with _ hc; subst hc
      intro p hp
      rcases List.mem_append.1 hp with hp | hp
      · exact hS.1 p hp
      · rw [List.mem_singleton] at hp; subst hp; exact hh
theorem acquire_in (hS : AllIn P S) (hh : P h) : AllIn P (S.acquire x h).2 := by
  unfold PS.acquire
  split
  · exact hS
  · split
    · rename_i hc
      split at hc
      · exact can_in hS hh hc
      · cases hc
    · split
      · exact hS
      · refine ⟨hS.1, fun q hq => ?_⟩
        rcases List.mem_append.1 hq with hq | hq
        · exact hS.2 q hq
        · rw [List.mem_singleton] at hq; subst hq; exact hh
theorem serve_in (hS : AllIn P S) : AllIn P S.serve.2 := by
  unfold PS.serve
  split
  · exact hS
  · rename_i w l hq
    split
    · rename_i hc
      exact ⟨(can_in hS (hS.2 w (by rw [hq]; exact List.mem_cons_self ..)) hc).1, fun q hq' => hS.2 q (by rw [hq]; exact List.mem_cons_of_mem _ hq')⟩
    · exact hS
theorem release_in (hS : AllIn P S) : AllIn P (S.release n).2 := by
  unfold PS.release
  split
  · rename_i l hl
    split
    · refine ⟨fun p hp => ?_, hS.2⟩
      rcases mem_aset hp with hp | hp
      · exact hS.1 p hp
      · rw [hp]; exact hS.1 _ (aget_mem' hl)
    · exact hS
  · exact hS
theorem remove_in (hS : AllIn P S) : AllIn P (S.remove n).2 := by
  unfold PS.remove
  split
  · exact ⟨fun p hp => hS.1 p (mem_del hp), hS.2⟩
  · exact hS
theorem cancel_in (hS : AllIn P S) : AllIn P (S.cancel x).2 := ⟨hS.1, fun q hq => hS.2 q (List.mem_filter.1 hq).1⟩
theorem hosts_in (hS : AllIn P S) : ∀ h ∈ S.hosts, P h := by
  intro h hh
  rcases List.mem_append.1 hh with hh | hh
  · obtain ⟨p, hp, rfl⟩ := List.mem_map.1 hh
    exact hS.1 p (List.mem_filter.1 hp).1
  · obtain ⟨q, hq, rfl⟩ := List.mem_map.1 hh
    exact hS.2 q hq
theorem sum_one {h : Int} (h0 : 0 ≤ h) : ∀ {n : Nat}, h < n → ((List.range n).map fun i : Nat => if h = (i : Int) then (1 : Int) else 0).sum = 1
  | 0, hn => by omega
  | n + 1, hn => by
    rw [List.range_succ, List.map_append, List.sum_append]
    by_cases e : h = (n : Int)
    · have hz : ((List.range n).map fun i : Nat => if h = (i : Int) then (1 : Int) else 0) = (List.range n).map fun _ => 0 :=
        List.map_congr_left fun i hi => by have := List.mem_range.1 hi; rw [if_neg (by omega)]
      have hz2 : ∀ l : List Nat, (l.map fun _ => (0 : Int)).sum = 0 := by intro l; induction l <;> simp_all
      rw [hz, hz2]; simp [e]
    · rw [sum_one (n := n) h0 (by omega)]; simp [e]
theorem sum_map_add (f g : Nat → Int) (l : List Nat) : (l.map fun i => f i + g i).sum = (l.map f).sum + (l.map g).sum := by
  induction l with
  | nil => rfl
  | cons a l ih => simp only [List.map_cons, List.sum_cons, ih]; omega
theorem tally_sum {n : Nat} : ∀ {hs : List Int}, (∀ h ∈ hs, 0 ≤ h ∧ h < n) → (tally hs n).sum = hs.length
  | [], _ => by
    have hz2 : ∀ k : Nat, (List.replicate k (0 : Int)).sum = 0 := by intro k; induction k <;> simp_all [List.replicate_succ]
    rw [tally_nil, hz2]; rfl
  | h :: hs, hh => by
    have ih := tally_sum (hs := hs) (fun h' hm => hh h' (List.mem_cons_of_mem _ hm))
    have h0 := hh h (List.mem_cons_self ..)
    unfold tally at ih ⊢
    have e : ((List.range n).map fun i : Nat => (((h :: hs).count (i : Int) : Nat) : Int)) = (List.range n).map fun i : Nat => ((hs.count (i : Int) : Nat) : Int) + if h = (i : Int) then (1 : Int) else 0 :=
      List.map_congr_left fun i _ => by rw [List.count_cons]; by_cases e : h = (i : Int) <;> simp [e]
    rw [e, sum_map_add, ih, sum_one (n := n) h0.1 h0.2]
    simp
theorem hosts_len (S : PS) : S.hosts.length = S.busy + S.queue.length := by
  simp only [PS.hosts, busyHosts, PS.busy, List.length_append, List.length_map, List.countP_eq_length_filter]
end Go.PoolM
