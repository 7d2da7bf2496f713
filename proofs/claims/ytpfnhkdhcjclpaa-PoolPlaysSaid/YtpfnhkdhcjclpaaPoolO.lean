/- What the answers of a pool tell. Conditions: none. -/
import Derived.Test.YtpfnhkdhcjclpaaPoolN
namespace Go.PoolM
open Go.WheelM
variable {S S' : PS} {x h n : Int} {g : Int × Int × Int}
theorem aget_snoc {cs : List (Int × Lk)} {k : Int} {v : Lk} (h : ∀ p ∈ cs, p.1 < k) : aget (cs ++ [(k, v)]) k = some v := by
  rw [← aset_new (aget_above h), aget_set, if_pos rfl]
theorem busy_lt {p : Int × Lk} {cs : List (Int × Lk)} (hp : p ∈ cs) (hu : p.2.u = false) : cs.countP (fun p => p.2.u) < cs.length := by
  have h1 := List.countP_le_length (p := fun p : Int × Lk => p.2.u) (l := cs)
  have h2 : cs.countP (fun p => p.2.u) ≠ cs.length := fun e => by
    have := List.countP_eq_length.1 e p hp
    rw [hu] at this; cases this
  omega
theorem idle_free {cs : List (Int × Lk)} {any : Bool} {p : Int × Lk} (hp : idle cs h any = some p) : p.2.u = false := by
  have := List.find?_some hp
  simp only [Lk.free, Bool.and_eq_true, Bool.not_eq_true'] at this
  exact this.1
structure Got (S S' : PS) (x c k : Int) : Prop where
  two : k = 1 ∨ k = 2 ∧ c = S.opened + 1
  le : 1 ≤ c ∧ c ≤ S'.opened
  up : S.opened ≤ S'.opened
  at_ : S'.holder c = (x, true)
  kn : (S'.conns.any fun p => p.2.by_ x) = true
  room : (S.busy : Int) < S.most
theorem got_of {c k : Int} (h2 : k = 1 ∨ k = 2 ∧ c = S.opened + 1) (hl : 1 ≤ c ∧ c ≤ S'.opened) (hu : S.opened ≤ S'.opened) (ha : aget S'.conns c = some ⟨h, x, true⟩) (hr : (S.busy : Int) < S.most) : Got S S' x c k :=
  ⟨h2, hl, hu, by simp [PS.holder, ha], List.any_eq_true.2 ⟨_, aget_mem ha, by simp [Lk.by_]⟩, hr⟩
theorem can_got {k c d : Int} (ok : S.Ok) (hc : S.can x h = some ((k, c, d), S')) : Got S S' x c k := by
  have hlow := ok.low
  have hb : S.busy ≤ S.conns.length := List.countP_le_length ..
  have hcl := ok.cl
  have hop := ok.op
  unfold PS.can at hc
  split at hc
  · rename_i p hp
    injection hc with hc; injection hc with h1 hc; injection h1 with h1 h2; injection h2 with h2 h3; subst hc h1 h2 h3
    have hm := idle_mem hp
    have hbl := busy_lt hm (idle_free hp)
    have := hlow p hm
    exact got_of (.inl rfl) this (by simp) (by simp only; rw [aget_set, if_pos rfl]) (by simp only [PS.busy]; omega)
  · split at hc
    · split at hc
      · rename_i p hp
        injection hc with hc; injection hc with h1 hc; injection h1 with h1 h2; injection h2 with h2 h3; subst hc h1 h2 h3
        have hm := idle_mem hp
        have hbl := busy_lt hm (idle_free hp)
        exact got_of (h := h) (.inr ⟨rfl, rfl⟩) (by simp only; omega) (by simp only; omega) (aget_snoc fun q hq => by have := hlow q (mem_del hq); omega) (by simp only [PS.busy]; omega)
      · cases hc
    · rename_i hm
      injection hc with hc; injection hc with h1 hc; injection h1 with h1 h2; injection h2 with h2 h3; subst hc h1 h2 h3
      exact got_of (h := h) (.inr ⟨rfl, rfl⟩) (by simp only; omega) (by simp only; omega) (aget_snoc fun q hq => by have := hlow q hq; omega) (by omega)
theorem can_full (ok : S.Ok) (hc : S.can x h = none) : (S.busy : Int) = S.most := by
  have hb : S.busy ≤ S.conns.length := List.countP_le_length ..
  have hcl := ok.cl
  unfold PS.can at hc
  split at hc
  · cases hc
  · split at hc
    · rename_i hm
      split at hc
      · cases hc
      · rename_i hn
        have : S.conns.countP (fun p => p.2.u) = S.conns.length := List.countP_eq_length.2 fun p hp => by
          have := List.find?_eq_none.1 hn p hp
          simpa [Lk.free] using this
        simp only [PS.busy]; omega
    · cases hc
inductive AcqCase (S : PS) (x h : Int) : Prop
  | known (e : S.acquire x h = (((0, 0, 0), 190), S))
  | got (k c d : Int) (S' : PS) (e : S.acquire x h = (((k, c, d), 0), S')) (g : Got S S' x c k) (q : S.queue.length = 0)
  | drop (e : S.acquire x h = (((4, 0, 0), 0), S)) (f : (S.busy : Int) = S.most ∨ 0 < S.queue.length) (p : S.pend = S.queue.length)
  | wait (S' : PS) (e : S.acquire x h = (((3, 0, 0), 0), S')) (f : (S.busy : Int) = S.most ∨ 0 < S.queue.length) (p : (S.queue.length : Int) < S.pend) (k : S'.knows x = true) (o : S'.opened = S.opened)
theorem acquire_case (ok : S.Ok) : AcqCase S x h := by
  by_cases hk : S.knows x = true
  · exact .known (acq_known hk)
  · have hk : S.knows x = false := by simpa using hk
    by_cases hq : S.queue.length = 0
    · rcases hc : S.can x h with _ | ⟨⟨k, c, d⟩, S'⟩
      · have hf := can_full ok hc
        have e := acq_else hk (fun _ => hc)
        have := ok.ql
        by_cases hp : S.pend ≤ S.queue.length
        · rw [if_pos hp] at e; exact .drop e (.inl hf) (by omega)
        · rw [if_neg hp] at e; exact .wait _ e (.inl hf) (by omega) (by simp [PS.knows]) rfl
      · exact .got k c d S' (acq_got hk (by omega) hc) (can_got ok hc) hq
    · have e := acq_else hk (h := h) (fun h0 => absurd h0 (by omega))
      have := ok.ql
      by_cases hp : S.pend ≤ S.queue.length
      · rw [if_pos hp] at e; exact .drop e (.inr (by omega)) (by omega)
      · rw [if_neg hp] at e; exact .wait _ e (.inr (by omega)) (by omega) (by simp [PS.knows]) rfl
inductive SrvCase (S : PS) : Prop
  | no (e : S.serve = ((0, (0, 0, 0), false), S)) (f : S.queue.length = 0 ∨ (S.busy : Int) = S.most)
  | got (x k c d : Int) (S' : PS) (e : S.serve = ((x, (k, c, d), true), S')) (g : Got S S' x c k) (q : 0 < S.queue.length)
theorem serve_case (ok : S.Ok) : SrvCase S := by
  rcases hq : S.queue with _ | ⟨w, l⟩
  · exact .no (by simp [PS.serve, hq]) (.inl (by simp [hq]))
  · rcases hc : S.can w.1 w.2 with _ | ⟨⟨k, c, d⟩, S'⟩
    · exact .no (by simp [PS.serve, hq, hc]) (.inr (can_full ok hc))
    · have g := can_got ok hc
      exact .got w.1 k c d { S' with queue := l } (by simp only [PS.serve, hq, hc]) ⟨g.two, g.le, g.up, g.at_, g.kn, g.room⟩ (by simp [hq])
theorem Got.knows {c k : Int} (g : Got S S' x c k) : S'.knows x = true := by simp [PS.knows, g.kn]
end Go.PoolM
