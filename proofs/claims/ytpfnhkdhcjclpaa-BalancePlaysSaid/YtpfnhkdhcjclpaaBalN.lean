/- The document's balancer in plain terms: the least so far, what a first pass over the hosts finds. Conditions: none. -/
import Derived.Test.YtpfnhkdhcjclpaaBalM
namespace Go.BalM
open Go Go.DiceM
/-- The first of the smallest points so far. -/
def Min1 (L : List Pt) (best at_ : Int) : Prop := (best = -1 ∧ L = []) ∨ ∃ j : Nat, best = j ∧ (at_, j) ∈ L ∧ ∀ q ∈ L, ple (at_, j) q
theorem Min1.take {L : List Pt} {best at_ x : Int} {i : Nat} (h : Min1 L best at_) (hc : best < 0 ∨ x < at_) : Min1 (L ++ [(x, i)]) i x := by
  refine .inr ⟨i, rfl, by simp, fun q hq => ?_⟩
  rcases List.mem_append.1 hq with hq | hq
  · rcases h with ⟨_, rfl⟩ | ⟨j, rfl, hm, hle⟩
    · cases hq
    · have := hle q hq
      simp only [ple] at this ⊢; omega
  · rw [List.mem_singleton] at hq; subst hq; exact .inr ⟨rfl, Nat.le_refl _⟩
theorem Min1.keep {L : List Pt} {best at_ x : Int} {i : Nat} (h : Min1 L best at_) (hb : 0 ≤ best) (hx : at_ ≤ x) (hi : ∀ q ∈ L, q.2 ≤ i) : Min1 (L ++ [(x, i)]) best at_ := by
  rcases h with ⟨rfl, _⟩ | ⟨j, rfl, hm, hle⟩
  · omega
  · refine .inr ⟨j, rfl, List.mem_append_left _ hm, fun q hq => ?_⟩
    rcases List.mem_append.1 hq with hq | hq
    · exact hle q hq
    · rw [List.mem_singleton] at hq; subst hq
      have := hi _ hm
      simp only [ple] at this ⊢; omega
/-- The points that were looked at: of the open hosts below i, k of host i. -/
def visTo (hs : List ByteArray) (op : List Bool) (i : Nat) : List Pt := (opens i op).flatMap fun j => hostPts hs j 16
theorem visTo_open {hs : List ByteArray} {op : List Bool} {i : Nat} (h : op[i]? = some true) : visTo hs op (i + 1) = visTo hs op i ++ hostPts hs i 16 := by
  simp [visTo, opens_succ, h]
theorem visTo_shut {hs : List ByteArray} {op : List Bool} {i : Nat} (h : op[i]?.getD false = false) : visTo hs op (i + 1) = visTo hs op i := by
  simp [visTo, opens_succ, h]
theorem visTo_le {hs : List ByteArray} {op : List Bool} {i : Nat} : ∀ q ∈ visTo hs op i, q.2 < i := by
  intro q hq
  obtain ⟨j, hj, hq⟩ := List.mem_flatMap.1 hq
  obtain ⟨k, _, rfl⟩ := List.mem_map.1 hq
  exact (mem_opens.1 hj).1
theorem hostPts_le {hs : List ByteArray} {i k : Nat} : ∀ q ∈ hostPts hs i k, q.2 = i := by
  intro q hq
  obtain ⟨j, _, rfl⟩ := List.mem_map.1 hq
  rfl
theorem mem_vis {hs : List ByteArray} {op : List Bool} {q : Pt} : q ∈ visTo hs op hs.length ↔ q ∈ pts hs ∧ q.2 ∈ opens hs.length op := by
  rw [mem_pts]
  simp only [visTo, hostPts, List.mem_flatMap, List.mem_map, List.mem_range]
  constructor
  · rintro ⟨j, hj, k, hk, rfl⟩
    exact ⟨⟨(mem_opens.1 hj).1, k, hk, rfl⟩, hj⟩
  · rintro ⟨⟨h1, k, hk, he⟩, h2⟩
    exact ⟨q.2, h2, k, hk, by rw [← he]⟩
/-- What the ring's loop finds. -/
structure Spied (L : List Pt) (h best least bestAt leastAt : Int) : Prop where
  b : Min1 (L.filter fun q => decide (h ≤ q.1)) best bestAt
  l : Min1 L least leastAt
theorem Spied.best {hs : List ByteArray} {op : List Bool} {h best least ba la : Int} (hf : Spied (visTo hs op hs.length) h best least ba la) (hb : 0 ≤ best) : ∃ j : Nat, best = j ∧ Best hs (· ∈ opens hs.length op) h j := by
  rcases hf.b with ⟨rfl, _⟩ | ⟨j, rfl, hm, hle⟩
  · omega
  · obtain ⟨h1, h2⟩ := List.mem_filter.1 hm
    have h3 := mem_vis.1 h1
    have h2 : h ≤ ba := by simpa using h2
    refine ⟨j, rfl, h3.2, ba, h3.1, fun q hq ho => ?_⟩
    by_cases hq1 : h ≤ q.1
    · have := hle q (List.mem_filter.2 ⟨mem_vis.2 ⟨hq, ho⟩, by simpa using hq1⟩)
      exact .inr ⟨by simp only; omega, this⟩
    · exact .inl ⟨h2, by omega⟩
theorem Spied.least {hs : List ByteArray} {op : List Bool} {h best least ba la : Int} (hf : Spied (visTo hs op hs.length) h best least ba la) (hb : best < 0) (hne : opens hs.length op ≠ []) : ∃ j : Nat, least = j ∧ Best hs (· ∈ opens hs.length op) h j := by
  have hlow : ∀ q ∈ visTo hs op hs.length, q.1 < h := by
    rcases hf.b with ⟨_, he⟩ | ⟨j, rfl, _⟩
    · intro q hq
      have := List.filter_eq_nil_iff.1 he q hq
      simpa using this
    · omega
  rcases hf.l with ⟨_, he⟩ | ⟨j, rfl, hm, hle⟩
  · exfalso
    obtain ⟨x, hx⟩ := List.exists_mem_of_ne_nil _ hne
    have : (ptAt (hashOf (hostAt hs x)) 0, x) ∈ visTo hs op hs.length := mem_vis.2 ⟨mem_pts.2 ⟨(mem_opens.1 hx).1, 0, by omega, rfl⟩, hx⟩
    rw [he] at this; cases this
  · have h3 := mem_vis.1 hm
    refine ⟨j, rfl, h3.2, la, h3.1, fun q hq ho => ?_⟩
    have hv := mem_vis.2 ⟨hq, ho⟩
    have h1 := hlow _ hm
    have h2 := hlow q hv
    have h1' : la < h := h1
    exact .inr ⟨by simp only; omega, hle q hv⟩
section
variable {L : List Pt} {h best least ba la x : Int} {i : Nat}
theorem filter_hi (hx : h ≤ x) : (L ++ [(x, i)]).filter (fun q => decide (h ≤ q.1)) = L.filter (fun q => decide (h ≤ q.1)) ++ [(x, i)] := by simp [hx]
theorem filter_lo (hx : x < h) : (L ++ [(x, i)]).filter (fun q => decide (h ≤ q.1)) = L.filter (fun q => decide (h ≤ q.1)) := by
  have : ¬ h ≤ x := by omega
  simp [this]
theorem Spied.bt (hf : Spied L h best least ba la) (h1 : h ≤ x) (h2 : best < 0 ∨ x < ba) : Min1 ((L ++ [(x, i)]).filter fun q => decide (h ≤ q.1)) i x := by rw [filter_hi h1]; exact hf.b.take h2
theorem Spied.bk (hf : Spied L h best least ba la) (hi : ∀ q ∈ L, q.2 ≤ i) (h1 : x < h ∨ 0 ≤ best ∧ ba ≤ x) : Min1 ((L ++ [(x, i)]).filter fun q => decide (h ≤ q.1)) best ba := by
  by_cases hx : x < h
  · rw [filter_lo hx]; exact hf.b
  · rw [filter_hi (by omega)]
    exact hf.b.keep (by omega) (by omega) (fun q hq => hi q (List.mem_filter.1 hq).1)
theorem Spied.tt (hf : Spied L h best least ba la) (h1 : h ≤ x) (h2 : best < 0 ∨ x < ba) (h3 : least < 0 ∨ x < la) : Spied (L ++ [(x, i)]) h i i x x := ⟨hf.bt h1 h2, hf.l.take h3⟩
theorem Spied.tk (hf : Spied L h best least ba la) (hi : ∀ q ∈ L, q.2 ≤ i) (h1 : h ≤ x) (h2 : best < 0 ∨ x < ba) (h3 : 0 ≤ least ∧ la ≤ x) : Spied (L ++ [(x, i)]) h i least x la := ⟨hf.bt h1 h2, hf.l.keep h3.1 h3.2 hi⟩
theorem Spied.kt (hf : Spied L h best least ba la) (hi : ∀ q ∈ L, q.2 ≤ i) (h1 : x < h ∨ 0 ≤ best ∧ ba ≤ x) (h3 : least < 0 ∨ x < la) : Spied (L ++ [(x, i)]) h best i ba x := ⟨hf.bk hi h1, hf.l.take h3⟩
theorem Spied.kk (hf : Spied L h best least ba la) (hi : ∀ q ∈ L, q.2 ≤ i) (h1 : x < h ∨ 0 ≤ best ∧ ba ≤ x) (h3 : 0 ≤ least ∧ la ≤ x) : Spied (L ++ [(x, i)]) h best least ba la := ⟨hf.bk hi h1, hf.l.keep h3.1 h3.2 hi⟩
end
theorem pt_step (x : Int) (k : Nat) : IntKind.u64.wrap (IntKind.u64.wrap (x + IntKind.u64.wrap ((k : Int) * golden)) + golden) = IntKind.u64.wrap (x + IntKind.u64.wrap (((k + 1 : Nat) : Int) * golden)) := by
  simp only [IntKind.wrap_u64, golden]
  omega
theorem pt_first (x : Int) (hx : 0 ≤ x ∧ x < 18446744073709551616) : IntKind.u64.wrap (x + IntKind.u64.wrap (((0 : Nat) : Int) * golden)) = x := by
  simp only [IntKind.wrap_u64, golden]
  omega
/-- The first host in a round. -/
theorem next_start {xs : List Nat} {n : Int} (hl : ∀ x ∈ xs, (x : Int) ≤ n) : nextOf xs n = nextOf xs (-1) := by
  cases xs with
  | nil => rfl
  | cons a l =>
    have h1 : (a :: l).find? (fun i : Nat => decide ((i : Int) > n)) = none := by
      rw [List.find?_eq_none]
      intro x hx
      have := hl x hx
      simp; omega
    have h2 : (a :: l).find? (fun i : Nat => decide ((i : Int) > -1)) = some a := by
      rw [List.find?_cons, decide_eq_true (by omega)]
    simp only [nextOf, h1, h2, Option.none_or, Option.some_or, List.head?_cons, Option.getD_some]
end Go.BalM
