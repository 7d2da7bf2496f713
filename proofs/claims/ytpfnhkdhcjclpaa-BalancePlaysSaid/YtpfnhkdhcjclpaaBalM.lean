/- The balancer in plain terms: points on a ring, the one that is met first from a place on; hosts that are open. Conditions: none. -/
import Derived.Test.YtpfnhkdhcjclpaaDiceM
import Derived.Lib.Small
namespace Go.BalM
open Go Go.DiceM
/-- A point: where it lies, its host. -/
abbrev Pt := Int × Nat
def golden : Int := 11400714819323198485
def ptAt (x : Int) (k : Nat) : Int := mixI (IntKind.u64.wrap (x + IntKind.u64.wrap ((k : Int) * golden)))
abbrev hostAt (hs : List ByteArray) (i : Nat) : ByteArray := hs.getD i ⟨#[]⟩
abbrev hashOf (s : ByteArray) : Int := hashI s.data.toList
def hostPts (hs : List ByteArray) (i k : Nat) : List Pt := (List.range k).map fun j => (ptAt (hashOf (hostAt hs i)) j, i)
def ptsTo (hs : List ByteArray) (i : Nat) : List Pt := (List.range i).flatMap fun j => hostPts hs j 16
def pts (hs : List ByteArray) : List Pt := ptsTo hs hs.length
theorem hostPts_succ (hs : List ByteArray) (i k : Nat) : hostPts hs i (k + 1) = hostPts hs i k ++ [(ptAt (hashOf (hostAt hs i)) k, i)] := by simp [hostPts, List.range_succ]
theorem ptsTo_succ (hs : List ByteArray) (i : Nat) : ptsTo hs (i + 1) = ptsTo hs i ++ hostPts hs i 16 := by simp [ptsTo, List.range_succ]
theorem hostPts_len (hs : List ByteArray) (i k : Nat) : (hostPts hs i k).length = k := by simp [hostPts]
theorem ptsTo_len (hs : List ByteArray) (i : Nat) : (ptsTo hs i).length = i * 16 := by
  induction i with
  | zero => rfl
  | succ i ih => rw [ptsTo_succ, List.length_append, ih, hostPts_len]; omega
theorem pts_len (hs : List ByteArray) : (pts hs).length = hs.length * 16 := ptsTo_len ..
theorem mem_pts {hs : List ByteArray} {p : Pt} : p ∈ pts hs ↔ p.2 < hs.length ∧ ∃ k, k < 16 ∧ p.1 = ptAt (hashOf (hostAt hs p.2)) k := by
  simp only [pts, ptsTo, hostPts, List.mem_flatMap, List.mem_map, List.mem_range]
  constructor
  · rintro ⟨i, hi, k, hk, rfl⟩; exact ⟨hi, k, hk, rfl⟩
  · rintro ⟨hi, k, hk, he⟩; exact ⟨p.2, hi, k, hk, by rw [← he]⟩
theorem pt_range {x : Int} {k : Nat} : 0 ≤ ptAt x k ∧ ptAt x k < 18446744073709551616 := mixI_lt _
/-- The order of the points on the ring. -/
def ple (p q : Pt) : Prop := p.1 < q.1 ∨ p.1 = q.1 ∧ p.2 ≤ q.2
def cI (a b : Int) : Int := if a < b then -1 else if a > b then 1 else 0
def orV (x y : Int) : Int := if x ≠ 0 then x else y
def cf (p q : Pt) : Int := orV (cI p.1 q.1) (cI p.2 q.2)
theorem cf_lt {p q : Pt} : cf p q < 0 ↔ ¬ ple q p := by
  unfold cf orV cI ple
  repeat' split
  all_goals omega
/-- A ring: the points in their order. -/
structure IsRing (hs : List ByteArray) (r : List Pt) : Prop where
  perm : r.Perm (pts hs)
  asc : r.Pairwise ple
theorem IsRing.len {hs : List ByteArray} {r : List Pt} (h : IsRing hs r) : r.length = hs.length * 16 := by rw [h.perm.length_eq, pts_len]
theorem IsRing.mem {hs : List ByteArray} {r : List Pt} (h : IsRing hs r) {p : Pt} : p ∈ r ↔ p ∈ pts hs := h.perm.mem_iff
/-- From a place on: what is met first. -/
def cle (h : Int) (p q : Pt) : Prop := (h ≤ p.1 ∧ q.1 < h) ∨ ((h ≤ p.1 ↔ h ≤ q.1) ∧ ple p q)
theorem cle_antisymm {h : Int} {p q : Pt} (h1 : cle h p q) (h2 : cle h q p) : p = q := by
  obtain ⟨a, i⟩ := p
  obtain ⟨b, j⟩ := q
  simp only [cle, ple] at h1 h2
  have e1 : a = b := by omega
  have e2 : i = j := by omega
  rw [e1, e2]
theorem cle_total (h : Int) (p q : Pt) : cle h p q ∨ cle h q p := by
  simp only [cle, ple]; omega
theorem cle_trans {h : Int} {p q r : Pt} (h1 : cle h p q) (h2 : cle h q r) : cle h p r := by
  simp only [cle, ple] at h1 h2 ⊢; omega
/-- The host that is taken on a ring. -/
def Best (hs : List ByteArray) (op : Nat → Prop) (h : Int) (r : Nat) : Prop := op r ∧ ∃ a, (a, r) ∈ pts hs ∧ ∀ q ∈ pts hs, op q.2 → cle h (a, r) q
theorem Best.unique {hs : List ByteArray} {op : Nat → Prop} {h : Int} {r r' : Nat} (h1 : Best hs op h r) (h2 : Best hs op h r') : r = r' := by
  obtain ⟨o1, a, m1, l1⟩ := h1
  obtain ⟨o2, b, m2, l2⟩ := h2
  have := cle_antisymm (l1 _ m2 o2) (l2 _ m1 o1)
  exact congrArg Prod.snd this
theorem Best.sub {hs : List ByteArray} {op op' : Nat → Prop} {h : Int} {r : Nat} (h1 : Best hs op h r) (hr : op' r) (hs' : ∀ i, op' i → op i) : Best hs op' h r := by
  obtain ⟨_, a, m1, l1⟩ := h1
  exact ⟨hr, a, m1, fun q hq ho => l1 q hq (hs' _ ho)⟩
theorem Best.lt {hs : List ByteArray} {op : Nat → Prop} {h : Int} {r : Nat} (h1 : Best hs op h r) : r < hs.length := by
  obtain ⟨_, a, m1, _⟩ := h1
  exact (mem_pts.1 m1).1
/-- Where the search ends. -/
structure From (r : List Pt) (h : Int) (m : Nat) : Prop where
  le : m ≤ r.length
  lo : ∀ j p, j < m → r[j]? = some p → p.1 < h
  hi : ∀ j p, m ≤ j → r[j]? = some p → h ≤ p.1
theorem asc_at {r : List Pt} (ha : r.Pairwise ple) {i j : Nat} {p q : Pt} (hi : r[i]? = some p) (hj : r[j]? = some q) (h : i ≤ j) : ple p q := by
  by_cases e : i = j
  · subst e; rw [hi] at hj; injection hj with hj; subst hj; exact .inr ⟨rfl, Nat.le_refl _⟩
  · obtain ⟨h1, e1⟩ := List.getElem?_eq_some_iff.1 hi
    obtain ⟨h2, e2⟩ := List.getElem?_eq_some_iff.1 hj
    have := List.pairwise_iff_getElem.1 ha i j h1 h2 (by omega)
    rw [e1, e2] at this; exact this
theorem around_le {r : List Pt} {h : Int} {m n n' : Nat} {p q : Pt} (ha : r.Pairwise ple) (hf : From r h m) (hn : n ≤ n') (hn' : n' < r.length) (hp : r[(m + n) % r.length]? = some p) (hq : r[(m + n') % r.length]? = some q) : cle h p q := by
  have hl := hf.le
  have hpos : 0 < r.length := by omega
  have w1 : ∀ n, n < r.length → (m + n) % r.length = if m + n < r.length then m + n else m + n - r.length := fun n h1 => by
    split
    · exact Nat.mod_eq_of_lt (by omega)
    · rw [Nat.mod_eq_sub_mod (by omega), Nat.mod_eq_of_lt (by omega)]
  rw [w1 n (by omega)] at hp
  rw [w1 n' hn'] at hq
  by_cases c1 : m + n < r.length
  · rw [if_pos c1] at hp
    by_cases c2 : m + n' < r.length
    · rw [if_pos c2] at hq
      have h1 := hf.hi _ _ (by omega) hp
      have h2 := hf.hi _ _ (by omega) hq
      exact .inr ⟨by omega, asc_at ha hp hq (by omega)⟩
    · rw [if_neg c2] at hq
      have h1 := hf.hi _ _ (by omega) hp
      have h2 := hf.lo _ _ (by omega) hq
      exact .inl ⟨h1, h2⟩
  · rw [if_neg c1] at hp
    rw [if_neg (by omega)] at hq
    have h1 := hf.lo _ _ (by omega) hp
    have h2 := hf.lo _ _ (by omega) hq
    exact .inr ⟨by omega, asc_at ha hp hq (by omega)⟩
theorem around_all {r : List Pt} {m j : Nat} (hm : m ≤ r.length) (hj : j < r.length) : ∃ n, n < r.length ∧ (m + n) % r.length = j := by
  by_cases c : m ≤ j
  · exact ⟨j - m, by omega, by rw [show m + (j - m) = j by omega]; exact Nat.mod_eq_of_lt hj⟩
  · exact ⟨j + r.length - m, by omega, by rw [show m + (j + r.length - m) = j + r.length by omega, Nat.add_mod_right]; exact Nat.mod_eq_of_lt hj⟩
theorem around_best {hs : List ByteArray} {r : List Pt} {op : Nat → Prop} {h : Int} {m n : Nat} {p : Pt} (hr : IsRing hs r) (hf : From r h m) (hp : r[(m + n) % r.length]? = some p) (ho : op p.2)
    (hno : ∀ n' q, n' < n → r[(m + n') % r.length]? = some q → ¬ op q.2) : Best hs op h p.2 := by
  refine ⟨ho, p.1, hr.mem.1 (List.mem_of_getElem? hp), fun q hq hoq => ?_⟩
  obtain ⟨j, hj⟩ := List.getElem?_of_mem (hr.mem.2 hq)
  obtain ⟨n', h1, rfl⟩ := around_all hf.le (List.getElem?_eq_some_iff.1 hj).1
  rcases Nat.lt_or_ge n' n with h2 | h2
  · exact absurd hoq (hno n' q h2 hj)
  · exact around_le hr.asc hf h2 h1 hp hj
theorem around_none {hs : List ByteArray} {r : List Pt} {op : Nat → Prop} {h : Int} {m : Nat} (hr : IsRing hs r) (hf : From r h m) (hno : ∀ n' q, n' < r.length → r[(m + n') % r.length]? = some q → ¬ op q.2) {i : Nat} (hi : i < hs.length) : ¬ op i := by
  intro ho
  have hm : (ptAt (hashOf (hostAt hs i)) 0, i) ∈ r := hr.mem.2 (mem_pts.2 ⟨hi, 0, by omega, rfl⟩)
  obtain ⟨j, hj⟩ := List.getElem?_of_mem hm
  obtain ⟨n', h1, rfl⟩ := around_all hf.le (List.getElem?_eq_some_iff.1 hj).1
  exact hno n' _ h1 hj ho
/-- The hosts that are open. -/
def opens (n : Nat) (op : List Bool) : List Nat := (List.range n).filter fun i => op[i]?.getD false
theorem opens_succ (n : Nat) (op : List Bool) : opens (n + 1) op = opens n op ++ (if op[n]?.getD false then [n] else []) := by
  simp only [opens, List.range_succ, List.filter_append]
  congr 1
  simp only [List.filter_cons, List.filter_nil]
theorem mem_opens {n i : Nat} {op : List Bool} : i ∈ opens n op ↔ i < n ∧ op[i]? = some true := by
  simp only [opens, List.mem_filter, List.mem_range]
  refine and_congr_right fun _ => ?_
  cases op[i]? with
  | none => simp
  | some b => simp
theorem opens_asc (n : Nat) (op : List Bool) : (opens n op).Pairwise (· < ·) := List.Pairwise.filter _ List.pairwise_lt_range
theorem opens_len (n : Nat) (op : List Bool) : (opens n op).length ≤ n := by
  have := List.length_filter_le (fun i => op[i]?.getD false) (List.range n)
  simpa [opens] using this
/-- The loads as they are told, noughts behind. -/
def loadOf (l : List Int) (i : Nat) : Int := l[i]?.getD 0
/-- The first of the least. -/
def IsLeast (xs : List Nat) (load : Nat → Int) (r : Nat) : Prop := r ∈ xs ∧ ∀ q ∈ xs, load r < load q ∨ load r = load q ∧ r ≤ q
theorem IsLeast.unique {xs : List Nat} {load : Nat → Int} {r r' : Nat} (h : IsLeast xs load r) (h' : IsLeast xs load r') : r = r' := by
  have h1 := h.2 _ h'.1
  have h2 := h'.2 _ h.1
  omega
/-- The next in the round. -/
def nextOf (xs : List Nat) (last : Int) : Nat := ((xs.find? fun i : Nat => decide ((i : Int) > last)).or xs.head?).getD 0
/-- A balancer. -/
structure BS where
  policy : Int
  hs : List ByteArray
  last : Int
  s : Int
  d : Int
end Go.BalM
