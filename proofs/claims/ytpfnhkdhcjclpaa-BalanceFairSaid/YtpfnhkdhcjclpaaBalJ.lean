/- The balancer's laws: BalanceFair. Conditions: none. -/
import Derived.Test.YtpfnhkdhcjclpaaBalI
namespace Go.Proofs.Ytpfnhkdhcjclpaa
open Go Go.Sx Go.DiceM Go.BalM
variable {w0 : World} {F H : List HProp} {K : Value → List HProp → Prop}
theorem opens_all {op : List Bool} : ∀ {n : Nat}, op.length ≤ n → opens n op = opens op.length op
  | n, h => by
    induction n with
    | zero => have : op.length = 0 := by omega
              rw [this]
    | succ n ih =>
      by_cases e : op.length = n + 1
      · rw [e]
      · rw [opens_succ, ih (by omega), List.getElem?_eq_none (by omega)]
        simp
theorem opens_min (n : Nat) (op : List Bool) : opens (min op.length n) op = opens n op := by
  by_cases h : op.length ≤ n
  · rw [Nat.min_eq_left h, opens_all h]
  · rw [Nat.min_eq_right (by omega)]
/-- Who is next. -/
theorem next_in {xs : List Nat} {j x : Nat} (ha : xs.Pairwise (· < ·)) (hx : xs[j]? = some x) {y : Nat} (hy : xs[j + 1]? = some y) : nextOf xs x = y := by
  obtain ⟨h1, e1⟩ := List.getElem?_eq_some_iff.1 hx
  obtain ⟨h2, e2⟩ := List.getElem?_eq_some_iff.1 hy
  have hlt := List.pairwise_iff_getElem.1 ha
  refine nextOf_at hy (by have := hlt j (j + 1) h1 h2 (by omega); rw [e1, e2] at this; omega) (fun k i hk hi => ?_)
  obtain ⟨h3, e3⟩ := List.getElem?_eq_some_iff.1 hi
  by_cases e : k = j
  · subst e; rw [e1] at e3; omega
  · have := hlt k j h3 h1 (by omega); rw [e1, e3] at this; omega
theorem next_round {xs : List Nat} {last : Int} {y : Nat} (hl : ∀ x ∈ xs, (x : Int) ≤ last) (hy : xs[0]? = some y) : nextOf xs last = y :=
  nextOf_none hy (fun j i _ hi => by have := hl i (List.mem_of_getElem? hi); omega)
/-- The last that was taken, i of a round being through. -/
def Last (xs : List Nat) (last : Int) : Nat → Prop
  | 0 => ∀ x ∈ xs, (x : Int) ≤ last
  | i + 1 => xs[i]? = some last.toNat ∧ 0 ≤ last
theorem last_next {xs : List Nat} {last : Int} {i y : Nat} (ha : xs.Pairwise (· < ·)) (hl : Last xs last i) (hy : xs[i]? = some y) : nextOf xs last = y := by
  cases i with
  | zero => exact next_round hl hy
  | succ i =>
    have := next_in ha hl.1 hy
    rwa [Int.toNat_of_nonneg hl.2] at this
theorem last_end {xs : List Nat} {last : Int} (ha : xs.Pairwise (· < ·)) (hl : Last xs last xs.length) : Last xs last 0 := by
  intro x hx
  obtain ⟨j, hj⟩ := List.getElem?_of_mem hx
  obtain ⟨h1, e1⟩ := List.getElem?_eq_some_iff.1 hj
  obtain ⟨m, hm⟩ : ∃ m, xs.length = m + 1 := ⟨xs.length - 1, by omega⟩
  rw [hm] at hl
  obtain ⟨h2, e2⟩ := List.getElem?_eq_some_iff.1 hl.1
  have h0 := hl.2
  by_cases e : j = m
  · subst e; rw [e1] at e2; omega
  · have := List.pairwise_iff_getElem.1 ha j m h1 h2 (by omega)
    rw [e1, e2] at this; omega
/-- Who was seen. -/
def seenOf (n : Nat) (xs : List Nat) (i : Nat) : List Bool := (List.range n).map fun p => decide (p ∈ xs.take i)
theorem seenOf_len (n : Nat) (xs : List Nat) (i : Nat) : (seenOf n xs i).length = n := by simp [seenOf]
theorem seenOf_zero (n : Nat) (xs : List Nat) : seenOf n xs 0 = List.replicate n false := by
  apply List.ext_getElem
  · simp [seenOf]
  · intro i h1 h2; simp [seenOf]
theorem seenOf_new {n i y : Nat} {xs : List Nat} (ha : xs.Pairwise (· < ·)) (hy : xs[i]? = some y) (hn : y < n) : (seenOf n xs i)[y]? = some false := by
  simp only [seenOf, List.getElem?_map, List.getElem?_range hn, Option.map_some]
  congr 1
  simp only [decide_eq_false_iff_not]
  intro hm
  obtain ⟨j, hj⟩ := List.getElem?_of_mem hm
  rw [List.getElem?_take] at hj
  split at hj
  · obtain ⟨h1, e1⟩ := List.getElem?_eq_some_iff.1 hj
    obtain ⟨h2, e2⟩ := List.getElem?_eq_some_iff.1 hy
    have := List.pairwise_iff_getElem.1 ha j i h1 h2 (by omega)
    omega
  · cases hj
theorem seenOf_succ {n i y : Nat} {xs : List Nat} (hy : xs[i]? = some y) : seenOf n xs (i + 1) = (seenOf n xs i).set y true := by
  apply List.ext_getElem
  · simp [seenOf]
  · intro p h1 h2
    rw [List.getElem_set]
    simp only [seenOf, List.getElem_map, List.getElem_range]
    rw [List.take_add_one, hy]
    by_cases e : y = p
    · subst e; simp
    · rw [if_neg e]
      simp [Ne.symm e]
set_option maxHeartbeats 4000000 in
theorem balance_fair {hosts m : Int} {v : Value} {d1 : DV} (h0 : -9223372036854775808 ≤ hosts ∧ hosts ≤ 9223372036854775807) (h1 : (Sh.slice 1 .bool).rd w0 [v] d1) (h2 : -9223372036854775808 ≤ m ∧ m ≤ 9223372036854775807) :
    Tri Try.prog 8 #[kI hosts, v, kI m] w0 F fun v _ => v = .bool true := by
  obtain ⟨op, l1, b1⟩ := bools_of h1
  obtain ⟨a1, c1, rfl⟩ := b1.form
  by_cases hok : 1 ≤ hosts ∧ hosts ≤ 100 ∧ 1 ≤ m ∧ m ≤ 20
  · obtain ⟨g1, g2, g3, g4⟩ := hok
    obtain ⟨n, rfl⟩ := Int.eq_ofNat_of_zero_le (show 0 ≤ hosts by omega)
    obtain ⟨m, rfl⟩ := Int.eq_ofNat_of_zero_le (show 0 ≤ m by omega)
    refine Tri.enterF Try.func8 Try.ntmps8 Try.results8 rfl rfl fun fr hfr => ?_
    repeat' (first | refine walk ?_ | exact trivial | refine Tw.mk ?_ ?_ | refine banchor_spec ?_ | exact Out.i rfl | intro hc | refine XO.makeSlice (k := n) TT_ok trivial rfl rfl rfl rfl rfl rfl rfl rfl rfl rfl rfl (N := 1000) (by omega) rfl rfl (fun _ => trivial) (fun g => ?_) | refine Tri.sel1 (bnew_zero (by omega) (fun b => ?_)) | fail)
    refine XS.loopI (ι := Nat) (fun i => [(0, kI n), (1, .slice a1 op.length c1), (2, kI m), (7, ptr b), (8, kI (opens (min i n) op).length), (36, .slice a1 op.length c1), (37, kI op.length), (38, kI i)]) (fun _ => bal b ⟨1, List.replicate n noStr, n - 1, IntKind.u64.wrap 0, 0⟩ :: F) (fun i => i ≤ op.length) (fun i => op.length - i) 0 (Nat.zero_le _) ⟨rfl, rfl, rfl, rfl, by rw [Nat.zero_min]; rfl, rfl, rfl, rfl, trivial⟩ entA ?_
    intro i e hi ih
    have hol := opens_len (min i n) op
    by_cases hlt : i < op.length
    · obtain ⟨u, hu⟩ : ∃ u, op[i]? = some u := ⟨_, List.getElem?_eq_getElem hlt⟩
      obtain ⟨ga, offa, rfl, hrd⟩ := b1.rdF .bool (fun _ => rfl) hu
      by_cases hin : i < n
      · have e1 : opens (min (i + 1) n) op = opens (min i n) op ++ if u then [i] else [] := by
          rw [Nat.min_eq_left (by omega), Nat.min_eq_left (by omega), opens_succ, hu]; rfl
        cases u
        · repeat' (first | refine walk ?_ | exact trivial | refine Tw.mk ?_ ?_ | intro hc | fail)
          refine ih (i + 1) _ _ hlt (by omega) ⟨rfl, rfl, rfl, rfl, ?_, rfl, rfl, rfl, trivial⟩ entA
          rw [e1]; simp; rfl
        · repeat' (first | refine walk ?_ | exact trivial | refine Tw.mk ?_ ?_ | intro hc | fail)
          refine ih (i + 1) _ _ hlt (by omega) ⟨rfl, rfl, rfl, rfl, ?_, rfl, rfl, rfl, trivial⟩ entA
          rw [e1]; simp; rfl
      · have e1 : opens (min (i + 1) n) op = opens (min i n) op := by rw [Nat.min_eq_right (by omega), Nat.min_eq_right (by omega)]
        cases u
        all_goals
          repeat' (first | refine walk ?_ | exact trivial | refine Tw.mk ?_ ?_ | intro hc | fail)
          refine ih (i + 1) _ _ hlt (by omega) ⟨rfl, rfl, rfl, rfl, ?_, rfl, rfl, rfl, trivial⟩ entA
          rw [e1]; rfl
    · obtain rfl : i = op.length := by omega
      rw [opens_min] at hol ⊢
      clear ih
      have hasc := opens_asc n op
      have hin : ∀ p ∈ opens n op, p < n ∧ op[p]? = some true := fun p hp => mem_opens.1 hp
      generalize hxs : opens n op = xs at hol hasc hin ⊢
      have pick : ∀ {last : Int} {F' : List HProp} {K' : Value → List HProp → Prop}, 0 < xs.length → (∀ y : Nat, nextOf xs last = y → K' (kI y) (bal b ⟨1, List.replicate n noStr, y, IntKind.u64.wrap 0, 0⟩ :: F')) →
          Tri Try.prog 26 #[ptr b, .slice a1 op.length c1, .slice none 0 0, .string noStr] w0 (bal b ⟨1, List.replicate n noStr, last, IntKind.u64.wrap 0, 0⟩ :: F') K' := fun {last F' K'} hpos k1 => by
        have hnl : (List.replicate n noStr).length = n := List.length_replicate ..
        refine Tri.ent (Ent.trans b1.view Ent.front1) (Tri.post (pickRR (F := F') rfl (by show (List.replicate n noStr).length ≤ 1000; rw [hnl]; omega) ⟨Int.le_refl _, by show (0 : Int) < _; decide⟩ (by omega) (fun h => ?_) (fun _ => ⟨_, Ent.cons _ (Ent.drop _ _), ?_⟩)))
        · exfalso
          have h : opens (List.replicate n noStr).length op = [] := h
          rw [hnl, hxs] at h
          rw [h] at hpos; cases hpos
        · show K' (kI (nextOf (opens (List.replicate n noStr).length op) last)) (bal b ⟨1, List.replicate n noStr, nextOf (opens (List.replicate n noStr).length op) last, IntKind.u64.wrap 0, 0⟩ :: F')
          rw [hnl, hxs]; exact k1 _ rfl
      refine walk ?_
      refine ⟨fun _ => ?_, trivial⟩
      refine XS.loopI (ι := Nat × Int) (fun q => [(0, kI n), (1, .slice a1 op.length c1), (2, kI m), (7, ptr b), (8, kI xs.length), (11, kI q.1)]) (fun q => bal b ⟨1, List.replicate n noStr, q.2, IntKind.u64.wrap 0, 0⟩ :: F) (fun q => q.1 ≤ m ∧ Last xs q.2 0) (fun q => m - q.1) (0, n - 1) ⟨Nat.zero_le _, fun x hx => by have := (hin x hx).1; simp only; omega⟩ ⟨rfl, rfl, rfl, rfl, rfl, rfl, trivial⟩ entA ?_
      rintro ⟨k, last⟩ e2 ⟨hk, hl0⟩ ih
      simp only at hk hl0
      dsimp only
      by_cases hlt2 : k < m
      · repeat' (first | refine walk ?_ | exact trivial | refine Tw.mk ?_ ?_ | intro hc | exact Out.i rfl | refine XO.makeSlice (k := n) TT_ok trivial rfl rfl rfl rfl rfl rfl rfl rfl rfl rfl rfl (N := 1000) (by omega) rfl rfl (fun _ => trivial) (fun gs => ?_) | fail)
        refine XS.sel1 (c := cel gs 4 (zrow n (benc false))) (XS.ent (RowAt.of_cel (n := n) (es := 1) (by rw [zrow_length]; rfl) (by simp only [maxLen]; omega)) ?_)
        rw [← flat_zero, ← seenOf_zero n xs]
        refine XS.loopI (ι := Nat × Int) (fun q => [(0, kI n), (1, .slice a1 op.length c1), (2, kI m), (7, ptr b), (8, kI xs.length), (11, kI k), (12, .slice (some ⟨gs, 0, none⟩) n n), (13, kI q.1)]) (fun q => RowAt gs n 4 1 n (flat benc (seenOf n xs q.1)) :: bal b ⟨1, List.replicate n noStr, q.2, IntKind.u64.wrap 0, 0⟩ :: F) (fun q => q.1 ≤ xs.length ∧ Last xs q.2 q.1) (fun q => xs.length - q.1) (0, last) ⟨Nat.zero_le _, hl0⟩ ⟨rfl, rfl, rfl, rfl, rfl, rfl, rfl, rfl, trivial⟩ entA ?_
        rintro ⟨i, l2⟩ e3 ⟨hi2, hli⟩ ih2
        simp only at hi2 hli
        dsimp only
        by_cases hlt3 : i < xs.length
        · obtain ⟨y, hy⟩ : ∃ y, xs[i]? = some y := ⟨_, List.getElem?_eq_getElem hlt3⟩
          obtain ⟨hyn, hyo⟩ := hin y (List.mem_of_getElem? hy)
          have hyl := (List.getElem?_eq_some_iff.1 hyo).1
          obtain ⟨ga, offa, rfl, hrd⟩ := b1.rdF .bool (fun _ => rfl) hyo
          have hnx := last_next hasc hli hy
          have hsn := seenOf_new hasc hy hyn
          have hsl : y < (seenOf n xs i).length := by rw [seenOf_len]; exact hyn
          repeat' (first | refine walk ?_ | exact trivial | refine Tw.mk ?_ ?_ | (intro (y2 : Nat) hy2; obtain rfl : y2 = y := hy2.symm.trans hnx) | intro hc | refine Tri.sel1 (pick (by omega) ?_) | refine XO.sel1 (XO.storeRowE (xs := seenOf n xs i) true benc_len hsl TT_ok trivial rfl rfl rfl rfl rfl rfl rfl rfl trivial ?_) | fail)
          refine ih2 (i + 1, y2) _ _ ⟨hlt3, by simp only [Last]; exact ⟨by rw [Int.toNat_natCast]; exact hy, by omega⟩⟩ (by simp only; omega) ⟨rfl, rfl, rfl, rfl, rfl, rfl, rfl, rfl, trivial⟩ ?_
          simp only [seenOf_succ hy]
          exact entA
        · obtain rfl : i = xs.length := by omega
          repeat' (first | refine walk ?_ | exact trivial | refine Tw.mk ?_ ?_ | intro hc | fail)
          exact ih (k + 1, l2) _ _ ⟨hlt2, last_end hasc hli⟩ (by simp only; omega) ⟨rfl, rfl, rfl, rfl, rfl, rfl, trivial⟩ entA
      · obtain rfl : k = m := by omega
        repeat' (first | refine walk ?_ | exact trivial | refine Tw.mk ?_ ?_ | intro hc | exact Out.i rfl | fail)
  · refine Tri.enterF Try.func8 Try.ntmps8 Try.results8 rfl rfl fun fr hfr => ?_
    repeat' (first | refine walk ?_ | exact trivial | refine Tw.mk ?_ ?_ | refine banchor_spec ?_ | exact Out.i rfl | intro hc | fail)
    all_goals (exfalso; omega)
end Go.Proofs.Ytpfnhkdhcjclpaa
