/- The balancer: on the ring, the least, the next; Pick. Conditions: numbers are of their kinds. -/
import Derived.Test.YtpfnhkdhcjclpaaBalC
namespace Go.Proofs.Ytpfnhkdhcjclpaa
open Go Go.Sx Go.DiceM Go.BalM
variable {w0 : World} {F H : List HProp} {K : Value → List HProp → Prop}
theorem modI (m k l : Nat) : ((m : Int) + k) % (l : Int) = (((m + k) % l : Nat) : Int) := by push_cast; rfl
set_option maxHeartbeats 1000000 in
theorem around_spec {b d rc c : Nat} {pol n last : Int} {hs : List ByteArray} {ra a : Option Addr} {r : List Pt} {xs : List Nat} {key : ByteArray} (hr : IsRing hs r) (hn : hs.length ≤ 1000) (hk : key.size ≤ 9223372036854775807) (hx : xs.length ≤ 1000)
    (h1 : ∀ i, Best hs (· ∈ xs) (mixI (hashOf key)) i → K (kI i) (bhead b pol n last d ra r.length rc :: Row ra rc 89 2 r.length (flat penc r) :: Row a c 3 1 xs.length (flat nenc xs) :: F))
    (h2 : (∀ i, i < hs.length → i ∉ xs) → K (kI (-1)) (bhead b pol n last d ra r.length rc :: Row ra rc 89 2 r.length (flat penc r) :: Row a c 3 1 xs.length (flat nenc xs) :: F)) :
    Tri Try.prog 46 #[ptr b, .slice a xs.length c, .string key] w0 (bhead b pol n last d ra r.length rc :: Row ra rc 89 2 r.length (flat penc r) :: Row a c 3 1 xs.length (flat nenc xs) :: F) K := by
  have hl := hr.len
  refine Tri.enterF Try.func46 Try.ntmps46 Try.results46 rfl rfl fun fr hfr => ?_
  repeat' (first | refine walk ?_ | exact trivial | refine Tw.mk ?_ ?_ | intro hc | refine hash_spec _ hk ?_ | refine mix_spec _ ?_ | refine Tri.sel1 (bsearch_spec (by omega) hr.asc (fun m t hf => ?_)) | fail)
  have hmle := hf.le
  refine XS.loopI (ι := Nat) (fun k => [(0, ptr b), (1, .slice a xs.length c), (8, kI m), (28, kI r.length), (29, kI k)]) (fun _ => bhead b pol n last d ra r.length rc :: Row ra rc 89 2 r.length (flat penc r) :: Row a c 3 1 xs.length (flat nenc xs) :: F)
    (fun k => k ≤ r.length ∧ ∀ k' q, k' < k → r[(m + k') % r.length]? = some q → q.2 ∉ xs) (fun k => r.length - k) 0 ⟨Nat.zero_le _, by simp⟩ ⟨rfl, rfl, rfl, rfl, rfl, trivial⟩ entA ?_
  rintro k e ⟨hkl, hno⟩ ih
  by_cases hlt : k < r.length
  · have hml : (m + k) % r.length < r.length := Nat.mod_lt _ (by omega)
    obtain ⟨⟨at_, i⟩, hz⟩ : ∃ z, r[(m + k) % r.length]? = some z := ⟨_, List.getElem?_eq_getElem hml⟩
    refine XS.sel1 (c := Row ra rc 89 2 r.length (flat penc r)) (XS.rowOpen (by omega) fun g hg => ?_)
    subst hg
    repeat' (first | refine walk ?_ | exact trivial | refine Tw.mk ?_ ?_ | intro hc | refine XO.indexOwn (i := (m + k) % r.length) TT_ok rfl rfl rfl rfl rfl rfl (congrArg (Value.int .i64) (modI m k r.length)) hml ?_ | refine Tri.sel1 (contains_spec (xs := xs) (i := i) (by omega) (fun hm => ?_) (fun hm => ?_)) | fail)
    · exact Out.s3 (h1 i (around_best hr hf hz hm (fun n' q hn' hq => hno n' q hn' hq)))
    · refine ih (k + 1) _ _ ⟨hlt, fun k' q hk' hq => ?_⟩ (by omega) ⟨rfl, rfl, rfl, rfl, rfl, trivial⟩ entA
      by_cases e : k' = k
      · subst e; rw [hz] at hq; injection hq with hq; subst hq; exact hm
      · exact hno k' q (by omega) hq
  · obtain rfl : k = r.length := by omega
    repeat' (first | refine walk ?_ | exact trivial | refine Tw.mk ?_ ?_ | intro hc | fail)
    exact Out.i (h2 fun i hi => around_none (op := (· ∈ xs)) hr hf hno hi)
/-- The first of the least loads. -/
def lnenc (z : Int) : List Value := [kI z]
theorem least_next {xs : List Nat} {load : Nat → Int} {k j z m : Nat} (ha : xs.Pairwise (· < ·)) (hk : xs[k]? = some z) (hj : xs[j]? = some m) (hjk : j < k) (h : IsLeast (xs.take k) load m) : IsLeast (xs.take (k + 1)) load (if load z < load m then z else m) := by
  have hzin : z ∈ xs.take (k + 1) := by rw [List.take_add_one, hk]; simp
  have hmin : m ∈ xs.take (k + 1) := by rw [List.take_add_one]; exact List.mem_append_left _ h.1
  obtain ⟨h1, e1⟩ := List.getElem?_eq_some_iff.1 hk
  obtain ⟨h2, e2⟩ := List.getElem?_eq_some_iff.1 hj
  have hmz : m < z := by rw [← e1, ← e2]; exact List.pairwise_iff_getElem.1 ha j k h2 h1 hjk
  split
  · rename_i hlt
    refine ⟨hzin, fun q hq => ?_⟩
    rw [List.take_add_one, hk] at hq
    rcases List.mem_append.1 hq with hq | hq
    · have := h.2 q hq; omega
    · simp at hq; subst hq; exact .inr ⟨rfl, Nat.le_refl _⟩
  · rename_i hge
    refine ⟨hmin, fun q hq => ?_⟩
    rw [List.take_add_one, hk] at hq
    rcases List.mem_append.1 hq with hq | hq
    · exact h.2 q hq
    · simp at hq; subst hq; omega
theorem loadCmp_spec {bx g n : Nat} {ls : List Int} {i k : Nat} (hl : ls.length = n) (hn : n ≤ 1048576) (hi : i < n) (hk : k < n) (h1 : loadOf ls i < loadOf ls k → K (kI (-1)) (cel bx 32 [.slice (some ⟨g, 0, none⟩) n n] :: RowAt g n 3 1 n (flat ienc ls) :: F)) (h2 : loadOf ls k ≤ loadOf ls i → ∀ z : Int, 0 ≤ z → K (kI z) (cel bx 32 [.slice (some ⟨g, 0, none⟩) n n] :: RowAt g n 3 1 n (flat ienc ls) :: F)) :
    Tri Try.prog 44 #[kI i, kI k, ptr bx] w0 (cel bx 32 [.slice (some ⟨g, 0, none⟩) n n] :: RowAt g n 3 1 n (flat ienc ls) :: F) K := by
  have hzi : ls[i]? = some (loadOf ls i) := by unfold loadOf; rw [List.getElem?_eq_getElem (by omega)]; rfl
  have hzk : ls[k]? = some (loadOf ls k) := by unfold loadOf; rw [List.getElem?_eq_getElem (by omega)]; rfl
  subst hl
  refine Tri.enterF Try.func44 Try.ntmps44 Try.results44 rfl rfl fun fr hfr => ?_
  repeat' (first | refine walk ?_ | exact trivial | refine Tw.mk ?_ ?_ | intro hc | refine cmpI_spec (fun hc => ?_) (fun hc => ?_) (fun hc => ?_) | fail)
  · exact Out.s2 (h1 hc)
  · exact Out.s2 (h2 (by omega) 1 (by decide))
  · exact Out.s2 (h2 (by omega) 0 (by decide))
set_option maxHeartbeats 1000000 in
theorem minf_spec {bx g n c : Nat} {ls : List Int} {a : Option Addr} {xs : List Nat} (hl : ls.length = n) (hn : n ≤ 1048576) (hx : xs.length ≤ 1048576) (hin : ∀ i ∈ xs, i < n) (ha : xs.Pairwise (· < ·)) (hpos : 0 < xs.length)
    (h : ∀ i, IsLeast xs (loadOf ls) i → K (kI i) (Row a c 3 1 xs.length (flat nenc xs) :: cel bx 32 [.slice (some ⟨g, 0, none⟩) n n] :: RowAt g n 3 1 n (flat ienc ls) :: F)) :
    Tri Try.prog 43 #[.slice a xs.length c, .func (.func 44) #[] #[ptr bx]] w0 (Row a c 3 1 xs.length (flat nenc xs) :: cel bx 32 [.slice (some ⟨g, 0, none⟩) n n] :: RowAt g n 3 1 n (flat ienc ls) :: F) K := by
  refine Tri.enterF Try.func43 Try.ntmps43 Try.results43 rfl rfl fun fr hfr => ?_
  obtain ⟨z0, hz0⟩ : ∃ z, xs[0]? = some z := ⟨_, List.getElem?_eq_getElem hpos⟩
  refine XS.rowOpen hpos fun gx hg => ?_
  subst hg
  repeat' (first | refine walk ?_ | exact trivial | refine Tw.mk ?_ ?_ | intro hc | fail)
  refine XS.loopI (ι := Nat × Nat × Nat) (fun q => [(0, .slice (some ⟨gx, 0, none⟩) xs.length c), (1, .func (.func 44) #[] #[ptr bx]), (5, kI q.2.1), (6, kI q.1)]) (fun _ => RowAt gx c 3 1 xs.length (flat nenc xs) :: cel bx 32 [.slice (some ⟨g, 0, none⟩) n n] :: RowAt g n 3 1 n (flat ienc ls) :: F)
    (fun q => 1 ≤ q.1 ∧ q.1 ≤ xs.length ∧ q.2.2 < q.1 ∧ xs[q.2.2]? = some q.2.1 ∧ IsLeast (xs.take q.1) (loadOf ls) q.2.1) (fun q => xs.length - q.1) (1, z0, 0) ⟨Nat.le_refl _, hpos, by simp, hz0, by rw [show 1 = 0 + 1 from rfl, List.take_add_one, hz0]; simp [IsLeast]⟩ ⟨rfl, rfl, rfl, rfl, trivial⟩ entA ?_
  rintro ⟨k, m, j⟩ e ⟨hk1, hk, hjk, hj, hm⟩ ih
  simp only at hk1 hk hjk hj hm
  dsimp only
  by_cases hlt : k < xs.length
  · obtain ⟨z, hz⟩ : ∃ z, xs[k]? = some z := ⟨_, List.getElem?_eq_getElem hlt⟩
    have hzn := hin z (List.mem_of_getElem? hz)
    have hmn := hin m (List.mem_of_getElem? hj)
    have hnx := least_next ha hz hj hjk hm
    repeat' (first | refine walk ?_ | exact trivial | refine Tw.mk ?_ ?_ | intro hc | refine Tri.sel2 (loadCmp_spec (i := z) (k := m) hl hn hzn hmn (fun hc => ?_) (fun hc z1 hz1 => ?_)) | fail)
    · have hlo : loadOf ls z < loadOf ls m := by assumption
      rw [if_pos hlo] at hnx
      exact ih (k + 1, z, k) _ _ ⟨by simp, hlt, by simp, hz, hnx⟩ (by simp only; omega) ⟨rfl, rfl, rfl, rfl, trivial⟩ entA
    · have hlo : loadOf ls m ≤ loadOf ls z := by assumption
      rw [if_neg (by omega)] at hnx
      exact ih (k + 1, m, j) _ _ ⟨by simp, hlt, by simp only; omega, hj, hnx⟩ (by simp only; omega) ⟨rfl, rfl, rfl, rfl, trivial⟩ entA
  · obtain rfl : k = xs.length := by omega
    rw [List.take_length] at hm
    repeat' (first | refine walk ?_ | exact trivial | refine Tw.mk ?_ ?_ | intro hc | fail)
    exact Out.e (h m hm) entA
theorem next_spec2 {b d rc bx : Nat} {pol n last : Int} {ra : Option Addr} {k : Nat} {i : Nat} (h1 : (i : Int) > last → K (.bool true) (cel bx 48 [ptr b] :: bhead b pol n last d ra k rc :: F)) (h2 : ¬ (i : Int) > last → K (.bool false) (cel bx 48 [ptr b] :: bhead b pol n last d ra k rc :: F)) : Tri Try.prog 48 #[kI i, ptr bx] w0 (cel bx 48 [ptr b] :: bhead b pol n last d ra k rc :: F) K := by
  refine Tri.enterF Try.func48 Try.ntmps48 Try.results48 rfl rfl fun fr hfr => ?_
  repeat' (first | refine walk ?_ | exact trivial | refine Tw.mk ?_ ?_ | intro hc | fail)
  · exact Out.i (h1 (by omega))
  · exact Out.i (h2 (by omega))
theorem nextOf_at {xs : List Nat} {last : Int} {q z : Nat} (hz : xs[q]? = some z) (hl : (z : Int) > last) (hno : ∀ (j i : Nat), j < q → xs[j]? = some i → ¬ (i : Int) > last) : nextOf xs last = z := by
  have : xs.find? (fun i : Nat => decide ((i : Int) > last)) = some z := by
    obtain ⟨h1, e1⟩ := List.getElem?_eq_some_iff.1 hz
    rw [List.find?_eq_some_iff_getElem]
    refine ⟨by simpa using hl, q, h1, e1, fun j hj => ?_⟩
    have := hno j _ hj (List.getElem?_eq_getElem (by omega))
    simpa using this
  simp [nextOf, this]
theorem nextOf_none {xs : List Nat} {last : Int} {i : Nat} (h0 : xs[0]? = some i) (hno : ∀ (j i : Nat), j < xs.length → xs[j]? = some i → ¬ (i : Int) > last) : nextOf xs last = i := by
  have : xs.find? (fun i : Nat => decide ((i : Int) > last)) = none := by
    rw [List.find?_eq_none]
    intro x hx
    obtain ⟨j, hj⟩ := List.getElem?_of_mem hx
    have := hno j x (List.getElem?_eq_some_iff.1 hj).1 hj
    simpa using this
  cases xs with
  | nil => simp at h0
  | cons a l => simp at h0; subst h0; simp [nextOf, this]
set_option maxHeartbeats 1000000 in
theorem indexf_spec {b d rc bx c : Nat} {pol n last : Int} {ra a : Option Addr} {k : Nat} {xs : List Nat} (hx : xs.length ≤ 1048576)
    (h1 : ∀ (j i : Nat), xs[j]? = some i → nextOf xs last = i → K (kI j) (Row a c 3 1 xs.length (flat nenc xs) :: cel bx 48 [ptr b] :: bhead b pol n last d ra k rc :: F))
    (h2 : (∀ i, xs[0]? = some i → nextOf xs last = i) → K (kI (-1)) (Row a c 3 1 xs.length (flat nenc xs) :: cel bx 48 [ptr b] :: bhead b pol n last d ra k rc :: F)) :
    Tri Try.prog 47 #[.slice a xs.length c, .func (.func 48) #[] #[ptr bx]] w0 (Row a c 3 1 xs.length (flat nenc xs) :: cel bx 48 [ptr b] :: bhead b pol n last d ra k rc :: F) K := by
  refine Tri.enterF Try.func47 Try.ntmps47 Try.results47 rfl rfl fun fr hfr => ?_
  repeat' (first | refine walk ?_ | exact trivial | refine Tw.mk ?_ ?_ | intro hc | fail)
  refine XS.loopI (ι := Nat) (fun q => [(0, .slice a xs.length c), (1, .func (.func 48) #[] #[ptr bx]), (7, kI xs.length), (8, kI q)]) (fun _ => Row a c 3 1 xs.length (flat nenc xs) :: cel bx 48 [ptr b] :: bhead b pol n last d ra k rc :: F)
    (fun q => q ≤ xs.length ∧ ∀ (j i : Nat), j < q → xs[j]? = some i → ¬ (i : Int) > last) (fun q => xs.length - q) 0 ⟨Nat.zero_le _, by simp⟩ ⟨rfl, rfl, rfl, rfl, trivial⟩ entA ?_
  rintro q e ⟨hq, hno⟩ ih
  by_cases hlt : q < xs.length
  · obtain ⟨z, hz⟩ : ∃ z, xs[q]? = some z := ⟨_, List.getElem?_eq_getElem hlt⟩
    refine XS.rowOpen (by omega) fun gx hg => ?_
    subst hg
    repeat' (first | refine walk ?_ | exact trivial | refine Tw.mk ?_ ?_ | intro hc | refine Tri.sel2 (next_spec2 (i := z) (fun hc => ?_) (fun hc => ?_)) | fail)
    · have hl : (z : Int) > last := by assumption
      exact Out.e (h1 q z hz (nextOf_at hz hl hno)) entA
    · have hl : ¬ (z : Int) > last := by assumption
      refine ih (q + 1) _ _ ⟨hlt, fun j i hj hi => ?_⟩ (by omega) ⟨rfl, rfl, rfl, rfl, trivial⟩ entA
      by_cases e : j = q
      · subst e; rw [hz] at hi; injection hi with hi; subst hi; exact hl
      · exact hno j i (by omega) hi
  · obtain rfl : q = xs.length := by omega
    repeat' (first | refine walk ?_ | exact trivial | refine Tw.mk ?_ ?_ | intro hc | fail)
    exact Out.i (h2 fun i h0 => nextOf_none h0 hno)
end Go.Proofs.Ytpfnhkdhcjclpaa
