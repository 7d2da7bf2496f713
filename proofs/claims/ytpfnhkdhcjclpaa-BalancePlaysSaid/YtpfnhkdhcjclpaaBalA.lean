/- What the balancer's small functions come to: comparing, searching, the first of some. Conditions: numbers are of their kinds. -/
import Derived.Test.YtpfnhkdhcjclpaaDiceC
import Derived.Test.YtpfnhkdhcjclpaaBalM
namespace Go.Proofs.Ytpfnhkdhcjclpaa
open Go Go.Sx Go.DiceM Go.BalM
variable {w0 : World} {F H : List HProp} {K : Value → List HProp → Prop}
def penc : Pt → List Value
  | (a, i) => [kU a, kI i]
theorem penc_len : ∀ x, (penc x).length = 2 := fun _ => rfl
theorem penc_all : ∀ x, (penc x).all (·.oneCell') = true := fun _ => rfl
def nenc (i : Nat) : List Value := [kI i]
theorem nenc_len : ∀ x, (nenc x).length = 1 := fun _ => rfl
theorem nenc_all : ∀ x, (nenc x).all (·.oneCell') = true := fun _ => rfl
theorem cmpI_spec {a c : Int} (h1 : a < c → K (kI (-1)) F) (h2 : c < a → K (kI 1) F) (h3 : a = c → K (kI 0) F) : Tri Try.prog 42 #[kI a, kI c] w0 F K := by
  have hnan : ∀ x (K : Value → List HProp → Prop) F, K (.bool false) F → Tri Try.prog 70 #[kI x] w0 F K := fun x K F h => by
    refine Tri.enterF Try.func70 Try.ntmps70 Try.results70 rfl rfl fun fr hfr => ?_
    repeat' (first | refine walk ?_ | exact trivial | refine Tw.mk ?_ ?_ | intro hc | fail)
  refine Tri.enterF Try.func42 Try.ntmps42 Try.results42 rfl rfl fun fr hfr => ?_
  repeat' (first | refine walk ?_ | exact trivial | refine Tw.mk ?_ ?_ | refine hnan _ _ _ ?_ | intro hc | fail)
  · exact Out.i (h1 (by assumption))
  · exact Out.i (h2 (by assumption))
  · exact Out.i (h3 (by omega))
theorem cmpU_spec {a c : Int} (h1 : a < c → K (kI (-1)) F) (h2 : c < a → K (kI 1) F) (h3 : a = c → K (kI 0) F) : Tri Try.prog 41 #[kU a, kU c] w0 F K := by
  have hnan : ∀ x (K : Value → List HProp → Prop) F, K (.bool false) F → Tri Try.prog 69 #[kU x] w0 F K := fun x K F h => by
    refine Tri.enterF Try.func69 Try.ntmps69 Try.results69 rfl rfl fun fr hfr => ?_
    repeat' (first | refine walk ?_ | exact trivial | refine Tw.mk ?_ ?_ | intro hc | fail)
  refine Tri.enterF Try.func41 Try.ntmps41 Try.results41 rfl rfl fun fr hfr => ?_
  repeat' (first | refine walk ?_ | exact trivial | refine Tw.mk ?_ ?_ | refine hnan _ _ _ ?_ | intro hc | fail)
  · exact Out.i (h1 (by assumption))
  · exact Out.i (h2 (by assumption))
  · exact Out.i (h3 (by omega))
theorem atCmp_spec {p : Pt} {h : Int} (h1 : p.1 < h → K (kI (-1)) F) (h2 : h < p.1 → K (kI 1) F) (h3 : p.1 = h → K (kI 0) F) : Tri Try.prog 74 #[.agg ⟨penc p⟩, kU h] w0 F K := by
  obtain ⟨a, i⟩ := p
  refine Tri.enterF Try.func74 Try.ntmps74 Try.results74 rfl rfl fun fr hfr => ?_
  repeat' (first | refine walk ?_ | exact trivial | refine Tw.mk ?_ ?_ | intro b | refine cmpU_spec (fun hc => ?_) (fun hc => ?_) (fun hc => ?_) | fail)
  · exact Out.s0 (h1 hc)
  · exact Out.s0 (h2 hc)
  · exact Out.s0 (h3 hc)
theorem index_spec {a : Option Addr} {c : Nat} {xs : List Nat} {i : Nat} (hl : xs.length ≤ 1048576) (h1 : i ∈ xs → ∀ k : Nat, K (kI k) (Row a c 3 1 xs.length (flat nenc xs) :: F)) (h2 : i ∉ xs → K (kI (-1)) (Row a c 3 1 xs.length (flat nenc xs) :: F)) : Tri Try.prog 96 #[.slice a xs.length c, kI i] w0 (Row a c 3 1 xs.length (flat nenc xs) :: F) K := by
  refine Tri.enterF Try.func96 Try.ntmps96 Try.results96 rfl rfl fun fr hfr => ?_
  repeat' (first | refine walk ?_ | exact trivial | refine Tw.mk ?_ ?_ | intro hc | fail)
  refine XS.loopI (ι := Nat) (fun k => [(0, .slice a xs.length c), (1, kI i), (7, kI xs.length), (8, kI k)]) (fun _ => Row a c 3 1 xs.length (flat nenc xs) :: F) (fun k => k ≤ xs.length ∧ i ∉ xs.take k) (fun k => xs.length - k) 0 ⟨Nat.zero_le _, by simp⟩ ⟨rfl, rfl, rfl, rfl, trivial⟩ entA ?_
  rintro k e ⟨hk, hno⟩ ih
  by_cases hlt : k < xs.length
  · obtain ⟨z, hz⟩ : ∃ z, xs[k]? = some z := ⟨_, List.getElem?_eq_getElem hlt⟩
    refine XS.rowOpen (by omega) fun g hg => ?_
    subst hg
    repeat' (first | refine walk ?_ | exact trivial | refine Tw.mk ?_ ?_ | intro hc | fail)
    · obtain rfl : i = z := by have : (i : Int) = z := by assumption
                               omega
      exact Out.e (h1 (List.mem_of_getElem? hz) k) entA
    · have hne : (i : Int) ≠ z := by assumption
      exact ih (k + 1) _ _ ⟨hlt, by rw [List.take_add_one, hz]; simp; exact ⟨hno, by omega⟩⟩ (by omega) ⟨rfl, rfl, rfl, rfl, trivial⟩ entA
  · obtain rfl : k = xs.length := by omega
    rw [List.take_length] at hno
    repeat' (first | refine walk ?_ | exact trivial | refine Tw.mk ?_ ?_ | intro hc | fail)
    exact Out.i (h2 hno)
theorem contains_spec {a : Option Addr} {c : Nat} {xs : List Nat} {i : Nat} (hl : xs.length ≤ 1048576) (h1 : i ∈ xs → K (.bool true) (Row a c 3 1 xs.length (flat nenc xs) :: F)) (h2 : i ∉ xs → K (.bool false) (Row a c 3 1 xs.length (flat nenc xs) :: F)) : Tri Try.prog 75 #[.slice a xs.length c, kI i] w0 (Row a c 3 1 xs.length (flat nenc xs) :: F) K := by
  refine Tri.enterF Try.func75 Try.ntmps75 Try.results75 rfl rfl fun fr hfr => ?_
  repeat' (first | refine walk ?_ | exact trivial | refine Tw.mk ?_ ?_ | refine index_spec hl (fun hi k => ?_) (fun hi => ?_) | fail)
  · exact fun _ => Out.i (h1 hi)
  · exact fun _ => Out.i (h2 hi)
theorem bsearch_spec {a : Option Addr} {c : Nat} {r : List Pt} {h : Int} (hl : r.length ≤ 1048576) (ha : r.Pairwise ple) (hK : ∀ m t, From r h m → K (.tuple #[kI (m : Nat), .bool t]) (Row a c 89 2 r.length (flat penc r) :: F)) :
    Tri Try.prog 73 #[.slice a r.length c, kU h, .func (.func 74) #[] #[]] w0 (Row a c 89 2 r.length (flat penc r) :: F) K := by
  refine Tri.enterF Try.func73 Try.ntmps73 Try.results73 rfl rfl fun fr hfr => ?_
  repeat' (first | refine walk ?_ | exact trivial | refine Tw.mk ?_ ?_ | intro hc | fail)
  refine XS.loopI (ι := Nat × Nat) (fun q => [(0, .slice a r.length c), (1, kU h), (2, .func (.func 74) #[] #[]), (8, kI r.length), (9, kI q.1), (10, kI q.2)]) (fun _ => Row a c 89 2 r.length (flat penc r) :: F)
    (fun q => q.1 ≤ q.2 ∧ q.2 ≤ r.length ∧ (∀ j p, j < q.1 → r[j]? = some p → p.1 < h) ∧ (∀ j p, q.2 ≤ j → r[j]? = some p → h ≤ p.1)) (fun q => q.2 - q.1) (0, r.length) ⟨Nat.zero_le _, Nat.le_refl _, by simp, fun j p hj hp => by have := (List.getElem?_eq_some_iff.1 hp).1; omega⟩ ⟨rfl, rfl, rfl, rfl, rfl, rfl, trivial⟩ entA ?_
  rintro ⟨i, j⟩ e ⟨hij, hj, hlo, hhi⟩ ih
  simp only at hij hj hlo hhi
  dsimp only
  by_cases hlt : i < j
  · have hm : (i + j) / 2 < r.length := by omega
    have hw : IntKind.i64.wrap ((IntKind.u64.wrap ((i : Int) + j)).fdiv (2 ^ min 1 IntKind.u64.bits)) = (((i + j) / 2 : Nat) : Int) := by
      have e2 : ((2 : Int) ^ min 1 IntKind.u64.bits) = 2 := by decide
      rw [u64_id (by omega) (by omega), e2, Int.fdiv_eq_ediv_of_nonneg _ (by decide), wrap64_id (by omega) (by omega)]
      omega
    obtain ⟨z, hz⟩ : ∃ z, r[(i + j) / 2]? = some z := ⟨_, List.getElem?_eq_getElem hm⟩
    refine XS.rowOpen (by omega) fun g hg => ?_
    subst hg
    repeat' (first | refine walk ?_ | exact trivial | refine Tw.mk ?_ ?_ | intro hc | fail)
    rw [hw]
    repeat' (first | refine walk ?_ | exact trivial | refine Tw.mk ?_ ?_ | refine atCmp_spec (p := z) (fun hc => ?_) (fun hc => ?_) (fun hc => ?_) | intro hc | fail)
    · have h1 : z.1 < h := by assumption
      refine ih ((i + j) / 2 + 1, j) _ _ ⟨by simp only; omega, hj, fun k p hk hp => ?_, hhi⟩ (by simp only; omega) ⟨rfl, rfl, rfl, rfl, rfl, rfl, trivial⟩ entA
      have := asc_at ha hp hz (by simp only at hk; omega)
      simp only [ple] at this; omega
    all_goals
      have h1 : h ≤ z.1 := by omega
      refine ih (i, (i + j) / 2) _ _ ⟨by simp only; omega, by simp only; omega, hlo, fun k p hk hp => ?_⟩ (by simp only; omega) ⟨rfl, rfl, rfl, rfl, rfl, rfl, trivial⟩ entA
      have := asc_at ha hz hp (by simp only at hk; omega)
      simp only [ple] at this; omega
  · obtain rfl : i = j := by omega
    have hf : From r h i := ⟨hj, hlo, hhi⟩
    by_cases hn : i < r.length
    · obtain ⟨z, hz⟩ : ∃ z, r[i]? = some z := ⟨_, List.getElem?_eq_getElem hn⟩
      refine XS.rowOpen (by omega) fun g hg => ?_
      subst hg
      repeat' (first | refine walk ?_ | exact trivial | refine Tw.mk ?_ ?_ | refine atCmp_spec (p := z) (fun hc => ?_) (fun hc => ?_) (fun hc => ?_) | intro hc | fail)
      all_goals exact Out.e (hK i _ hf) entA
    · repeat' (first | refine walk ?_ | exact trivial | refine Tw.mk ?_ ?_ | intro hc | fail)
      exact Out.i (hK i _ hf)
end Go.Proofs.Ytpfnhkdhcjclpaa
