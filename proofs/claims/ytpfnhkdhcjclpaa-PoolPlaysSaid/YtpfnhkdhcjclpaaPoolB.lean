/- What the pool's functions come to: known, Len, Release, Remove. Conditions: numbers are of their kinds. -/
import Derived.Test.YtpfnhkdhcjclpaaPoolA
namespace Go.Proofs.Ytpfnhkdhcjclpaa
open Go Go.Sx Go.WheelM Go.PoolM
variable {w0 : World} {F H : List HProp} {K : Value → List HProp → Prop}
theorem mem_rest {α : Type} {l : List α} {i : Nat} {p q : α} (h : l[i]? = some p) (hq : q ∈ l) : q = p ∨ q ∈ l.eraseIdx i := by
  rcases List.mem_cons.1 ((perm_at h).mem_iff.1 hq) with h | h
  · exact .inl h
  · exact .inr h
theorem len_rest {α : Type} {l : List α} {i : Nat} {p : α} (h : l[i]? = some p) : (l.eraseIdx i).length < l.length := by
  have := (List.getElem?_eq_some_iff.1 h).1
  rw [List.length_eraseIdx_of_lt this]; omega
theorem known_spec {b : Nat} {S : PS} {x : Int} (hS : S.queue.length ≤ 1048576) (h : K (.bool (S.knows x)) (pool b S :: F)) : Tri Try.prog 30 #[ptr b, kI x] w0 (pool b S :: F) K := by
  refine pool_open fun m a c => ?_
  refine Tri.enterF Try.func30 Try.ntmps30 Try.results30 rfl rfl fun fr hfr => ?_
  repeat' (first | refine walk ?_ | exact trivial | refine Tw.mk ?_ ?_ | intro bx bm | fail)
  refine XS.loopI (ι := List (Int × Lk) × Option (Int × Lk)) (fun _ => [(0, ptr b), (3, ptr bx), (11, ptr bm)]) (fun p => trange m bm kI lk S.conns p.1 p.2 :: cel bx 3 [kI x] :: phead b m S.most S.pend S.opened a S.queue.length c :: Row a c 71 2 S.queue.length (flat wenc S.queue) :: F)
    (fun p => (∀ q ∈ S.conns, q.2.by_ x = true → q ∈ p.1) ∧ ∀ q ∈ p.1, q ∈ S.conns) (fun p => p.1.length) (S.conns, none) ⟨fun q hq _ => hq, fun _ h => h⟩ ⟨rfl, rfl, rfl, trivial⟩ entA ?_
  rintro ⟨left, cur⟩ e ⟨hp, hs⟩ ih
  have step : ∀ {i : Nat} {p : Int × Lk}, left[i]? = some p → p.2.by_ x = false → (∀ q ∈ S.conns, q.2.by_ x = true → q ∈ left.eraseIdx i) ∧ ∀ q ∈ left.eraseIdx i, q ∈ S.conns := fun hi hn =>
    ⟨fun q hq hb => (mem_rest hi (hp q hq hb)).resolve_left (fun e => by subst e; rw [hn] at hb; cases hb), fun q hq => hs q (List.mem_of_mem_eraseIdx hq)⟩
  refine walk ?_
  refine ⟨fun hl => ?_, fun i p _ hi hu hx => ?_, fun i p _ hi hu hx => ?_, fun i p _ hi hu => ?_, trivial⟩
  · repeat' (first | refine walk ?_ | exact trivial | refine Tw.mk ?_ ?_ | refine Tri.sel2 (has_spec hS (.inl rfl) ?_) | fail)
    refine pool_out (F := F) ?_
    simp only at hl hp
    subst hl
    have : S.conns.any (fun p => p.2.by_ x) = false := List.any_eq_false.2 fun q hq hb => by cases hp q hq hb
    unfold PS.knows at h
    rwa [this, Bool.false_or] at h
  · refine pool_out (F := F) ?_
    have : S.conns.any (fun p => p.2.by_ x) = true := List.any_eq_true.2 ⟨p, hs p (List.mem_of_getElem? hi), by simp [Lk.by_, hu, hx]⟩
    unfold PS.knows at h
    rwa [this, Bool.true_or] at h
  · exact ih (left.eraseIdx i, some p) _ _ (step hi (by simp [Lk.by_, hx])) (len_rest hi) ⟨rfl, rfl, rfl, trivial⟩ entA
  · exact ih (left.eraseIdx i, some p) _ _ (step hi (by simp [Lk.by_, hu])) (len_rest hi) ⟨rfl, rfl, rfl, trivial⟩ entA
theorem len_spec {b : Nat} {S : PS} (hS : S.conns.length ≤ 1048576) (h : K (.tuple #[kI S.busy, kI (S.conns.length - S.busy), kI S.queue.length]) (pool b S :: F)) : Tri Try.prog 21 #[ptr b] w0 (pool b S :: F) K := by
  refine pool_open fun m a c => ?_
  refine Tri.enterF Try.func21 Try.ntmps21 Try.results21 rfl rfl fun fr hfr => ?_
  repeat' (first | refine walk ?_ | exact trivial | refine Tw.mk ?_ ?_ | intro bm | fail)
  refine XS.loopI (ι := (List (Int × Lk) × Option (Int × Lk)) × Nat) (fun p => [(0, ptr b), (5, kI p.2), (12, ptr bm)]) (fun p => trange m bm kI lk S.conns p.1.1 p.1.2 :: phead b m S.most S.pend S.opened a S.queue.length c :: Row a c 71 2 S.queue.length (flat wenc S.queue) :: F)
    (fun p => p.2 + p.1.1.countP (fun q => q.2.u) = S.busy ∧ p.2 + p.1.1.length ≤ S.conns.length) (fun p => p.1.1.length) ((S.conns, none), 0) ⟨Nat.zero_add _, by simp⟩ ⟨rfl, rfl, rfl, trivial⟩ entA ?_
  rintro ⟨⟨left, cur⟩, n⟩ e ⟨hp, hs⟩ ih
  simp only at hp hs
  have cnt : ∀ {i : Nat} {p : Int × Lk}, left[i]? = some p → left.countP (fun q => q.2.u) = (if p.2.u then 1 else 0) + (left.eraseIdx i).countP (fun q => q.2.u) := fun hi => by
    rw [(perm_at hi).countP_eq, List.countP_cons]; omega
  refine walk ?_
  refine ⟨fun hl => pool_out (F := F) ?_, fun i p _ hi hu => ?_, fun i p _ hi hu => ?_, trivial⟩
  · simp only at hl; subst hl
    obtain rfl : n = S.busy := by simpa using hp
    exact h
  · have h1 := cnt hi
    have h2 : (left.eraseIdx i).length < left.length := len_rest hi
    rw [hu, if_pos rfl] at h1
    exact ih ((left.eraseIdx i, some p), n + 1) _ _ ⟨by simp only; omega, by simp only; omega⟩ h2 ⟨rfl, rfl, rfl, trivial⟩ entA
  · have h1 := cnt hi
    have h2 : (left.eraseIdx i).length < left.length := len_rest hi
    rw [hu, if_neg (by simp)] at h1
    exact ih ((left.eraseIdx i, some p), n) _ _ ⟨by simp only; omega, by simp only; omega⟩ h2 ⟨rfl, rfl, rfl, trivial⟩ entA
theorem release_spec {b : Nat} {S : PS} {n : Int} (h1 : ∀ l, aget S.conns n = some l → l.u = true → K (kI 0) (pool b { S with conns := aset S.conns n ⟨l.h, 0, false⟩ } :: F)) (h2 : (∀ l, aget S.conns n = some l → l.u = false) → K (kI 191) (pool b S :: F)) :
    Tri Try.prog 16 #[ptr b, kI n] w0 (pool b S :: F) K := by
  refine pool_open fun m a c => ?_
  refine Tri.enterF Try.func16 Try.ntmps16 Try.results16 rfl rfl fun fr hfr => ?_
  refine walk ?_
  refine ⟨fun l _ hl hu => ?_, fun l _ hl hu => pool_out (F := F) (h2 fun l' hl' => by rw [hl] at hl'; injection hl' with hl'; rw [← hl']; exact hu), fun _ hl => pool_out (F := F) (h2 fun l' hl' => by rw [hl] at hl'; cases hl'), trivial⟩
  repeat' (first | refine walk ?_ | exact trivial | refine Tw.mk ?_ ?_ | refine XO.sel1 (XO.setT (kv := kI) (ve := lk) (v := ⟨l.h, 0, false⟩) TT_ok rfl trivial rfl rfl rfl rfl rfl keyI64 rfl rfl trivial ?_) | fail)
  exact pool_out (h1 l hl hu)
theorem remove_spec {b : Nat} {S : PS} {n : Int} (h1 : ∀ l, aget S.conns n = some l → K (kI 0) (pool b { S with conns := adel S.conns n } :: F)) (h2 : aget S.conns n = none → K (kI 191) (pool b S :: F)) :
    Tri Try.prog 17 #[ptr b, kI n] w0 (pool b S :: F) K := by
  refine pool_open fun m a c => ?_
  refine Tri.enterF Try.func17 Try.ntmps17 Try.results17 rfl rfl fun fr hfr => ?_
  refine walk ?_
  exact ⟨fun l _ hl => pool_out (h1 l hl), fun _ hl => pool_out (h2 hl), trivial⟩
end Go.Proofs.Ytpfnhkdhcjclpaa
