/- What the pool's functions come to: Acquire, Serve, Loads. Conditions: numbers are of their kinds. -/
import Derived.Test.YtpfnhkdhcjclpaaPoolD
namespace Go.Proofs.Ytpfnhkdhcjclpaa
open Go Go.Sx Go.WheelM Go.PoolM
variable {w0 : World} {F H : List HProp} {K : Value → List HProp → Prop}
theorem acquire_spec {b : Nat} {S : PS} {x host : Int} (ok : S.Ok) (h : K (.tuple #[genc (S.acquire x host).1.1, kI (S.acquire x host).1.2]) (pool b (S.acquire x host).2 :: F)) : Tri Try.prog 15 #[ptr b, kI x, kI host] w0 (pool b S :: F) K := by
  have hq : S.queue.length ≤ 1048576 := by have := ok.ql; have := ok.pend; omega
  refine Tri.enterF Try.func15 Try.ntmps15 Try.results15 rfl rfl fun fr hfr => ?_
  repeat' (first | refine walk ?_ | exact trivial | refine Tw.mk ?_ ?_ | intro bg | refine Tri.sel1 (known_spec hq ?_) | refine XO.sel1 (XO.popen fun m a c => ?_) | refine XS.sel1 (XS.popen fun m a c => ?_) | refine Tri.pclose S (grant_spec (x := x) (host := host) ok (fun g S' hc => ?_) (fun hn => ?_)) | refine XO.sel1 (XO.append (m := 1) (N := 1048577) TT_ok trivial rfl rfl rfl rfl rfl rfl rfl rfl rfl rfl rfl (ReadsL.skip (ReadsL.here 2)) rfl (by decide) rfl (by omega) rfl rfl (fun _ _ => trivial) (fun a' cap' => ?_)) | fail)
  · rw [acq_known (by assumption)] at h
    exact Out.s1 h
  · rename_i g S' hc _
    rw [acq_got (by assumption) (by assumption) hc] at h
    exact Out.s1 h
  · rw [acq_else (by assumption) (fun _ => by assumption), if_pos (by assumption)] at h
    exact pool_out h
  · rw [acq_else (by assumption) (fun _ => by assumption), if_neg (by omega)] at h
    exact pool_out h (h4 := by simp) (h6 := flat_snoc _ _)
  · rw [acq_else (by assumption) (fun h0 => absurd h0 (by assumption)), if_pos (by assumption)] at h
    exact pool_out h
  · rw [acq_else (by assumption) (fun h0 => absurd h0 (by assumption)), if_neg (by omega)] at h
    exact pool_out h (h4 := by simp) (h6 := flat_snoc _ _)
theorem serve_spec {b : Nat} {S : PS} (ok : S.Ok) (h : K (.tuple #[kI S.serve.1.1, genc S.serve.1.2.1, .bool S.serve.1.2.2]) (pool b S.serve.2 :: F)) : Tri Try.prog 19 #[ptr b] w0 (pool b S :: F) K := by
  have hq : S.queue.length ≤ 1048576 := by have := ok.ql; have := ok.pend; omega
  refine pool_open fun m a c => ?_
  refine Tri.enterF Try.func19 Try.ntmps19 Try.results19 rfl rfl fun fr hfr => ?_
  refine walk ?_
  refine ⟨fun _ hq0 => ?_, ?_, trivial⟩
  · have e : S.queue = [] := List.length_eq_zero_iff.1 (by omega)
    simp only [PS.serve, e] at h
    exact pool_out h (h4 := by simp [e]) (h6 := by simp [e])
  · intro b1 h0
    have h0' : 0 < S.queue.length := by omega
    obtain ⟨⟨x, hst⟩, l, hql⟩ : ∃ w l, S.queue = w :: l := by
      cases hql : S.queue with
      | nil => rw [hql] at h0'; simp at h0'
      | cons w l => exact ⟨w, l, rfl⟩
    have hz : S.queue[0]? = some (x, hst) := by rw [hql]; rfl
    refine XO.sel1 (XO.rowOpen h0' fun g hg => ?_)
    subst hg
    repeat' (first | refine walk ?_ | exact trivial | refine Tw.mk ?_ ?_ | intro b2 | refine Tri.pclose S (grant_spec (x := x) (host := hst) ok (fun g2 S' hc => ?_) (fun hn => ?_)) | refine XO.sel1 (XO.popen fun m a c => ?_) | refine XS.sel1 (XS.popen fun m a c => ?_) | fail)
    · have hS := can_queue hc
      refine Tri.sel1 (c := Row a c 71 2 S'.queue.length (flat wenc S'.queue)) (Tri.rowOpen (by rw [hS]; exact h0') fun g3 hg3 => ?_)
      subst hg3
      repeat' (first | refine walk ?_ | exact trivial | refine Tw.mk ?_ ?_ | refine Tri.sel1 (delete_spec (by rw [hS]; exact h0') (by rw [hS]; exact hq) ?_) | fail)
      simp only [PS.serve, hql, hc] at h
      exact pool_out h (h4 := by rw [hS, hql]; simp) (h6 := by rw [hS, hql]; rfl)
    · simp only [PS.serve, hql, hn] at h
      exact Out.s1 h
end Go.Proofs.Ytpfnhkdhcjclpaa
