/- The pool's laws: PoolSticky. Conditions: none. -/
import Derived.Test.YtpfnhkdhcjclpaaPoolG
namespace Go.Proofs.Ytpfnhkdhcjclpaa
open Go Go.Sx Go.WheelM Go.PoolM
variable {w0 : World} {F H : List HProp} {K : Value → List HProp → Prop}
abbrev St (c x : Int) (u : Bool) : PS := ⟨c, 0, 1, [(1, ⟨7, x, u⟩)], []⟩
theorem st_ok {c x : Int} {u : Bool} (h1 : 1 ≤ c) (h2 : c ≤ 256) : (St c x u).Ok := ⟨by simp, by simp, by simp, by simpa using h1, ⟨h1, h2⟩, by simp, by simp⟩
theorem sticky_spec {c r : Int} (hc : -9223372036854775808 ≤ c ∧ c ≤ 9223372036854775807) (hr : -9223372036854775808 ≤ r ∧ r ≤ 9223372036854775807) : Tri Try.prog 3 #[kI c, kI r] w0 F fun v _ => v = .bool true := by
  refine Tri.enterF Try.func3 Try.ntmps3 Try.results3 rfl rfl fun fr hfr => ?_
  repeat' (first | refine walk ?_ | exact trivial | refine Tw.mk ?_ ?_ | refine anchor_spec ?_ | intro hc | exact Out.i rfl | refine pnew_spec (fun b => ?_) | refine Tri.sel1 (acquire_at (S' := St c 1 true) ⟨c, 0, 0, [], []⟩ 1 7 2 1 0 0 ⟨by simp, by simp, by simp, by simp; omega, by simp; omega, by simp, by simp⟩ (by rw [acq_got rfl rfl (can_dial rfl (by simp; omega))]; rfl) ?_))
  refine XS.loopI (ι := Nat × Int) (fun p => [(0, kI c), (1, kI r), (5, ptr b), (8, kI p.1)]) (fun p => pool b (St c p.2 true) :: F) (fun p => (p.1 : Int) ≤ r) (fun p => r.toNat - p.1) (0, 1) (by simp; omega) ⟨rfl, rfl, rfl, rfl, trivial⟩ entA ?_
  rintro ⟨k, x⟩ e hk ih
  simp only at hk
  have hok : ∀ {x : Int} {u : Bool}, (St c x u).Ok := st_ok (by assumption) (by assumption)
  repeat' (first | refine walk ?_ | exact trivial | refine Tw.mk ?_ ?_ | refine Tri.sel1 (release_at (S' := St c 0 false) (St c x true) 1 0 rfl ?_) | refine Tri.sel1 (acquire_at (S' := St c (100 + k) true) (St c 0 false) (100 + k) 7 1 1 0 0 hok rfl ?_) | intro hc)
  · exact ih (k + 1, 100 + k) _ _ (by simp only; omega) (by simp only; omega) ⟨rfl, rfl, rfl, rfl, trivial⟩ entA
  · refine Tri.sel1 (release_at (S' := St c 0 false) (St c 0 false) 1 191 rfl ?_)
    by_cases h1 : c = 1
    · subst h1
      repeat' (first | refine walk ?_ | exact trivial | refine Tw.mk ?_ ?_ | refine Tri.sel1 (acquire_at (S' := ⟨1, 0, 2, [(2, ⟨8, 5000, true⟩)], []⟩) (St 1 0 false) 5000 8 2 2 1 0 hok rfl ?_) | refine Tri.sel1 (remove_at (S' := ⟨1, 0, 2, [(2, ⟨8, 5000, true⟩)], []⟩) ⟨1, 0, 2, [(2, ⟨8, 5000, true⟩)], []⟩ 1 191 rfl ?_) | intro hc | exact Out.i rfl)
    · repeat' (first | refine walk ?_ | exact trivial | refine Tw.mk ?_ ?_ | refine Tri.sel1 (acquire_at (S' := ⟨c, 0, 2, [(1, ⟨7, 0, false⟩), (2, ⟨8, 5000, true⟩)], []⟩) (St c 0 false) 5000 8 2 2 0 0 hok (by rw [acq_got rfl rfl (can_dial rfl (by simp; omega))]; rfl) ?_) | refine Tri.sel1 (remove_at (S' := ⟨c, 0, 2, [(2, ⟨8, 5000, true⟩)], []⟩) ⟨c, 0, 2, [(1, ⟨7, 0, false⟩), (2, ⟨8, 5000, true⟩)], []⟩ 1 0 rfl ?_) | intro hc | exact Out.i rfl)
      all_goals exact absurd (by assumption) h1
end Go.Proofs.Ytpfnhkdhcjclpaa
