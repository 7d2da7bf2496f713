/- The pool's laws: the anchor. Conditions: none. -/
import Derived.Test.YtpfnhkdhcjclpaaPoolF
namespace Go.Proofs.Ytpfnhkdhcjclpaa
open Go Go.Sx Go.WheelM Go.PoolM
variable {w0 : World} {F H : List HProp} {K : Value → List HProp → Prop}
theorem acquire_at {b : Nat} {S' : PS} (S : PS) (x host k c d en : Int) (ok : S.Ok) (hr : S.acquire x host = (((k, c, d), en), S')) (h : K (.tuple #[.agg #[kI k, kI c, kI d], kI en]) (pool b S' :: F)) : Tri Try.prog 15 #[ptr b, kI x, kI host] w0 (pool b S :: F) K :=
  acquire_spec ok (by rw [hr]; exact h)
theorem serve_at {b : Nat} {S' : PS} (S : PS) (x k c d : Int) (t : Bool) (ok : S.Ok) (hr : S.serve = ((x, (k, c, d), t), S')) (h : K (.tuple #[kI x, .agg #[kI k, kI c, kI d], .bool t]) (pool b S' :: F)) : Tri Try.prog 19 #[ptr b] w0 (pool b S :: F) K :=
  serve_spec ok (by rw [hr]; exact h)
theorem release_any {b : Nat} {S : PS} {n : Int} (h : K (kI (S.release n).1) (pool b (S.release n).2 :: F)) : Tri Try.prog 16 #[ptr b, kI n] w0 (pool b S :: F) K :=
  release_spec (fun l hl hu => by simpa [PS.release, hl, hu] using h) (fun hn => by
    have e : S.release n = (191, S) := by
      unfold PS.release
      split
      · rename_i l hl; rw [hn l hl]; rfl
      · rfl
    rw [e] at h; exact h)
theorem release_at {b : Nat} {S' : PS} (S : PS) (n en : Int) (hr : S.release n = (en, S')) (h : K (kI en) (pool b S' :: F)) : Tri Try.prog 16 #[ptr b, kI n] w0 (pool b S :: F) K := release_any (by rw [hr]; exact h)
theorem remove_any {b : Nat} {S : PS} {n : Int} (h : K (kI (S.remove n).1) (pool b (S.remove n).2 :: F)) : Tri Try.prog 17 #[ptr b, kI n] w0 (pool b S :: F) K :=
  remove_spec (fun l hl => by simpa [PS.remove, hl] using h) (fun hn => by simpa [PS.remove, hn] using h)
theorem remove_at {b : Nat} {S' : PS} (S : PS) (n en : Int) (hr : S.remove n = (en, S')) (h : K (kI en) (pool b S' :: F)) : Tri Try.prog 17 #[ptr b, kI n] w0 (pool b S :: F) K := remove_any (by rw [hr]; exact h)
theorem cancel_at {b : Nat} {S' : PS} (S : PS) (x : Int) (c : Bool) (ok : S.Ok) (hr : S.cancel x = (c, S')) (h : K (.bool c) (pool b S' :: F)) : Tri Try.prog 18 #[ptr b, kI x] w0 (pool b S :: F) K := by
  unfold PS.cancel at hr
  injection hr with h1 h2
  subst h1 h2
  exact cancel_spec ok h
theorem okOf {S : PS} (h : S.okb = true) : S.Ok := PS.okb_ok h
theorem anchor_spec (h : K (.bool true) F) : Tri Try.prog 13 #[] w0 F K := by
  refine Tri.enterF Try.func13 Try.ntmps13 Try.results13 rfl rfl fun fr hfr => ?_
  repeat' (first | refine walk ?_ | exact trivial | refine Tw.mk ?_ ?_ | refine pnew_spec (fun b => ?_) | fail)
  repeat' (first | refine walk ?_ | exact trivial | refine Tw.mk ?_ ?_ | intro b1 | refine Tri.sel1 (acquire_at (S' := ⟨2, 1, 1, [(1, ⟨0, 7, true⟩)], []⟩) ⟨2, 1, 0, [], []⟩ 7 0 2 1 0 0 (okOf (by decide)) (by decide) ?_) | refine Tri.sel1 (acquire_at (S' := ⟨2, 1, 2, [(1, ⟨0, 7, true⟩), (2, ⟨1, 8, true⟩)], []⟩) ⟨2, 1, 1, [(1, ⟨0, 7, true⟩)], []⟩ 8 1 2 2 0 0 (okOf (by decide)) (by decide) ?_) | refine Tri.sel1 (acquire_at (S' := ⟨2, 1, 2, [(1, ⟨0, 7, true⟩), (2, ⟨1, 8, true⟩)], [(9, 0)]⟩) ⟨2, 1, 2, [(1, ⟨0, 7, true⟩), (2, ⟨1, 8, true⟩)], []⟩ 9 0 3 0 0 0 (okOf (by decide)) (by decide) ?_) | refine Tri.sel1 (acquire_at (S' := ⟨2, 1, 2, [(1, ⟨0, 7, true⟩), (2, ⟨1, 8, true⟩)], [(9, 0)]⟩) ⟨2, 1, 2, [(1, ⟨0, 7, true⟩), (2, ⟨1, 8, true⟩)], [(9, 0)]⟩ 10 0 4 0 0 0 (okOf (by decide)) (by decide) ?_) | refine Tri.sel1 (release_at (S' := ⟨2, 1, 2, [(1, ⟨0, 7, true⟩), (2, ⟨1, 0, false⟩)], [(9, 0)]⟩) ⟨2, 1, 2, [(1, ⟨0, 7, true⟩), (2, ⟨1, 8, true⟩)], [(9, 0)]⟩ 2 0 (by decide) ?_) | refine Tri.sel1 (serve_at (S' := ⟨2, 1, 3, [(1, ⟨0, 7, true⟩), (3, ⟨0, 9, true⟩)], []⟩) ⟨2, 1, 2, [(1, ⟨0, 7, true⟩), (2, ⟨1, 0, false⟩)], [(9, 0)]⟩ 9 2 3 2 true (okOf (by decide)) (by decide) ?_) | fail)
  exact Out.s0 h
end Go.Proofs.Ytpfnhkdhcjclpaa
