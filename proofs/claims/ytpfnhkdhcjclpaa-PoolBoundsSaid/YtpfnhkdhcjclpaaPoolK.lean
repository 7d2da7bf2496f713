/- The pool's laws: PoolBounds. Conditions: none. -/
import Derived.Test.YtpfnhkdhcjclpaaPoolJ
import Derived.Test.YtpfnhkdhcjclpaaPoolO
namespace Go.Proofs.Ytpfnhkdhcjclpaa
open Go Go.Sx Go.WheelM Go.PoolM
variable {w0 : World} {F H : List HProp} {K : Value → List HProp → Prop}
theorem holder_at {b : Nat} (S : PS) (n y : Int) (u : Bool) (hr : S.holder n = (y, u)) (h : K (.tuple #[kI y, .bool u]) (pool b S :: F)) : Tri Try.prog 22 #[ptr b, kI n] w0 (pool b S :: F) K := holder_spec (by rw [hr]; exact h)
set_option maxHeartbeats 4000000 in
theorem pool_bounds {c p : Int} {v : Value} {ys : List (List Value)} (hc : -9223372036854775808 ≤ c ∧ c ≤ 9223372036854775807) (hp : -9223372036854775808 ≤ p ∧ p ≤ 9223372036854775807) (hb : BaseRow w0 v 3 ys) (hk : ∀ l ∈ ys, FKs [.int .i64, .int .i64, .int .i64] l) (hr : ys.length * 24 ≤ 140737488351232) : Tri Try.prog 5 #[kI c, kI p, v] w0 F fun v _ => v = .bool true := by
  obtain ⟨va, vn, vc, rfl, rfl, hrd⟩ := hb.rd
  have hops := ops_of hk
  refine Tri.enterF Try.func5 Try.ntmps5 Try.results5 rfl rfl fun fr hfr => ?_
  repeat' (first | refine walk ?_ | exact trivial | refine Tw.mk ?_ ?_ | refine anchor_spec ?_ | refine right_spec (fun _ _ _ _ => ?_) ?_ | intro hc | exact Out.i rfl | refine pnew_spec (fun b => ?_) | fail)
  refine XS.loopI (ι := Nat × PS × Int) (fun q => [(0, kI c), (1, kI p), (7, ptr b), (8, kI q.2.2), (36, .slice va ys.length vc), (37, kI ys.length), (38, kI q.1)]) (fun q => pool b q.2.1 :: F)
    (fun q => q.1 ≤ ys.length ∧ q.2.1.Ok ∧ q.2.1.opened ≤ q.1 ∧ q.2.1.most = c ∧ q.2.1.pend = p ∧ 0 ≤ q.2.2 ∧ q.2.2 ≤ q.2.1.opened) (fun q => ys.length - q.1) (0, ⟨c, p, 0, [], []⟩, 0) ⟨Nat.zero_le _, ⟨by simp, by simp, by simp, by simp; omega, by simp; omega, by simp; omega, by simp; omega⟩, by simp, rfl, rfl, by simp, by simp⟩ ⟨rfl, rfl, rfl, rfl, rfl, rfl, rfl, trivial⟩ (Ent.refl _) ?_
  rintro ⟨k, S, dl⟩ e ⟨hkl, ok, ho, hm, hpd, hd1, hd2⟩ ih
  simp only at hkl ok ho hm hpd hd1 hd2
  dsimp only
  have ho2 : S.opened < 4611686018427387904 := by omega
  by_cases hlt : k < ys.length
  · obtain ⟨l, hl⟩ : ∃ l, ys[k]? = some l := ⟨_, List.getElem?_eq_getElem hlt⟩
    obtain ⟨kd, x, y, rfl, _, _, _⟩ := hops k l hl
    obtain ⟨vb, vo, rfl, hn3, _⟩ := hrd k _ hl
    have hb' : S.busy ≤ S.conns.length := List.countP_le_length ..
    have hcl := ok.cl
    have hql := ok.ql
    have hst := acquire_step (x := x) (h := y) ok ho2
    have hsv := serve_step ok ho2
    by_cases h1 : kd = 1
    · subst h1
      rcases acquire_case (x := x) (h := y) ok with e1 | ⟨g, gc, gd, S', e1, got, hq0⟩ | ⟨e1, hf, hpf⟩ | ⟨S', e1, hf, hpf, hkn, hop⟩
      · repeat' (first | refine walk ?_ | exact trivial | refine Tw.mk ?_ ?_ | refine Tri.sel1 (len_spec (S := S) (by omega) ?_) | refine Tri.sel1 (acquire_at S x y 0 0 0 190 ok e1 ?_) | intro hc | fail)
        exact ih (k + 1, S, dl) _ _ ⟨hlt, ok, by simp only; omega, hm, hpd, hd1, hd2⟩ (by simp only; omega) ⟨rfl, rfl, rfl, rfl, rfl, rfl, rfl, trivial⟩ entA
      · replace hst : Step S S' := by rw [e1] at hst; exact hst
        have hle := got.le
        have hroom := got.room
        rcases got.two with rfl | ⟨rfl, rfl⟩
        · repeat' (first | refine walk ?_ | exact trivial | refine Tw.mk ?_ ?_ | refine Tri.sel1 (len_spec (S := S) (by omega) ?_) | refine Tri.sel1 (acquire_at (S' := S') S x y 1 gc gd 0 ok e1 ?_) | refine Tri.sel1 (holder_at S' gc x true got.at_ ?_) | refine Tri.sel1 (acquire_at (S' := S') S' x y 0 0 0 190 hst.ok (acq_known got.knows) ?_) | intro hc | fail)
          exact ih (k + 1, S', dl) _ _ ⟨hlt, hst.ok, by have := hst.op; simp only; omega, hst.most.trans hm, hst.pend.trans hpd, hd1, by have := hst.op; simp only; omega⟩ (by simp only; omega) ⟨rfl, rfl, rfl, rfl, rfl, rfl, rfl, trivial⟩ entA
        · repeat' (first | refine walk ?_ | exact trivial | refine Tw.mk ?_ ?_ | refine Tri.sel1 (len_spec (S := S) (by omega) ?_) | refine Tri.sel1 (acquire_at (S' := S') S x y 2 (S.opened + 1) gd 0 ok e1 ?_) | refine Tri.sel1 (holder_at S' (S.opened + 1) x true got.at_ ?_) | refine Tri.sel1 (acquire_at (S' := S') S' x y 0 0 0 190 hst.ok (acq_known got.knows) ?_) | intro hc | fail)
          exact ih (k + 1, S', S.opened + 1) _ _ ⟨hlt, hst.ok, by have := hst.op; simp only; omega, hst.most.trans hm, hst.pend.trans hpd, by have := ok.op; simp only; omega, by simp only; omega⟩ (by simp only; omega) ⟨rfl, rfl, rfl, rfl, rfl, rfl, rfl, trivial⟩ entA
      · repeat' (first | refine walk ?_ | exact trivial | refine Tw.mk ?_ ?_ | refine Tri.sel1 (len_spec (S := S) (by omega) ?_) | refine Tri.sel1 (acquire_at S x y 4 0 0 0 ok e1 ?_) | refine Tri.sel1 (holder_spec ?_) | intro hc | fail)
        all_goals exact ih (k + 1, S, dl) _ _ ⟨hlt, ok, by simp only; omega, hm, hpd, hd1, hd2⟩ (by simp only; omega) ⟨rfl, rfl, rfl, rfl, rfl, rfl, rfl, trivial⟩ entA
      · replace hst : Step S S' := by rw [e1] at hst; exact hst
        repeat' (first | refine walk ?_ | exact trivial | refine Tw.mk ?_ ?_ | refine Tri.sel1 (len_spec (S := S) (by omega) ?_) | refine Tri.sel1 (acquire_at (S' := S') S x y 3 0 0 0 ok e1 ?_) | refine Tri.sel1 (acquire_at (S' := S') S' x y 0 0 0 190 hst.ok (acq_known hkn) ?_) | refine Tri.sel1 (holder_spec ?_) | intro hc | fail)
        all_goals exact ih (k + 1, S', dl) _ _ ⟨hlt, hst.ok, by simp only; omega, hst.most.trans hm, hst.pend.trans hpd, hd1, by simp only; omega⟩ (by simp only; omega) ⟨rfl, rfl, rfl, rfl, rfl, rfl, rfl, trivial⟩ entA
    · by_cases h2 : kd = 2
      · subst h2
        rcases serve_case ok with ⟨e1, hf⟩ | ⟨z, g, gc, gd, S', e1, got, hq0⟩
        · repeat' (first | refine walk ?_ | exact trivial | refine Tw.mk ?_ ?_ | refine Tri.sel1 (len_spec (S := S) (by omega) ?_) | (refine XO.maxI rfl rfl rfl rfl rfl (fun hc => ?_) (fun hc => ?_) <;> (try (exfalso; omega))) | refine Tri.sel1 (serve_at S 0 0 0 0 false ok e1 ?_) | refine Tri.sel1 (holder_spec ?_) | intro hc | fail)
          all_goals exact ih (k + 1, S, dl) _ _ ⟨hlt, ok, by simp only; omega, hm, hpd, hd1, hd2⟩ (by simp only; omega) ⟨rfl, rfl, rfl, rfl, rfl, rfl, rfl, trivial⟩ entA
        · replace hsv : Step S S' := by rw [e1] at hsv; exact hsv
          have hle := got.le
          have hroom := got.room
          repeat' (first | refine walk ?_ | exact trivial | refine Tw.mk ?_ ?_ | refine Tri.sel1 (len_spec (S := S) (by omega) ?_) | (refine XO.maxI rfl rfl rfl rfl rfl (fun hc => ?_) (fun hc => ?_) <;> (try (exfalso; omega))) | refine Tri.sel1 (serve_at (S' := S') S z g gc gd true ok e1 ?_) | refine Tri.sel1 (holder_at S' gc z true got.at_ ?_) | intro hc | fail)
          all_goals first | exact ih (k + 1, S', gc) _ _ ⟨hlt, hsv.ok, by have := hsv.op; simp only; omega, hsv.most.trans hm, hsv.pend.trans hpd, by simp only; omega, by have := hsv.op; simp only; omega⟩ (by simp only; omega) ⟨rfl, rfl, rfl, rfl, rfl, rfl, rfl, trivial⟩ entA | exact ih (k + 1, S', dl) _ _ ⟨hlt, hsv.ok, by have := hsv.op; simp only; omega, hsv.most.trans hm, hsv.pend.trans hpd, by simp only; omega, by have := hsv.op; simp only; omega⟩ (by simp only; omega) ⟨rfl, rfl, rfl, rfl, rfl, rfl, rfl, trivial⟩ entA
      · repeat' (first | refine walk ?_ | exact trivial | refine Tw.mk ?_ ?_ | refine Tri.sel1 (len_spec (S := S) (by omega) ?_) | refine Tri.sel1 (release_any (S := S) ?_) | refine Tri.sel1 (remove_any (S := S) ?_) | refine Tri.sel1 (cancel_spec ok ?_) | intro hc | fail)
        · have hst := release_step ok (n := x)
          exact ih (k + 1, (S.release x).2, dl) _ _ ⟨hlt, hst.ok, by have := hst.op; simp only; omega, hst.most.trans hm, hst.pend.trans hpd, hd1, by have := hst.op; simp only; omega⟩ (by simp only; omega) ⟨rfl, rfl, rfl, rfl, rfl, rfl, rfl, trivial⟩ entA
        · have hst := remove_step ok (n := x)
          exact ih (k + 1, (S.remove x).2, dl) _ _ ⟨hlt, hst.ok, by have := hst.op; simp only; omega, hst.most.trans hm, hst.pend.trans hpd, hd1, by have := hst.op; simp only; omega⟩ (by simp only; omega) ⟨rfl, rfl, rfl, rfl, rfl, rfl, rfl, trivial⟩ entA
        · have hst := cancel_step (x := x) ok
          exact ih (k + 1, (S.cancel x).2, dl) _ _ ⟨hlt, hst.ok, by have := hst.op; simp only; omega, hst.most.trans hm, hst.pend.trans hpd, hd1, by have := hst.op; simp only; omega⟩ (by simp only; omega) ⟨rfl, rfl, rfl, rfl, rfl, rfl, rfl, trivial⟩ entA
        · exact ih (k + 1, S, dl) _ _ ⟨hlt, ok, by simp only; omega, hm, hpd, hd1, hd2⟩ (by simp only; omega) ⟨rfl, rfl, rfl, rfl, rfl, rfl, rfl, trivial⟩ entA
  · obtain rfl : k = ys.length := by omega
    repeat' (first | refine walk ?_ | exact trivial | refine Tw.mk ?_ ?_ | intro hc | exact Out.i rfl | fail)
end Go.Proofs.Ytpfnhkdhcjclpaa
