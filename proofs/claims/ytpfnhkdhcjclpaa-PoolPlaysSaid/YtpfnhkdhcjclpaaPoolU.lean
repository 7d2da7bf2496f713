/- The pool's laws: a step on both pools, PoolPlays. Conditions: none. -/
import Derived.Test.YtpfnhkdhcjclpaaPoolT
namespace Go.Proofs.Ytpfnhkdhcjclpaa
open Go Go.Sx Go.WheelM Go.PoolM
variable {w0 : World} {F H : List HProp} {K : Value → List HProp → Prop}
theorem XO.rpopen {n : Nat} {HL : Held} {ops : Array Oper} {J : Env → List HProp → Prop} {ix : Nat} {l : List Oper} {e : Env} {r : Nat} {S : PS} (h : ∀ a c a2 c2, XO Try.prog TT w0 n HL ops J ix l e (rhead r S.most S.pend S.opened a S.conns.length c a2 S.queue.length c2 :: crow a c S.conns :: qrow a2 c2 S.queue :: F)) :
    XO Try.prog TT w0 n HL ops J ix l e (rpool r S :: F) := XO.hex (fun q => XO.ent Ent.unpack3 (h q.1.1 q.1.2 q.2.1 q.2.2))
theorem like_spec {g : Int × Int × Int} (h : K (.bool true) F) : Tri Try.prog 55 #[genc g, genc g] w0 F K := by
  obtain ⟨a, c, d⟩ := g
  refine Tri.enterF Try.func55 Try.ntmps55 Try.results55 rfl rfl fun fr hfr => ?_
  repeat' (first | refine walk ?_ | exact trivial | refine Tw.mk ?_ ?_ | intro hc | fail)
  exact Out.s0 h
theorem holder_eq {b : Nat} {S : PS} {n y : Int} {u : Bool} (hr : S.holder n = (y, u)) (h : K (.tuple #[kI y, .bool u]) (pool b S :: F)) : Tri Try.prog 22 #[ptr b, kI n] w0 (pool b S :: F) K := holder_spec (by rw [hr]; exact h)
theorem serve_eq {b : Nat} {S S' : PS} {z : Int} {g : Int × Int × Int} {t : Bool} (ok : S.Ok) (hr : S.serve = ((z, g, t), S')) (h : K (.tuple #[kI z, genc g, .bool t]) (pool b S' :: F)) : Tri Try.prog 19 #[ptr b] w0 (pool b S :: F) K := serve_spec ok (by rw [hr]; exact h)
theorem rserve_eq {r : Nat} {S S' : PS} {z : Int} {g : Int × Int × Int} {t : Bool} (ok : S.Ok) (ho : S.opened < 4611686018427387904) (hr : S.serve = ((z, g, t), S')) (h : K (.tuple #[kI z, genc g, .bool t]) (rpool r S' :: F)) : Tri Try.prog 56 #[ptr r] w0 (rpool r S :: F) K := rserve_spec ok ho (by rw [hr]; exact h)
theorem cancel_eq {b : Nat} {S S' : PS} {x : Int} {t : Bool} (ok : S.Ok) (hr : S.cancel x = (t, S')) (h : K (.bool t) (pool b S' :: F)) : Tri Try.prog 18 #[ptr b, kI x] w0 (pool b S :: F) K := cancel_at S x t ok hr h
theorem rcancel_eq {r : Nat} {S S' : PS} {x : Int} {t : Bool} (ok : S.Ok) (hr : S.cancel x = (t, S')) (h : K (.bool t) (rpool r S' :: F)) : Tri Try.prog 59 #[ptr r, kI x] w0 (rpool r S :: F) K := rcancel_spec ok (by rw [hr]; exact h)
theorem rholder_eq {r : Nat} {S : PS} {n x : Int} {u : Bool} (hl : S.conns.length ≤ 1048576) (hcl : Clean S) (hr : S.holder n = (x, u)) (h : K (.tuple #[kI x, .bool u]) (rpool r S :: F)) : Tri Try.prog 60 #[ptr r, kI n] w0 (rpool r S :: F) K := rholder_spec hl (fun x' u' he => by
  rw [clean_holder hcl, hr] at he
  injection he with h1 h2; subst h1 h2; exact h)
set_option maxHeartbeats 4000000 in
theorem step_spec {b r : Nat} {S : PS} {kd x y : Int} (ok : S.Ok) (ho : S.opened < 4611686018427387904) (hcl : Clean S) (h : ∀ S', Step S S' → Clean S' → K (.bool true) (pool b S' :: rpool r S' :: F)) :
    Tri Try.prog 29 #[ptr b, ptr r, .agg ⟨[kI kd, kI x, kI y]⟩] w0 (pool b S :: rpool r S :: F) K := by
  have hl : S.conns.length ≤ 1048576 := by have := ok.cl; have := ok.most; omega
  have hl2 : S.queue.length ≤ 1048576 := by have := ok.ql; have := ok.pend; omega
  have hb' : S.busy ≤ S.conns.length := List.countP_le_length ..
  refine Tri.enterF Try.func29 Try.ntmps29 Try.results29 rfl rfl fun fr hfr => ?_
  by_cases h1 : kd = 1
  · subst h1
    repeat' (first | refine walk ?_ | exact trivial | refine Tw.mk ?_ ?_ | intro hc | refine Tri.sel1 (acquire_spec ok ?_) | refine Tri.sel1 (racquire_spec ok ho ?_) | refine like_spec ?_ | fail)
    all_goals exact Out.s2 (h _ (acquire_step ok ho) (clean_acquire hcl))
  by_cases h2 : kd = 2
  · subst h2
    have hst := serve_step ok ho
    have hcl' := clean_serve hcl
    obtain ⟨⟨⟨z, g, t⟩, S'⟩, e1⟩ : ∃ q, S.serve = q := ⟨_, rfl⟩
    rw [e1] at hst hcl'
    cases t
    · repeat' (first | refine walk ?_ | exact trivial | refine Tw.mk ?_ ?_ | intro hc | refine Tri.sel1 (serve_eq ok e1 ?_) | refine Tri.sel1 (rserve_eq ok ho e1 ?_) | refine like_spec ?_ | fail)
      exact Out.s2 (h _ hst hcl')
    · repeat' (first | refine walk ?_ | exact trivial | refine Tw.mk ?_ ?_ | intro hc | refine Tri.sel1 (serve_eq ok e1 ?_) | refine Tri.sel1 (rserve_eq ok ho e1 ?_) | refine like_spec ?_ | fail)
      exact Out.s2 (h _ hst hcl')
  by_cases h3 : kd = 3
  · subst h3
    repeat' (first | refine walk ?_ | exact trivial | refine Tw.mk ?_ ?_ | intro hc | refine Tri.sel1 (release_any ?_) | refine Tri.sel1 (rrelease_spec ok ?_) | fail)
    all_goals exact Out.s2 (h _ (release_step ok) (clean_release hcl))
  by_cases h4 : kd = 4
  · subst h4
    repeat' (first | refine walk ?_ | exact trivial | refine Tw.mk ?_ ?_ | intro hc | refine Tri.sel1 (remove_any ?_) | refine Tri.sel1 (rremove_spec ok ?_) | fail)
    all_goals exact Out.s2 (h _ (remove_step ok) (clean_remove hcl))
  by_cases h5 : kd = 5
  · subst h5
    have hst := cancel_step (x := x) ok
    have hcl' := clean_cancel (x := x) hcl
    obtain ⟨⟨t, S'⟩, e1⟩ : ∃ q, S.cancel x = q := ⟨_, rfl⟩
    rw [e1] at hst hcl'
    cases t
    · repeat' (first | refine walk ?_ | exact trivial | refine Tw.mk ?_ ?_ | intro hc | refine Tri.sel1 (cancel_eq ok e1 ?_) | refine Tri.sel1 (rcancel_eq ok e1 ?_) | fail)
      exact Out.s2 (h _ hst hcl')
    · repeat' (first | refine walk ?_ | exact trivial | refine Tw.mk ?_ ?_ | intro hc | refine Tri.sel1 (cancel_eq ok e1 ?_) | refine Tri.sel1 (rcancel_eq ok e1 ?_) | fail)
      exact Out.s2 (h _ hst hcl')
  by_cases h6 : kd = 6
  · subst h6
    obtain ⟨z, u, heu⟩ : ∃ e u, S.holder x = (e, u) := ⟨_, _, rfl⟩
    cases u
    · repeat' (first | refine walk ?_ | exact trivial | refine Tw.mk ?_ ?_ | intro hc | refine Tri.sel1 (holder_eq heu ?_) | refine Tri.sel1 (rholder_eq hl hcl heu ?_) | fail)
      exact Out.s2 (h _ (Step.refl ok) hcl)
    · repeat' (first | refine walk ?_ | exact trivial | refine Tw.mk ?_ ?_ | intro hc | refine Tri.sel1 (holder_eq heu ?_) | refine Tri.sel1 (rholder_eq hl hcl heu ?_) | fail)
      exact Out.s2 (h _ (Step.refl ok) hcl)
  by_cases h7 : kd = 7
  · subst h7
    by_cases hy : y > 1000
    · repeat' (first | refine walk ?_ | exact trivial | refine Tw.mk ?_ ?_ | intro hc | fail)
      all_goals exact Out.s2 (h _ (Step.refl ok) hcl)
    · refine walk ?_
      refine ⟨fun bo _ _ _ _ _ _ _ hy' => ?_, trivial⟩
      refine XS.drawH (T := TT) [(2, [7], heldC ⟨bo, 2, none⟩ (kI y)), (6, [3], heldC ⟨bo, 2, none⟩ (kI y))] [(2, [7]), (6, [3])] rfl follows_ok (by decide +kernel) ?_
      repeat' (first | refine walk ?_ | exact trivial | refine Tw.mk ?_ ?_ | intro hc | refine XO.callH (by repeat' (first | exact trivial | exact readA | exact heldM_0 | exact heldM_1 | exact heldM_2 | exact heldM_3 | exact heldM_4 | refine And.intro ?_ ?_ | exact Reads.here rfl | refine Reads.skip ?_)) rfl rfl rfl (by kernel_rfl) rfl ?_ | refine And.intro (by repeat' (first | exact trivial | exact readA | exact heldM_0 | exact heldM_1 | exact heldM_2 | exact heldM_3 | exact heldM_4 | refine And.intro ?_ ?_ | exact Reads.here rfl | refine Reads.skip ?_)) ?_ | refine XO.loadH TT_ok rfl rfl rfl rfl rfl rfl (by repeat' (first | exact trivial | exact readA | exact heldM_0 | exact heldM_1 | exact heldM_2 | exact heldM_3 | exact heldM_4 | refine And.intro ?_ ?_ | exact Reads.here rfl | refine Reads.skip ?_)) ?_ | refine Tri.sel1 (loads_spec ok hy' (fun g => ?_)) | refine Tri.sel1 (rloads_spec hl hl2 hy' (fun a' c' => ?_)) | fail)
      refine XS.loopI (ι := Nat) (fun i => [(0, ptr b), (1, ptr r), (25, .slice a' y.toNat c'), (166, .slice (some ⟨g, 0, none⟩) y.toNat y.toNat), (167, kI y.toNat), (168, kI i)]) (fun _ => Row a' c' 3 1 y.toNat (flat ienc (tally S.hosts y.toNat)) :: rpool r S :: RowAt g y.toNat 3 1 y.toNat (flat ienc (tally S.hosts y.toNat)) :: pool b S :: F)
        (fun i => i ≤ y.toNat) (fun i => y.toNat - i) 0 (Nat.zero_le _) ⟨rfl, rfl, rfl, rfl, rfl, rfl, trivial⟩ entA ?_
      intro i e hi ih
      by_cases hlt : i < y.toNat
      · obtain ⟨z, hz⟩ : ∃ z, (tally S.hosts y.toNat)[i]? = some z := ⟨_, List.getElem?_eq_getElem (by rw [tally_len]; omega)⟩
        refine XS.sel1 (c := Row a' c' 3 1 y.toNat _) (XS.rowOpen (by omega) fun g2 hg2 => ?_)
        subst hg2
        repeat' (first | refine walk ?_ | exact trivial | refine Tw.mk ?_ ?_ | intro hc | fail)
        exact ih (i + 1) _ _ hlt (by omega) ⟨rfl, rfl, rfl, rfl, rfl, rfl, trivial⟩ entA
      · obtain rfl : i = y.toNat := by omega
        clear ih
        repeat' (first | refine walk ?_ | exact trivial | refine Tw.mk ?_ ?_ | intro hc | refine Tri.sel1 (len_spec (by omega) ?_) | refine Tri.sel1 (rbusy_spec hl ?_) | refine XO.sel1 (c := rpool r S) (XO.rpopen fun a c a2 c2 => ?_) | fail)
        refine Out.under (c := pool b S) ?_
        exact rpool_out (F := F) (h S (Step.refl ok) hcl)
  · repeat' (first | refine walk ?_ | exact trivial | refine Tw.mk ?_ ?_ | intro hc | fail)
    all_goals exact Out.s2 (h _ (Step.refl ok) hcl)
set_option maxHeartbeats 4000000 in
theorem pool_plays {c p : Int} {v : Value} {ys : List (List Value)} (hc : -9223372036854775808 ≤ c ∧ c ≤ 9223372036854775807) (hp : -9223372036854775808 ≤ p ∧ p ≤ 9223372036854775807) (hb : BaseRow w0 v 3 ys) (hk : ∀ l ∈ ys, FKs [.int .i64, .int .i64, .int .i64] l) (hr : ys.length * 24 ≤ 140737488351232) : Tri Try.prog 12 #[kI c, kI p, v] w0 F fun v _ => v = .bool true := by
  obtain ⟨va, vn, vc, rfl, rfl, hrd⟩ := hb.rd
  have hops := ops_of hk
  refine Tri.enterF Try.func12 Try.ntmps12 Try.results12 rfl rfl fun fr hfr => ?_
  repeat' (first | refine walk ?_ | exact trivial | refine Tw.mk ?_ ?_ | refine anchor_spec ?_ | refine right_spec (fun _ _ _ _ => ?_) ?_ | intro hc | exact Out.i rfl | refine pnew_spec (fun b => ?_) | fail)
  obtain ⟨r, rfl⟩ : ∃ r, r = hc := ⟨_, rfl⟩
  refine XS.loopI (ι := Nat × PS) (fun q => [(7, ptr b), (8, ptr r), (26, .slice va ys.length vc), (27, kI ys.length), (28, kI q.1)]) (fun q => pool b q.2 :: rpool r q.2 :: F)
    (fun q => q.1 ≤ ys.length ∧ q.2.Ok ∧ q.2.opened ≤ q.1 ∧ Clean q.2) (fun q => ys.length - q.1) (0, ⟨c, p, 0, [], []⟩) ⟨Nat.zero_le _, ⟨by simp, by simp, by simp, by simp; omega, by simp; omega, by simp; omega, by simp; omega⟩, by simp, by simp [Clean]⟩ ⟨rfl, rfl, rfl, rfl, rfl, trivial⟩
    (Ent.trans (Row.nil 136 4 _) (Ent.trans (Row.nil 134 2 _) (Ent.trans Ent.front2 (Ent.trans (Ent.cons _ Ent.front1) (Ent.trans (rpool_mk (S := ⟨c, p, 0, [], []⟩)) Ent.front1))))) ?_
  rintro ⟨k, S⟩ e ⟨hkl, ok, ho, hcl⟩ ih
  simp only at hkl ok ho hcl
  have ho2 : S.opened < 4611686018427387904 := by omega
  by_cases hlt : k < ys.length
  · obtain ⟨l, hl⟩ : ∃ l, ys[k]? = some l := ⟨_, List.getElem?_eq_getElem hlt⟩
    obtain ⟨kd, x, y, rfl, _, _, _⟩ := hops k l hl
    obtain ⟨vb, vo, rfl, hn3, _⟩ := hrd k _ hl
    repeat' (first | refine walk ?_ | exact trivial | refine Tw.mk ?_ ?_ | intro hc | refine Tri.sel2 (step_spec ok ho2 hcl (fun S' hst hcl' => ?_)) | fail)
    exact ih (k + 1, S') _ _ ⟨hlt, hst.ok, by have := hst.op; simp only; omega, hcl'⟩ (by simp only; omega) ⟨rfl, rfl, rfl, rfl, rfl, trivial⟩ entA
  · obtain rfl : k = ys.length := by omega
    repeat' (first | refine walk ?_ | exact trivial | refine Tw.mk ?_ ?_ | intro hc | refine Tri.sel2 (step_spec ok ho2 hcl (fun S' hst hcl' => ?_)) | exact Out.i rfl | fail)
end Go.Proofs.Ytpfnhkdhcjclpaa
