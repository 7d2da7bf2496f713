/- The pool's laws: PoolOrder. Conditions: none. -/
import Derived.Test.YtpfnhkdhcjclpaaPoolG
import Derived.Test.YtpfnhkdhcjclpaaSxL
namespace Go.Proofs.Ytpfnhkdhcjclpaa
open Go Go.Sx Go.WheelM Go.PoolM
variable {w0 : World} {F H : List HProp} {K : Value → List HProp → Prop}
def benc (x : Bool) : List Value := [.bool x]
theorem benc_len : ∀ x, (benc x).length = 1 := fun _ => rfl
set_option maxHeartbeats 2000000 in
theorem order_spec {c : Int} {v : Value} {ys : List Int} (hc : -9223372036854775808 ≤ c ∧ c ≤ 9223372036854775807) (hb : BaseRow w0 v 1 (ys.map fun z => [.int .i64 z])) (hr : ys.length * 8 ≤ 140737488351232) : Tri Try.prog 4 #[kI c, v] w0 F fun v _ => v = .bool true := by
  obtain ⟨va, vn, vc, rfl, rfl, hrd⟩ := hb.rd1
  refine Tri.enterF Try.func4 Try.ntmps4 Try.results4 rfl rfl fun fr hfr => ?_
  repeat' (first | refine walk ?_ | exact trivial | refine Tw.mk ?_ ?_ | refine anchor_spec ?_ | intro hc | exact Out.i rfl | refine pnew_spec (fun b => ?_) | refine Tri.sel1 (acquire_at (S' := od 1 0 (-1) true []) ⟨1, 256, 0, [], []⟩ (-1) 0 2 1 0 0 (okOf rfl) rfl ?_))
  obtain ⟨n, rfl⟩ := Int.eq_ofNat_of_zero_le (show 0 ≤ c by assumption)
  have hn : n ≤ 200 := by omega
  repeat' (first | refine walk ?_ | exact trivial | refine Tw.mk ?_ ?_ | refine XO.makeSlice (k := n) TT_ok trivial rfl rfl rfl rfl rfl rfl rfl rfl rfl rfl rfl hn rfl rfl (fun _ => trivial) (fun g => ?_))
  refine XS.sel1 (c := cel _ 4 (zrow n (benc false))) (XS.ent (RowAt.of_cel (n := n) (es := 1) (by rw [zrow_length]; rfl) (by simp only [maxLen]; omega)) ?_)
  rw [← flat_zero]
  refine XS.loopI (ι := Nat) (fun k => [(0, kI n), (1, .slice va ys.length vc), (5, ptr b), (8, .slice (some ⟨g, 0, none⟩) n n), (9, kI k)]) (fun k => pool b (od 1 0 (-1) true (allq k)) :: RowAt g n 4 1 n (flat benc (List.replicate n false)) :: F) (fun k => k ≤ n) (fun k => n - k) 0 (Nat.zero_le _) ⟨rfl, rfl, rfl, rfl, rfl, trivial⟩ entA ?_
  intro k e hk ih
  by_cases hlt : k < n
  · repeat' (first | refine walk ?_ | exact trivial | refine Tw.mk ?_ ?_ | refine Tri.sel1 (acquire_at (S' := od 1 0 (-1) true (allq (k + 1))) (od 1 0 (-1) true (allq k)) k ((k : Int) % 3) 3 0 0 0 (od_ok (by omega) (by omega) (by simp [allq]; omega)) (acq_wait (by omega)) ?_) | intro hc)
    exact ih (k + 1) _ _ hlt (by omega) ⟨rfl, rfl, rfl, rfl, rfl, trivial⟩ entA
  · obtain rfl : k = n := by omega
    clear ih
    rw [← wq_start]
    refine walk ?_
    refine ⟨fun _ => ?_, trivial⟩
    refine XS.loopI (ι := Nat × List Bool) (fun p => [(0, kI k), (5, ptr b), (8, .slice (some ⟨g, 0, none⟩) k k), (67, .slice va ys.length vc), (68, kI ys.length), (69, kI p.1)]) (fun p => pool b (od 1 0 (-1) true (wq p.2 0)) :: RowAt g k 4 1 k (flat benc p.2) :: F)
      (fun p => p.1 ≤ ys.length ∧ p.2.length = k) (fun p => ys.length - p.1) (0, List.replicate k false) ⟨Nat.zero_le _, by simp⟩ ⟨rfl, rfl, rfl, rfl, rfl, rfl, trivial⟩ (Ent.refl _) ?_
    rintro ⟨j, out⟩ e2 ⟨hj, hol⟩ ih
    simp only at hj hol
    by_cases hlt : j < ys.length
    · obtain ⟨z, hz⟩ : ∃ z, ys[j]? = some z := ⟨_, List.getElem?_eq_getElem hlt⟩
      obtain ⟨vb, vo, rfl, hrz⟩ := hrd j z hz
      by_cases hin : 0 ≤ z ∧ z < k
      · obtain ⟨i, rfl⟩ := Int.eq_ofNat_of_zero_le hin.1
        have hi : i < out.length := by omega
        obtain ⟨o, ho⟩ : ∃ o, out[i]? = some o := ⟨_, List.getElem?_eq_getElem hi⟩
        have hokq : (od 1 0 (-1) true (wq out 0)).Ok := od_ok (by omega) (by omega) (by have := wq_len out 0; omega)
        cases o
        · repeat' (first | refine walk ?_ | exact trivial | refine Tw.mk ?_ ?_ | intro hc | exact Out.i rfl | refine XS.drawH (T := TT) [(6, [2], heldC ⟨g, i * 1, none⟩ (.bool false))] [(6, [2])] rfl follows_ok (by decide +kernel) ?_ | refine XO.callH (by repeat' (first | exact trivial | exact readA | exact heldM_0 | exact heldM_1 | exact heldM_2 | exact heldM_3 | exact heldM_4 | refine And.intro ?_ ?_ | exact Reads.here rfl | refine Reads.skip ?_)) rfl rfl rfl (by kernel_rfl) rfl ?_ | refine And.intro (by repeat' (first | exact trivial | exact readA | exact heldM_0 | exact heldM_1 | exact heldM_2 | exact heldM_3 | exact heldM_4 | refine And.intro ?_ ?_ | exact Reads.here rfl | refine Reads.skip ?_)) ?_ | refine XO.loadH TT_ok rfl rfl rfl rfl rfl rfl (by repeat' (first | exact trivial | exact readA | exact heldM_0 | exact heldM_1 | exact heldM_2 | exact heldM_3 | exact heldM_4 | refine And.intro ?_ ?_ | exact Reads.here rfl | refine Reads.skip ?_)) ?_ | refine Tri.sel1 (cancel_at (od 1 0 (-1) true (wq out 0)) i true hokq (od_cancel ho) ?_) | refine XO.sel1 (XO.storeRowE (xs := out) true benc_len hi TT_ok trivial rfl rfl rfl rfl rfl rfl rfl rfl trivial ?_))
          exact ih (j + 1, out.set i true) _ _ ⟨hlt, by simp [hol]⟩ (by simp only; omega) ⟨rfl, rfl, rfl, rfl, rfl, rfl, trivial⟩ entA
        · repeat' (first | refine walk ?_ | exact trivial | refine Tw.mk ?_ ?_ | intro hc | exact Out.i rfl | refine XS.drawH (T := TT) [(6, [2], heldC ⟨g, i * 1, none⟩ (.bool true))] [(6, [2])] rfl follows_ok (by decide +kernel) ?_ | refine XO.callH (by repeat' (first | exact trivial | exact readA | exact heldM_0 | exact heldM_1 | exact heldM_2 | exact heldM_3 | exact heldM_4 | refine And.intro ?_ ?_ | exact Reads.here rfl | refine Reads.skip ?_)) rfl rfl rfl (by kernel_rfl) rfl ?_ | refine And.intro (by repeat' (first | exact trivial | exact readA | exact heldM_0 | exact heldM_1 | exact heldM_2 | exact heldM_3 | exact heldM_4 | refine And.intro ?_ ?_ | exact Reads.here rfl | refine Reads.skip ?_)) ?_ | refine XO.loadH TT_ok rfl rfl rfl rfl rfl rfl (by repeat' (first | exact trivial | exact readA | exact heldM_0 | exact heldM_1 | exact heldM_2 | exact heldM_3 | exact heldM_4 | refine And.intro ?_ ?_ | exact Reads.here rfl | refine Reads.skip ?_)) ?_ | refine Tri.sel1 (cancel_at (od 1 0 (-1) true (wq out 0)) i false hokq (od_cancel ho) ?_) | refine XO.sel1 (XO.storeRowE (xs := out) true benc_len hi TT_ok trivial rfl rfl rfl rfl rfl rfl rfl rfl trivial ?_))
          exact ih (j + 1, out.set i true) _ _ ⟨hlt, by simp [hol]⟩ (by simp only; omega) ⟨rfl, rfl, rfl, rfl, rfl, rfl, trivial⟩ entA
      · repeat' (first | refine walk ?_ | exact trivial | refine Tw.mk ?_ ?_ | intro hc)
        all_goals exact ih (j + 1, out) _ _ ⟨hlt, hol⟩ (by simp only; omega) ⟨rfl, rfl, rfl, rfl, rfl, rfl, trivial⟩ entA
    · clear ih
      refine walk ?_
      refine ⟨fun _ => ?_, trivial⟩
      subst hol
      refine XS.loopI (ι := Nat × Int × Int × Int) (fun p => [(0, kI out.length), (5, ptr b), (8, .slice (some ⟨g, 0, none⟩) out.length out.length), (14, kI p.2.1), (15, kI p.1)]) (fun p => pool b (od p.2.1 p.2.2.1 p.2.2.2 true (wq out p.1)) :: RowAt g out.length 4 1 out.length (flat benc out) :: F)
        (fun p => p.1 ≤ out.length ∧ 1 ≤ p.2.1 ∧ p.2.1 ≤ p.1 + 1) (fun p => out.length - p.1) (0, 1, 0, -1) ⟨Nat.zero_le _, by simp, by simp⟩ ⟨rfl, rfl, rfl, rfl, rfl, trivial⟩ (Ent.refl _) ?_
      rintro ⟨i, m, h, x⟩ e3 ⟨hi, hm1, hm2⟩ ih
      simp only at hi hm1 hm2
      have hokq : ∀ {x : Int} {u : Bool}, (od m h x u (wq out i)).Ok := od_ok hm1 (by omega) (by have := wq_len out i; omega)
      by_cases hlt2 : i < out.length
      · obtain ⟨o, ho⟩ : ∃ o, out[i]? = some o := ⟨_, List.getElem?_eq_getElem hlt2⟩
        have hgd : out.getD i true = o := by simp [List.getD, ho]
        have hnx := wq_next hlt2
        rw [hgd] at hnx
        cases o
        · simp only [Bool.false_eq_true, if_false, List.singleton_append] at hnx
          have hq : ∀ {u : Bool} {y : Int}, od m h y u (wq out i) = od m h y u (wish i :: wq out (i + 1)) := by rw [hnx]; exact fun {_ _} => rfl
          by_cases hh : h = (i : Int) % 3
          · subst hh
            repeat' (first | refine walk ?_ | exact trivial | refine Tw.mk ?_ ?_ | intro hc | exact Out.i rfl | refine Tri.sel1 (release_at (S' := od m ((i : Int) % 3) 0 false (wq out i)) (od m ((i : Int) % 3) x true (wq out i)) m 0 (od_release _ _ _ _) ?_) | refine Tri.sel1 (serve_at (S' := od m ((i : Int) % 3) i true (wq out (i + 1))) (od m ((i : Int) % 3) 0 false (wq out i)) i 1 m 0 true hokq (by rw [hq]; exact od_same) ?_))
            exact ih (i + 1, m, (i : Int) % 3, i) _ _ ⟨hlt2, hm1, by simp only; omega⟩ (by simp only; omega) ⟨rfl, rfl, rfl, rfl, rfl, trivial⟩ entA
          · repeat' (first | refine walk ?_ | exact trivial | refine Tw.mk ?_ ?_ | intro hc | exact Out.i rfl | refine Tri.sel1 (release_at (S' := od m h 0 false (wq out i)) (od m h x true (wq out i)) m 0 (od_release _ _ _ _) ?_) | refine Tri.sel1 (serve_at (S' := od (m + 1) ((i : Int) % 3) i true (wq out (i + 1))) (od m h 0 false (wq out i)) i 2 (m + 1) m true hokq (by rw [hq]; exact od_other hh) ?_))
            exact ih (i + 1, m + 1, (i : Int) % 3, i) _ _ ⟨hlt2, by simp only; omega, by simp only; omega⟩ (by simp only; omega) ⟨rfl, rfl, rfl, rfl, rfl, trivial⟩ entA
        · simp only [if_true, List.nil_append] at hnx
          repeat' (first | refine walk ?_ | exact trivial | refine Tw.mk ?_ ?_ | intro hc)
          exact ih (i + 1, m, h, x) _ _ ⟨hlt2, hm1, by simp only; omega⟩ (by simp only; omega) ⟨rfl, rfl, rfl, rfl, rfl, trivial⟩ (by simp only [hnx]; exact entA)
      · obtain rfl : i = out.length := by omega
        repeat' (first | refine walk ?_ | exact trivial | refine Tw.mk ?_ ?_ | intro hc | refine Tri.sel1 (serve_at (S' := od m h x true []) (od m h x true (wq out out.length)) 0 0 0 0 false hokq (by rw [wq_end]; rfl) ?_) | exact Out.i rfl)
end Go.Proofs.Ytpfnhkdhcjclpaa
