/- The pool's laws: PoolLoads. Conditions: none. -/
import Derived.Test.YtpfnhkdhcjclpaaPoolG
import Derived.Test.YtpfnhkdhcjclpaaPoolN
import Derived.Test.YtpfnhkdhcjclpaaSxL
namespace Go.Proofs.Ytpfnhkdhcjclpaa
open Go Go.Sx Go.WheelM Go.PoolM
variable {w0 : World} {F H : List HProp} {K : Value → List HProp → Prop}
theorem ops_of {ys : List (List Value)} (hk : ∀ l ∈ ys, FKs [.int .i64, .int .i64, .int .i64] l) : ∀ (i : Nat) l, ys[i]? = some l → ∃ k a c : Int, l = [kI k, kI a, kI c] ∧ (-9223372036854775808 ≤ k ∧ k ≤ 9223372036854775807) ∧ (-9223372036854775808 ≤ a ∧ a ≤ 9223372036854775807) ∧ (-9223372036854775808 ≤ c ∧ c ≤ 9223372036854775807) := by
  intro i l hl
  obtain ⟨v, vs, rfl, h1, h2⟩ := (hk l (List.mem_of_getElem? hl)).cons
  obtain ⟨v2, vs2, rfl, h3, h4⟩ := h2.cons
  obtain ⟨v3, vs3, rfl, h5, h6⟩ := h4.cons
  have h7 := h6.nil
  subst h7
  obtain ⟨k, rfl, hk⟩ := h1
  obtain ⟨a, rfl, ha⟩ := h3
  obtain ⟨c, rfl, hc⟩ := h5
  exact ⟨k, a, c, rfl, wf_i64 hk, wf_i64 ha, wf_i64 hc⟩
theorem take_sum_bound {l : List Int} (h : ∀ z ∈ l, 0 ≤ z) (i : Nat) : 0 ≤ (l.take i).sum ∧ (l.take i).sum ≤ l.sum := by
  induction l generalizing i with
  | nil => simp
  | cons a l ih =>
    have h1 := h a (List.mem_cons_self ..)
    have h2 := ih (fun z hz => h z (List.mem_cons_of_mem _ hz)) 
    cases i with
    | zero => have := h2 l.length; simp only [List.take_length] at this; simp only [List.take_zero, List.sum_nil, List.sum_cons]; omega
    | succ i => have := h2 i; simp only [List.take_succ_cons, List.sum_cons]; omega
theorem take_sum_le {l : List Int} (h : ∀ z ∈ l, 0 ≤ z) (i : Nat) {z : Int} (hz : l[i]? = some z) : (l.take i).sum + z ≤ l.sum := by
  have := (take_sum_bound h (i + 1)).2
  rw [List.take_add_one, hz] at this
  simpa using this
theorem tally_nonneg {hs : List Int} {n : Nat} : ∀ z ∈ tally hs n, 0 ≤ z := fun z hz => (tally_le z hz).2
set_option maxHeartbeats 4000000 in
theorem pool_loads {c p : Int} {v : Value} {ys : List (List Value)} (hc : -9223372036854775808 ≤ c ∧ c ≤ 9223372036854775807) (hp : -9223372036854775808 ≤ p ∧ p ≤ 9223372036854775807) (hb : BaseRow w0 v 3 ys) (hk : ∀ l ∈ ys, FKs [.int .i64, .int .i64, .int .i64] l) (hr : ys.length * 24 ≤ 140737488351232) : Tri Try.prog 11 #[kI c, kI p, v] w0 F fun v _ => v = .bool true := by
  obtain ⟨va, vn, vc, rfl, rfl, hrd⟩ := hb.rd
  have hops := ops_of hk
  refine Tri.enterF Try.func11 Try.ntmps11 Try.results11 rfl rfl fun fr hfr => ?_
  repeat' (first | refine walk ?_ | exact trivial | refine Tw.mk ?_ ?_ | refine anchor_spec ?_ | refine right_spec (fun _ _ _ _ => ?_) ?_ | intro hc | exact Out.i rfl | refine pnew_spec (fun b => ?_) | fail)
  refine XS.loopI (ι := Nat × PS) (fun q => [(7, ptr b), (32, .slice va ys.length vc), (33, kI ys.length), (34, kI q.1)]) (fun q => pool b q.2 :: F)
    (fun q => q.1 ≤ ys.length ∧ q.2.Ok ∧ q.2.opened ≤ q.1 ∧ AllIn (fun h => 0 ≤ h ∧ h < 5) q.2) (fun q => ys.length - q.1) (0, ⟨c, p, 0, [], []⟩) ⟨Nat.zero_le _, ⟨by simp, by simp, by simp, by simp; omega, by simp; omega, by simp; omega, by simp; omega⟩, by simp, by simp, by simp⟩ ⟨rfl, rfl, rfl, rfl, trivial⟩ (Ent.refl _) ?_
  rintro ⟨k, S⟩ e ⟨hkl, ok, ho, hin⟩ ih
  simp only at hkl ok ho hin
  have ho2 : S.opened < 4611686018427387904 := by omega
  by_cases hlt : k < ys.length
  · obtain ⟨l, hl⟩ : ∃ l, ys[k]? = some l := ⟨_, List.getElem?_eq_getElem hlt⟩
    obtain ⟨kd, x, y, rfl, _, _, _⟩ := hops k l hl
    obtain ⟨vb, vo, rfl, hn3, _⟩ := hrd k _ hl
    refine walkn ?_
    refine ⟨fun _ => ?_, trivial⟩
    refine XS.block ?_
    refine walkn ?_
    refine ⟨fun b3 => ?_, trivial⟩
    refine XS.joinM (ι := PS) (fun _ => [(7, ptr b), (32, .slice (some ⟨vb, vo, none⟩) ys.length vc), (33, kI ys.length), (34, kI k)]) (fun S' => pool b S' :: F) (fun S' => Step S S' ∧ AllIn (fun h => 0 ≤ h ∧ h < 5) S') ?_ (fun hj => ?_)
    · rintro S' e ⟨hst, hin'⟩
      have hc' : S'.conns.length ≤ 1048576 := by have := hst.ok.cl; have := hst.ok.most; omega
      have hq' : S'.queue.length ≤ 1048576 := by have := hst.ok.ql; have := hst.ok.pend; omega
      have hb' : S'.busy ≤ S'.conns.length := List.countP_le_length ..
      have hsum : (tally S'.hosts (5 : Int).toNat).sum = S'.busy + S'.queue.length := by
        rw [tally_sum (n := (5 : Int).toNat) (hosts_in hin'), hosts_len]; omega
      repeat' (first | refine walk ?_ | exact trivial | refine Tw.mk ?_ ?_ | refine Tri.sel1 (loads_spec hst.ok (by omega) (fun g => ?_)) | fail)
      refine XS.loopI (ι := Nat) (fun i => [(7, ptr b), (10, kI (((tally S'.hosts (5 : Int).toNat).take i).sum)), (32, .slice (some ⟨vb, vo, none⟩) ys.length vc), (33, kI ys.length), (34, kI k), (79, .slice (some ⟨g, 0, none⟩) (5 : Int).toNat (5 : Int).toNat), (80, kI 5), (81, kI i)]) (fun _ => RowAt g (5 : Int).toNat 3 1 (5 : Int).toNat (flat ienc (tally S'.hosts (5 : Int).toNat)) :: pool b S' :: F)
        (fun i => i ≤ 5) (fun i => 5 - i) 0 (by omega) ⟨rfl, rfl, rfl, rfl, rfl, rfl, rfl, rfl, trivial⟩ (Ent.refl _) ?_
      intro i e hi ih2
      have hln : (tally S'.hosts (5 : Int).toNat).length = 5 := tally_len ..
      by_cases hlt5 : i < 5
      · obtain ⟨z, hz⟩ : ∃ z, (tally S'.hosts (5 : Int).toNat)[i]? = some z := ⟨_, List.getElem?_eq_getElem (by omega)⟩
        have hz1 := tally_le z (List.mem_of_getElem? hz)
        have hz2 := take_sum_le tally_nonneg i hz
        rw [hosts_len] at hz1
        have hnx : ((tally S'.hosts (5 : Int).toNat).take (i + 1)).sum = ((tally S'.hosts (5 : Int).toNat).take i).sum + z := by rw [List.take_add_one, hz]; simp
        have hsm := take_sum_bound (l := tally S'.hosts (5 : Int).toNat) tally_nonneg i
        repeat' (first | refine walk ?_ | exact trivial | refine Tw.mk ?_ ?_ | intro hc | fail)
        exact ih2 (i + 1) _ _ (by omega) (by omega) ⟨rfl, by rw [hnx]; rfl, rfl, rfl, rfl, rfl, rfl, rfl, trivial⟩ entA
      · obtain rfl : i = 5 := by omega
        clear ih2
        have h5 : (tally S'.hosts (5 : Int).toNat).take 5 = tally S'.hosts (5 : Int).toNat := List.take_of_length_le (by omega)
        rw [h5, hsum]
        repeat' (first | refine walk ?_ | exact trivial | refine Tw.mk ?_ ?_ | refine Tri.sel1 (len_spec (by omega) ?_) | intro hc | fail)
        exact ih (k + 1, S') _ _ ⟨hlt, hst.ok, by have := hst.op; simp only; omega, hin'⟩ (by simp only; omega) ⟨rfl, rfl, rfl, rfl, trivial⟩ entA
    · repeat' (first | refine walk ?_ | exact trivial | refine Tw.mk ?_ ?_ | intro hc | refine Tri.sel1 (acquire_spec ok ?_) | refine Tri.sel1 (serve_spec ok ?_) | refine Tri.sel1 (release_any ?_) | refine Tri.sel1 (remove_any ?_) | refine Tri.sel1 (cancel_spec ok ?_) | fail)
      · exact ⟨(S.acquire x y).2, ⟨acquire_step ok ho2, acquire_in hin ⟨by assumption, by assumption⟩⟩, ⟨rfl, rfl, rfl, rfl, trivial⟩, entA⟩
      · exact ⟨S, ⟨Step.refl ok, hin⟩, ⟨rfl, rfl, rfl, rfl, trivial⟩, entA⟩
      · exact ⟨S, ⟨Step.refl ok, hin⟩, ⟨rfl, rfl, rfl, rfl, trivial⟩, entA⟩
      · exact ⟨S.serve.2, ⟨serve_step ok ho2, serve_in hin⟩, ⟨rfl, rfl, rfl, rfl, trivial⟩, entA⟩
      · exact ⟨(S.release x).2, ⟨release_step ok, release_in hin⟩, ⟨rfl, rfl, rfl, rfl, trivial⟩, entA⟩
      · exact ⟨(S.remove x).2, ⟨remove_step ok, remove_in hin⟩, ⟨rfl, rfl, rfl, rfl, trivial⟩, entA⟩
      · exact ⟨(S.cancel x).2, ⟨cancel_step ok, cancel_in hin⟩, ⟨rfl, rfl, rfl, rfl, trivial⟩, entA⟩
      · exact ⟨S, ⟨Step.refl ok, hin⟩, ⟨rfl, rfl, rfl, rfl, trivial⟩, entA⟩
  · obtain rfl : k = ys.length := by omega
    repeat' (first | refine walk ?_ | exact trivial | refine Tw.mk ?_ ?_ | refine Tri.sel1 (loads_spec ok (by omega) (fun g => ?_)) | intro hc | exact Out.i rfl | fail)
end Go.Proofs.Ytpfnhkdhcjclpaa
