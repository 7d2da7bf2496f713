/- The document's balancer: the ring. Conditions: numbers are of their kinds. -/
import Derived.Test.YtpfnhkdhcjclpaaBalO
namespace Go.Proofs.Ytpfnhkdhcjclpaa
open Go Go.Sx Go.DiceM Go.BalM
variable {w0 : World} {F H : List HProp} {K : Value → List HProp → Prop}
set_option maxHeartbeats 4000000 in
theorem ring_spec {r : Nat} {pol last s d : Int} {hs : List ByteArray} {op : List Bool} {a a1 : Option Addr} {c c1 : Nat} {key : ByteArray} (hn : hs.length ≤ 1000) (hss : ∀ s ∈ hs, s.size ≤ 140737488351232) (hsb : Base w0 (.slice a hs.length c) 1 hs.length (flat senc hs)) (hb : Base w0 (.slice a1 op.length c1) 1 op.length (flat benc op)) (hk : key.size ≤ 140737488351232) (hne : opens hs.length op ≠ [])
    (h : ∀ j : Nat, Best hs (· ∈ opens hs.length op) (mixI (hashOf key)) j → K (kI j) (rbal r pol last (.slice a hs.length c) s d :: F)) : Tri Try.prog 52 #[ptr r, .slice a1 op.length c1, .string key] w0 (rbal r pol last (.slice a hs.length c) s d :: F) K := by
  refine Tri.enterF Try.func52 Try.ntmps52 Try.results52 rfl rfl fun fr hfr => ?_
  repeat' (first | refine walk ?_ | exact trivial | refine Tw.mk ?_ ?_ | intro hc | refine rhash_spec _ (by omega) ?_ | refine rmix_spec _ ?_ | fail)
  generalize hh : mixI (hashI key.data.toList) = hx
  refine XS.loopI (ι := Nat × Int × Int × Int × Int) (fun q => [(0, ptr r), (1, .slice a1 op.length c1), (7, kU hx), (8, kI q.2.1), (9, kI q.2.2.1), (10, kU q.2.2.2.1), (11, kU q.2.2.2.2), (12, kI q.1)]) (fun _ => rbal r pol last (.slice a hs.length c) s d :: F) (fun q => q.1 ≤ hs.length ∧ Spied (visTo hs op q.1) hx q.2.1 q.2.2.1 q.2.2.2.1 q.2.2.2.2) (fun q => hs.length - q.1) (0, -1, -1, 0, 0) ⟨Nat.zero_le _, ⟨.inl ⟨rfl, by simp [visTo, opens]⟩, .inl ⟨rfl, by simp [visTo, opens]⟩⟩⟩ ⟨rfl, rfl, rfl, rfl, rfl, rfl, rfl, rfl, trivial⟩ entA ?_
  rintro ⟨i, best, least, ba, la⟩ e ⟨hi, hf⟩ ih
  simp only at hi hf
  dsimp only
  by_cases hlt : i < hs.length
  · have hz0 : hs[i]? = some (hostAt hs i) := by simp [hostAt, hlt]
    have hsz := hss _ (List.mem_of_getElem? hz0)
    have hxb := hashI_lt (hostAt hs i).data.toList
    by_cases hop : op[i]? = some true
    · have hio := (List.getElem?_eq_some_iff.1 hop).1
      obtain ⟨g1, o1, rfl, hrd1⟩ := hb.rdF .bool (fun _ => rfl) hop
      obtain ⟨g2, o2, rfl, hrd2⟩ := hsb.rdF .string (fun _ => rfl) hz0
      repeat' (first | refine walk ?_ | exact trivial | refine Tw.mk ?_ ?_ | intro hc | refine rhash_spec _ (by omega) ?_ | fail)
      refine XS.loopI (ι := Nat × Int × Int × Int × Int) (fun q => [(0, ptr r), (1, .slice (some ⟨g1, o1, none⟩) op.length c1), (7, kU hx), (8, kI q.2.1), (9, kI q.2.2.1), (10, kU q.2.2.2.1), (11, kU q.2.2.2.2), (12, kI i), (13, kU (IntKind.u64.wrap (hashOf (hostAt hs i) + IntKind.u64.wrap ((q.1 : Int) * golden)))), (14, kI q.1)]) (fun _ => rbal r pol last (.slice (some ⟨g2, o2, none⟩) hs.length c) s d :: F) (fun q => q.1 ≤ 16 ∧ Spied (visTo hs op i ++ hostPts hs i q.1) hx q.2.1 q.2.2.1 q.2.2.2.1 q.2.2.2.2) (fun q => 16 - q.1) (0, best, least, ba, la) ⟨Nat.zero_le _, by simpa [hostPts] using hf⟩ ⟨rfl, rfl, rfl, rfl, rfl, rfl, rfl, rfl, congrArg kU (pt_first _ hxb).symm, rfl, trivial⟩ entA ?_
      rintro ⟨k, best, least, ba, la⟩ e2 ⟨hk2, hf⟩ ih2
      simp only at hk2 hf
      dsimp only
      by_cases hlt2 : k < 16
      · have hle : ∀ q ∈ visTo hs op i ++ hostPts hs i k, q.2 ≤ i := fun q hq => by
          rcases List.mem_append.1 hq with hq | hq
          · exact Nat.le_of_lt (visTo_le q hq)
          · exact Nat.le_of_eq (hostPts_le q hq)
        have hnx := pt_step (hashOf (hostAt hs i)) k
        have hap : visTo hs op i ++ hostPts hs i (k + 1) = (visTo hs op i ++ hostPts hs i k) ++ [(mixI (IntKind.u64.wrap (hashOf (hostAt hs i) + IntKind.u64.wrap ((k : Int) * golden))), i)] := by rw [hostPts_succ, List.append_assoc]; rfl
        generalize IntKind.u64.wrap (hashOf (hostAt hs i) + IntKind.u64.wrap ((k : Int) * golden)) = x at hnx hap ⊢
        repeat' (first | refine walk ?_ | exact trivial | refine Tw.mk ?_ ?_ | intro hc | refine rmix_spec _ ?_ | fail)
        all_goals first | exact ih2 (k + 1, i, i, mixI x, mixI x) _ _ ⟨hlt2, by simp only; rw [hap]; exact hf.tt (by omega) (by omega) (by omega)⟩ (by simp only; omega) ⟨rfl, rfl, rfl, rfl, rfl, rfl, rfl, rfl, congrArg kU hnx, rfl, trivial⟩ entA | exact ih2 (k + 1, i, least, mixI x, la) _ _ ⟨hlt2, by simp only; rw [hap]; exact hf.tk hle (by omega) (by omega) (by omega)⟩ (by simp only; omega) ⟨rfl, rfl, rfl, rfl, rfl, rfl, rfl, rfl, congrArg kU hnx, rfl, trivial⟩ entA | exact ih2 (k + 1, best, i, ba, mixI x) _ _ ⟨hlt2, by simp only; rw [hap]; exact hf.kt hle (by omega) (by omega)⟩ (by simp only; omega) ⟨rfl, rfl, rfl, rfl, rfl, rfl, rfl, rfl, congrArg kU hnx, rfl, trivial⟩ entA | exact ih2 (k + 1, best, least, ba, la) _ _ ⟨hlt2, by simp only; rw [hap]; exact hf.kk hle (by omega) (by omega)⟩ (by simp only; omega) ⟨rfl, rfl, rfl, rfl, rfl, rfl, rfl, rfl, congrArg kU hnx, rfl, trivial⟩ entA
      · obtain rfl : k = 16 := by omega
        repeat' (first | refine walk ?_ | exact trivial | refine Tw.mk ?_ ?_ | intro hc | fail)
        exact ih (i + 1, best, least, ba, la) _ _ ⟨hlt, by rw [visTo_open hop]; exact hf⟩ (by simp only; omega) ⟨rfl, rfl, rfl, rfl, rfl, rfl, rfl, rfl, trivial⟩ entA
    · have hop' : op[i]?.getD false = false := by
        cases hq : op[i]? with
        | none => rfl
        | some t => cases t with
          | false => rfl
          | true => exact absurd hq hop
      have hv := visTo_shut (hs := hs) hop'
      by_cases hio : i < op.length
      · have hu : op[i]? = some false := by
          rw [List.getElem?_eq_getElem hio] at hop' ⊢
          simpa using hop'
        obtain ⟨g1, o1, rfl, hrd1⟩ := hb.rdF .bool (fun _ => rfl) hu
        repeat' (first | refine walk ?_ | exact trivial | refine Tw.mk ?_ ?_ | intro hc | fail)
        exact ih (i + 1, best, least, ba, la) _ _ ⟨hlt, by rw [hv]; exact hf⟩ (by simp only; omega) ⟨rfl, rfl, rfl, rfl, rfl, rfl, rfl, rfl, trivial⟩ entA
      · repeat' (first | refine walk ?_ | exact trivial | refine Tw.mk ?_ ?_ | intro hc | fail)
        exact ih (i + 1, best, least, ba, la) _ _ ⟨hlt, by rw [hv]; exact hf⟩ (by simp only; omega) ⟨rfl, rfl, rfl, rfl, rfl, rfl, rfl, rfl, trivial⟩ entA
  · obtain rfl : i = hs.length := by omega
    subst hh
    by_cases hb0 : 0 ≤ best
    · obtain ⟨j, rfl, hj⟩ := hf.best hb0
      repeat' (first | refine walk ?_ | exact trivial | refine Tw.mk ?_ ?_ | intro hc | fail)
      exact Out.i (h j hj)
    · obtain ⟨j, rfl, hj⟩ := hf.least (by omega) hne
      repeat' (first | refine walk ?_ | exact trivial | refine Tw.mk ?_ ?_ | intro hc | fail)
      exact Out.i (h j hj)
end Go.Proofs.Ytpfnhkdhcjclpaa
