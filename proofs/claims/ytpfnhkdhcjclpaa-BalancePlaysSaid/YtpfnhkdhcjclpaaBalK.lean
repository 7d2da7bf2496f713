/- The balancer's laws: New, the row of hosts handed back. Conditions: numbers are of their kinds. -/
import Derived.Test.YtpfnhkdhcjclpaaBalH
import Derived.Test.YtpfnhkdhcjclpaaSxSeen
namespace Go.Proofs.Ytpfnhkdhcjclpaa
open Go Go.Sx Go.DiceM Go.BalM Go.Sort Go.Proofs
variable {w0 : World} {F H : List HProp} {K : Value → List HProp → Prop}
set_option maxHeartbeats 1000000 in
theorem bnew_seen {X : HProp} {v : Value} {hs : List ByteArray} {pol seed : Int} (hX : Seen w0 X v 1 hs.length (flat senc hs)) (hn : hs.length ≤ 1000) (hz : ∀ s ∈ hs, s.size ≤ 9223372036854775807) (h : ∀ b, K (ptr b) (bal b ⟨pol, hs, hs.length - 1, IntKind.u64.wrap seed, 0⟩ :: X :: F)) :
    Tri Try.prog 24 #[kI pol, v, kI seed] w0 (X :: F) K := by
  refine Tri.seenForm (args := fun v => #[kI pol, v, kI seed]) hX fun a c hv => ?_
  subst hv
  refine Tri.enterF Try.func24 Try.ntmps24 Try.results24 rfl rfl fun fr hfr => ?_
  repeat' (first | refine walk ?_ | exact trivial | refine Tw.mk ?_ ?_ | refine dnew_spec seed (fun d => ?_) | intro b | fail)
  refine XS.ent (Row.nil 89 2 _) ?_
  refine XS.loopI (ι := Nat × Option Addr × Nat) (fun q => [(7, ptr b), (21, .slice a hs.length c), (22, kI hs.length), (23, kI q.1)]) (fun q => Row q.2.1 q.2.2 89 2 (ptsTo hs q.1).length (flat penc (ptsTo hs q.1)) :: bhead b pol hs.length (hs.length - 1) d q.2.1 (ptsTo hs q.1).length q.2.2 :: dice d (IntKind.u64.wrap seed) 0 :: X :: F)
    (fun q => q.1 ≤ hs.length) (fun q => hs.length - q.1) (0, none, 0) (Nat.zero_le _) ⟨rfl, rfl, rfl, rfl, trivial⟩ entA ?_
  rintro ⟨i, a2, c2⟩ e hi ih
  simp only at hi
  dsimp only
  by_cases hlt : i < hs.length
  · have hz0 : hs[i]? = some (hostAt hs i) := by simp [hostAt, hlt]
    have hsz := hz _ (List.mem_of_getElem? hz0)
    have hz1 : (flat senc hs)[i * 1]? = some (.string (hostAt hs i)) := flat_get (i := i) (j := 0) senc_len hz0 rfl
    refine XS.sel1 (c := X) (XS.seen hX (by omega) fun g off c3 hv hrd => ?_)
    injection hv with hv1 _ hv3
    subst hv1 hv3
    have hrd1 := fun F => hrd (i * 1) _ F hz1
    repeat' (first | refine walk ?_ | exact trivial | refine Tw.mk ?_ ?_ | intro hc | refine XO.load TT_ok rfl rfl rfl rfl rfl rfl (hrd1 _) ?_ | fail)
    have hsucc : ∀ k, (ptsTo hs i ++ hostPts hs i (k + 1)) = (ptsTo hs i ++ hostPts hs i k) ++ [(ptAt (hashOf (hostAt hs i)) k, i)] := fun k => by rw [hostPts_succ, List.append_assoc]
    have hlen : ∀ k, (ptsTo hs i ++ hostPts hs i k).length = i * 16 + k := fun k => by rw [List.length_append, ptsTo_len, hostPts_len]
    refine XS.loopI (ι := Nat × Option Addr × Nat) (fun q => [(7, ptr b), (8, kI i), (9, .string (hostAt hs i)), (21, .slice (some ⟨g, off, none⟩) hs.length c), (22, kI hs.length), (23, kI i), (28, kU q.1)])
      (fun q => Row q.2.1 q.2.2 89 2 (ptsTo hs i ++ hostPts hs i q.1).length (flat penc (ptsTo hs i ++ hostPts hs i q.1)) :: bhead b pol hs.length (hs.length - 1) d q.2.1 (ptsTo hs i ++ hostPts hs i q.1).length q.2.2 :: dice d (IntKind.u64.wrap seed) 0 :: X :: F)
      (fun q => q.1 ≤ 16) (fun q => 16 - q.1) (0, a2, c2) (by simp) ⟨rfl, rfl, rfl, rfl, rfl, rfl, rfl, trivial⟩ (by simp only [hostPts, List.range_zero, List.map_nil, List.append_nil]; exact entA) ?_
    rintro ⟨k, a4, c4⟩ e2 hk ih2
    simp only at hk
    dsimp only
    by_cases hlt2 : k < 16
    · have hb := hlen k
      repeat' (first | refine walk ?_ | exact trivial | refine Tw.mk ?_ ?_ | intro hc | refine XS.drawH (T := TT) [(4, [6, 10, 13], heldC ⟨b, 4, none⟩ (.slice a4 (ptsTo hs i ++ hostPts hs i k).length c4))] [(4, [6, 10, 13])] rfl follows_ok (by decide +kernel) ?_ | refine XO.callH (by repeat' (first | exact trivial | exact readA | exact heldM_0 | exact heldM_1 | exact heldM_2 | exact heldM_3 | exact heldM_4 | refine And.intro ?_ ?_ | exact Reads.here rfl | refine Reads.skip ?_)) rfl rfl rfl (by kernel_rfl) rfl ?_ | refine And.intro (by repeat' (first | exact trivial | exact readA | exact heldM_0 | exact heldM_1 | exact heldM_2 | exact heldM_3 | exact heldM_4 | refine And.intro ?_ ?_ | exact Reads.here rfl | refine Reads.skip ?_)) ?_ | refine XO.loadH TT_ok rfl rfl rfl rfl rfl rfl (by repeat' (first | exact trivial | exact readA | exact heldM_0 | exact heldM_1 | exact heldM_2 | exact heldM_3 | exact heldM_4 | refine And.intro ?_ ?_ | exact Reads.here rfl | refine Reads.skip ?_)) ?_ | refine XO.buildSlice TT_ok (by repeat' (first | exact trivial | exact readA | exact heldM_0 | exact heldM_1 | exact heldM_2 | exact heldM_3 | exact heldM_4 | refine And.intro ?_ ?_ | exact Reads.here rfl | refine Reads.skip ?_)) rfl rfl rfl rfl rfl rfl rfl rfl rfl rfl rfl rfl (fun _ => (by repeat' (first | exact trivial | exact readA | exact heldM_0 | exact heldM_1 | exact heldM_2 | exact heldM_3 | exact heldM_4 | refine And.intro ?_ ?_ | exact Reads.here rfl | refine Reads.skip ?_))) (fun b1 => ?_) | refine hash_spec _ hsz ?_ | refine mix_spec _ ?_ | (refine XO.sel1 (c := Row a4 c4 89 2 _ _) ?_; refine XO.append (m := 1) (N := 1048577) TT_ok trivial rfl rfl rfl rfl rfl rfl rfl rfl rfl rfl rfl (ReadsL.skip (ReadsL.here 2)) rfl (by decide) rfl (by omega) rfl rfl (fun _ _ => trivial) (fun a' cap' => ?_)) | fail)
      refine ih2 (k + 1, a', cap') _ _ hlt2 (by simp only; omega) ⟨rfl, rfl, rfl, rfl, rfl, rfl, congrArg kU (u64_id (by omega) (by omega)), trivial⟩ ?_
      simp only [hsucc, List.length_append, flat_snoc, List.length_singleton]
      exact entA
    · obtain rfl : k = 16 := by omega
      repeat' (first | refine walk ?_ | exact trivial | refine Tw.mk ?_ ?_ | intro hc | fail)
      refine ih (i + 1, a4, c4) _ _ hlt (by simp only; omega) ⟨rfl, rfl, rfl, rfl, trivial⟩ ?_
      simp only [ptsTo_succ]
      exact entA
  · obtain rfl : i = hs.length := by omega
    have hb := ptsTo_len hs hs.length
    repeat' (first | refine walk ?_ | exact trivial | refine Tw.mk ?_ ?_ | intro hc | refine Tri.sel1 (sort_spec (by omega) ?_) | fail)
    exact bal_out (B := ⟨pol, hs, hs.length - 1, IntKind.u64.wrap seed, 0⟩) (ring_is hs) (h b) (h6 := List.length_mergeSort _)
end Go.Proofs.Ytpfnhkdhcjclpaa
