/- The balancer: the ring sorted, New. Conditions: numbers are of their kinds. -/
import Derived.Test.YtpfnhkdhcjclpaaBalB
import Derived.Test.YtpfnhkdhcjclpaaSxSort
import Derived.Test.YtpfnhkdhcjclpaaSxZ
import Derived.Test.YtpfnhkdhcjclpaaLay
namespace Go.Proofs.Ytpfnhkdhcjclpaa
open Go Go.Sx Go.DiceM Go.BalM Go.Sort Go.Proofs
variable {w0 : World} {F H : List HProp} {K : Value → List HProp → Prop}
theorem cf_swo : SWO (ltOf cf) where
  irrefl x := by simp only [ltOf, decide_eq_false_iff_not, cf_lt]; exact fun h => h (.inr ⟨rfl, Nat.le_refl _⟩)
  trans x y z h1 h2 := by simp only [ltOf, decide_eq_true_eq, cf_lt, ple] at *; omega
  ntrans x y z h1 h2 := by simp only [ltOf, decide_eq_false_iff_not, cf_lt, ple] at *; omega
theorem cf_total (x y : Pt) (h1 : ltOf cf x y = false) (h2 : ltOf cf y x = false) : x = y := by
  obtain ⟨a, i⟩ := x
  obtain ⟨b, j⟩ := y
  simp only [ltOf, decide_eq_false_iff_not, cf_lt, ple] at h1 h2
  have e1 : a = b := by omega
  have e2 : i = j := by omega
  rw [e1, e2]
def ringOf (l : List Pt) : List Pt := l.mergeSort fun x y => !(ltOf cf) y x
theorem ring_is (hs : List ByteArray) : IsRing hs (ringOf (pts hs)) := by
  refine ⟨List.mergeSort_perm .., ?_⟩
  have h := List.pairwise_mergeSort (le := fun x y => !(ltOf cf) y x) (fun x y z h1 h2 => by
    simp only [ltOf, Bool.not_eq_true', decide_eq_false_iff_not, cf_lt, ple] at *; omega) (fun x y => by
    simp only [ltOf, Bool.or_eq_true, Bool.not_eq_true', decide_eq_false_iff_not, cf_lt, ple]; omega) (pts hs)
  refine h.imp fun hab => ?_
  simp only [ltOf, Bool.not_eq_true', decide_eq_false_iff_not, cf_lt, ple] at hab ⊢; omega
theorem sort_spec {a : Option Addr} {cap : Nat} {l : List Pt} (hl : l.length ≤ 1048576) (h : K (.tuple #[]) (Row a cap 89 2 l.length (flat penc (ringOf l)) :: F)) :
    Tri Try.prog 38 #[.slice a l.length cap, .func (.func 39) #[] #[]] w0 (Row a cap 89 2 l.length (flat penc l) :: F) K := by
  cases l with
  | nil =>
    rw [show ringOf [] = [] by simp [ringOf]] at h
    refine Tri.ofCalls (fun w hr => ?_) h
    exact (AnyF.slices_SortFunc_none { Try.sortF with } a cap _ w)
  | cons p l =>
    refine Tri.rowOpen (by simp) fun g hg => ?_
    subst hg
    refine Tri.of_calls fun w hr => ?_
    obtain ⟨tail, h2, _⟩ := hr.rowAt_blk
    have hlt : g < w.heap.size := (Array.getElem?_eq_some_iff.1 h2.get).1
    have hc := AnyQ.slices_SortFunc_total Try.sortF 2 (run_isAgg TT_ok rfl) (run_size TT_ok rfl) penc penc_len (fun x v hv => List.all_eq_true.1 (penc_all x) v hv) cf cf_swo 39 #[] g 0 cap (p :: l).toArray w (enters_of Try.func39 (by kernel_rfl) rfl) (fun _ _ _ _ x y => ptCmp x y _) (hr.holdsK penc_len) hlt (by simp only [List.size_toArray]; omega) cf_total
    refine Calls.mono hc ?_
    rintro e w' ⟨rfl, n, os, rfl⟩
    exact ⟨_, _, rfl, (hr.sortedK penc_len (ys := ringOf (p :: l)) (List.length_mergeSort _) n os).ent Row.of_at, h⟩
abbrev bhead (b : Nat) (pol n last : Int) (d : Nat) (a : Option Addr) (k c : Nat) : HProp := cel b 84 [kI pol, kI n, kI last, ptr d, .slice a k c]
abbrev bparts (b : Nat) (B : BS) (d : Nat) (a : Option Addr) (c : Nat) (r : List Pt) : List HProp := [bhead b B.policy B.hs.length B.last d a r.length c, dice d B.s B.d, Row a c 89 2 r.length (flat penc r), fact (IsRing B.hs r)]
def bal (b : Nat) (B : BS) : HProp := hex fun q : Nat × Option Addr × Nat × List Pt => stars (bparts b B q.1 q.2.1 q.2.2.1 q.2.2.2)
theorem bal_mk {b d c : Nat} {a : Option Addr} {r : List Pt} {B : BS} (hr : IsRing B.hs r) : Ent (bhead b B.policy B.hs.length B.last d a r.length c :: dice d B.s B.d :: Row a c 89 2 r.length (flat penc r) :: F) (bal b B :: F) := by
  refine Ent.trans (Ent.cons _ (Ent.cons _ (Ent.cons _ (H' := fact (IsRing B.hs r) :: F) ?_))) (Ent.trans (Ent.pack (L := bparts b B d a c r)) (Ent.hex (f := fun q : Nat × Option Addr × Nat × List Pt => stars (bparts b B q.1 q.2.1 q.2.2.1 q.2.2.2)) (d, a, c, r)))
  exact fun h s => ⟨fun _ => none, h, fun _ => .inl rfl, (fun _ _ e => by cases e), Hp.le_refl _, hr, s⟩
theorem fact_open {p : Prop} {w : World} {c1 c2 c3 : HProp} (h : Rel w0 (c1 :: c2 :: c3 :: fact p :: F) w) : p ∧ Rel w0 (c1 :: c2 :: c3 :: F) w :=
  ⟨(h.ent Ent.front3).pure_, h.ent (Ent.cons _ (Ent.cons _ (Ent.cons _ (Ent.drop _ _))))⟩
theorem bal_open {b : Nat} {B : BS} {f : FuncId} {args : Array Value} (h : ∀ d a c r, IsRing B.hs r → Tri Try.prog f args w0 (bhead b B.policy B.hs.length B.last d a r.length c :: dice d B.s B.d :: Row a c 89 2 r.length (flat penc r) :: F) K) : Tri Try.prog f args w0 (bal b B :: F) K :=
  Tri.ex (ι := { q : Nat × Option Addr × Nat × List Pt // IsRing B.hs q.2.2.2 }) (H' := fun q => bhead b B.policy B.hs.length B.last q.1.1 q.1.2.1 q.1.2.2.2.length q.1.2.2.1 :: dice q.1.1 B.s B.d :: Row q.1.2.1 q.1.2.2.1 89 2 q.1.2.2.2.length (flat penc q.1.2.2.2) :: F)
    (fun _ hr => let ⟨q, hq⟩ := hr.hex; let ⟨h1, h2⟩ := fact_open (hq.ent Ent.unpack); ⟨⟨q, h1⟩, h2⟩) (fun q => h _ _ _ _ q.2)
theorem bal_out {R : Value → List HProp → Prop} {v : Value} {b d n c : Nat} {pol k last s t : Int} {a : Option Addr} {l : List Value} {r : List Pt} {B : BS} {H1 H2 H3 : List HProp} (hr : IsRing B.hs r) (h : R v (bal b B :: F)) (s1 : Sel (bhead b pol k last d a n c) H H1 := by exact selA) (s2 : Sel (dice d s t) H1 H2 := by exact selA) (s3 : Sel (Row a c 89 2 n l) H2 H3 := by exact selA) (x : Ent H3 F := by exact dropA)
    (h1 : B.policy = pol := by rfl) (h2 : (B.hs.length : Int) = k := by rfl) (h3 : B.last = last := by rfl) (h4 : B.s = s := by rfl) (h5 : B.d = t := by rfl) (h6 : r.length = n := by rfl) (h7 : flat penc r = l := by rfl) : Out R v H := by
  subst h1 h2 h3 h4 h5 h6 h7
  exact Out.e h (Ent.trans s1 (Ent.trans (Ent.cons _ s2) (Ent.trans (Ent.cons _ (Ent.cons _ s3)) (Ent.trans (Ent.cons _ (Ent.cons _ (Ent.cons _ x))) (bal_mk hr)))))
def senc (s : ByteArray) : List Value := [.string s]
theorem senc_len : ∀ x, (senc x).length = 1 := fun _ => rfl
set_option maxHeartbeats 1000000 in
theorem bnew_spec {v : Value} {hs : List ByteArray} {pol seed : Int} (hn : hs.length ≤ 1000) (hz : ∀ s ∈ hs, s.size ≤ 9223372036854775807) (h : ∀ b, K (ptr b) (bal b ⟨pol, hs, hs.length - 1, IntKind.u64.wrap seed, 0⟩ :: view w0 v 1 hs.length (flat senc hs) :: F)) :
    Tri Try.prog 24 #[kI pol, v, kI seed] w0 (view w0 v 1 hs.length (flat senc hs) :: F) K := by
  refine Tri.viewForm (args := fun v => #[kI pol, v, kI seed]) fun a c hv => ?_
  subst hv
  refine Tri.enterF Try.func24 Try.ntmps24 Try.results24 rfl rfl fun fr hfr => ?_
  repeat' (first | refine walk ?_ | exact trivial | refine Tw.mk ?_ ?_ | refine dnew_spec seed (fun d => ?_) | intro b | fail)
  refine XS.ent (Row.nil 89 2 _) ?_
  refine XS.loopI (ι := Nat × Option Addr × Nat) (fun q => [(7, ptr b), (21, .slice a hs.length c), (22, kI hs.length), (23, kI q.1)]) (fun q => Row q.2.1 q.2.2 89 2 (ptsTo hs q.1).length (flat penc (ptsTo hs q.1)) :: bhead b pol hs.length (hs.length - 1) d q.2.1 (ptsTo hs q.1).length q.2.2 :: dice d (IntKind.u64.wrap seed) 0 :: view w0 (.slice a hs.length c) 1 hs.length (flat senc hs) :: F)
    (fun q => q.1 ≤ hs.length) (fun q => hs.length - q.1) (0, none, 0) (Nat.zero_le _) ⟨rfl, rfl, rfl, rfl, trivial⟩ entA ?_
  rintro ⟨i, a2, c2⟩ e hi ih
  simp only at hi
  dsimp only
  by_cases hlt : i < hs.length
  · have hz0 : hs[i]? = some (hostAt hs i) := by simp [hostAt, hlt]
    have hsz := hz _ (List.mem_of_getElem? hz0)
    have hz1 : (flat senc hs)[i * 1]? = some (.string (hostAt hs i)) := flat_get (i := i) (j := 0) senc_len hz0 rfl
    refine XS.sel1 (c := view w0 (.slice a hs.length c) 1 hs.length (flat senc hs)) (XS.viewOpen (by omega) fun g off c3 hv hc3 => ?_)
    injection hv with hv1 _ hv3
    subst hv1 hv3
    repeat' (first | refine walk ?_ | exact trivial | refine Tw.mk ?_ ?_ | intro hc | refine XO.load TT_ok rfl rfl rfl rfl rfl rfl (Reads.view hz1) ?_ | fail)
    refine XS.ent (Ent.viewAt hc3) ?_
    have hsucc : ∀ k, (ptsTo hs i ++ hostPts hs i (k + 1)) = (ptsTo hs i ++ hostPts hs i k) ++ [(ptAt (hashOf (hostAt hs i)) k, i)] := fun k => by rw [hostPts_succ, List.append_assoc]
    have hlen : ∀ k, (ptsTo hs i ++ hostPts hs i k).length = i * 16 + k := fun k => by rw [List.length_append, ptsTo_len, hostPts_len]
    refine XS.loopI (ι := Nat × Option Addr × Nat) (fun q => [(7, ptr b), (8, kI i), (9, .string (hostAt hs i)), (21, .slice (some ⟨g, off, none⟩) hs.length c), (22, kI hs.length), (23, kI i), (28, kU q.1)])
      (fun q => Row q.2.1 q.2.2 89 2 (ptsTo hs i ++ hostPts hs i q.1).length (flat penc (ptsTo hs i ++ hostPts hs i q.1)) :: bhead b pol hs.length (hs.length - 1) d q.2.1 (ptsTo hs i ++ hostPts hs i q.1).length q.2.2 :: dice d (IntKind.u64.wrap seed) 0 :: view w0 (.slice (some ⟨g, off, none⟩) hs.length c) 1 hs.length (flat senc hs) :: F)
      (fun q => q.1 ≤ 16) (fun q => 16 - q.1) (0, a2, c2) (by simp) ⟨rfl, rfl, rfl, rfl, rfl, rfl, rfl, trivial⟩ (by simp only [hostPts, List.range_zero, List.map_nil, List.append_nil]; exact entA) ?_
    rintro ⟨k, a4, c4⟩ e2 hk ih2
    simp only at hk
    dsimp only
    by_cases hlt2 : k < 16
    · have hb := hlen k
      repeat' (first | refine walk ?_ | exact trivial | refine Tw.mk ?_ ?_ | intro hc | refine XS.drawH (T := TT) [(4, [6, 10, 13], heldC ⟨b, 4, none⟩ (.slice a4 (ptsTo hs i ++ hostPts hs i k).length c4))] [(4, [6, 10, 13])] rfl follows_ok (by decide +kernel) ?_ | refine XO.callH (by repeat' (first | exact trivial | exact readA | exact heldM_0 | exact heldM_1 | exact heldM_2 | exact heldM_3 | exact heldM_4 | refine And.intro ?_ ?_ | exact Reads.here rfl | refine Reads.skip ?_)) rfl rfl rfl (by kernel_rfl) rfl ?_ | refine And.intro (by repeat' (first | exact trivial | exact readA | exact heldM_0 | exact heldM_1 | exact heldM_2 | exact heldM_3 | exact heldM_4 | refine And.intro ?_ ?_ | exact Reads.here rfl | refine Reads.skip ?_)) ?_ | refine XO.loadH TT_ok rfl rfl rfl rfl rfl rfl (by repeat' (first | exact trivial | exact readA | exact heldM_0 | exact heldM_1 | exact heldM_2 | exact heldM_3 | exact heldM_4 | refine And.intro ?_ ?_ | exact Reads.here rfl | refine Reads.skip ?_)) ?_ | refine XO.buildSlice TT_ok (by repeat' (first | exact trivial | exact readA | exact heldM_0 | exact heldM_1 | exact heldM_2 | exact heldM_3 | exact heldM_4 | refine And.intro ?_ ?_ | exact Reads.here rfl | refine Reads.skip ?_)) rfl rfl rfl rfl rfl rfl rfl rfl rfl rfl rfl rfl (fun _ => (by repeat' (first | exact trivial | exact readA | exact heldM_0 | exact heldM_1 | exact heldM_2 | exact heldM_3 | exact heldM_4 | refine And.intro ?_ ?_ | exact Reads.here rfl | refine Reads.skip ?_))) (fun b1 => ?_) | refine hash_spec _ hsz ?_ | refine mix_spec _ ?_ | (refine XO.sel1 (c := Row a4 c4 89 2 _ _) ?_; refine XO.append (m := 1) (N := 1048577) TT_ok trivial rfl rfl rfl rfl rfl rfl rfl rfl rfl rfl rfl (ReadsL.skip (ReadsL.here 2)) rfl (by decide) rfl (by omega) rfl rfl (fun _ _ => trivial) (fun a' cap' => ?_)) | fail)
      refine ih2 (k + 1, a', cap') _ _ hlt2 (by simp only; omega) ⟨rfl, rfl, rfl, rfl, rfl, rfl, congrArg kU (u64_id (by omega) (by omega)), trivial⟩ ?_
      simp only [hsucc, List.length_append, flat_snoc, List.length_singleton]
      exact entA
    · obtain rfl : k = 16 := by omega
      repeat' (first | refine walk ?_ | exact trivial | refine Tw.mk ?_ ?_ | intro hc | fail)
      refine ih (i + 1, a4, c4) _ _ hlt (by simp only; omega) ⟨rfl, rfl, rfl, rfl, trivial⟩ ?_
      simp only [ptsTo_succ]
      exact entA
  · obtain rfl : i = hs.length := by omega
    have hb := ptsTo_len hs hs.length
    repeat' (first | refine walk ?_ | exact trivial | refine Tw.mk ?_ ?_ | intro hc | refine Tri.sel1 (sort_spec (by omega) ?_) | fail)
    exact bal_out (B := ⟨pol, hs, hs.length - 1, IntKind.u64.wrap seed, 0⟩) (ring_is hs) (h b) (h6 := List.length_mergeSort _)
end Go.Proofs.Ytpfnhkdhcjclpaa
