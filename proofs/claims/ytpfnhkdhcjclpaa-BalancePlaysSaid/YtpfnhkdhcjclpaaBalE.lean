/- The balancer: Pick. Conditions: numbers are of their kinds. -/
import Derived.Test.YtpfnhkdhcjclpaaBalD
namespace Go.Proofs.Ytpfnhkdhcjclpaa
open Go Go.Sx Go.DiceM Go.BalM
variable {w0 : World} {F H : List HProp} {K : Value → List HProp → Prop}
def benc (b : Bool) : List Value := [.bool b]
theorem benc_len : ∀ x, (benc x).length = 1 := fun _ => rfl
/-- The loads as they are copied, i of them. -/
def loadsTo (n i : Nat) (ls : List Int) : List Int := (List.range n).map fun j => if j < i then loadOf ls j else 0
theorem loadsTo_len (n i : Nat) (ls : List Int) : (loadsTo n i ls).length = n := by simp [loadsTo]
theorem loadsTo_zero (n : Nat) (ls : List Int) : loadsTo n 0 ls = List.replicate n 0 := by
  apply List.ext_getElem
  · simp [loadsTo]
  · intro i h1 h2; simp [loadsTo]
theorem loadsTo_set {n i : Nat} {ls : List Int} {z : Int} (hz : ls[i]? = some z) : loadsTo n (i + 1) ls = (loadsTo n i ls).set i z := by
  apply List.ext_getElem
  · simp [loadsTo]
  · intro j h1 h2
    rw [List.getElem_set]
    simp only [loadsTo, List.getElem_map, List.getElem_range]
    by_cases e : i = j
    · subst e; simp [loadOf, hz]
    · rw [if_neg e]
      by_cases e2 : j < i
      · rw [if_pos (by omega), if_pos e2]
      · rw [if_neg (by omega), if_neg e2]
theorem loadsTo_skip {n i : Nat} {ls : List Int} (hz : ls.length ≤ i) : loadsTo n (i + 1) ls = loadsTo n i ls := by
  apply List.ext_getElem
  · simp [loadsTo]
  · intro j h1 h2
    simp only [loadsTo, List.getElem_map, List.getElem_range]
    by_cases e : j = i
    · subst e
      rw [if_pos (by omega), if_neg (by omega)]
      simp [loadOf, hz]
    · by_cases e2 : j < i
      · rw [if_pos (by omega), if_pos e2]
      · rw [if_neg (by omega), if_neg e2]
theorem loadsTo_all {n i : Nat} {ls : List Int} (h : i < n) : loadOf (loadsTo n n ls) i = loadOf ls i := by
  have : (loadsTo n n ls)[i]? = some (loadOf ls i) := by simp [loadsTo, h]
  unfold loadOf at this ⊢
  rw [this]; rfl
theorem least_all {n : Nat} {ls : List Int} {xs : List Nat} {i : Nat} (hin : ∀ i ∈ xs, i < n) (h : IsLeast xs (loadOf (loadsTo n n ls)) i) : IsLeast xs (loadOf ls) i := by
  refine ⟨h.1, fun q hq => ?_⟩
  have := h.2 q hq
  rwa [loadsTo_all (hin _ h.1), loadsTo_all (hin _ hq)] at this
theorem below_eq {b : Nat} {s d n z : Int} (hd : 0 ≤ d ∧ d < 9223372036854775807) (hn : 1 ≤ n ∧ n ≤ 9223372036854775807) (hz : belowI s n = z) (h : K (kI z) (dice b (stepI s) (d + 1) :: F)) : Tri Try.prog 45 #[ptr b, kI n] w0 (dice b s d :: F) K :=
  below_spec hd (by omega) (by
    rw [hz]
    simp only [belowS, belowD, if_neg (show ¬ n < 1 by omega)]; exact h)
set_option maxHeartbeats 4000000 in
theorem pick_spec {b : Nat} {B : BS} {op : List Bool} {ls : List Int} {v1 v2 : Value} {key : ByteArray} (hn : B.hs.length ≤ 1000) (hd : 0 ≤ B.d ∧ B.d < 9223372036854775807) (hk : key.size ≤ 9223372036854775807) (ho : op.length ≤ 9223372036854775807) (hls : ls.length ≤ 9223372036854775807)
    (h0 : opens B.hs.length op = [] → K (kI (-1)) (bal b B :: view w0 v1 1 op.length (flat benc op) :: view w0 v2 1 ls.length (flat ienc ls) :: F))
    (h2 : B.policy = 2 → ∀ i, IsLeast (opens B.hs.length op) (loadOf ls) i → K (kI i) (bal b B :: view w0 v1 1 op.length (flat benc op) :: view w0 v2 1 ls.length (flat ienc ls) :: F))
    (h3 : B.policy = 3 → ∀ (q i : Nat), belowI B.s (opens B.hs.length op).length = q → (opens B.hs.length op)[q]? = some i → K (kI i) (bal b { B with s := stepI B.s, d := B.d + 1 } :: view w0 v1 1 op.length (flat benc op) :: view w0 v2 1 ls.length (flat ienc ls) :: F))
    (h4 : B.policy = 4 → ∀ i, Best B.hs (· ∈ opens B.hs.length op) (mixI (hashOf key)) i → K (kI i) (bal b B :: view w0 v1 1 op.length (flat benc op) :: view w0 v2 1 ls.length (flat ienc ls) :: F))
    (h5 : B.policy ≠ 2 → B.policy ≠ 3 → B.policy ≠ 4 → 0 < (opens B.hs.length op).length → K (kI (nextOf (opens B.hs.length op) B.last)) (bal b { B with last := nextOf (opens B.hs.length op) B.last } :: view w0 v1 1 op.length (flat benc op) :: view w0 v2 1 ls.length (flat ienc ls) :: F)) :
    Tri Try.prog 26 #[ptr b, v1, v2, .string key] w0 (bal b B :: view w0 v1 1 op.length (flat benc op) :: view w0 v2 1 ls.length (flat ienc ls) :: F) K := by
  refine Tri.ent Ent.front1 (Tri.viewForm (args := fun v => #[ptr b, v, v2, .string key]) fun a1 c1 hv1 => ?_)
  subst hv1
  refine Tri.ent Ent.front2 (Tri.viewForm (args := fun v => #[ptr b, .slice a1 op.length c1, v, .string key]) fun a2 c2 hv2 => ?_)
  subst hv2
  refine Tri.ent Ent.front2 (bal_open fun d ra rc r hr => ?_)
  refine Tri.enterF Try.func26 Try.ntmps26 Try.results26 rfl rfl fun fr hfr => ?_
  repeat' (first | refine walk ?_ | exact trivial | refine Tw.mk ?_ ?_ | intro bx | refine XO.makeSlice (k := B.hs.length) TT_ok trivial rfl rfl rfl rfl rfl rfl rfl rfl rfl rfl rfl (N := 1000) hn rfl rfl (fun _ => trivial) (fun g => ?_) | fail)
  rename_i b0
  generalize hN : B.hs.length = n at *
  have hgz : ∀ l : List Value, l = zrow n (ienc 0) → Ent (cel g 3 l :: cel bx 32 [.slice (some ⟨g, 0, none⟩) n n] :: F) (RowAt g n 3 1 n (flat ienc (loadsTo n 0 ls)) :: cel bx 32 [.slice (some ⟨g, 0, none⟩) n n] :: F) := fun l hl => by
    subst hl
    rw [loadsTo_zero, flat_zero]
    exact RowAt.of_cel (by rw [zrow_length]; rfl) (by simp only [maxLen]; omega)
  refine XS.sel1 (c := cel g 3 (zrow n (ienc 0))) (XS.ent (RowAt.of_cel (n := n) (es := 1) (by rw [zrow_length]; rfl) (by simp only [maxLen]; omega)) ?_)
  rw [← flat_zero, ← loadsTo_zero n ls]
  refine XS.ent (Row.nil 3 1 _) ?_
  refine XS.loopI (ι := Nat × Option Addr × Nat) (fun q => [(1, .slice a1 op.length c1), (2, .slice a2 ls.length c2), (3, .string key), (4, ptr b0), (9, .slice q.2.1 (opens q.1 op).length q.2.2), (10, ptr bx), (21, kI n), (22, kI q.1)])
    (fun q => Row q.2.1 q.2.2 3 1 (opens q.1 op).length (flat nenc (opens q.1 op)) :: RowAt g n 3 1 n (flat ienc (loadsTo n q.1 ls)) :: cel bx 32 [.slice (some ⟨g, 0, none⟩) n n] :: cel b0 48 [ptr b] :: bhead b B.policy n B.last d ra r.length rc :: dice d B.s B.d :: Row ra rc 89 2 r.length (flat penc r) :: view w0 (.slice a1 op.length c1) 1 op.length (flat benc op) :: view w0 (.slice a2 ls.length c2) 1 ls.length (flat ienc ls) :: F)
    (fun q => q.1 ≤ n) (fun q => n - q.1) (0, none, 0) (Nat.zero_le _) ⟨rfl, rfl, rfl, rfl, rfl, rfl, rfl, rfl, trivial⟩ entA ?_
  rintro ⟨i, a, c⟩ e hi ih
  simp only at hi
  dsimp only
  by_cases hlt : i < n
  · have hiL : i < (loadsTo n i ls).length := by rw [loadsTo_len]; omega
    have hol := opens_len i op
    by_cases ho1 : i < op.length
    · obtain ⟨t, hbt⟩ : ∃ t, op[i]? = some t := ⟨_, List.getElem?_eq_getElem ho1⟩
      have hbv : op[i]?.getD false = t := by rw [hbt]; rfl
      have hb1 : (flat benc op)[i * 1]? = some (.bool t) := flat_get (i := i) (j := 0) benc_len hbt rfl
      refine XS.sel1 (c := view w0 (.slice a1 op.length c1) 1 op.length (flat benc op)) (XS.viewOpen (by omega) fun g1 o1 c3 hv1 hc1 => ?_)
      injection hv1 with hv3 _ hv4
      subst hv3 hv4
      cases t
      · have e1 : opens (i + 1) op = opens i op := by rw [opens_succ, hbv]; simp
        by_cases hl2 : i < ls.length
        · obtain ⟨z, hz⟩ : ∃ z, ls[i]? = some z := ⟨_, List.getElem?_eq_getElem hl2⟩
          have hz1 : (flat ienc ls)[i * 1]? = some (kI z) := flat_get (i := i) (j := 0) ienc_len hz rfl
          have e2 := loadsTo_set (n := n) hz
          refine XS.sel1 (c := view w0 (.slice a2 ls.length c2) 1 ls.length (flat ienc ls)) (XS.viewOpen (by omega) fun g2 o2 c4 hv2 hc2 => ?_)
          injection hv2 with hv3 _ hv4
          subst hv3 hv4
          repeat' (first | refine walk ?_ | exact trivial | refine Tw.mk ?_ ?_ | intro hc | (refine XO.loadL false TT_ok rfl rfl rfl rfl rfl rfl (by first | exact Reads.view hb1 | exact Reads.skip (Reads.view hb1) | exact Reads.skip (Reads.skip (Reads.view hb1)) | exact Reads.skip (Reads.skip (Reads.skip (Reads.view hb1))) | exact Reads.skip (Reads.skip (Reads.skip (Reads.skip (Reads.view hb1)))) | exact Reads.skip (Reads.skip (Reads.skip (Reads.skip (Reads.skip (Reads.view hb1))))) | exact Reads.skip (Reads.skip (Reads.skip (Reads.skip (Reads.skip (Reads.skip (Reads.view hb1)))))) | exact Reads.skip (Reads.skip (Reads.skip (Reads.skip (Reads.skip (Reads.skip (Reads.skip (Reads.view hb1))))))) | fail) ?_) | (refine XO.load TT_ok rfl rfl rfl rfl rfl rfl (by first | exact Reads.view hz1 | exact Reads.skip (Reads.view hz1) | exact Reads.skip (Reads.skip (Reads.view hz1)) | exact Reads.skip (Reads.skip (Reads.skip (Reads.view hz1))) | exact Reads.skip (Reads.skip (Reads.skip (Reads.skip (Reads.view hz1)))) | exact Reads.skip (Reads.skip (Reads.skip (Reads.skip (Reads.skip (Reads.view hz1))))) | exact Reads.skip (Reads.skip (Reads.skip (Reads.skip (Reads.skip (Reads.skip (Reads.view hz1)))))) | exact Reads.skip (Reads.skip (Reads.skip (Reads.skip (Reads.skip (Reads.skip (Reads.skip (Reads.view hz1))))))) | fail) ?_) | refine XO.sel1 (XO.storeRowE (xs := loadsTo n i ls) z ienc_len hiL TT_ok trivial rfl rfl rfl rfl rfl rfl rfl rfl trivial ?_) | fail)
          refine ih (i + 1, a, c) _ _ (by simp only; omega) (by simp only; omega) ⟨rfl, rfl, rfl, rfl, (show Value.slice a (opens i op).length c = Value.slice a (opens (i + 1) op).length c from by rw [e1]), rfl, rfl, rfl, trivial⟩ ?_
          simp only [e1, e2]
          refine Ent.trans (selA (c := Go.Sx.viewAt w0 g1 o1 1 op.length (flat benc op))) (Ent.trans (Ent.viewAt hc1) ?_)
          refine Ent.trans (selA (c := Go.Sx.viewAt w0 g2 o2 1 ls.length (flat ienc ls))) (Ent.trans (Ent.viewAt hc2) ?_)
          exact entA
        · have e2 := loadsTo_skip (n := n) (ls := ls) (i := i) (by omega)
          repeat' (first | refine walk ?_ | exact trivial | refine Tw.mk ?_ ?_ | intro hc | (refine XO.loadL false TT_ok rfl rfl rfl rfl rfl rfl (by first | exact Reads.view hb1 | exact Reads.skip (Reads.view hb1) | exact Reads.skip (Reads.skip (Reads.view hb1)) | exact Reads.skip (Reads.skip (Reads.skip (Reads.view hb1))) | exact Reads.skip (Reads.skip (Reads.skip (Reads.skip (Reads.view hb1)))) | exact Reads.skip (Reads.skip (Reads.skip (Reads.skip (Reads.skip (Reads.view hb1))))) | exact Reads.skip (Reads.skip (Reads.skip (Reads.skip (Reads.skip (Reads.skip (Reads.view hb1)))))) | exact Reads.skip (Reads.skip (Reads.skip (Reads.skip (Reads.skip (Reads.skip (Reads.skip (Reads.view hb1))))))) | fail) ?_) | fail)
          refine ih (i + 1, a, c) _ _ (by simp only; omega) (by simp only; omega) ⟨rfl, rfl, rfl, rfl, (show Value.slice a (opens i op).length c = Value.slice a (opens (i + 1) op).length c from by rw [e1]), rfl, rfl, rfl, trivial⟩ ?_
          simp only [e1, e2]
          refine Ent.trans (selA (c := Go.Sx.viewAt w0 g1 o1 1 op.length (flat benc op))) (Ent.trans (Ent.viewAt hc1) ?_)
          exact entA
      · have e1 : opens (i + 1) op = opens i op ++ [i] := by rw [opens_succ, hbv]; simp
        by_cases hl2 : i < ls.length
        · obtain ⟨z, hz⟩ : ∃ z, ls[i]? = some z := ⟨_, List.getElem?_eq_getElem hl2⟩
          have hz1 : (flat ienc ls)[i * 1]? = some (kI z) := flat_get (i := i) (j := 0) ienc_len hz rfl
          have e2 := loadsTo_set (n := n) hz
          refine XS.sel1 (c := view w0 (.slice a2 ls.length c2) 1 ls.length (flat ienc ls)) (XS.viewOpen (by omega) fun g2 o2 c4 hv2 hc2 => ?_)
          injection hv2 with hv3 _ hv4
          subst hv3 hv4
          repeat' (first | refine walk ?_ | exact trivial | refine Tw.mk ?_ ?_ | intro hc | (refine XO.loadL true TT_ok rfl rfl rfl rfl rfl rfl (by first | exact Reads.view hb1 | exact Reads.skip (Reads.view hb1) | exact Reads.skip (Reads.skip (Reads.view hb1)) | exact Reads.skip (Reads.skip (Reads.skip (Reads.view hb1))) | exact Reads.skip (Reads.skip (Reads.skip (Reads.skip (Reads.view hb1)))) | exact Reads.skip (Reads.skip (Reads.skip (Reads.skip (Reads.skip (Reads.view hb1))))) | exact Reads.skip (Reads.skip (Reads.skip (Reads.skip (Reads.skip (Reads.skip (Reads.view hb1)))))) | exact Reads.skip (Reads.skip (Reads.skip (Reads.skip (Reads.skip (Reads.skip (Reads.skip (Reads.view hb1))))))) | fail) ?_) | (refine XO.load TT_ok rfl rfl rfl rfl rfl rfl (by first | exact Reads.view hz1 | exact Reads.skip (Reads.view hz1) | exact Reads.skip (Reads.skip (Reads.view hz1)) | exact Reads.skip (Reads.skip (Reads.skip (Reads.view hz1))) | exact Reads.skip (Reads.skip (Reads.skip (Reads.skip (Reads.view hz1)))) | exact Reads.skip (Reads.skip (Reads.skip (Reads.skip (Reads.skip (Reads.view hz1))))) | exact Reads.skip (Reads.skip (Reads.skip (Reads.skip (Reads.skip (Reads.skip (Reads.view hz1)))))) | exact Reads.skip (Reads.skip (Reads.skip (Reads.skip (Reads.skip (Reads.skip (Reads.skip (Reads.view hz1))))))) | fail) ?_) | (refine XO.sel1 (c := Row a c 3 1 _ _) ?_; refine XO.append (m := 1) (N := 1048577) TT_ok trivial rfl rfl rfl rfl rfl rfl rfl rfl rfl rfl rfl (ReadsL.skip (ReadsL.here 1)) rfl (by decide) rfl (by omega) rfl rfl (fun _ _ => trivial) (fun a' cap' => ?_)) | refine XO.sel1 (XO.storeRowE (xs := loadsTo n i ls) z ienc_len hiL TT_ok trivial rfl rfl rfl rfl rfl rfl rfl rfl trivial ?_) | fail)
          refine ih (i + 1, a', cap') _ _ (by simp only; omega) (by simp only; omega) ⟨rfl, rfl, rfl, rfl, (show Value.slice a' ((opens i op).length + 1) cap' = Value.slice a' (opens (i + 1) op).length cap' from by rw [e1]; simp), rfl, rfl, rfl, trivial⟩ ?_
          simp only [e1, e2, List.length_append, flat_snoc, List.length_singleton]
          refine Ent.trans (selA (c := Go.Sx.viewAt w0 g1 o1 1 op.length (flat benc op))) (Ent.trans (Ent.viewAt hc1) ?_)
          refine Ent.trans (selA (c := Go.Sx.viewAt w0 g2 o2 1 ls.length (flat ienc ls))) (Ent.trans (Ent.viewAt hc2) ?_)
          exact entA
        · have e2 := loadsTo_skip (n := n) (ls := ls) (i := i) (by omega)
          repeat' (first | refine walk ?_ | exact trivial | refine Tw.mk ?_ ?_ | intro hc | (refine XO.loadL true TT_ok rfl rfl rfl rfl rfl rfl (by first | exact Reads.view hb1 | exact Reads.skip (Reads.view hb1) | exact Reads.skip (Reads.skip (Reads.view hb1)) | exact Reads.skip (Reads.skip (Reads.skip (Reads.view hb1))) | exact Reads.skip (Reads.skip (Reads.skip (Reads.skip (Reads.view hb1)))) | exact Reads.skip (Reads.skip (Reads.skip (Reads.skip (Reads.skip (Reads.view hb1))))) | exact Reads.skip (Reads.skip (Reads.skip (Reads.skip (Reads.skip (Reads.skip (Reads.view hb1)))))) | exact Reads.skip (Reads.skip (Reads.skip (Reads.skip (Reads.skip (Reads.skip (Reads.skip (Reads.view hb1))))))) | fail) ?_) | (refine XO.sel1 (c := Row a c 3 1 _ _) ?_; refine XO.append (m := 1) (N := 1048577) TT_ok trivial rfl rfl rfl rfl rfl rfl rfl rfl rfl rfl rfl (ReadsL.skip (ReadsL.here 1)) rfl (by decide) rfl (by omega) rfl rfl (fun _ _ => trivial) (fun a' cap' => ?_)) | fail)
          refine ih (i + 1, a', cap') _ _ (by simp only; omega) (by simp only; omega) ⟨rfl, rfl, rfl, rfl, (show Value.slice a' ((opens i op).length + 1) cap' = Value.slice a' (opens (i + 1) op).length cap' from by rw [e1]; simp), rfl, rfl, rfl, trivial⟩ ?_
          simp only [e1, e2, List.length_append, flat_snoc, List.length_singleton]
          refine Ent.trans (selA (c := Go.Sx.viewAt w0 g1 o1 1 op.length (flat benc op))) (Ent.trans (Ent.viewAt hc1) ?_)
          exact entA
    · have e1 : opens (i + 1) op = opens i op := by rw [opens_succ, List.getElem?_eq_none (by omega)]; simp
      by_cases hl2 : i < ls.length
      · obtain ⟨z, hz⟩ : ∃ z, ls[i]? = some z := ⟨_, List.getElem?_eq_getElem hl2⟩
        have hz1 : (flat ienc ls)[i * 1]? = some (kI z) := flat_get (i := i) (j := 0) ienc_len hz rfl
        have e2 := loadsTo_set (n := n) hz
        refine XS.sel1 (c := view w0 (.slice a2 ls.length c2) 1 ls.length (flat ienc ls)) (XS.viewOpen (by omega) fun g2 o2 c4 hv2 hc2 => ?_)
        injection hv2 with hv3 _ hv4
        subst hv3 hv4
        repeat' (first | refine walk ?_ | exact trivial | refine Tw.mk ?_ ?_ | intro hc | (refine XO.load TT_ok rfl rfl rfl rfl rfl rfl (by first | exact Reads.view hz1 | exact Reads.skip (Reads.view hz1) | exact Reads.skip (Reads.skip (Reads.view hz1)) | exact Reads.skip (Reads.skip (Reads.skip (Reads.view hz1))) | exact Reads.skip (Reads.skip (Reads.skip (Reads.skip (Reads.view hz1)))) | exact Reads.skip (Reads.skip (Reads.skip (Reads.skip (Reads.skip (Reads.view hz1))))) | exact Reads.skip (Reads.skip (Reads.skip (Reads.skip (Reads.skip (Reads.skip (Reads.view hz1)))))) | exact Reads.skip (Reads.skip (Reads.skip (Reads.skip (Reads.skip (Reads.skip (Reads.skip (Reads.view hz1))))))) | fail) ?_) | refine XO.sel1 (XO.storeRowE (xs := loadsTo n i ls) z ienc_len hiL TT_ok trivial rfl rfl rfl rfl rfl rfl rfl rfl trivial ?_) | fail)
        refine ih (i + 1, a, c) _ _ (by simp only; omega) (by simp only; omega) ⟨rfl, rfl, rfl, rfl, (show Value.slice a (opens i op).length c = Value.slice a (opens (i + 1) op).length c from by rw [e1]), rfl, rfl, rfl, trivial⟩ ?_
        simp only [e1, e2]
        refine Ent.trans (selA (c := Go.Sx.viewAt w0 g2 o2 1 ls.length (flat ienc ls))) (Ent.trans (Ent.viewAt hc2) ?_)
        exact entA
      · have e2 := loadsTo_skip (n := n) (ls := ls) (i := i) (by omega)
        repeat' (first | refine walk ?_ | exact trivial | refine Tw.mk ?_ ?_ | intro hc | fail)
        refine ih (i + 1, a, c) _ _ (by simp only; omega) (by simp only; omega) ⟨rfl, rfl, rfl, rfl, (show Value.slice a (opens i op).length c = Value.slice a (opens (i + 1) op).length c from by rw [e1]), rfl, rfl, rfl, trivial⟩ ?_
        simp only [e1, e2]
        exact entA
  · obtain rfl : i = n := by omega
    clear ih
    have hin : ∀ j ∈ opens i op, j < i := fun j hj => (mem_opens.1 hj).1
    have hol := opens_len i op
    by_cases he : opens i op = []
    · have hl0 : (opens i op).length = 0 := by rw [he]; rfl
      repeat' (first | refine walk ?_ | exact trivial | refine Tw.mk ?_ ?_ | intro hc | fail)
      exact bal_out hr (h0 he) (h2 := by rw [hN])
    · have hpos : 0 < (opens i op).length := List.length_pos_iff.2 he
      have hlen' : (B.hs.length : Int) = i := by rw [hN]
      by_cases p2 : B.policy = 2
      · rw [p2]
        repeat' (first | refine walk ?_ | exact trivial | refine Tw.mk ?_ ?_ | intro hc | refine Tri.sel3 (minf_spec (loadsTo_len i i ls) (by omega) (by omega) hin (opens_asc i op) hpos (fun j hj => ?_)) | fail)
        exact bal_out hr (h2 p2 j (least_all hin hj)) (h1 := p2) (h2 := hlen')
      by_cases p3 : B.policy = 3
      · rw [p3]
        have hb := belowI_lt B.s (n := ((opens i op).length : Int)) (by omega)
        obtain ⟨q, hq⟩ := Int.eq_ofNat_of_zero_le hb.1
        have hql : q < (opens i op).length := by omega
        obtain ⟨z, hz⟩ : ∃ z, (opens i op)[q]? = some z := ⟨_, List.getElem?_eq_getElem hql⟩
        clear hb
        refine XS.sel1 (c := Row a c 3 1 (opens i op).length (flat nenc (opens i op))) (XS.rowOpen hpos fun gx hgx => ?_)
        subst hgx
        repeat' (first | refine walk ?_ | exact trivial | refine Tw.mk ?_ ?_ | intro hc | refine Tri.sel1 (below_eq (z := ((q : Nat) : Int)) hd (by omega) hq ?_) | fail)
        exact bal_out (B := { B with s := stepI B.s, d := B.d + 1 }) hr (h3 p3 q z hq hz) (h1 := p3) (h2 := hlen')
      by_cases p4 : B.policy = 4
      · rw [p4]
        repeat' (first | refine walk ?_ | exact trivial | refine Tw.mk ?_ ?_ | intro hc | refine Tri.sel3 (around_spec (hs := B.hs) (xs := opens i op) hr (by omega) hk (by omega) (fun j hj => ?_) (fun hno => ?_)) | fail)
        · exact bal_out hr (h4 p4 j hj) (h1 := p4) (h2 := hlen')
        · obtain ⟨z, hz⟩ : ∃ z, (opens i op)[0]? = some z := ⟨_, List.getElem?_eq_getElem hpos⟩
          have hm := List.mem_of_getElem? hz
          exact absurd hm (hno z (by rw [hN]; exact hin z hm))
      · repeat' (first | refine walk ?_ | exact trivial | refine Tw.mk ?_ ?_ | intro hc | (refine XO.maxI rfl rfl rfl rfl rfl (fun hc => ?_) (fun hc => ?_) <;> (try (exfalso; omega))) | refine Tri.sel3 (indexf_spec (xs := opens i op) (by omega) (fun j z hz hnx => ?_) (fun hnx => ?_)) | fail)
        · have hjl := (List.getElem?_eq_some_iff.1 hz).1
          rw [hnx] at h5
          refine XO.sel1 (c := Row a c 3 1 (opens i op).length (flat nenc (opens i op))) (XO.rowOpen hpos fun gx hgx => ?_)
          subst hgx
          repeat' (first | refine walk ?_ | exact trivial | refine Tw.mk ?_ ?_ | intro hc | fail)
          exact bal_out (B := { B with last := z }) hr (h5 p2 p3 p4 hpos) (h2 := hlen')
        · obtain ⟨z, hz⟩ : ∃ z, (opens i op)[0]? = some z := ⟨_, List.getElem?_eq_getElem hpos⟩
          rw [hnx z hz] at h5
          refine XO.sel1 (c := Row a c 3 1 (opens i op).length (flat nenc (opens i op))) (XO.rowOpen hpos fun gx hgx => ?_)
          subst hgx
          repeat' (first | refine walk ?_ | exact trivial | refine Tw.mk ?_ ?_ | intro hc | fail)
          exact bal_out (B := { B with last := z }) hr (h5 p2 p3 p4 hpos) (h2 := hlen')
end Go.Proofs.Ytpfnhkdhcjclpaa
