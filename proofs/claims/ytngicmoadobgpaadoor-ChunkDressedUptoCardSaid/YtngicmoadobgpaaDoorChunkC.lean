/- Contracts: a decoder of chunked bodies: Feed, New, Size. Conditions: what a decoder keeps. -/
import Derived.Test.YtngicmoadobgpaaDoorChunkB
namespace Go.Proofs.YtngicmoadobgpaaDoor
open Go Go.Sx Go.ChunkM Go.StrM
variable {w0 : World} {F H : List HProp} {K : Value → List HProp → Prop}
theorem dnew_spec {m : Int} (h : ∀ b, K (ptr b) (dec b (rdy m 0 0) :: F)) : Tri Tryd.prog 11 #[kI m] w0 F K := by
  refine Tri.enterF Tryd.func11 Tryd.ntmps11 Tryd.results11 rfl rfl fun fr hfr => ?_
  repeat' (first | refine walk ?_ | exact trivial | refine Tw.mk ?_ ?_ | (intro (b : Nat)) | exact Out.e (h b) (dec_nil (D := rdy m 0 0) rfl) | fail)
theorem dsize_spec {b c : Nat} {D : DS} {a : Option Addr} (h : K (kI D.size) (dcel b D a c :: F)) : Tri Tryd.prog 15 #[ptr b] w0 (dcel b D a c :: F) K := by
  refine Tri.enterF Tryd.func15 Tryd.ntmps15 Tryd.results15 rfl rfl fun fr hfr => ?_
  repeat' (first | refine walk ?_ | exact trivial | refine Tw.mk ?_ ?_ | exact Out.i h | fail)
theorem run_next {l : List UInt8} {i : Nat} {x : UInt8} {D : DS} (hc : l[i]? = some x) (hs : stops D = false) : run fieldOk D (l.drop i) = ((run fieldOk (ChunkM.step fieldOk D x).1 (l.drop (i + 1))).1, (ChunkM.step fieldOk D x).2 ++ (run fieldOk (ChunkM.step fieldOk D x).1 (l.drop (i + 1))).2.1, (run fieldOk (ChunkM.step fieldOk D x).1 (l.drop (i + 1))).2.2 + 1) := by
  have hlt := (List.getElem?_eq_some_iff.1 hc)
  rw [List.drop_eq_getElem_cons hlt.1, hlt.2, run, hs, if_neg (by simp)]
/-- What a loop of Feed keeps. -/
structure FeedI (D : DS) (l : List UInt8) (i : Nat) (D' : DS) (out : List UInt8) : Prop where
  le : i ≤ l.length
  ok : Ok D'
  noErr : D'.err = 0
  same : D'.most = D.most
  few : out.length ≤ i
  sz : D'.size = D.size + out.length
  goes : run fieldOk D l = ((run fieldOk D' (l.drop i)).1, out ++ (run fieldOk D' (l.drop i)).2.1, i + (run fieldOk D' (l.drop i)).2.2)
theorem FeedI.next {D D' : DS} {l out : List UInt8} {i : Nat} {x : UInt8} (I : FeedI D l i D' out) (hc : l[i]? = some x) (h4 : D'.state ≠ 4) (h1 : D'.state ≠ 1) (ht : (take fieldOk D' x).2 = 0) : FeedI D l (i + 1) { (take fieldOk D' x).1 with err := (take fieldOk D' x).2 } out := by
  have hs : stops D' = false := by simp [stops, h4, I.noErr]
  have hn := run_next hc hs
  have e1 : ChunkM.step fieldOk D' x = ({ (take fieldOk D' x).1 with err := (take fieldOk D' x).2 }, []) := by unfold ChunkM.step; rw [if_neg h1]
  rw [e1] at hn
  have ho := step_ok (fld := fieldOk) x I.ok hs
  rw [e1] at ho
  have hf := I.few
  refine ⟨(List.getElem?_eq_some_iff.1 hc).1, ho.1, ht, ho.2.1.trans I.same, by omega, by have := ho.2.2; simp only [List.length_nil, Int.natCast_zero, Int.add_zero] at this; rw [this, I.sz], ?_⟩
  rw [I.goes, hn]
  simp only [List.nil_append]
  congr 2
  omega
theorem FeedI.fails {D D' : DS} {l out : List UInt8} {i : Nat} {x : UInt8} (I : FeedI D l i D' out) (he : D.err = 0) (hc : l[i]? = some x) (h4 : D'.state ≠ 4) (h1 : D'.state ≠ 1) (ht : (take fieldOk D' x).2 ≠ 0) : feed fieldOk D l = ({ (take fieldOk D' x).1 with err := (take fieldOk D' x).2 }, [], 0, false, (take fieldOk D' x).2) := by
  have hs : stops D' = false := by simp [stops, h4, I.noErr]
  have hn := run_next hc hs
  have e1 : ChunkM.step fieldOk D' x = ({ (take fieldOk D' x).1 with err := (take fieldOk D' x).2 }, []) := by unfold ChunkM.step; rw [if_neg h1]
  have hst : run fieldOk { (take fieldOk D' x).1 with err := (take fieldOk D' x).2 } (l.drop (i + 1)) = ({ (take fieldOk D' x).1 with err := (take fieldOk D' x).2 }, [], 0) := run_stop (by simp [stops, ht]) _
  rw [e1] at hn
  dsimp only at hn
  rw [hst] at hn
  have hr := I.goes
  rw [hn] at hr
  unfold feed
  rw [if_neg (by simp [he]), hr]
  simp [ht]
theorem FeedI.ends {D D' : DS} {l out : List UInt8} {i : Nat} (I : FeedI D l i D' out) (he : D.err = 0) (hx : ¬ (i < l.length ∧ D'.state ≠ 4)) : feed fieldOk D l = (D', out, i, decide (D'.state = 4), 0) := by
  have e1 : run fieldOk D' (l.drop i) = (D', [], 0) := by
    by_cases h4 : D'.state = 4
    · exact run_stop (by simp [stops, h4]) _
    · have : i = l.length := by have := I.le; have : ¬ i < l.length := fun h => hx ⟨h, h4⟩; omega
      rw [this, List.drop_length]; rfl
  have hr := I.goes
  rw [e1] at hr
  unfold feed
  rw [if_neg (by simp [he]), hr]
  simp [I.noErr]
theorem FeedI.data {D D' D2 : DS} {l out : List UInt8} {i n : Nat} (I : FeedI D l i D' out) (_hm : lim D) (h1 : D'.state = 1) (hn0 : 0 < n) (hn : i + n ≤ l.length) (hl : (n : Int) ≤ D'.left) (hD2 : D2 = { D' with left := D'.left - n, size := D'.size + n, state := if D'.left - n = 0 then 2 else 1 }) : FeedI D l (i + n) D2 (out ++ (l.drop i).take (i + n - i)) := by
  have e1 : i + n - i = n := by omega
  have hd := I.ok.dat h1
  have hs := I.ok.s0
  have hf := I.few
  have hr := run_data (fld := fieldOk) n (l.drop i) D' h1 I.noErr hn0 (by rw [List.length_drop]; omega) hl
  rw [← hD2, List.drop_drop] at hr
  rw [e1]
  refine ⟨hn, ?_, by rw [hD2]; exact I.noErr, by rw [hD2]; exact I.same, by simp only [List.length_append, List.length_take]; omega, by rw [hD2]; simp only [List.length_append, List.length_take, List.length_drop, I.sz]; omega, ?_⟩
  · rw [hD2]
    refine ⟨by simp only; omega, .inr (by simp only; omega), by simp only; split <;> simp, ?_, I.ok.line, I.ok.trl⟩
    simp only
    split
    · intro h; cases h
    · intro; omega
  · rw [I.goes, hr]
    simp only [List.append_assoc]
    congr 2
    omega
set_option maxHeartbeats 1000000 in
set_option maxRecDepth 20000 in
theorem feed_spec {b : Nat} {D : DS} {l : List UInt8} (hl : l.length ≤ 4611686018427387904) (hw : l.length ≤ 140737488355328 ∨ D.most ≤ 140737488355328) (hD : Ok D) (hm : lim D) (h : K (.tuple #[kS (feed fieldOk D l).2.1, kI (feed fieldOk D l).2.2.1, .bool (feed fieldOk D l).2.2.2.1, kI (feed fieldOk D l).2.2.2.2]) (dec b (feed fieldOk D l).1 :: F)) :
    Tri Tryd.prog 12 #[ptr b, kS l] w0 (dec b D :: F) K := by
  refine dec_open fun a c => ?_
  by_cases he : D.err ≠ 0
  · have e : feed fieldOk D l = (D, [], 0, false, D.err) := by unfold feed; rw [if_pos he]
    rw [e] at h
    refine Tri.enterF Tryd.func12 Tryd.ntmps12 Tryd.results12 rfl rfl fun fr hfr => ?_
    repeat' (first | refine walk ?_ | exact trivial | refine Tw.mk ?_ ?_ | intro hy | (exfalso; omega) | exact Out.e h dec_mk | fail)
  have he : D.err = 0 := by omega
  refine Tri.enterF Tryd.func12 Tryd.ntmps12 Tryd.results12 rfl rfl fun fr hfr => ?_
  repeat' (first | refine walk ?_ | exact trivial | refine Tw.mk ?_ ?_ | intro hy | (intro (b2 : Nat)) | (exfalso; omega) | fail)
  rename_i b2
  refine XS.loopI (ι := Nat × DS × List UInt8 × Option Addr × Nat) (fun q => [(0, ptr b), (1, kS l), (8, ptr b2), (9, kI q.1)]) (fun q => dcel b q.2.1 q.2.2.2.1 q.2.2.2.2 :: bRow q.2.2.2.1 q.2.2.2.2 q.2.1.line :: bld b2 74 q.2.2.1 :: F) (fun q => FeedI D l q.1 q.2.1 q.2.2.1) (fun q => l.length - q.1) (0, D, [], a, c)
    ⟨Nat.zero_le _, hD, he, rfl, Nat.zero_le _, by simp, by simp⟩ ⟨rfl, rfl, rfl, rfl, trivial⟩ (Ent.trans bld_new Ent.back2) ?_
  rintro ⟨i, D', out, a', c'⟩ e I ih
  dsimp only at I ⊢
  have hi := I.le
  have hof := I.few
  by_cases hx : i < l.length ∧ D'.state ≠ 4
  · obtain ⟨hlt, h4⟩ := hx
    obtain ⟨x, hc⟩ : ∃ c, l[i]? = some c := ⟨_, List.getElem?_eq_getElem hlt⟩
    by_cases h1 : D'.state = 1
    · have hd := I.ok.dat h1
      have hs := I.ok.s0
      have hmm : D'.most ≤ 9223372036854775807 := by rw [I.same]; exact hm.2
      obtain ⟨n, n1, n2, n3, n4⟩ : ∃ n : Nat, (D'.left ≤ l.length - i → (n : Int) = D'.left) ∧ ((l.length : Int) - i < D'.left → (n : Int) = l.length - i) ∧ 0 < n ∧ i + n ≤ l.length := by
        by_cases hle : D'.left ≤ l.length - i
        · exact ⟨D'.left.toNat, by omega, by omega, by omega, by omega⟩
        · exact ⟨l.length - i, by omega, by omega, by omega, by omega⟩
      have n5 : (n : Int) ≤ D'.left := by omega
      have n6 : out.length + n ≤ 140737488355328 := by
        have := I.sz
        have := hD.s0
        have := I.same
        omega
      have hst1 : D'.left - n = 0 → FeedI D l (i + n) { D' with left := D'.left - n, size := D'.size + n, state := 2 } (out ++ (l.drop i).take (i + n - i)) := fun h0 => I.data hm h1 n3 n4 n5 (by rw [if_pos h0])
      have hst2 : D'.left - n ≠ 0 → FeedI D l (i + n) { D' with left := D'.left - n, size := D'.size + n } (out ++ (l.drop i).take (i + n - i)) := fun h0 => I.data hm h1 n3 n4 n5 (by rw [if_neg h0, ← h1])
      repeat' (first | refine walk ?_ | exact trivial | refine Tw.mk ?_ ?_ | intro hy | (exfalso; omega) | refine XO.minE (n : Int) rfl rfl rfl rfl rfl n1 n2 ?_ | refine XO.subLH i (i + n) TT_ok rfl rfl rfl rfl rfl rfl rfl rfl (by omega) (by omega) (by omega) ?_ | (refine Tri.sel1 (c := bld b2 74 out) (wstr_spec bldT_own (by simp only [List.length_take, List.length_drop]; omega) ?_)) | fail)
      · exact ih (i + n, { D' with left := D'.left - n, size := D'.size + n, state := 2 }, out ++ (l.drop i).take (i + n - i), a', c') _ _ (hst1 (by assumption)) (by simp only; omega) ⟨rfl, rfl, rfl, rfl, trivial⟩ entA
      · exact ih (i + n, { D' with left := D'.left - n, size := D'.size + n }, out ++ (l.drop i).take (i + n - i), a', c') _ _ (hst2 (by assumption)) (by simp only; omega) ⟨rfl, rfl, rfl, rfl, trivial⟩ entA
    · by_cases ht : (take fieldOk D' x).2 = 0
      · have I2 := I.next hc h4 h1 ht
        repeat' (first | refine walk ?_ | exact trivial | refine Tw.mk ?_ ?_ | intro hy | (intro (a2 : Option Addr) (c2 : Nat)) | (exfalso; omega) | refine take2_spec I.ok (by unfold lim; rw [I.same]; exact hm) ?_ | fail)
        all_goals first | (exfalso; omega) | (rename_i a2 c2; exact ih (i + 1, { (take fieldOk D' x).1 with err := (take fieldOk D' x).2 }, out, a2, c2) _ _ I2 (by simp only; omega) ⟨rfl, rfl, rfl, rfl, trivial⟩ entA)
      · have ef := I.fails he hc h4 h1 ht
        rw [ef] at h
        repeat' (first | refine walk ?_ | exact trivial | refine Tw.mk ?_ ?_ | intro hy | (intro (a2 : Option Addr) (c2 : Nat)) | (exfalso; omega) | refine take2_spec I.ok (by unfold lim; rw [I.same]; exact hm) ?_ | fail)
        all_goals first | (exfalso; omega) | exact Out.e h (Ent.trans (dec_mk (D := { (take fieldOk D' x).1 with err := (take fieldOk D' x).2 })) (Ent.cons _ (Ent.drop _ _)))
  · have ef := I.ends he hx
    rw [ef] at h
    clear ih
    by_cases h4 : D'.state = 4
    · rw [h4] at h
      repeat' (first | refine walk ?_ | exact trivial | refine Tw.mk ?_ ?_ | intro hy | (exfalso; omega) | refine XS.drawH (T := TT) [(5, [0], heldC ⟨b, 2, none⟩ (kI D'.state))] [(5, [0])] rfl follows_ok (by decide +kernel) ?_ | (refine Tri.sel1 (c := bld b2 74 out) (bstr_spec ?_)) | exact Out.e h dec_mk | refine XO.callH (by repeat' (first | exact trivial | exact readA | exact heldM_0 | exact heldM_1 | exact heldM_2 | exact heldM_3 | exact heldM_4 | refine And.intro ?_ ?_ | exact Reads.here rfl | refine Reads.skip ?_)) rfl rfl rfl (by kernel_rfl) rfl ?_ | refine And.intro (by repeat' (first | exact trivial | exact readA | exact heldM_0 | exact heldM_1 | exact heldM_2 | exact heldM_3 | exact heldM_4 | refine And.intro ?_ ?_ | exact Reads.here rfl | refine Reads.skip ?_)) ?_ | refine XO.loadH TT_ok rfl rfl rfl rfl rfl rfl (by repeat' (first | exact trivial | exact readA | exact heldM_0 | exact heldM_1 | exact heldM_2 | exact heldM_3 | exact heldM_4 | refine And.intro ?_ ?_ | exact Reads.here rfl | refine Reads.skip ?_)) ?_ | refine XO.buildSlice TT_ok (by repeat' (first | exact trivial | exact readA | exact heldM_0 | exact heldM_1 | exact heldM_2 | exact heldM_3 | exact heldM_4 | refine And.intro ?_ ?_ | exact Reads.here rfl | refine Reads.skip ?_)) rfl rfl rfl rfl rfl rfl rfl rfl rfl rfl rfl rfl (fun _ => (by repeat' (first | exact trivial | exact readA | exact heldM_0 | exact heldM_1 | exact heldM_2 | exact heldM_3 | exact heldM_4 | refine And.intro ?_ ?_ | exact Reads.here rfl | refine Reads.skip ?_))) (fun b1 => ?_) | fail)
    · have h5 : decide (D'.state = 4) = false := by simpa using h4
      rw [h5] at h
      have h6 : i = l.length := by have : ¬ i < l.length := fun h => hx ⟨h, h4⟩; omega
      repeat' (first | refine walk ?_ | exact trivial | refine Tw.mk ?_ ?_ | intro hy | (exfalso; omega) | refine XS.drawH (T := TT) [(5, [0], heldC ⟨b, 2, none⟩ (kI D'.state))] [(5, [0])] rfl follows_ok (by decide +kernel) ?_ | (refine Tri.sel1 (c := bld b2 74 out) (bstr_spec ?_)) | exact Out.e h dec_mk | refine XO.callH (by repeat' (first | exact trivial | exact readA | exact heldM_0 | exact heldM_1 | exact heldM_2 | exact heldM_3 | exact heldM_4 | refine And.intro ?_ ?_ | exact Reads.here rfl | refine Reads.skip ?_)) rfl rfl rfl (by kernel_rfl) rfl ?_ | refine And.intro (by repeat' (first | exact trivial | exact readA | exact heldM_0 | exact heldM_1 | exact heldM_2 | exact heldM_3 | exact heldM_4 | refine And.intro ?_ ?_ | exact Reads.here rfl | refine Reads.skip ?_)) ?_ | refine XO.loadH TT_ok rfl rfl rfl rfl rfl rfl (by repeat' (first | exact trivial | exact readA | exact heldM_0 | exact heldM_1 | exact heldM_2 | exact heldM_3 | exact heldM_4 | refine And.intro ?_ ?_ | exact Reads.here rfl | refine Reads.skip ?_)) ?_ | refine XO.buildSlice TT_ok (by repeat' (first | exact trivial | exact readA | exact heldM_0 | exact heldM_1 | exact heldM_2 | exact heldM_3 | exact heldM_4 | refine And.intro ?_ ?_ | exact Reads.here rfl | refine Reads.skip ?_)) rfl rfl rfl rfl rfl rfl rfl rfl rfl rfl rfl rfl (fun _ => (by repeat' (first | exact trivial | exact readA | exact heldM_0 | exact heldM_1 | exact heldM_2 | exact heldM_3 | exact heldM_4 | refine And.intro ?_ ?_ | exact Reads.here rfl | refine Reads.skip ?_))) (fun b1 => ?_) | fail)
end Go.Proofs.YtngicmoadobgpaaDoor
