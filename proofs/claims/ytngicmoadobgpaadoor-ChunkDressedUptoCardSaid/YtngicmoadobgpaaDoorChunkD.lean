/- The statements on chunked bodies: the anchor, ChunkPieces. Conditions: none. -/
import Derived.Test.YtngicmoadobgpaaDoorChunkC
import Derived.Test.YtngicmoadobgpaaDoorChunkL
namespace Go.Proofs.YtngicmoadobgpaaDoor
open Go Go.Sx Go.ChunkM Go.StrM
variable {w0 : World} {F H : List HProp} {K : Value → List HProp → Prop}
/-- Feed, its answer named. -/
theorem feed_at {b : Nat} {D D' : DS} {l o : List UInt8} {k : Nat} {t : Bool} {er : Int} (he : feed fieldOk D l = (D', o, k, t, er)) (hl : l.length ≤ 140737488351232) (hD : Ok D) (hm : lim D) (h : K (.tuple #[kS o, kI k, .bool t, kI er]) (dec b D' :: F)) : Tri Tryd.prog 12 #[ptr b, kS l] w0 (dec b D :: F) K :=
  feed_spec (by omega) (.inl (by omega)) hD hm (by rw [he]; exact h)
/-- The same, whatever the length, where a body may not be too long. -/
theorem feed_big {b : Nat} {D D' : DS} {l o : List UInt8} {k : Nat} {t : Bool} {er : Int} (he : feed fieldOk D l = (D', o, k, t, er)) (hl : l.length ≤ 4611686018427387904) (hb : D.most ≤ 140737488355328) (hD : Ok D) (hm : lim D) (h : K (.tuple #[kS o, kI k, .bool t, kI er]) (dec b D' :: F)) : Tri Tryd.prog 12 #[ptr b, kS l] w0 (dec b D :: F) K :=
  feed_spec hl (.inr hb) hD hm (by rw [he]; exact h)
theorem dsize2_spec {b : Nat} {D : DS} (h : K (kI D.size) (dec b D :: F)) : Tri Tryd.prog 15 #[ptr b] w0 (dec b D :: F) K :=
  dec_open fun _ _ => Tri.post (dsize_spec ⟨_, dec_mk, h⟩)
theorem rdy_ok {m : Int} : Ok (rdy m 0 0) := ⟨Int.le_refl _, .inl rfl, by simp [rdy], by simp [rdy], Nat.zero_le _, .inl (by simp [rdy])⟩
theorem anc1 : feed fieldOk (rdy 9 0 0) [51, 59, 120, 61, 49, 13, 10, 97, 98] = (⟨9, 2, 1, 1, [], false, 0, 0⟩, [97, 98], 9, false, 0) := by kernel_rfl
theorem anc2 : feed fieldOk ⟨9, 2, 1, 1, [], false, 0, 0⟩ [99, 13, 10, 48, 13, 10, 84, 58, 32, 118, 13, 10, 13, 10, 114, 101, 115, 116] = (⟨9, 3, 4, 0, [], false, 1, 0⟩, [99], 14, true, 0) := by kernel_rfl
set_option maxRecDepth 20000 in
theorem canchor_spec (h : K (.bool true) F) : Tri Tryd.prog 10 #[] w0 F K := by
  refine Tri.enterF Tryd.func10 Tryd.ntmps10 Tryd.results10 rfl rfl fun fr hfr => ?_
  repeat' (first | refine walk ?_ | exact trivial | refine Tw.mk ?_ ?_ | intro hy | (intro (b : Nat)) | refine dnew_spec (fun b => ?_) | refine feed_at anc1 (by decide) rdy_ok (by unfold lim; decide) ?_ | refine feed_at anc2 (by decide) ⟨by decide, by decide, by decide, by decide, by decide, .inl (by decide)⟩ (by unfold lim; decide) ?_ | refine dsize2_spec ?_ | (exfalso; exact hy rfl) | exact Out.s0 h | fail)
set_option maxHeartbeats 1000000 in
set_option maxRecDepth 20000 in
theorem chunk_pieces {m : Int} {s : List UInt8} (hm : -9223372036854775808 ≤ m ∧ m ≤ 9223372036854775807) (hs : s.length ≤ 140737488351232) : Tri Tryd.prog 3 #[kI m, kS s] w0 F fun v _ => v = .bool true := by
  by_cases h5 : (s.length : Int) > 5000
  · refine Tri.enterF Tryd.func3 Tryd.ntmps3 Tryd.results3 rfl rfl fun fr hfr => ?_
    repeat' (first | refine walk ?_ | exact trivial | refine Tw.mk ?_ ?_ | intro hy | refine canchor_spec ?_ | (exfalso; omega) | exact Out.i rfl | fail)
  have hlim : lim (rdy m 0 0) := hm
  generalize hA : feed fieldOk (rdy m 0 0) s = A
  obtain ⟨DA, wh, n, ok, er⟩ := A
  refine Tri.enterF Tryd.func3 Tryd.ntmps3 Tryd.results3 rfl rfl fun fr hfr => ?_
  repeat' (first | refine walk ?_ | exact trivial | refine Tw.mk ?_ ?_ | intro hy | (intro (b : Nat)) | refine canchor_spec ?_ | (exfalso; omega) | refine dnew_spec (fun b => ?_) | (refine Tri.sel1 (c := dec _ (rdy m 0 0)) (feed_at hA hs rdy_ok hlim ?_)) | fail)
  rename_i b
  obtain ⟨R, hR⟩ : ∃ R : Nat → DS × List UInt8 × Nat, R = fun i => run fieldOk (rdy m 0 0) (s.take i) := ⟨_, rfl⟩
  have hRi : ∀ i, run fieldOk (rdy m 0 0) (s.take i) = R i := fun i => by rw [hR]
  have hR0 : R 0 = (rdy m 0 0, [], 0) := by rw [← hRi]; rfl
  refine XS.loopI (ι := Nat) (fun i => [(1, kS s), (6, ptr b), (7, kS wh), (8, kI n), (9, .bool ok), (10, kI er), (11, kS (R i).2.1), (12, kI (R i).2.2), (42, kI s.length), (43, kI i)]) (fun i => dec b (R i).1 :: F) (fun i => i ≤ s.length ∧ (R i).1.err = 0) (fun i => s.length - i) 0
    ⟨Nat.zero_le _, by rw [hR0]; rfl⟩ (by rw [hR0]; exact ⟨rfl, rfl, rfl, rfl, rfl, rfl, rfl, rfl, rfl, rfl, trivial⟩) (by rw [hR0]; exact Ent.drop _ _) ?_
  rintro i e ⟨hi, he⟩ ih
  have hok := run_ok (fld := fieldOk) (s.take i) (d := rdy m 0 0) rdy_ok
  have hou := run_out (fld := fieldOk) (s.take i) (rdy m 0 0)
  have hle := run_le (fld := fieldOk) (s.take i) (rdy m 0 0)
  have htl : (s.take i).length ≤ i := by rw [List.length_take]; omega
  rw [hRi] at hok hou hle
  have hlm : lim (R i).1 := by unfold lim; rw [hok.2.1]; exact hm
  by_cases hlt : i < s.length
  · obtain ⟨x, hc⟩ : ∃ c, s[i]? = some c := ⟨_, List.getElem?_eq_getElem hlt⟩
    have hp := pieces_step (fld := fieldOk) (D0 := rdy m 0 0) hc rfl (by rw [hRi]; exact he)
    have e1 : (s.drop i).take (i + 1 - i) = [x] := by
      have := (List.getElem?_eq_some_iff.1 hc)
      rw [List.drop_eq_getElem_cons this.1, this.2, show i + 1 - i = 1 by omega]; rfl
    have hl1 : ((s.drop i).take (i + 1 - i)).length ≤ 140737488351232 := by rw [e1]; simp
    rw [hA, hRi, hRi, ← e1] at hp
    dsimp only at hp
    rcases hp with hp | ⟨o, k, t, hB, h1, h2, h3, h4⟩
    · generalize hB : feed fieldOk (R i).1 ((s.drop i).take (i + 1 - i)) = B at hp
      obtain ⟨D1, o, k, t, e2⟩ := B
      dsimp only at hp
      obtain ⟨p1, rfl, rfl, rfl⟩ := hp
      repeat' (first | refine walk ?_ | exact trivial | refine Tw.mk ?_ ?_ | intro hy | (exfalso; omega) | refine XO.subLH i (i + 1) TT_ok rfl rfl rfl rfl rfl rfl rfl rfl rfl (by omega) (by omega) ?_ | refine feed_at hB hl1 hok.1 hlm ?_ | (exfalso; exact hy rfl) | exact Out.i rfl | fail)
    · have o1 := run_out (fld := fieldOk) (s.take (i + 1)) (rdy m 0 0)
      have o2 := run_le (fld := fieldOk) (s.take (i + 1)) (rdy m 0 0)
      rw [hRi] at o1 o2
      have o3 : (s.take (i + 1)).length ≤ i + 1 := by rw [List.length_take]; omega
      have o4 := congrArg List.length h2
      rw [List.length_append] at o4
      cases ok <;> by_cases hu : (R (i + 1)).2.2 = n <;> simp only [hu, decide_true, decide_false, Bool.and_true, Bool.and_false] at h4 <;> subst h4
      all_goals
        repeat' (first | refine walk ?_ | exact trivial | refine Tw.mk ?_ ?_ | intro hy | (exfalso; omega) | refine XO.subLH i (i + 1) TT_ok rfl rfl rfl rfl rfl rfl rfl rfl rfl (by omega) (by omega) ?_ | refine feed_at hB hl1 hok.1 hlm ?_ | (exfalso; exact hy rfl) | refine ih (i + 1) _ _ ⟨hlt, h1⟩ (by omega) ⟨rfl, rfl, rfl, rfl, rfl, rfl, (congrArg kS h2.symm), (congrArg kI (by omega)), rfl, rfl, trivial⟩ entA | fail)
  · obtain rfl : i = s.length := by omega
    clear ih
    have hq := pieces_end (fld := fieldOk) (D0 := rdy m 0 0) (s := s) rfl (by have := he; rw [← hRi, List.take_length] at this; exact this)
    have hrl := hRi s.length
    rw [List.take_length] at hrl
    rw [hA, hrl] at hq
    dsimp only at hq
    obtain ⟨q1, q2, rfl⟩ := hq
    have q1' := q1.symm
    repeat' (first | refine walk ?_ | exact trivial | refine Tw.mk ?_ ?_ | intro hy | (exfalso; omega) | (exfalso; exact hy rfl) | (exfalso; exact hy q1') | exact Out.i rfl | fail)
end Go.Proofs.YtngicmoadobgpaaDoor
