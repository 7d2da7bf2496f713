/- Some texts put together: lemmas and contracts for the law. Conditions: as each text says. -/
import Derived.Test.YtngicmoadobgpaaDoorU18
import Derived.Test.YtngicmoadobgpaaDoorU5
/- Contracts: the document's status line, at the one that is written. Conditions: none. -/
namespace Go.Proofs.YtngicmoadobgpaaDoor
open Go Go.Sx Go.ChunkM Go.StrM Go.EmitM
variable {w0 : World} {F H : List HProp} {K : Value → List HProp → Prop}
set_option maxHeartbeats 1000000 in
theorem status_spec (h : K (.tuple #[.agg ⟨stHead (.slice none 0 0)⟩, kI 0]) F) : Tri Tryd.prog 56 #[kS [72, 84, 84, 80, 47, 49, 46, 49, 32, 50, 48, 48, 32, 79, 75]] w0 F K := by
  obtain ⟨l, hl⟩ : ∃ l : List UInt8, l = [72, 84, 84, 80, 47, 49, 46, 49, 32, 50, 48, 48, 32, 79, 75] := ⟨_, rfl⟩
  have h15 : l.length = 15 := by rw [hl]; rfl
  have t8 : l.take 8 = [72, 84, 84, 80, 47, 49, 46, 49] := by rw [hl]; rfl
  have d9 : (l.drop 9).take (12 - 9) = [50, 48, 48] := by rw [hl]; rfl
  have d13 : l.drop 13 = [79, 75] := by rw [hl]; rfl
  obtain ⟨x8, hx8, e8⟩ : ∃ x, l[8]? = some x ∧ x.toNat = 32 := ⟨32, by rw [hl]; rfl, rfl⟩
  obtain ⟨x12, hx12, e12⟩ : ∃ x, l[12]? = some x ∧ x.toNat = 32 := ⟨32, by rw [hl]; rfl, rfl⟩
  obtain ⟨r, hr⟩ : ∃ r : List UInt8, r = [79, 75] := ⟨_, rfl⟩
  have r2 : r.length = 2 := by rw [hr]; rfl
  obtain ⟨y0, hy0, f0⟩ : ∃ x, r[0]? = some x ∧ x.toNat = 79 := ⟨79, by rw [hr]; rfl, rfl⟩
  obtain ⟨y1, hy1, f1⟩ : ∃ x, r[1]? = some x ∧ x.toNat = 75 := ⟨75, by rw [hr]; rfl, rfl⟩
  rw [← hl]
  rw [← hr] at d13
  unfold stHead at h
  rw [← hr] at h
  clear hl hr
  refine Tri.enterF Tryd.func56 Tryd.ntmps56 Tryd.results56 rfl rfl fun fr hfr => ?_
  repeat' (first | refine walk ?_ | exact trivial | refine Tw.mk ?_ ?_ | (intro (bt : Nat)) | intro hy | (exfalso; omega) | refine XO.subLHE 9 12 d9 TT_ok rfl rfl rfl rfl rfl rfl rfl rfl rfl (by omega) (by omega) ?_ | refine dec200_spec ?_ | refine XO.subLoE 13 d13 TT_ok rfl rfl rfl rfl rfl rfl rfl (by omega) ?_ | fail)
  refine XS.loopI (ι := Nat) (fun i => [(0, kS l), (2, ptr bt), (4, kI 200), (6, kS r), (7, kI i)]) (fun _ => cel bt 61 (headV [] [] 0 [] 0 (.slice none 0 0)) :: F) (fun i => i ≤ 2) (fun i => 2 - i) 0 (Nat.zero_le _) ⟨rfl, rfl, rfl, rfl, rfl, trivial⟩ (Ent.refl _) ?_
  rintro i e hi ih
  have : i = 0 ∨ i = 1 ∨ i = 2 := by omega
  rcases this with rfl | rfl | rfl
  · repeat' (first | refine walk ?_ | exact trivial | refine Tw.mk ?_ ?_ | intro hy | (exfalso; omega) | exact ih 1 _ _ (by omega) (by omega) ⟨rfl, rfl, rfl, rfl, rfl, trivial⟩ (Ent.refl _) | fail)
  · repeat' (first | refine walk ?_ | exact trivial | refine Tw.mk ?_ ?_ | intro hy | (exfalso; omega) | exact ih 2 _ _ (by omega) (by omega) ⟨rfl, rfl, rfl, rfl, rfl, trivial⟩ (Ent.refl _) | fail)
  · clear ih
    repeat' (first | refine walk ?_ | exact trivial | refine Tw.mk ?_ ?_ | intro hy | (exfalso; omega) | refine XO.subHiE 8 t8 TT_ok rfl rfl rfl rfl rfl rfl rfl (by omega) ?_ | refine version_spec ?_ | (exfalso; exact hy rfl) | exact Out.e h (Ent.drop _ _) | fail)
end Go.Proofs.YtngicmoadobgpaaDoor

/- Contracts: the document's heads, read off what is written. Conditions: the fields are right and few. -/
namespace Go.EmitM
open Go.ChunkM Go.StrM
/-- Fields' lines. -/
def fls (fs : List Fld) : List UInt8 := fs.flatMap fun f => fieldL f.1 f.2
theorem fls_cons (n v : List UInt8) (r : List Fld) : fls ((n, v) :: r) = (n ++ 58 :: 32 :: v) ++ 13 :: 10 :: fls r := by simp [fls, fieldL, crlf]
theorem fls_app (a b : List Fld) : fls (a ++ b) = fls a ++ fls b := by simp [fls]
/-- A field whose line may be read. -/
def fRead (f : Fld) : Prop := tokenP f.1 ∧ valueP f.2 ∧ f.1.length + f.2.length ≤ 508
theorem line_ok {n v : List UInt8} (hn : tokenP n) (hv : valueP v) : ∀ c ∈ n ++ 58 :: 32 :: v, c ≠ 10 ∧ c ≠ 13 := by
  intro c hc
  have h3 : c.toNat ≠ 10 ∧ c.toNat ≠ 13 := by
    rcases List.mem_append.1 hc with hc | hc
    · have := hn.2 c hc
      rw [tokB_iff] at this
      omega
    · rcases List.mem_cons.1 hc with rfl | hc
      · decide
      · rcases List.mem_cons.1 hc with rfl | hc
        · decide
        · have := hv.1 c hc
          simp only [valB, decide_eq_true_eq] at this
          omega
  exact ⟨fun e => h3.1 (by rw [e]; rfl), fun e => h3.2 (by rw [e]; rfl)⟩
end Go.EmitM
namespace Go.Proofs.YtngicmoadobgpaaDoor
open Go Go.Sx Go.ChunkM Go.StrM Go.EmitM
variable {w0 : World} {F H : List HProp} {K : Value → List HProp → Prop}
def atQ (n1 : Nat) (fs : List Fld) : Nat → Nat
  | 0 => 0
  | k + 1 => n1 + 2 + (fls (fs.take k)).length
theorem drop_at {l1 s : List UInt8} {fs : List Fld} {k : Nat} (hs : s = l1 ++ 13 :: 10 :: (fls fs ++ [13, 10])) : s.drop (l1.length + 2 + (fls (fs.take k)).length) = fls (fs.drop k) ++ [13, 10] := by
  have h1 : fls fs = fls (fs.take k) ++ fls (fs.drop k) := by rw [← fls_app, List.take_append_drop]
  have h2 : s = (l1 ++ [13, 10] ++ fls (fs.take k)) ++ (fls (fs.drop k) ++ [13, 10]) := by rw [hs, h1]; simp
  rw [h2, List.drop_append_of_le_length (by simp; omega), List.drop_of_length_le (by simp; omega)]
  rfl
set_option maxHeartbeats 2000000 in
theorem readQ_spec {fs : List Fld} (hF : ∀ f ∈ fs, fRead f) (hl : fs.length ≤ 32) (hb : (fls fs).length ≤ 1000000) (h : ∀ a c, K (.tuple #[.agg ⟨reqHead (.slice a fs.length c)⟩, kI (reqLine ++ 13 :: 10 :: (fls fs ++ [13, 10])).length, kI 0]) (fRow a c fs :: F)) : Tri Tryd.prog 32 #[kS (reqLine ++ 13 :: 10 :: (fls fs ++ [13, 10])), .bool false] w0 F K := by
  obtain ⟨l1, hl1⟩ : ∃ l1, l1 = reqLine := ⟨_, rfl⟩
  rw [← hl1] at h ⊢
  have hn1 : l1.length = 14 := by rw [hl1]; rfl
  have hc1 : ∀ c ∈ l1, c ≠ 10 ∧ c ≠ 13 := by rw [hl1]; decide
  obtain ⟨s, hs⟩ : ∃ s, s = l1 ++ 13 :: 10 :: (fls fs ++ [13, 10]) := ⟨_, rfl⟩
  rw [← hs] at h ⊢
  have hsl : s.length = 14 + 2 + ((fls fs).length + 2) := by rw [hs]; simp only [List.length_append, List.length_cons, List.length_nil, hn1]; omega
  have hd0 : s.drop 0 = l1 ++ 13 :: 10 :: (fls fs ++ [13, 10]) := by rw [List.drop_zero]; exact hs
  have ht0 : (s.drop 0).take (14 - 0) = l1 := by rw [hd0, List.take_append_of_le_length (by omega), List.take_of_length_le (by omega)]
  obtain ⟨x0, hx0, e0⟩ : ∃ x, s[0]? = some x ∧ x.toNat = 71 := ⟨71, by rw [hs, hl1]; rfl, rfl⟩
  have hdk := fun k => drop_at (k := k) hs
  rw [hn1] at hdk
  refine Tri.enterF Tryd.func32 Tryd.ntmps32 Tryd.results32 rfl rfl fun fr hfr => ?_
  repeat' (first | refine walk ?_ | exact trivial | refine Tw.mk ?_ ?_ | (intro (b4 : Nat)) | intro hy | (exfalso; omega) | fail)
  refine XS.loopI (ι := Unit) (fun _ => [(0, kS s), (1, .bool false), (4, ptr b4), (7, kI 0)]) (fun _ => cel b4 61 (headV [] [] 0 [] 0 (.slice none 0 0)) :: F) (fun _ => True) (fun _ => 0) () trivial ⟨rfl, rfl, rfl, rfl, trivial⟩ (Ent.refl _) ?_
  rintro _ e _ ih
  clear ih
  repeat' (first | refine walk ?_ | exact trivial | refine Tw.mk ?_ ?_ | (intro (b8 : Nat)) | intro hy | (exfalso; omega) | fail)
  refine XS.loopI (ι := Nat × Option Addr × Nat) (fun q => [(0, kS s), (1, .bool false), (4, ptr b4), (7, kI (atQ 14 fs q.1)), (8, ptr b8), (9, .int .i64 ((q.1 : Int) - 1))]) (fun q => cel b8 61 (if q.1 = 0 then headV [] [] 0 [] 0 (.slice none 0 0) else reqHead (.slice q.2.1 (fs.take (q.1 - 1)).length q.2.2)) :: fRow q.2.1 q.2.2 (fs.take (q.1 - 1)) :: cel b4 61 (headV [] [] 0 [] 0 (.slice none 0 0)) :: F)
    (fun q => q.1 ≤ fs.length + 1) (fun q => fs.length + 1 - q.1) (0, none, 0) (Nat.zero_le _) ⟨rfl, rfl, rfl, rfl, rfl, rfl, trivial⟩ (Ent.cons _ (Row.nil _ _ _)) ?_
  rintro ⟨q, a, c⟩ e hq ih
  simp only at hq
  dsimp only
  rcases q with _ | k
  · simp only [if_true]
    repeat' (first | refine walk ?_ | exact trivial | refine Tw.mk ?_ ?_ | intro hy | (exfalso; omega) | (exfalso; exact hy rfl) | refine end_spec (a := 0) (line := l1) (rest := fls fs ++ [13, 10]) (most := 1100) (by omega) hd0 hc1 (by omega) (by omega) ?_ | refine XO.subLHE 0 14 ht0 TT_ok rfl rfl rfl rfl rfl rfl rfl rfl (by omega) (by omega) (by omega) ?_ | (rw [hl1]; refine start_spec ?_) | fail)
    refine ih (1, none, 0) _ _ (by simp only; omega) (by simp only; omega) ⟨rfl, rfl, rfl, congrArg (Value.int .i64) (by rw [atQ, List.take_zero]; first | rfl | (rw [hn1]; rfl)), rfl, rfl, trivial⟩ ?_
    simp only [Nat.succ_ne_zero, if_false, Nat.sub_self, List.take_zero]
    exact Ent.cons _ (Ent.trans (Ent.drop _ _) (Row.nil _ _ _))
  · rw [if_neg (Nat.succ_ne_zero k), Nat.add_sub_cancel]
    have hdk1 := hdk k
    have hdl := congrArg List.length hdk1
    rw [List.length_drop, List.length_append] at hdl
    have hat : atQ 14 fs (k + 1) = 14 + 2 + (fls (fs.take k)).length := rfl
    have hfk : (fls fs).length = (fls (fs.take k)).length + (fls (fs.drop k)).length := by rw [← List.length_append, ← fls_app, List.take_append_drop]
    rw [hat]
    have hml : (fs.take k).length ≤ k := by rw [List.length_take]; omega
    by_cases hlt : k < fs.length
    · obtain ⟨⟨n1, v1⟩, hf⟩ : ∃ f, fs[k]? = some f := ⟨_, List.getElem?_eq_getElem hlt⟩
      obtain ⟨g1, g2, g3⟩ := hF _ (List.mem_of_getElem? hf)
      simp only at g1 g2 g3
      have hdr : fs.drop k = (n1, v1) :: fs.drop (k + 1) := by
        obtain ⟨_, hv⟩ := List.getElem?_eq_some_iff.1 hf
        rw [List.drop_eq_getElem_cons hlt, hv]
      have hE : s.drop (14 + 2 + (fls (fs.take k)).length) = (n1 ++ 58 :: 32 :: v1) ++ 13 :: 10 :: (fls (fs.drop (k + 1)) ++ [13, 10]) := by
        rw [hdk1, hdr, fls_cons]; simp
      have hll : (n1 ++ 58 :: 32 :: v1).length = n1.length + v1.length + 2 := by simp; omega
      have hfd : (fls (fs.drop k)).length = n1.length + v1.length + 4 + (fls (fs.drop (k + 1))).length := by rw [hdr, fls_cons]; simp; omega
      have hsub : (s.drop (14 + 2 + (fls (fs.take k)).length)).take (14 + 2 + (fls (fs.take k)).length + (n1 ++ 58 :: 32 :: v1).length - (14 + 2 + (fls (fs.take k)).length)) = n1 ++ 58 :: 32 :: v1 := by
        rw [hE, Nat.add_sub_cancel_left, List.take_append_of_le_length (Nat.le_refl _), List.take_length]
      have hne : (s.drop (14 + 2 + (fls (fs.take k)).length)).take (14 + 2 + (fls (fs.take k)).length + (n1 ++ 58 :: 32 :: v1).length - (14 + 2 + (fls (fs.take k)).length)) ≠ [] := by rw [hsub]; simp
      have htk : fs.take (k + 1) = fs.take k ++ [(n1, v1)] := by rw [List.take_add_one, hf]; rfl
      have hfl : flat fenc (fs.take k) ++ [kS n1, kS v1] = flat fenc (fs.take (k + 1)) := by rw [htk, flat_snoc]; rfl
      have hsn : (fs.take (k + 1)).length = (fs.take k).length + 1 := by rw [htk, List.length_append]; rfl
      have hnx : (14 + 2 + (fls (fs.take k)).length + (n1 ++ 58 :: 32 :: v1).length) + 2 = 14 + 2 + (fls (fs.take (k + 1))).length := by
        rw [hll, htk, fls_app, List.length_append]
        have : (fls [(n1, v1)]).length = n1.length + v1.length + 4 := by rw [fls_cons]; simp [fls]; omega
        omega
      generalize hX : n1 ++ 58 :: 32 :: v1 = X at *
      have hXl : X.length = (n1 ++ 58 :: 32 :: v1).length := by rw [hX]
      repeat' (first | refine walk ?_ | exact trivial | refine Tw.mk ?_ ?_ | (intro (bt : Nat)) | intro hy | (exfalso; omega) | (exfalso; exact hy rfl) | refine end_spec (line := X) (rest := fls (fs.drop (k + 1)) ++ [13, 10]) (most := 512) (by omega) hE (by rw [← hX]; exact line_ok g1 g2) (by omega) (by omega) ?_ | refine XO.subLHE _ _ hsub TT_ok rfl rfl rfl rfl rfl rfl rfl rfl (by omega) (by omega) (by omega) ?_ | (rw [hsub, ← hX]; refine rfield_spec g1 g2 (by omega) ?_) | (refine XO.sel1 (c := fRow _ _ (fs.take k)) ?_; refine XO.appendG (N := 4398046511104) (flat fenc (fs.take (k + 1))) TT_ok trivial rfl rfl rfl rfl rfl rfl rfl rfl rfl rfl rfl rfl rfl (by omega) rfl rfl hfl (fun _ _ => trivial) (fun a' cap' => ?_)) | fail)
      refine ih (k + 2, a', cap') _ _ (by simp only; omega) (by simp only; omega) ⟨rfl, rfl, rfl, congrArg (Value.int .i64) (by show _ = ((14 + 2 + (fls (fs.take (k + 1))).length : Nat) : Int); omega), rfl, congrArg (Value.int .i64) (by simp only; omega), trivial⟩ ?_
      dsimp only
      rw [if_neg (Nat.succ_ne_zero (k + 1)), show k + 2 - 1 = k + 1 from rfl, hsn]
      show Ent _ (_ :: Row a' cap' 59 2 (fs.take (k + 1)).length (flat fenc (fs.take (k + 1))) :: _)
      rw [hsn]
      exact entA
    · obtain rfl : k = fs.length := by omega
      clear ih
      have hE : s.drop (14 + 2 + (fls (fs.take fs.length)).length) = [] ++ 13 :: 10 :: [] := by rw [hdk1, List.drop_length]; rfl
      have hz : (fls (fs.drop fs.length)).length = 0 := by rw [List.drop_length]; rfl
      have hsub : (s.drop (14 + 2 + (fls (fs.take fs.length)).length)).take (14 + 2 + (fls (fs.take fs.length)).length + ([] : List UInt8).length - (14 + 2 + (fls (fs.take fs.length)).length)) = [] := by
        rw [Nat.add_sub_cancel_left]; rfl
      have hnx : (14 + 2 + (fls (fs.take fs.length)).length + ([] : List UInt8).length) + 2 = s.length := by rw [List.length_nil]; omega
      repeat' (first | refine walk ?_ | exact trivial | refine Tw.mk ?_ ?_ | (intro (bt : Nat)) | intro hy | (exfalso; omega) | (exfalso; exact hy rfl) | refine end_spec (line := []) (rest := []) (most := 512) (by omega) hE (by simp) (by simp) (by omega) ?_ | refine XO.subLHE _ _ hsub TT_ok rfl rfl rfl rfl rfl rfl rfl rfl (by omega) (by omega) (by omega) ?_ | fail)
      have e1 : fs.take fs.length = fs := List.take_length
      have hz2 : ((14 + 2 + (fls (fs.take fs.length)).length + ([] : List UInt8).length : Nat) : Int) + 2 = (s.length : Int) := by rw [← hnx]; rfl
      rw [hz2, e1]
      exact Out.e (h _ _) (Ent.trans (Ent.drop _ _) (Ent.drop _ _))
set_option maxHeartbeats 2000000 in
theorem readS_spec {fs : List Fld} (hF : ∀ f ∈ fs, fRead f) (hl : fs.length ≤ 32) (hb : (fls fs).length ≤ 1000000) (h : ∀ a c, K (.tuple #[.agg ⟨stHead (.slice a fs.length c)⟩, kI (stLine ++ 13 :: 10 :: (fls fs ++ [13, 10])).length, kI 0]) (fRow a c fs :: F)) : Tri Tryd.prog 32 #[kS (stLine ++ 13 :: 10 :: (fls fs ++ [13, 10])), .bool true] w0 F K := by
  obtain ⟨l1, hl1⟩ : ∃ l1, l1 = stLine := ⟨_, rfl⟩
  rw [← hl1] at h ⊢
  have hn1 : l1.length = 15 := by rw [hl1]; rfl
  have hc1 : ∀ c ∈ l1, c ≠ 10 ∧ c ≠ 13 := by rw [hl1]; decide
  obtain ⟨s, hs⟩ : ∃ s, s = l1 ++ 13 :: 10 :: (fls fs ++ [13, 10]) := ⟨_, rfl⟩
  rw [← hs] at h ⊢
  have hsl : s.length = 15 + 2 + ((fls fs).length + 2) := by rw [hs]; simp only [List.length_append, List.length_cons, List.length_nil, hn1]; omega
  have hd0 : s.drop 0 = l1 ++ 13 :: 10 :: (fls fs ++ [13, 10]) := by rw [List.drop_zero]; exact hs
  have ht0 : (s.drop 0).take (15 - 0) = l1 := by rw [hd0, List.take_append_of_le_length (by omega), List.take_of_length_le (by omega)]
  obtain ⟨x0, hx0, e0⟩ : ∃ x, s[0]? = some x ∧ x.toNat = 72 := ⟨72, by rw [hs, hl1]; rfl, rfl⟩
  have hdk := fun k => drop_at (k := k) hs
  rw [hn1] at hdk
  refine Tri.enterF Tryd.func32 Tryd.ntmps32 Tryd.results32 rfl rfl fun fr hfr => ?_
  repeat' (first | refine walk ?_ | exact trivial | refine Tw.mk ?_ ?_ | (intro (b4 : Nat)) | intro hy | (exfalso; omega) | fail)
  refine XS.loopI (ι := Unit) (fun _ => [(0, kS s), (1, .bool true), (4, ptr b4), (7, kI 0)]) (fun _ => cel b4 61 (headV [] [] 0 [] 0 (.slice none 0 0)) :: F) (fun _ => True) (fun _ => 0) () trivial ⟨rfl, rfl, rfl, rfl, trivial⟩ (Ent.refl _) ?_
  rintro _ e _ ih
  clear ih
  repeat' (first | refine walk ?_ | exact trivial | refine Tw.mk ?_ ?_ | (intro (b8 : Nat)) | intro hy | (exfalso; omega) | fail)
  refine XS.loopI (ι := Nat × Option Addr × Nat) (fun q => [(0, kS s), (1, .bool true), (4, ptr b4), (7, kI (atQ 15 fs q.1)), (8, ptr b8), (9, .int .i64 ((q.1 : Int) - 1))]) (fun q => cel b8 61 (if q.1 = 0 then headV [] [] 0 [] 0 (.slice none 0 0) else stHead (.slice q.2.1 (fs.take (q.1 - 1)).length q.2.2)) :: fRow q.2.1 q.2.2 (fs.take (q.1 - 1)) :: cel b4 61 (headV [] [] 0 [] 0 (.slice none 0 0)) :: F)
    (fun q => q.1 ≤ fs.length + 1) (fun q => fs.length + 1 - q.1) (0, none, 0) (Nat.zero_le _) ⟨rfl, rfl, rfl, rfl, rfl, rfl, trivial⟩ (Ent.cons _ (Row.nil _ _ _)) ?_
  rintro ⟨q, a, c⟩ e hq ih
  simp only at hq
  dsimp only
  rcases q with _ | k
  · simp only [if_true]
    repeat' (first | refine walk ?_ | exact trivial | refine Tw.mk ?_ ?_ | intro hy | (exfalso; omega) | (exfalso; exact hy rfl) | refine end_spec (a := 0) (line := l1) (rest := fls fs ++ [13, 10]) (most := 1100) (by omega) hd0 hc1 (by omega) (by omega) ?_ | refine XO.subLHE 0 15 ht0 TT_ok rfl rfl rfl rfl rfl rfl rfl rfl (by omega) (by omega) (by omega) ?_ | (rw [hl1]; refine startS_spec ?_) | refine status_spec ?_ | fail)
    refine ih (1, none, 0) _ _ (by simp only; omega) (by simp only; omega) ⟨rfl, rfl, rfl, congrArg (Value.int .i64) (by rw [atQ, List.take_zero]; first | rfl | (rw [hn1]; rfl)), rfl, rfl, trivial⟩ ?_
    simp only [Nat.succ_ne_zero, if_false, Nat.sub_self, List.take_zero]
    exact Ent.cons _ (Ent.trans (Ent.drop _ _) (Row.nil _ _ _))
  · rw [if_neg (Nat.succ_ne_zero k), Nat.add_sub_cancel]
    have hdk1 := hdk k
    have hdl := congrArg List.length hdk1
    rw [List.length_drop, List.length_append] at hdl
    have hat : atQ 15 fs (k + 1) = 15 + 2 + (fls (fs.take k)).length := rfl
    have hfk : (fls fs).length = (fls (fs.take k)).length + (fls (fs.drop k)).length := by rw [← List.length_append, ← fls_app, List.take_append_drop]
    rw [hat]
    have hml : (fs.take k).length ≤ k := by rw [List.length_take]; omega
    by_cases hlt : k < fs.length
    · obtain ⟨⟨n1, v1⟩, hf⟩ : ∃ f, fs[k]? = some f := ⟨_, List.getElem?_eq_getElem hlt⟩
      obtain ⟨g1, g2, g3⟩ := hF _ (List.mem_of_getElem? hf)
      simp only at g1 g2 g3
      have hdr : fs.drop k = (n1, v1) :: fs.drop (k + 1) := by
        obtain ⟨_, hv⟩ := List.getElem?_eq_some_iff.1 hf
        rw [List.drop_eq_getElem_cons hlt, hv]
      have hE : s.drop (15 + 2 + (fls (fs.take k)).length) = (n1 ++ 58 :: 32 :: v1) ++ 13 :: 10 :: (fls (fs.drop (k + 1)) ++ [13, 10]) := by
        rw [hdk1, hdr, fls_cons]; simp
      have hll : (n1 ++ 58 :: 32 :: v1).length = n1.length + v1.length + 2 := by simp; omega
      have hfd : (fls (fs.drop k)).length = n1.length + v1.length + 4 + (fls (fs.drop (k + 1))).length := by rw [hdr, fls_cons]; simp; omega
      have hsub : (s.drop (15 + 2 + (fls (fs.take k)).length)).take (15 + 2 + (fls (fs.take k)).length + (n1 ++ 58 :: 32 :: v1).length - (15 + 2 + (fls (fs.take k)).length)) = n1 ++ 58 :: 32 :: v1 := by
        rw [hE, Nat.add_sub_cancel_left, List.take_append_of_le_length (Nat.le_refl _), List.take_length]
      have hne : (s.drop (15 + 2 + (fls (fs.take k)).length)).take (15 + 2 + (fls (fs.take k)).length + (n1 ++ 58 :: 32 :: v1).length - (15 + 2 + (fls (fs.take k)).length)) ≠ [] := by rw [hsub]; simp
      have htk : fs.take (k + 1) = fs.take k ++ [(n1, v1)] := by rw [List.take_add_one, hf]; rfl
      have hfl : flat fenc (fs.take k) ++ [kS n1, kS v1] = flat fenc (fs.take (k + 1)) := by rw [htk, flat_snoc]; rfl
      have hsn : (fs.take (k + 1)).length = (fs.take k).length + 1 := by rw [htk, List.length_append]; rfl
      have hnx : (15 + 2 + (fls (fs.take k)).length + (n1 ++ 58 :: 32 :: v1).length) + 2 = 15 + 2 + (fls (fs.take (k + 1))).length := by
        rw [hll, htk, fls_app, List.length_append]
        have : (fls [(n1, v1)]).length = n1.length + v1.length + 4 := by rw [fls_cons]; simp [fls]; omega
        omega
      generalize hX : n1 ++ 58 :: 32 :: v1 = X at *
      have hXl : X.length = (n1 ++ 58 :: 32 :: v1).length := by rw [hX]
      repeat' (first | refine walk ?_ | exact trivial | refine Tw.mk ?_ ?_ | (intro (bt : Nat)) | intro hy | (exfalso; omega) | (exfalso; exact hy rfl) | refine end_spec (line := X) (rest := fls (fs.drop (k + 1)) ++ [13, 10]) (most := 512) (by omega) hE (by rw [← hX]; exact line_ok g1 g2) (by omega) (by omega) ?_ | refine XO.subLHE _ _ hsub TT_ok rfl rfl rfl rfl rfl rfl rfl rfl (by omega) (by omega) (by omega) ?_ | (rw [hsub, ← hX]; refine rfield_spec g1 g2 (by omega) ?_) | (refine XO.sel1 (c := fRow _ _ (fs.take k)) ?_; refine XO.appendG (N := 4398046511104) (flat fenc (fs.take (k + 1))) TT_ok trivial rfl rfl rfl rfl rfl rfl rfl rfl rfl rfl rfl rfl rfl (by omega) rfl rfl hfl (fun _ _ => trivial) (fun a' cap' => ?_)) | fail)
      refine ih (k + 2, a', cap') _ _ (by simp only; omega) (by simp only; omega) ⟨rfl, rfl, rfl, congrArg (Value.int .i64) (by show _ = ((15 + 2 + (fls (fs.take (k + 1))).length : Nat) : Int); omega), rfl, congrArg (Value.int .i64) (by simp only; omega), trivial⟩ ?_
      dsimp only
      rw [if_neg (Nat.succ_ne_zero (k + 1)), show k + 2 - 1 = k + 1 from rfl, hsn]
      show Ent _ (_ :: Row a' cap' 59 2 (fs.take (k + 1)).length (flat fenc (fs.take (k + 1))) :: _)
      rw [hsn]
      exact entA
    · obtain rfl : k = fs.length := by omega
      clear ih
      have hE : s.drop (15 + 2 + (fls (fs.take fs.length)).length) = [] ++ 13 :: 10 :: [] := by rw [hdk1, List.drop_length]; rfl
      have hz : (fls (fs.drop fs.length)).length = 0 := by rw [List.drop_length]; rfl
      have hsub : (s.drop (15 + 2 + (fls (fs.take fs.length)).length)).take (15 + 2 + (fls (fs.take fs.length)).length + ([] : List UInt8).length - (15 + 2 + (fls (fs.take fs.length)).length)) = [] := by
        rw [Nat.add_sub_cancel_left]; rfl
      have hnx : (15 + 2 + (fls (fs.take fs.length)).length + ([] : List UInt8).length) + 2 = s.length := by rw [List.length_nil]; omega
      repeat' (first | refine walk ?_ | exact trivial | refine Tw.mk ?_ ?_ | (intro (bt : Nat)) | intro hy | (exfalso; omega) | (exfalso; exact hy rfl) | refine end_spec (line := []) (rest := []) (most := 512) (by omega) hE (by simp) (by simp) (by omega) ?_ | refine XO.subLHE _ _ hsub TT_ok rfl rfl rfl rfl rfl rfl rfl rfl (by omega) (by omega) (by omega) ?_ | fail)
      have e1 : fs.take fs.length = fs := List.take_length
      have hz2 : ((15 + 2 + (fls (fs.take fs.length)).length + ([] : List UInt8).length : Nat) : Int) + 2 = (s.length : Int) := by rw [← hnx]; rfl
      rw [hz2, e1]
      exact Out.e (h _ _) (Ent.trans (Ent.drop _ _) (Ent.drop _ _))
end Go.Proofs.YtngicmoadobgpaaDoor

/- Contracts: names that the gateway writes itself. Conditions: the name is small. -/
namespace Go.Sx
open Go Go.RowKit
section
variable {P : Program} {T : Tbl} {w0 : World} {n : Nat} {HL : Held} {ops : Array Oper} {J : Env → List HProp → Prop} {ix : Nat} {rest : List Oper} {o : Oper} {e : Env} {H : List HProp}
/-- An element of an array's value. -/
theorem XO.indexV {x y : Operand} {t u : TypeId} {len s i : Nat} {cs : Array Value} {k : IntKind} {z : Int} {v : Value} {d : Nat} (hz : z = i) (hT : T.Ok P) (hg : wantedE ops e n o = true) (hd : o.dst = some d) (hop : o.op = .index t x y) (hu : T.und t = some (.array len u)) (hs : T.size u = some s)
    (hx : e.ev n x = .agg cs) (hy : e.ev n y = .int k z) (h1 : i < len) (hv : partT T u cs (i * s) = some v) (h : XO P T w0 n HL ops J (ix + 1) rest (e.upd d v) H) : XO P T w0 n HL ops J ix (o :: rest) e H := by
  subst hz
  refine .pureOp (v := v) hg (by rw [hop]; rfl) (fun w => ?_) (by rw [hd]; exact h)
  have hp := partT_sound hT hv w
  have h0 : (0 : Int) ≤ (i : Int) ∧ (i : Int) < (len : Int) := ⟨by omega, by omega⟩
  simp [execOp, hop, Instr.index, run_und hT hu, run_size hT hs, hx, hy, asIntOf, h1, hp]
end
end Go.Sx
namespace Go.EmitM
open Go.ChunkM Go.StrM
def lHost : List UInt8 := [104, 111, 115, 116]
def lVia : List UInt8 := [118, 105, 97]
def lXff : List UInt8 := [120, 45, 102, 111, 114, 119, 97, 114, 100, 101, 100, 45, 102, 111, 114]
def lUpg : List UInt8 := [117, 112, 103, 114, 97, 100, 101]
/-- Is a name an element of the list x? -/
def isIn (x n : List UInt8) : Bool := has [([110], x)] [110] n
/-- Does the gateway write such a field by itself? -/
def ownB (x : List UInt8) (up : Bool) : Bool := (isIn x lHost || (isIn x lVia || isIn x lXff)) || (up && (isIn x conn || isIn x lUpg))
end Go.EmitM
namespace Go.Proofs.YtngicmoadobgpaaDoor
open Go Go.Sx Go.ChunkM Go.StrM Go.EmitM
variable {w0 : World} {F H : List HProp} {K : Value → List HProp → Prop}
theorem has_cel {x n : List UInt8} {b : Nat} (hx : x.length ≤ 1000000) (hn : n.length ≤ 1000) (h : K (.bool (isIn x n)) F) : Tri Tryd.prog 59 #[.slice (some ⟨b, 0, none⟩) 1 1, kS [110], kS n] w0 (cel b 59 [kS [110], kS x] :: F) K := by
  refine Tri.ent (Ent.celView (w0 := w0) (n := 1) (es := 2) rfl (by simp [maxLen])) (Tri.post ?_)
  exact rhas_spec (fs := [([110], x)]) (nm := [110]) (el := n) (a := some ⟨b, 0, none⟩) (c := 1) ⟨by simp, by simp [fbytes]; omega⟩ (by simp) (by omega) ⟨F, Ent.drop _ _, h⟩
theorem own_spec {x : List UInt8} {up : Bool} (hx : x.length ≤ 1000000) (h : K (.bool (ownB x up)) F) : Tri Tryd.prog 35 #[kS x, .bool up] w0 F K := by
  refine Tri.enterF Tryd.func35 Tryd.ntmps35 Tryd.results35 rfl rfl fun fr hfr => ?_
  repeat' (first | refine walk ?_ | exact trivial | refine Tw.mk ?_ ?_ | intro hy | refine XO.buildArr TT_ok rfl rfl rfl rfl rfl rfl rfl rfl ?_ | fail)
  refine XS.loopI (ι := Nat) (fun i => [(0, kS x), (1, .bool up), (7, .agg ⟨[kS lHost, kS lVia, kS lXff]⟩), (8, kI i)]) (fun _ => F)
    (fun i => i ≤ 3 ∧ (0 < i → isIn x lHost = false) ∧ (1 < i → isIn x lVia = false) ∧ (2 < i → isIn x lXff = false)) (fun i => 3 - i) 0 ⟨Nat.zero_le _, by simp, by simp, by simp⟩ ⟨rfl, rfl, rfl, rfl, trivial⟩ (Ent.refl _) ?_
  rintro i e ⟨hi, p0, p1, p2⟩ ih
  have hcase : i = 0 ∨ i = 1 ∨ i = 2 ∨ i = 3 := by omega
  rcases hcase with rfl | rfl | rfl | rfl
  · cases hb : isIn x lHost
    · repeat' (first | refine walk ?_ | exact trivial | refine Tw.mk ?_ ?_ | (intro (bx : Nat)) | intro hy | (exfalso; omega) | refine XO.indexV (i := 0) rfl TT_ok rfl rfl rfl rfl rfl rfl rfl (by decide) rfl ?_ | (refine has_cel (n := lHost) hx (by decide) ?_; rw [hb]) | fail)
      exact ih 1 _ _ ⟨by omega, fun _ => hb, fun h => absurd h (by omega), fun h => absurd h (by omega)⟩ (by omega) ⟨rfl, rfl, rfl, rfl, trivial⟩ entA
    · have : ownB x up = true := by simp [ownB, hb]
      rw [this] at h
      repeat' (first | refine walk ?_ | exact trivial | refine Tw.mk ?_ ?_ | (intro (bx : Nat)) | intro hy | (exfalso; omega) | refine XO.indexV (i := 0) rfl TT_ok rfl rfl rfl rfl rfl rfl rfl (by decide) rfl ?_ | (refine has_cel (n := lHost) hx (by decide) ?_; rw [hb]) | exact Out.i h | fail)
  · cases hb : isIn x lVia
    · repeat' (first | refine walk ?_ | exact trivial | refine Tw.mk ?_ ?_ | (intro (bx : Nat)) | intro hy | (exfalso; omega) | refine XO.indexV (i := 1) rfl TT_ok rfl rfl rfl rfl rfl rfl rfl (by decide) rfl ?_ | (refine has_cel (n := lVia) hx (by decide) ?_; rw [hb]) | fail)
      exact ih 2 _ _ ⟨by omega, fun _ => p0 (by omega), fun _ => hb, fun h => absurd h (by omega)⟩ (by omega) ⟨rfl, rfl, rfl, rfl, trivial⟩ entA
    · have : ownB x up = true := by simp [ownB, hb]
      rw [this] at h
      repeat' (first | refine walk ?_ | exact trivial | refine Tw.mk ?_ ?_ | (intro (bx : Nat)) | intro hy | (exfalso; omega) | refine XO.indexV (i := 1) rfl TT_ok rfl rfl rfl rfl rfl rfl rfl (by decide) rfl ?_ | (refine has_cel (n := lVia) hx (by decide) ?_; rw [hb]) | exact Out.i h | fail)
  · cases hb : isIn x lXff
    · repeat' (first | refine walk ?_ | exact trivial | refine Tw.mk ?_ ?_ | (intro (bx : Nat)) | intro hy | (exfalso; omega) | refine XO.indexV (i := 2) rfl TT_ok rfl rfl rfl rfl rfl rfl rfl (by decide) rfl ?_ | (refine has_cel (n := lXff) hx (by decide) ?_; rw [hb]) | fail)
      exact ih 3 _ _ ⟨by omega, fun _ => p0 (by omega), fun _ => p1 (by omega), fun _ => hb⟩ (by omega) ⟨rfl, rfl, rfl, rfl, trivial⟩ entA
    · have : ownB x up = true := by simp [ownB, hb]
      rw [this] at h
      repeat' (first | refine walk ?_ | exact trivial | refine Tw.mk ?_ ?_ | (intro (bx : Nat)) | intro hy | (exfalso; omega) | refine XO.indexV (i := 2) rfl TT_ok rfl rfl rfl rfl rfl rfl rfl (by decide) rfl ?_ | (refine has_cel (n := lXff) hx (by decide) ?_; rw [hb]) | exact Out.i h | fail)
  · clear ih
    have e0 : ownB x up = (up && (isIn x conn || isIn x lUpg)) := by simp [ownB, p0 (by omega), p1 (by omega), p2 (by omega)]
    rw [e0] at h
    cases up
    · repeat' (first | refine walk ?_ | exact trivial | refine Tw.mk ?_ ?_ | (intro (bx : Nat)) | intro hy | (exfalso; omega) | exact Out.i h | fail)
    · cases hb : isIn x conn
      · rw [hb] at h
        repeat' (first | refine walk ?_ | exact trivial | refine Tw.mk ?_ ?_ | (intro (bx : Nat)) | intro hy | (exfalso; omega) | (refine has_cel (n := conn) hx (by decide) ?_; rw [hb]) | refine has_cel (n := lUpg) hx (by decide) ?_ | exact Out.i h | fail)
      · rw [hb] at h
        repeat' (first | refine walk ?_ | exact trivial | refine Tw.mk ?_ ?_ | (intro (bx : Nat)) | intro hy | (exfalso; omega) | (refine has_cel (n := conn) hx (by decide) ?_; rw [hb]) | exact Out.i h | fail)
end Go.Proofs.YtngicmoadobgpaaDoor

/- What is written, as fields; how many of a name there are; in plain Lean. Conditions: none. -/
namespace Go.EmitM
open Go.ChunkM Go.StrM
/-- What is told on of fields, as fields. -/
def onF (but : List (List UInt8)) (fs : List Fld) : List Fld := (strip fs).filter fun f => !but.any fun n => alike f.1 n
theorem onL_fls (but : List (List UInt8)) (fs : List Fld) : onL but fs = fls (onF but fs) := by
  unfold onL onF fls
  induction strip fs with
  | nil => rfl
  | cons f l ih =>
    rw [List.flatMap_cons, List.filter_cons, ih]
    unfold onP
    cases h : but.any fun n => alike f.1 n <;> simp
def upF (up : List UInt8) : List Fld := if up = [] then [] else [(nConn, vUpg), (nUpg, up)]
/-- A request's fields, a head's. -/
def reqFs (fs : List Fld) (up : List UInt8) : List Fld := (nHost, [104]) :: (onF butR fs ++ ((nXff, joinV (values fs nXff) [49]) :: (nVia, joinV (values fs nVia) vVia) :: upF up))
def hdFs (fs : List Fld) (up : List UInt8) : List Fld := onF butH fs ++ ((nVia, joinV (values fs nVia) vVia) :: upF up)
theorem fls_one (n v : List UInt8) (r : List Fld) : fls ((n, v) :: r) = fieldL n v ++ fls r := by simp [fls]
theorem fls_up (up : List UInt8) : fls (upF up) = if up = [] then [] else fieldL nConn vUpg ++ fieldL nUpg up := by
  unfold upF; split <;> simp [fls]
theorem req_eq (fs : List Fld) (up : List UInt8) : reqL [71, 69, 84] [47] [104] 0 fs [] false [49] up = reqLine ++ 13 :: 10 :: (fls (reqFs fs up) ++ [13, 10]) := by
  unfold reqL reqFs
  rw [fls_one, fls_app, fls_one, fls_one, fls_up, ← onL_fls]
  simp [hostL, joinL, reqLine, vHttp, crlf]
theorem hd_eq (fs : List Fld) (up : List UInt8) (h200 : Lib.itoa 200 = [50, 48, 48]) : headL 200 [] fs 1 0 true up = stLine ++ 13 :: 10 :: (fls (hdFs fs up) ++ [13, 10]) := by
  unfold headL hdFs
  rw [fls_app, fls_one, fls_up, ← onL_fls, h200]
  have hr : reason 200 = [79, 75] := rfl
  simp [reasonL, hr, joinL, stLine, vHttp, crlf, frameL, endL]
/-- How many fields of a name there are. -/
def cnt (fs : List Fld) (n : List UInt8) : Nat := (values fs n).length
theorem cnt_app (a b : List Fld) (n : List UInt8) : cnt (a ++ b) n = cnt a n + cnt b n := by simp [cnt, values]
theorem cnt_cons (f : Fld) (b : List Fld) (n : List UInt8) : cnt (f :: b) n = (if alike f.1 n then 1 else 0) + cnt b n := by
  unfold cnt values
  cases h : alike f.1 n <;> simp [h]
  omega
theorem cnt_no {fs : List Fld} {n : List UInt8} (h : ∀ f ∈ fs, alike f.1 n = false) : cnt fs n = 0 := by
  unfold cnt values
  rw [List.length_map, List.length_eq_zero_iff, List.filter_eq_nil_iff]
  intro f hf
  rw [h f hf]; exact Bool.false_ne_true
theorem onF_mem {but : List (List UInt8)} {fs : List Fld} {f : Fld} (h : f ∈ onF but fs) : f ∈ fs ∧ oneP fs f.1 = false ∧ ∀ n ∈ but, alike f.1 n = false := by
  unfold onF strip at h
  obtain ⟨h1, h2⟩ := List.mem_filter.1 h
  obtain ⟨h3, h4⟩ := List.mem_filter.1 h1
  refine ⟨h3, by simpa using h4, fun n hn => ?_⟩
  have h5 : (but.any fun n => alike f.1 n) = false := by simpa using h2
  cases ha : alike f.1 n
  · rfl
  · rw [List.any_eq_true.2 ⟨n, hn, ha⟩] at h5; cases h5
theorem one_alike {fs : List Fld} {a b : List UInt8} (h : alike a b = true) : oneP fs a = oneP fs b := by
  have hl := alike_iff.1 h
  have h1 : ∀ x, alike x a = alike x b := fun x => alike_lowR hl x
  unfold oneP has
  simp only [h1]
theorem onF_one {but : List (List UInt8)} {fs : List Fld} {n : List UInt8} (h : oneP fs n = true) : cnt (onF but fs) n = 0 := cnt_no fun f hf => by
  obtain ⟨_, h2, _⟩ := onF_mem hf
  cases ha : alike f.1 n
  · rfl
  · rw [one_alike ha, h] at h2; cases h2
theorem onF_but {but : List (List UInt8)} {fs : List Fld} {n m : List UInt8} (hm : m ∈ but) (h : low n = low m) : cnt (onF but fs) n = 0 := cnt_no fun f hf => by
  obtain ⟨_, _, h3⟩ := onF_mem hf
  rw [alike_lowR h]; exact h3 m hm
/-- A token is its own only element. -/
theorem elems_tok {x : List UInt8} (h : tokenP x) : elems x = [x] := by
  have hc : (44 : UInt8) ∉ x := fun hm => by
    have := h.2 44 hm
    rw [tokB_iff] at this
    revert this; decide
  have hb : ∀ c ∈ x, isBl c = false := fun c hc => by
    cases hb : isBl c
    · rfl
    · rw [isBl_iff] at hb
      have := h.2 c hc
      rw [tokB_iff] at this
      omega
  have ht : trim x = x := Go.Proofs.YtngicmoadobgpaaDoor.trim_full (fun c hc => hb c (List.mem_of_getElem? hc)) (fun c hc => hb c (List.mem_of_getElem? hc))
  unfold elems
  rw [pieces_not hc, elemsOf_one, ht, if_neg h.1]
theorem isIn_tok {x n : List UInt8} (h : tokenP x) : isIn x n = alike x n := by
  have hv : values [([110], x)] [110] = [x] := rfl
  unfold isIn has elemsF
  rw [hv]
  simp [elems_tok h]
end Go.EmitM

/- How many of a name there are in what is written; that it may be read; in plain Lean. Conditions: the fields are right and small. -/
namespace Go.EmitM
open Go.ChunkM Go.StrM
def lCL : List UInt8 := [99, 111, 110, 116, 101, 110, 116, 45, 108, 101, 110, 103, 116, 104]
theorem one_conn (fs : List Fld) : oneP fs conn = true := by rw [oneP_low]; rfl
theorem cnt_up_conn (up : List UInt8) : cnt (upF up) conn = if up = [] then 0 else 1 := by
  unfold upF; split
  · rfl
  · rw [cnt_cons, cnt_cons]; rfl
theorem cnt_up_no {up x : List UInt8} (h1 : alike nConn x = false) (h2 : alike nUpg x = false) : cnt (upF up) x = 0 := by
  unfold upF; split
  · rfl
  · rw [cnt_cons, cnt_cons, h1, h2]; rfl
theorem req_conn (fs : List Fld) (up : List UInt8) : cnt (reqFs fs up) conn = if up = [] then 0 else 1 := by
  unfold reqFs
  rw [cnt_cons, cnt_app, cnt_cons, cnt_cons, onF_one (one_conn fs), cnt_up_conn]
  have h1 : alike nHost conn = false := by decide
  have h2 : alike nXff conn = false := by decide
  have h3 : alike nVia conn = false := by decide
  simp [h1, h2, h3]
theorem hd_conn (fs : List Fld) (up : List UInt8) : cnt (hdFs fs up) conn = if up = [] then 0 else 1 := by
  unfold hdFs
  rw [cnt_app, cnt_cons, onF_one (one_conn fs), cnt_up_conn]
  have h3 : alike nVia conn = false := by decide
  simp [h3]
theorem req_cl (fs : List Fld) (up : List UInt8) : cnt (reqFs fs up) lCL = 0 := by
  unfold reqFs
  rw [cnt_cons, cnt_app, cnt_cons, cnt_cons, onF_but (m := nCL) (by simp [butR]) (by decide), cnt_up_no (by decide) (by decide)]
  have h1 : alike nHost lCL = false := by decide
  have h2 : alike nXff lCL = false := by decide
  have h3 : alike nVia lCL = false := by decide
  simp [h1, h2, h3]
theorem hd_cl (fs : List Fld) (up : List UInt8) : cnt (hdFs fs up) lCL = 0 := by
  unfold hdFs
  rw [cnt_app, cnt_cons, onF_but (m := nCL) (by simp [butH]) (by decide), cnt_up_no (by decide) (by decide)]
  have h3 : alike nVia lCL = false := by decide
  simp [h3]
theorem req_via (fs : List Fld) (up : List UInt8) : cnt (reqFs fs up) lVia = 1 := by
  unfold reqFs
  rw [cnt_cons, cnt_app, cnt_cons, cnt_cons, onF_but (m := nVia) (by simp [butR]) (by decide), cnt_up_no (by decide) (by decide)]
  have h1 : alike nHost lVia = false := by decide
  have h2 : alike nXff lVia = false := by decide
  have h3 : alike nVia lVia = true := by decide
  simp [h1, h2, h3]
theorem hd_via (fs : List Fld) (up : List UInt8) : cnt (hdFs fs up) lVia = 1 := by
  unfold hdFs
  rw [cnt_app, cnt_cons, onF_but (m := nVia) (by simp [butH]) (by decide), cnt_up_no (by decide) (by decide)]
  have h3 : alike nVia lVia = true := by decide
  simp [h3]
theorem req_host (fs : List Fld) (up : List UInt8) : cnt (reqFs fs up) lHost = 1 := by
  unfold reqFs
  rw [cnt_cons, cnt_app, cnt_cons, cnt_cons, onF_but (m := nHost) (by simp [butR]) (by decide), cnt_up_no (by decide) (by decide)]
  have h1 : alike nHost lHost = true := by decide
  have h2 : alike nXff lHost = false := by decide
  have h3 : alike nVia lHost = false := by decide
  simp [h1, h2, h3]
/-- A name that concerns one connection alone and that the gateway does not write. -/
theorem own_no {x : List UInt8} {up : List UInt8} (hx : tokenP x) (h : ownB x (!decide (up = [])) = false) : alike nHost x = false ∧ alike nXff x = false ∧ alike nVia x = false ∧ cnt (upF up) x = 0 := by
  unfold ownB at h
  simp only [isIn_tok hx, Bool.or_eq_false_iff] at h
  obtain ⟨⟨h1, h2, h3⟩, h4⟩ := h
  have a1 : ∀ a b : List UInt8, low a = low b → alike x b = false → alike a x = false := fun a b e ha => by
    rw [alike_low e, alike_comm]; exact ha
  refine ⟨a1 _ lHost (by decide) h1, a1 _ lXff (by decide) h3, a1 _ lVia (by decide) h2, ?_⟩
  by_cases hu : up = []
  · unfold upF; rw [if_pos hu]; rfl
  · have hd : (!decide (up = [])) = true := by simp [hu]
    rw [hd, Bool.true_and] at h4
    obtain ⟨h5, h6⟩ := Bool.or_eq_false_iff.1 h4
    exact cnt_up_no (a1 _ conn (by decide) h5) (a1 _ lUpg (by decide) h6)
theorem req_none {fs : List Fld} {x up : List UInt8} (hx : tokenP x) (h1 : oneP fs x = true) (h : ownB x (!decide (up = [])) = false) : cnt (reqFs fs up) x = 0 := by
  obtain ⟨a1, a2, a3, a4⟩ := own_no hx h
  unfold reqFs
  rw [cnt_cons, cnt_app, cnt_cons, cnt_cons, onF_one h1, a1, a2, a3, a4]; rfl
theorem hd_none {fs : List Fld} {x up : List UInt8} (hx : tokenP x) (h1 : oneP fs x = true) (h : ownB x (!decide (up = [])) = false) : cnt (hdFs fs up) x = 0 := by
  obtain ⟨a1, a2, a3, a4⟩ := own_no hx h
  unfold hdFs
  rw [cnt_app, cnt_cons, onF_one h1, a3, a4]; rfl
/-- Values that are right, joined, are right. -/
theorem joinV_ok {vs : List (List UInt8)} {more : List UInt8} (hv : ∀ v ∈ vs, valueP v) (hm : valueP more) (hne : more ≠ []) : valueP (joinV vs more) := by
  refine ⟨?_, ?_⟩
  · intro c hc
    unfold joinV at hc
    rcases List.mem_append.1 hc with hc | hc
    · obtain ⟨v, h1, h2⟩ := List.mem_flatMap.1 hc
      rcases List.mem_append.1 h2 with h2 | h2
      · exact (hv v h1).1 c h2
      · have : c = 44 ∨ c = 32 := by simpa using h2
        rcases this with rfl | rfl <;> decide
    · exact hm.1 c hc
  · refine Go.Proofs.YtngicmoadobgpaaDoor.trim_full (fun c hc => ?_) (fun c hc => ?_)
    · cases vs with
      | nil => exact trim_head hm.2 (by simpa [joinV] using hc)
      | cons v vs =>
        cases v with
        | nil =>
          have : c = 44 := by simpa [joinV] using hc.symm
          subst this; decide
        | cons y v =>
          have : y = c := by simpa [joinV] using hc
          subst this
          exact trim_head (hv _ List.mem_cons_self).2 rfl
    · have hpos := List.length_pos_iff.2 hne
      have : more[more.length - 1]? = some c := by
        unfold joinV at hc
        rw [List.getElem?_append_right (by rw [List.length_append]; omega)] at hc
        rw [← hc]
        congr 1
        rw [List.length_append]; omega
      exact trim_last hm.2 this
theorem values_ok {fs : List Fld} (n : List UInt8) (h : ∀ f ∈ fs, fOk f) : ∀ v ∈ values fs n, valueP v := by
  intro v hv
  unfold values at hv
  obtain ⟨f, h1, rfl⟩ := List.mem_map.1 hv
  exact (h f (List.mem_filter.1 h1).1).2.1
theorem joinV_small {fs : List Fld} {n more : List UInt8} (hl : fs.length ≤ 20) (hb : fbytes fs ≤ 300) : (joinV (values fs n) more).length ≤ 340 + more.length := by
  have h1 := values_bytes n fs
  have h2 := values_len n fs
  rw [joinV_len]; omega
theorem onF_len (but : List (List UInt8)) (fs : List Fld) : (onF but fs).length ≤ fs.length := Nat.le_trans (List.length_filter_le _ _) (List.length_filter_le _ _)
theorem onF_read {but : List (List UInt8)} {fs : List Fld} (h : ∀ f ∈ fs, fOk f) (hb : fbytes fs ≤ 300) : ∀ f ∈ onF but fs, fRead f := fun f hf => by
  obtain ⟨h1, _⟩ := onF_mem hf
  have h2 := h f h1
  have h3 := fbytes_mem h1
  exact ⟨h2.1, h2.2.1, by omega⟩
theorem upF_read {up : List UInt8} (h : up = [] ∨ up = [119, 115]) : (∀ f ∈ upF up, fRead f) ∧ (upF up).length ≤ 2 := by
  rcases h with rfl | rfl
  · exact ⟨fun f hf => (by simp [upF] at hf), by decide⟩
  · refine ⟨fun f hf => ?_, by decide⟩
    have : f = (nConn, vUpg) ∨ f = (nUpg, [119, 115]) := by simpa [upF] using hf
    rcases this with rfl | rfl
    · exact ⟨by decide, ⟨by decide, by decide⟩, by decide⟩
    · exact ⟨by decide, ⟨by decide, by decide⟩, by decide⟩
theorem req_read {fs : List Fld} {up : List UInt8} (h : ∀ f ∈ fs, fOk f) (hl : fs.length ≤ 20) (hb : fbytes fs ≤ 300) (hu : up = [] ∨ up = [119, 115]) : (∀ f ∈ reqFs fs up, fRead f) ∧ (reqFs fs up).length ≤ 32 := by
  have h1 := onF_len butR fs
  obtain ⟨u1, u2⟩ := upF_read hu
  refine ⟨fun f hf => ?_, ?_⟩
  · unfold reqFs at hf
    rcases List.mem_cons.1 hf with rfl | hf
    · exact ⟨by decide, ⟨by decide, by decide⟩, by decide⟩
    · rcases List.mem_append.1 hf with hf | hf
      · exact onF_read h hb f hf
      · rcases List.mem_cons.1 hf with rfl | hf
        · refine ⟨(show tokenP nXff by decide), joinV_ok (values_ok _ h) ⟨by decide, by decide⟩ (by decide), ?_⟩
          have := joinV_small (n := nXff) (more := [49]) hl hb
          have e1 : nXff.length = 15 := rfl
          simp only [List.length_cons, List.length_nil] at this ⊢; omega
        · rcases List.mem_cons.1 hf with rfl | hf
          · refine ⟨(show tokenP nVia by decide), joinV_ok (values_ok _ h) ⟨by decide, by decide⟩ (by decide), ?_⟩
            have := joinV_small (n := nVia) (more := vVia) hl hb
            have e1 : nVia.length = 3 := rfl
            have e2 : vVia.length = 12 := rfl
            simp only at this ⊢; omega
          · exact u1 f hf
  · unfold reqFs
    simp only [List.length_cons, List.length_append]; omega
theorem hd_read {fs : List Fld} {up : List UInt8} (h : ∀ f ∈ fs, fOk f) (hl : fs.length ≤ 20) (hb : fbytes fs ≤ 300) (hu : up = [] ∨ up = [119, 115]) : (∀ f ∈ hdFs fs up, fRead f) ∧ (hdFs fs up).length ≤ 32 := by
  have h1 := onF_len butH fs
  obtain ⟨u1, u2⟩ := upF_read hu
  refine ⟨fun f hf => ?_, ?_⟩
  · unfold hdFs at hf
    rcases List.mem_append.1 hf with hf | hf
    · exact onF_read h hb f hf
    · rcases List.mem_cons.1 hf with rfl | hf
      · refine ⟨(show tokenP nVia by decide), joinV_ok (values_ok _ h) ⟨by decide, by decide⟩ (by decide), ?_⟩
        have := joinV_small (n := nVia) (more := vVia) hl hb
        have e1 : nVia.length = 3 := rfl
        have e2 : vVia.length = 12 := rfl
        simp only at this ⊢; omega
      · exact u1 f hf
  · unfold hdFs
    simp only [List.length_cons, List.length_append]; omega
theorem fls_small : ∀ {fs : List Fld}, (∀ f ∈ fs, fRead f) → (fls fs).length ≤ 512 * fs.length
  | [], _ => by simp [fls]
  | (n, v) :: fs, h => by
    have h1 := h (n, v) List.mem_cons_self
    have ih := fls_small (fs := fs) fun f hf => h f (List.mem_cons_of_mem _ hf)
    rw [fls_one, List.length_append, fieldL_len, List.length_cons]
    have := h1.2.2
    simp only at this
    omega
end Go.EmitM
