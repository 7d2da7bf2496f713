/- Contracts: a size is written in the base of sixteen. Conditions: the listed table's one cell that is read. -/
import Derived.Test.YtngicmoadobgpaaDoorChunkC
import Derived.Test.YtngicmoadobgpaaDoorSxArr
namespace Go.Proofs.YtngicmoadobgpaaDoor
open Go Go.Sx Go.ChunkM Go.StrM
variable {w0 : World} {F H : List HProp} {K : Value → List HProp → Prop}
/-- The cell of the table that TrailingZeros of 16 reads. -/
abbrev TZ (w0 : World) : Prop := RdB w0 ⟨2, 15, none⟩ (.int .u8 4)
theorem tz_spec (hz : TZ w0) (h : K (kI 4) F) : Tri Tryd.prog 107 #[.int .u64 16] w0 F K := by
  refine Tri.enterF Tryd.func107 Tryd.ntmps107 Tryd.results107 rfl rfl fun fr hfr => ?_
  repeat' (first | refine XS.seq ?_ | refine XS.region (T := TT) ?_ | refine XS.condF rfl ?_ | refine XS.skip ?_ | refine XO.negN (a := 16) TT_ok rfl rfl rfl rfl rfl (by decide) (by decide) ?_ | refine XO.andN 64 (a := 16) (b := 2 ^ 64 - 16) TT_ok rfl rfl rfl rfl rfl rfl rfl (by decide) (by decide) ?_ | refine XO.mulU (a := 16) (b := 285870213051353865) TT_ok rfl rfl rfl rfl rfl rfl ?_ | refine XO.shrN 58 (a := 16 * 285870213051353865 % 2 ^ 64) TT_ok rfl rfl rfl rfl rfl rfl (by decide) ?_ | refine XO.indexArrN (i := 15) TT_ok rfl rfl rfl rfl rfl rfl rfl (by decide) ?_ | refine XO.load TT_ok rfl rfl rfl rfl rfl rfl (RdB.r hz) ?_ | refine XO.pF TT_ok rfl rfl rfl rfl rfl ?_ | refine XO.convN 8 (a := 4) TT_ok rfl rfl rfl rfl rfl rfl rfl rfl (by decide) ?_ | refine XO.q TT_ok rfl rfl rfl rfl rfl ?_ | refine XO.nil ?_ | refine XS.ret1F TT_ok (by assumption) resA1 ?_)
  exact Out.i h
set_option maxRecDepth 20000 in
theorem tz0_spec (hz : TZ w0) (h : K (kI 4) F) : Tri Tryd.prog 97 #[.int .u64 16] w0 F K := by
  refine Tri.enterF Tryd.func97 Tryd.ntmps97 Tryd.results97 rfl rfl fun fr hfr => ?_
  repeat' (first | refine walk ?_ | exact trivial | refine Tw.mk ?_ ?_ | refine tz_spec hz ?_ | exact Out.i h | fail)
set_option maxRecDepth 20000 in
theorem pow2_spec (h : K (.bool true) F) : Tri Tryd.prog 96 #[kI 16] w0 F K := by
  refine Tri.enterF Tryd.func96 Tryd.ntmps96 Tryd.results96 rfl rfl fun fr hfr => ?_
  repeat' (first | refine walk ?_ | exact trivial | refine Tw.mk ?_ ?_ | (intro hy; exact absurd rfl hy) | intro hy | exact Out.i h | fail)
/-- The digits behind the noughts of the array. -/
def arr (i : Nat) (ds : List UInt8) : List Value := List.replicate i (.int .u8 0) ++ bys ds
theorem arr_len (i : Nat) (ds : List UInt8) : (arr i ds).length = i + ds.length := by simp [arr, bys_length]
theorem arr_wr (j : Nat) (ds : List UInt8) (c : UInt8) : wr (arr (j + 1) ds) (0 + j * 1) [kB c] = arr j (c :: ds) := by
  have e : 0 + j * 1 = j := by omega
  rw [e]
  show wr ((arr (j + 1) ds).set j (kB c)) (j + 1) [] = _
  show (arr (j + 1) ds).set j (kB c) = _
  unfold arr
  rw [List.replicate_succ', List.append_assoc, List.set_append_right _ _ (by simp)]
  simp [bys]
theorem arr_reads {b i : Nat} {t : TypeId} {ds : List UInt8} : ReadsL w0 (cel b t (arr i ds) :: F) ⟨b, i * 1, none⟩ (bys ds) := by
  have h := ReadsL.here (w0 := w0) (b := b) (t := t) (l := arr i ds) (F := F) (off := i * 1) ds.length
  have e : (((arr i ds).drop (i * 1)).take ds.length) = bys ds := by
    unfold arr
    rw [Nat.mul_one, List.drop_append_of_le_length (by simp), List.drop_of_length_le (by simp), List.nil_append, List.take_of_length_le (by simp [bys_length])]
  rw [e] at h; exact h
theorem digs_at : ∀ d : Nat, d < 16 → ([48, 49, 50, 51, 52, 53, 54, 55, 56, 57, 97, 98, 99, 100, 101, 102, 103, 104, 105, 106, 107, 108, 109, 110, 111, 112, 113, 114, 115, 116, 117, 118, 119, 120, 121, 122] : List UInt8)[d]? = some (dig d) := by decide
set_option maxHeartbeats 1000000 in
set_option maxRecDepth 20000 in
theorem fbits_spec {n : Nat} (hz : TZ w0) (h0 : n ≠ 0) (hn : n < 9223372036854775808) (h : K (.tuple #[.slice none 0 0, kS (hexE n)]) F) : Tri Tryd.prog 81 #[.slice none 0 0, .int .u64 n, kI 16, .bool false, .bool false] w0 F K := by
  have hlen : (hexE n).length ≤ 16 := hexE_len 16 n (by omega)
  refine Tri.enterF Tryd.func81 Tryd.ntmps81 Tryd.results81 rfl rfl fun fr hfr => ?_
  repeat' (first | refine walk ?_ | exact trivial | refine Tw.mk ?_ ?_ | intro hy | (intro (b : Nat)) | refine pow2_spec ?_ | refine tz0_spec hz ?_ | (exfalso; omega) | fail)
  rename_i b _ _
  refine XS.loopI (ι := Nat × Nat × List UInt8) (fun q => [(0, .slice none 0 0), (1, .int .u64 q.2.1), (3, .bool false), (4, .bool false), (10, .slice none 0 0), (11, kS []), (12, ptr b), (13, kI q.1), (14, .int .u64 4), (15, .int .u64 16), (16, .int .u64 15)]) (fun q => cel b 134 (arr q.1 q.2.2) :: F) (fun q => q.1 + q.2.2.length = 65 ∧ q.2.1 ≠ 0 ∧ q.2.1 ≤ n ∧ hexE n = hexE q.2.1 ++ q.2.2) (fun q => q.2.1) (65, n, [])
    ⟨rfl, h0, Nat.le_refl _, by simp⟩ ⟨rfl, rfl, rfl, rfl, rfl, rfl, rfl, rfl, rfl, rfl, rfl, trivial⟩ (Ent.refl _) ?_
  rintro ⟨i, u, ds⟩ e ⟨hi, hu0, hun, hx⟩ ih
  simp only at hi hu0 hun hx
  dsimp only
  have hl2 := congrArg List.length hx
  rw [List.length_append] at hl2
  obtain ⟨j, rfl⟩ : ∃ j, i = j + 1 := ⟨i - 1, by omega⟩
  by_cases hu : 16 ≤ u
  · have hd : ([48, 49, 50, 51, 52, 53, 54, 55, 56, 57, 97, 98, 99, 100, 101, 102, 103, 104, 105, 106, 107, 108, 109, 110, 111, 112, 113, 114, 115, 116, 117, 118, 119, 120, 121, 122] : List UInt8)[u &&& 15]? = some (dig (u % 16)) := by
      rw [show u &&& 15 = u % 16 from Nat.and_two_pow_sub_one_eq_mod u 4]; exact digs_at _ (Nat.mod_lt _ (by decide))
    have hux := hexE_pos hu0
    repeat' (first | refine walk ?_ | exact trivial | refine Tw.mk ?_ ?_ | intro hy | (exfalso; omega) | refine XO.idxArr j TT_ok rfl rfl rfl rfl rfl rfl rfl (by omega) (by omega) ?_ | refine XO.storeW (arr_wr j ds (dig (u % 16))) (by rw [arr_len]; show 0 + j * 1 + 1 ≤ _; omega) TT_ok trivial rfl rfl rfl rfl rfl rfl rfl rfl trivial ?_ | fail)
    exact ih (j, u / 2 ^ 4, dig (u % 16) :: ds) _ _ ⟨by simp only [List.length_cons]; omega, by simp only; omega, by simp only; omega, by simp only; rw [hx, hux, List.append_assoc]; rfl⟩ (by simp only; omega) ⟨rfl, rfl, rfl, rfl, rfl, rfl, rfl, congrArg kI (by omega), rfl, rfl, rfl, trivial⟩ entA
  · clear ih
    have hd := digs_at u (by omega)
    have hux : hexE u = [dig u] := by rw [hexE_pos hu0, show u / 16 = 0 by omega, hexE_zero, show u % 16 = u by omega]; rfl
    rw [hux] at hx
    rw [hx] at h
    repeat' (first | refine walk ?_ | exact trivial | refine Tw.mk ?_ ?_ | intro hy | (exfalso; omega) | refine XO.idxArr j TT_ok rfl rfl rfl rfl rfl rfl rfl (by omega) (by omega) ?_ | refine XO.storeW (arr_wr j ds (dig u)) (by rw [arr_len]; show 0 + j * 1 + 1 ≤ _; omega) TT_ok trivial rfl rfl rfl rfl rfl rfl rfl rfl trivial ?_ | refine XO.sliceArr (i := j) TT_ok rfl rfl rfl rfl rfl rfl rfl (by omega) (by omega) ?_ | refine XO.strAt (l := dig u :: ds) TT_ok trivial rfl rfl rfl rfl rfl rfl rfl (by simp only [List.length_cons]; omega) arr_reads ?_ | fail)
    exact Out.s0 h
end Go.Proofs.YtngicmoadobgpaaDoor
