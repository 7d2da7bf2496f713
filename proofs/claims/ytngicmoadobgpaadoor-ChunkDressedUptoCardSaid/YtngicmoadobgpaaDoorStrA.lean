/- Contracts: bytes' kinds, cutting, blanks, tokens, values, numbers in the base of sixteen, a field's line. Conditions: none. -/
import Derived.Test.YtngicmoadobgpaaDoorWk
import Derived.Test.YtngicmoadobgpaaDoorLay
import Derived.Test.YtngicmoadobgpaaDoorSxNum
import Derived.Test.YtngicmoadobgpaaDoorStrM
namespace Go.Proofs.YtngicmoadobgpaaDoor
open Go Go.Sx Go.ChunkM Go.StrM
variable {w0 : World} {F H : List HProp} {K : Value → List HProp → Prop}
theorem digit_spec {c : UInt8} (h1 : isDig c = true → K (.bool true) F) (h2 : isDig c = false → K (.bool false) F) : Tri Tryd.prog 102 #[kB c] w0 F K := by
  refine Tri.enterF Tryd.func102 Tryd.ntmps102 Tryd.results102 rfl rfl fun fr hfr => ?_
  repeat' (first | refine walk ?_ | exact trivial | refine Tw.mk ?_ ?_ | intro hc | fail)
  all_goals first | exact Out.i (h1 (by simp only [isDig, decide_eq_true_eq]; omega)) | exact Out.i (h2 (by simp only [isDig, decide_eq_false_iff_not]; omega))
theorem letter_spec {c : UInt8} (h1 : isLet c = true → K (.bool true) F) (h2 : isLet c = false → K (.bool false) F) : Tri Tryd.prog 104 #[kB c] w0 F K := by
  refine Tri.enterF Tryd.func104 Tryd.ntmps104 Tryd.results104 rfl rfl fun fr hfr => ?_
  repeat' (first | refine walk ?_ | exact trivial | refine Tw.mk ?_ ?_ | intro hc | fail)
  all_goals first | exact Out.i (h1 (by simp only [isLet, decide_eq_true_eq]; omega)) | exact Out.i (h2 (by simp only [isLet, decide_eq_false_iff_not]; omega))
set_option maxRecDepth 100000 in
theorem ixb_run (l : List UInt8) (c : UInt8) (w : World) : (callFunc 128 ⟨[kS l, kB c]⟩).run Tryd.prog w = .ok (.value (.int .i64 (Lib.indexByte l c))) w := by
  rw [run_callFunc_extern Tryd.func128 (by kernel_rfl) (by kernel_rfl) (by kernel_rfl) (e := Extern.BytealgIndexByte.indexByte) (by kernel_rfl), Lib.run_indexByteString]
  have : ((c.toNat : Int)).toNat.toUInt8 = c := by simp
  simp only [Result.andThen, this]
theorem ixb0_spec {l : List UInt8} {c : UInt8} (h : K (.int .i64 (Lib.indexByte l c)) F) : Tri Tryd.prog 119 #[kS l, kB c] w0 F K := by
  refine Tri.enterF Tryd.func119 Tryd.ntmps119 Tryd.results119 rfl rfl fun fr hfr => ?_
  repeat' (first | refine XS.seq ?_ | refine XS.region (T := TT) ?_ | refine XO.callX trivial rfl rfl rfl rfl (ixb_run _ _) ?_ | refine XO.q TT_ok rfl rfl rfl rfl rfl ?_ | refine XO.nil ?_ | refine XS.ret1F TT_ok (by assumption) resA1 ?_ | exact Out.i h)
theorem ixb_spec {l : List UInt8} {c : UInt8} (h : K (.int .i64 (Lib.indexByte l c)) F) : Tri Tryd.prog 105 #[kS l, kB c] w0 F K := by
  refine Tri.enterF Tryd.func105 Tryd.ntmps105 Tryd.results105 rfl rfl fun fr hfr => ?_
  repeat' (first | refine walk ?_ | exact trivial | refine Tw.mk ?_ ?_ | refine ixb0_spec ?_ | exact Out.i h | fail)
theorem ix1_spec {l : List UInt8} {c : UInt8} (h : K (.int .i64 (Lib.indexByte l c)) F) : Tri Tryd.prog 111 #[kS l, kS [c]] w0 F K := by
  refine Tri.enterF Tryd.func111 Tryd.ntmps111 Tryd.results111 rfl rfl fun fr hfr => ?_
  repeat' (first | refine walk ?_ | exact trivial | refine Tw.mk ?_ ?_ | intro hc | refine ixb0_spec ?_ | exact Out.i h | (subst hc; exact Out.i (by simpa [Lib.indexByte] using h)) | fail)
/-- A text is cut at a byte. -/
theorem cut0_spec {l : List UInt8} {c : UInt8} (hl : l.length ≤ 4611686018427387904) (h1 : c ∈ l → K (.tuple #[kS (before c l), kS (behind c l), .bool true]) F) (h2 : c ∉ l → K (.tuple #[kS l, kS [], .bool false]) F) : Tri Tryd.prog 101 #[kS l, kS [c]] w0 F K := by
  by_cases hm : c ∈ l
  · have e1 := idx_in c l hm
    have e2 := take_before hm
    have e3 := drop_before hm
    have e4 := len_before hm
    have h1 := h1 hm
    rw [← e2, ← e3] at h1
    refine Tri.enterF Tryd.func101 Tryd.ntmps101 Tryd.results101 rfl rfl fun fr hfr => ?_
    refine walk ?_
    refine ⟨ix1_spec ?_, trivial⟩
    rw [e1]
    repeat' (first | refine walk ?_ | exact trivial | refine Tw.mk ?_ ?_ | intro hc | exact Out.i h1 | fail)
  · have e1 := idx_not c l hm
    have h2 := h2 hm
    refine Tri.enterF Tryd.func101 Tryd.ntmps101 Tryd.results101 rfl rfl fun fr hfr => ?_
    refine walk ?_
    refine ⟨ix1_spec ?_, trivial⟩
    rw [e1]
    repeat' (first | refine walk ?_ | exact trivial | refine Tw.mk ?_ ?_ | intro hc | exact Out.i h2 | fail)
theorem cut_spec {l : List UInt8} {c : UInt8} (hl : l.length ≤ 4611686018427387904) (h1 : c ∈ l → K (.tuple #[kS (before c l), kS (behind c l), .bool true]) F) (h2 : c ∉ l → K (.tuple #[kS l, kS [], .bool false]) F) : Tri Tryd.prog 88 #[kS l, kS [c]] w0 F K := by
  refine Tri.enterF Tryd.func88 Tryd.ntmps88 Tryd.results88 rfl rfl fun fr hfr => ?_
  repeat' (first | refine walk ?_ | exact trivial | refine Tw.mk ?_ ?_ | intro hc | refine cut0_spec hl ?_ ?_ | exact Out.i (h1 hc) | exact Out.i (h2 hc) | fail)
theorem trim0_spec {l : List UInt8} (hl : l.length ≤ 9223372036854775807) (h : K (kS (trim l)) F) : Tri Tryd.prog 103 #[kS l, kS [32, 9]] w0 F K :=
  Tri.ofBelow (fun w _ => Any.strings_Trim_laid Tryd.trimN (by kernel_rfl) (S l) (S [32, 9]) w hl (by decide) (ascii_of_all (by decide))) h
theorem trim_spec {l : List UInt8} (hl : l.length ≤ 9223372036854775807) (h : K (kS (trim l)) F) : Tri Tryd.prog 90 #[kS l] w0 F K := by
  refine Tri.enterF Tryd.func90 Tryd.ntmps90 Tryd.results90 rfl rfl fun fr hfr => ?_
  repeat' (first | refine walk ?_ | exact trivial | refine Tw.mk ?_ ?_ | refine trim0_spec hl ?_ | exact Out.i h | fail)
end Go.Proofs.YtngicmoadobgpaaDoor
