/- Contracts: a chunk is written, by the program and by the document. Conditions: the listed table's one cell that is read. -/
import Derived.Test.YtngicmoadobgpaaDoorChunkF
namespace Go.Proofs.YtngicmoadobgpaaDoor
open Go Go.Sx Go.ChunkM Go.StrM
variable {w0 : World} {F H : List HProp} {K : Value → List HProp → Prop}
set_option maxRecDepth 20000 in
theorem fint0_spec {n : Nat} (hz : TZ w0) (h0 : n ≠ 0) (hn : n < 9223372036854775808) (h : K (kS (hexE n)) F) : Tri Tryd.prog 63 #[kI n, kI 16] w0 F K := by
  refine Tri.enterF Tryd.func63 Tryd.ntmps63 Tryd.results63 rfl rfl fun fr hfr => ?_
  repeat' (first | refine walk ?_ | exact trivial | refine Tw.mk ?_ ?_ | (intro hy; exact absurd hy (by decide)) | intro hy | (exfalso; omega) | refine fbits_spec hz h0 hn ?_ | exact Out.i h | fail)
theorem fint_spec {n : Nat} (hz : TZ w0) (h0 : n ≠ 0) (hn : n < 9223372036854775808) (h : K (kS (hexE n)) F) : Tri Tryd.prog 40 #[kI n, kI 16] w0 F K := by
  refine Tri.enterF Tryd.func40 Tryd.ntmps40 Tryd.results40 rfl rfl fun fr hfr => ?_
  repeat' (first | refine walk ?_ | exact trivial | refine Tw.mk ?_ ?_ | refine fint0_spec hz h0 hn ?_ | exact Out.i h | fail)
theorem last_spec (h : K (kS [48, 13, 10, 13, 10]) F) : Tri Tryd.prog 17 #[] w0 F K := by
  refine Tri.enterF Tryd.func17 Tryd.ntmps17 Tryd.results17 rfl rfl fun fr hfr => ?_
  repeat' (first | refine walk ?_ | exact trivial | refine Tw.mk ?_ ?_ | exact Out.i h | fail)
theorem enc_spec {l : List UInt8} (hz : TZ w0) (hl : l.length ≤ 140737488351232) (h : K (kS (encT l)) F) : Tri Tryd.prog 16 #[kS l] w0 F K := by
  by_cases h0 : l = []
  · subst h0
    refine Tri.enterF Tryd.func16 Tryd.ntmps16 Tryd.results16 rfl rfl fun fr hfr => ?_
    repeat' (first | refine walk ?_ | exact trivial | refine Tw.mk ?_ ?_ | intro hy | exact Out.i h | fail)
  · have hp : 0 < l.length := List.length_pos_iff.2 h0
    have hb := hexE_len 16 l.length (by omega)
    have e1 : encT l = hexE l.length ++ [13, 10] ++ l ++ [13, 10] := by simp [encT, h0]
    rw [e1] at h
    refine Tri.enterF Tryd.func16 Tryd.ntmps16 Tryd.results16 rfl rfl fun fr hfr => ?_
    repeat' (first | refine walk ?_ | exact trivial | refine Tw.mk ?_ ?_ | intro hy | (exfalso; exact h0 (by assumption)) | refine fint_spec hz (by omega) (by omega) ?_ | exact Out.i h | fail)
end Go.Proofs.YtngicmoadobgpaaDoor
