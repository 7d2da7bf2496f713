/- Some texts put together: lemmas and contracts for the law. Conditions: as each text says. -/
import Derived.Ground.NamesProg
import Derived.Test.YtngicmoadobgpaaDoorProg
import Derived.Shelf.Strconv.Itoa3
import Derived.Shelf.Strings.OnBuilder
import Derived.Shelf.Strings.SlTrimAscii
import Derived.Test.YtngicmoadobgpaaDoorU11
import Derived.Test.YtngicmoadobgpaaDoorU10
import Derived.Test.YtngicmoadobgpaaDoorU4
import Derived.Lib.ConvBytes
import Derived.Lib.Builder
import Derived.Lib.UnsafeStr
/- Contracts of the library laid at this program. Conditions: none. -/
namespace Go.Proofs
open Go.Shelf
def Tryd.trimN_ren : Go.Shelf.Ren := ⟨fun | 160 => 103 | 232 => 113 | 231 => 112 | 227 => 114 | 234 => 116 | 233 => 115 | 236 => 118 | 235 => 117 | 228 => 124 | 271 => 127 | 151 => 126 | 197 => 125 | 120 => 135 | 152 => 134 | 260 => 133 | 137 => 105 | 119 => 138 | 224 => 122 | 225 => 121 | 217 => 119 | 266 => 128 | n => n, fun | 9 => 9 | 4 => 4 | 3 => 3 | 5 => 5 | 117 => 149 | 116 => 148 | 0 => 0 | 124 => 152 | 21 => 21 | 105 => 156 | 46 => 136 | 119 => 164 | 139 => 167 | 138 => 166 | n => n, fun | 3 => 4 | 4 => 5 | n => n⟩
theorem Tryd.trimN : Go.Proofs.Lays.n160 Tryd.prog Tryd.trimN_ren := {
  mixed := by kernel_rfl
  f119 := Tryd.func138.trans (congrArg some (by kernel_rfl))
  f120 := Tryd.func135.trans (congrArg some (by kernel_rfl))
  f137 := Tryd.func105.trans (congrArg some (by kernel_rfl))
  f151 := Tryd.func126.trans (congrArg some (by kernel_rfl))
  f152 := Tryd.func134.trans (congrArg some (by kernel_rfl))
  f160 := Tryd.func103.trans (congrArg some (by kernel_rfl))
  f197 := Tryd.func125.trans (congrArg some (by kernel_rfl))
  f217 := Tryd.func119.trans (congrArg some (by kernel_rfl))
  f224 := Tryd.func122.trans (congrArg some (by kernel_rfl))
  f225 := Tryd.func121.trans (congrArg some (by kernel_rfl))
  f227 := Tryd.func114.trans (congrArg some (by kernel_rfl))
  f228 := Tryd.func124.trans (congrArg some (by kernel_rfl))
  f231 := Tryd.func112.trans (congrArg some (by kernel_rfl))
  f232 := Tryd.func113.trans (congrArg some (by kernel_rfl))
  f233 := Tryd.func115.trans (congrArg some (by kernel_rfl))
  f234 := Tryd.func116.trans (congrArg some (by kernel_rfl))
  f235 := Tryd.func117.trans (congrArg some (by kernel_rfl))
  f236 := Tryd.func118.trans (congrArg some (by kernel_rfl))
  f260 := Tryd.func133.trans (congrArg some (by kernel_rfl))
  f266 := Tryd.func128.trans (congrArg some (by kernel_rfl))
  f271 := Tryd.func127.trans (congrArg some (by kernel_rfl))
  t0 := Tryd.underlying0
  a0 := Tryd.isAgg0
  z0 := Tryd.sizeOf0
  v0 := Tryd.zeroValue0
  t3 := Tryd.underlying3
  a3 := Tryd.isAgg3
  z3 := Tryd.sizeOf3
  v3 := Tryd.zeroValue3
  t4 := Tryd.underlying4
  a4 := Tryd.isAgg4
  z4 := Tryd.sizeOf4
  v4 := Tryd.zeroValue4
  t5 := Tryd.underlying5
  a5 := Tryd.isAgg5
  z5 := Tryd.sizeOf5
  v5 := Tryd.zeroValue5
  t9 := Tryd.underlying9
  a9 := Tryd.isAgg9
  z9 := Tryd.sizeOf9
  v9 := Tryd.zeroValue9
  t21 := Tryd.underlying21
  a21 := Tryd.isAgg21
  z21 := Tryd.sizeOf21
  v21 := Tryd.zeroValue21
  t46 := Tryd.underlying136
  a46 := Tryd.isAgg136
  z46 := Tryd.sizeOf136
  v46 := Tryd.zeroValue136
  t105 := Tryd.underlying156
  a105 := Tryd.isAgg156
  z105 := Tryd.sizeOf156
  v105 := Tryd.zeroValue156
  t116 := Tryd.underlying148
  a116 := Tryd.isAgg148
  z116 := Tryd.sizeOf148
  t117 := Tryd.underlying149
  a117 := Tryd.isAgg149
  z117 := Tryd.sizeOf149
  v117 := Tryd.zeroValue149
  t119 := Tryd.underlying164
  a119 := Tryd.isAgg164
  z119 := Tryd.sizeOf164
  t124 := Tryd.underlying152
  a124 := Tryd.isAgg152
  z124 := Tryd.sizeOf152
  v124 := Tryd.zeroValue152
  t138 := Tryd.underlying166
  a138 := Tryd.isAgg166
  z138 := Tryd.sizeOf166
  v138 := Tryd.zeroValue166
  t139 := Tryd.underlying167
  a139 := Tryd.isAgg167
  z139 := Tryd.sizeOf167
  v139 := Tryd.zeroValue167
  g3 := by kernel_rfl
  g4 := by kernel_rfl }
def Tryd.itoaN_ren : Go.Shelf.Ren := ⟨fun | 171 => 42 | 243 => 64 | 246 => 63 | 283 => 78 | 284 => 79 | 285 => 80 | 286 => 81 | 129 => 94 | 317 => 93 | 318 => 95 | 319 => 96 | 320 => 97 | 337 => 106 | 338 => 107 | n => n, fun | 3 => 3 | 9 => 9 | 2 => 2 | 4 => 4 | 171 => 118 | 0 => 0 | 53 => 119 | 37 => 31 | 5 => 5 | 173 => 122 | 212 => 132 | 51 => 133 | 20 => 20 | 213 => 134 | 46 => 136 | 232 => 153 | 233 => 154 | n => n, fun | 17 => 0 | 18 => 1 | 19 => 2 | n => n⟩
theorem Tryd.itoaN : Go.Proofs.LaysM.n171 Tryd.prog Tryd.itoaN_ren := {
  mixed := by kernel_rfl
  f129 := Tryd.func94.trans (congrArg some (by kernel_rfl))
  f171 := Tryd.func42.trans (congrArg some (by kernel_rfl))
  f243 := Tryd.func64.trans (congrArg some (by kernel_rfl))
  f246 := Tryd.func63.trans (congrArg some (by kernel_rfl))
  f283 := Tryd.func78.trans (congrArg some (by kernel_rfl))
  f284 := Tryd.func79.trans (congrArg some (by kernel_rfl))
  f285 := Tryd.func80.trans (congrArg some (by kernel_rfl))
  f286 := Tryd.func81.trans (congrArg some (by kernel_rfl))
  f317 := Tryd.func93.trans (congrArg some (by kernel_rfl))
  f318 := Tryd.func95.trans (congrArg some (by kernel_rfl))
  f319 := Tryd.func96.trans (congrArg some (by kernel_rfl))
  f320 := Tryd.func97.trans (congrArg some (by kernel_rfl))
  f337 := Tryd.func106.trans (congrArg some (by kernel_rfl))
  f338 := Tryd.func107.trans (congrArg some (by kernel_rfl))
  t0 := Tryd.underlying0
  a0 := Tryd.isAgg0
  z0 := Tryd.sizeOf0
  v0 := Tryd.zeroValue0
  t2 := Tryd.underlying2
  a2 := Tryd.isAgg2
  z2 := Tryd.sizeOf2
  v2 := Tryd.zeroValue2
  t3 := Tryd.underlying3
  a3 := Tryd.isAgg3
  z3 := Tryd.sizeOf3
  v3 := Tryd.zeroValue3
  t4 := Tryd.underlying4
  a4 := Tryd.isAgg4
  z4 := Tryd.sizeOf4
  v4 := Tryd.zeroValue4
  t5 := Tryd.underlying5
  a5 := Tryd.isAgg5
  z5 := Tryd.sizeOf5
  v5 := Tryd.zeroValue5
  t9 := Tryd.underlying9
  a9 := Tryd.isAgg9
  z9 := Tryd.sizeOf9
  v9 := Tryd.zeroValue9
  t20 := Tryd.underlying20
  a20 := Tryd.isAgg20
  z20 := Tryd.sizeOf20
  v20 := Tryd.zeroValue20
  t37 := Tryd.underlying31
  a37 := Tryd.isAgg31
  z37 := Tryd.sizeOf31
  v37 := Tryd.zeroValue31
  t46 := Tryd.underlying136
  a46 := Tryd.isAgg136
  z46 := Tryd.sizeOf136
  v46 := Tryd.zeroValue136
  t51 := Tryd.underlying133
  a51 := Tryd.isAgg133
  z51 := Tryd.sizeOf133
  v51 := Tryd.zeroValue133
  t53 := Tryd.underlying119
  a53 := Tryd.isAgg119
  z53 := Tryd.sizeOf119
  v53 := Tryd.zeroValue119
  t171 := Tryd.underlying118
  a171 := Tryd.isAgg118
  z171 := Tryd.sizeOf118
  v171 := Tryd.zeroValue118
  t173 := Tryd.underlying122
  a173 := Tryd.isAgg122
  z173 := Tryd.sizeOf122
  v173 := Tryd.zeroValue122
  t212 := Tryd.underlying132
  a212 := Tryd.isAgg132
  z212 := Tryd.sizeOf132
  v212 := Tryd.zeroValue132
  t213 := Tryd.underlying134
  a213 := Tryd.isAgg134
  z213 := Tryd.sizeOf134
  t232 := Tryd.underlying153
  a232 := Tryd.isAgg153
  z232 := Tryd.sizeOf153
  v232 := Tryd.zeroValue153
  t233 := Tryd.underlying154
  a233 := Tryd.isAgg154
  z233 := Tryd.sizeOf154
  v233 := Tryd.zeroValue154
  g17 := by kernel_rfl
  g18 := by kernel_rfl
  g19 := by kernel_rfl
  i0 := by kernel_rfl
  i2 := by kernel_rfl
  i3 := by kernel_rfl
  i4 := by kernel_rfl
  i5 := by kernel_rfl
  i9 := by kernel_rfl
  i20 := by kernel_rfl
  i37 := by kernel_rfl
  i46 := by kernel_rfl
  i51 := by kernel_rfl
  i53 := by kernel_rfl
  i171 := by kernel_rfl
  i173 := by kernel_rfl
  i212 := by kernel_rfl
  i232 := by kernel_rfl
  i233 := by kernel_rfl
  m17 := by kernel_rfl
  m18 := by kernel_rfl
  m19 := by kernel_rfl }
def Tryd.joinN_ren : Go.Shelf.Ren := ⟨fun | 156 => 67 | 165 => 85 | 166 => 36 | 169 => 38 | 240 => 60 | 241 => 100 | 276 => 75 | 277 => 110 | n => n, fun | 31 => 29 | 9 => 9 | 3 => 3 | 4 => 4 | 0 => 0 | 20 => 20 | 72 => 74 | 76 => 77 | 70 => 72 | 37 => 31 | 75 => 76 | 127 => 107 | 164 => 114 | 5 => 5 | 80 => 36 | n => n, fun | n => n⟩
theorem Tryd.joinN : Go.Proofs.Lays.n156 Tryd.prog Tryd.joinN_ren := {
  mixed := by kernel_rfl
  f156 := Tryd.func67.trans (congrArg some (by kernel_rfl))
  f165 := Tryd.func85.trans (congrArg some (by kernel_rfl))
  f166 := Tryd.func36.trans (congrArg some (by kernel_rfl))
  f169 := Tryd.func38.trans (congrArg some (by kernel_rfl))
  f240 := Tryd.func60.trans (congrArg some (by kernel_rfl))
  f241 := Tryd.func100.trans (congrArg some (by kernel_rfl))
  f276 := Tryd.func75.trans (congrArg some (by kernel_rfl))
  f277 := Tryd.func110.trans (congrArg some (by kernel_rfl))
  t0 := Tryd.underlying0
  a0 := Tryd.isAgg0
  z0 := Tryd.sizeOf0
  v0 := Tryd.zeroValue0
  t3 := Tryd.underlying3
  a3 := Tryd.isAgg3
  z3 := Tryd.sizeOf3
  v3 := Tryd.zeroValue3
  t4 := Tryd.underlying4
  a4 := Tryd.isAgg4
  z4 := Tryd.sizeOf4
  v4 := Tryd.zeroValue4
  t9 := Tryd.underlying9
  a9 := Tryd.isAgg9
  z9 := Tryd.sizeOf9
  v9 := Tryd.zeroValue9
  t20 := Tryd.underlying20
  a20 := Tryd.isAgg20
  z20 := Tryd.sizeOf20
  v20 := Tryd.zeroValue20
  t31 := Tryd.underlying29
  a31 := Tryd.isAgg29
  z31 := Tryd.sizeOf29
  v31 := Tryd.zeroValue29
  t37 := Tryd.underlying31
  a37 := Tryd.isAgg31
  z37 := Tryd.sizeOf31
  v37 := Tryd.zeroValue31
  t70 := Tryd.underlying72
  a70 := Tryd.isAgg72
  z70 := Tryd.sizeOf72
  v70 := Tryd.zeroValue72
  t72 := Tryd.underlying74
  a72 := Tryd.isAgg74
  z72 := Tryd.sizeOf74
  v72 := Tryd.zeroValue74
  t75 := Tryd.underlying76
  a75 := Tryd.isAgg76
  z75 := Tryd.sizeOf76
  v75 := Tryd.zeroValue76
  t76 := Tryd.underlying77
  a76 := Tryd.isAgg77
  z76 := Tryd.sizeOf77
  v76 := Tryd.zeroValue77
  t127 := Tryd.underlying107
  a127 := Tryd.isAgg107
  z127 := Tryd.sizeOf107
  v127 := Tryd.zeroValue107
  t164 := Tryd.underlying114
  a164 := Tryd.isAgg114
  z164 := Tryd.sizeOf114
  v164 := Tryd.zeroValue114 }
end Go.Proofs

/- Contracts: bytes' kinds, cutting, blanks, tokens, values, numbers in the base of sixteen, a field's line. Conditions: none. -/
namespace Go.Proofs.YtngicmoadobgpaaDoor
open Go Go.Sx Go.ChunkM Go.StrM
variable {w0 : World} {F H : List HProp} {K : Value → List HProp → Prop}
theorem digit_spec {c : UInt8} (h1 : isDig c = true → K (.bool true) F) (h2 : isDig c = false → K (.bool false) F) : Tri Tryd.prog 102 #[kB c] w0 F K := by
  refine Tri.enterF Tryd.func102 Tryd.ntmps102 Tryd.results102 rfl rfl fun fr hfr => ?_
  repeat' (first | refine walk ?_ | exact trivial | refine Tw.mk ?_ ?_ | intro hc | fail)
  all_goals first | exact Out.i (h1 (by simp only [isDig, decide_eq_true_eq]; omega)) | exact Out.i (h2 (by simp only [isDig, decide_eq_false_iff_not]; omega))
theorem letter_spec {c : UInt8} (h1 : isLet c = true → K (.bool true) F) (h2 : isLet c = false → K (.bool false) F) : Tri Tryd.prog 104 #[kB c] w0 F K := by
  refine Tri.enterF Tryd.func104 Tryd.ntmps104 Tryd.results104 rfl rfl fun fr hfr => ?_
  repeat' (first | refine walk ?_ | exact trivial | refine Tw.mk ?_ ?_ | intro hc | fail)
  all_goals first | exact Out.i (h1 (by simp only [isLet, decide_eq_true_eq]; omega)) | exact Out.i (h2 (by simp only [isLet, decide_eq_false_iff_not]; omega))
set_option maxRecDepth 100000 in
theorem ixb_run (l : List UInt8) (c : UInt8) (w : World) : (callFunc 128 ⟨[kS l, kB c]⟩).run Tryd.prog w = .ok (.value (.int .i64 (Lib.indexByte l c))) w := by
  rw [run_callFunc_extern Tryd.func128 (by kernel_rfl) (by kernel_rfl) (by kernel_rfl) (e := Extern.BytealgIndexByte.indexByte) (by kernel_rfl), Lib.run_indexByteString]
  have : ((c.toNat : Int)).toNat.toUInt8 = c := by simp
  simp only [Result.andThen, this]
theorem ixb0_spec {l : List UInt8} {c : UInt8} (h : K (.int .i64 (Lib.indexByte l c)) F) : Tri Tryd.prog 119 #[kS l, kB c] w0 F K := by
  refine Tri.enterF Tryd.func119 Tryd.ntmps119 Tryd.results119 rfl rfl fun fr hfr => ?_
  repeat' (first | refine XS.seq ?_ | refine XS.region (T := TT) ?_ | refine XO.callX trivial rfl rfl rfl rfl (ixb_run _ _) ?_ | refine XO.q TT_ok rfl rfl rfl rfl rfl ?_ | refine XO.nil ?_ | refine XS.ret1F TT_ok (by assumption) resA1 ?_ | exact Out.i h)
theorem ixb_spec {l : List UInt8} {c : UInt8} (h : K (.int .i64 (Lib.indexByte l c)) F) : Tri Tryd.prog 105 #[kS l, kB c] w0 F K := by
  refine Tri.enterF Tryd.func105 Tryd.ntmps105 Tryd.results105 rfl rfl fun fr hfr => ?_
  repeat' (first | refine walk ?_ | exact trivial | refine Tw.mk ?_ ?_ | refine ixb0_spec ?_ | exact Out.i h | fail)
theorem ix1_spec {l : List UInt8} {c : UInt8} (h : K (.int .i64 (Lib.indexByte l c)) F) : Tri Tryd.prog 111 #[kS l, kS [c]] w0 F K := by
  refine Tri.enterF Tryd.func111 Tryd.ntmps111 Tryd.results111 rfl rfl fun fr hfr => ?_
  repeat' (first | refine walk ?_ | exact trivial | refine Tw.mk ?_ ?_ | intro hc | refine ixb0_spec ?_ | exact Out.i h | (subst hc; exact Out.i (by simpa [Lib.indexByte] using h)) | fail)
/-- A text is cut at a byte. -/
theorem cut0_spec {l : List UInt8} {c : UInt8} (hl : l.length ≤ 4611686018427387904) (h1 : c ∈ l → K (.tuple #[kS (before c l), kS (behind c l), .bool true]) F) (h2 : c ∉ l → K (.tuple #[kS l, kS [], .bool false]) F) : Tri Tryd.prog 101 #[kS l, kS [c]] w0 F K := by
  by_cases hm : c ∈ l
  · have e1 := idx_in c l hm
    have e2 := take_before hm
    have e3 := drop_before hm
    have e4 := len_before hm
    have h1 := h1 hm
    rw [← e2, ← e3] at h1
    refine Tri.enterF Tryd.func101 Tryd.ntmps101 Tryd.results101 rfl rfl fun fr hfr => ?_
    refine walk ?_
    refine ⟨ix1_spec ?_, trivial⟩
    rw [e1]
    repeat' (first | refine walk ?_ | exact trivial | refine Tw.mk ?_ ?_ | intro hc | exact Out.i h1 | fail)
  · have e1 := idx_not c l hm
    have h2 := h2 hm
    refine Tri.enterF Tryd.func101 Tryd.ntmps101 Tryd.results101 rfl rfl fun fr hfr => ?_
    refine walk ?_
    refine ⟨ix1_spec ?_, trivial⟩
    rw [e1]
    repeat' (first | refine walk ?_ | exact trivial | refine Tw.mk ?_ ?_ | intro hc | exact Out.i h2 | fail)
theorem cut_spec {l : List UInt8} {c : UInt8} (hl : l.length ≤ 4611686018427387904) (h1 : c ∈ l → K (.tuple #[kS (before c l), kS (behind c l), .bool true]) F) (h2 : c ∉ l → K (.tuple #[kS l, kS [], .bool false]) F) : Tri Tryd.prog 88 #[kS l, kS [c]] w0 F K := by
  refine Tri.enterF Tryd.func88 Tryd.ntmps88 Tryd.results88 rfl rfl fun fr hfr => ?_
  repeat' (first | refine walk ?_ | exact trivial | refine Tw.mk ?_ ?_ | intro hc | refine cut0_spec hl ?_ ?_ | exact Out.i (h1 hc) | exact Out.i (h2 hc) | fail)
theorem trim0_spec {l : List UInt8} (hl : l.length ≤ 9223372036854775807) (h : K (kS (trim l)) F) : Tri Tryd.prog 103 #[kS l, kS [32, 9]] w0 F K :=
  Tri.ofBelow (fun w _ => Any.strings_Trim_laid Tryd.trimN (by kernel_rfl) (S l) (S [32, 9]) w hl (by decide) (ascii_of_all (by decide))) h
theorem trim_spec {l : List UInt8} (hl : l.length ≤ 9223372036854775807) (h : K (kS (trim l)) F) : Tri Tryd.prog 90 #[kS l] w0 F K := by
  refine Tri.enterF Tryd.func90 Tryd.ntmps90 Tryd.results90 rfl rfl fun fr hfr => ?_
  repeat' (first | refine walk ?_ | exact trivial | refine Tw.mk ?_ ?_ | refine trim0_spec hl ?_ | exact Out.i h | fail)
end Go.Proofs.YtngicmoadobgpaaDoor

/- Rows that a conversion from a text has made: marked as perhaps the text's own, no cell of them frozen. Conditions: the table 'T' fits the program. -/
namespace Go.Sx
open Go Go.RowKit
/-- The bytes l at the head of the row b, spare room behind them; the mark lies behind all. -/
def FRow (b : Nat) (u : TypeId) (l : List UInt8) : HProp := fun h => ∃ tail, h b = some (.cells ⟨bys l ++ tail⟩ u ((bys l ++ tail).length, (bys l ++ tail).length + 1))
section
variable {P : Program} {w0 : World} {F : List HProp}
theorem Rel.frow_blk {w : World} {b : Nat} {u : TypeId} {l : List UInt8} (h : Rel w0 (FRow b u l :: F) w) : ∃ tail, Rel w0 (blk b (.cells ⟨bys l ++ tail⟩ u ((bys l ++ tail).length, (bys l ++ tail).length + 1)) :: F) w := by
  obtain ⟨x, ⟨h1, h2, d, l1, l2, ⟨tail, hb⟩, s⟩, g⟩ := h.heap
  exact ⟨tail, ⟨h.below, x, ⟨h1, h2, d, l1, l2, hb, s⟩, g⟩⟩
theorem Rel.frow_mk {w : World} {b n : Nat} {u : TypeId} {l : List UInt8} {cs tail : List Value} (h : Rel w0 (blk b (.cells ⟨cs⟩ u (n, n + 1)) :: F) w) (hc : cs = bys l ++ tail) (hn : n = cs.length) : Rel w0 (FRow b u l :: F) w := by
  subst hc; subst hn
  obtain ⟨x, ⟨h1, h2, d, l1, l2, hb, s⟩, g⟩ := h.heap
  exact ⟨h.below, x, ⟨h1, h2, d, l1, l2, ⟨tail, hb⟩, s⟩, g⟩
theorem Reads.frow {b i : Nat} {u : TypeId} {l : List UInt8} {c : UInt8} (h : l[i]? = some c) : Reads w0 (FRow b u l :: F) ⟨b, i, none⟩ (kB c) := fun w hr => by
  obtain ⟨tail, hb⟩ := hr.frow_blk
  have := hb.get
  simp only [World.cell?, this]
  have hlt : i < (bys l).length := by rw [bys_length]; exact (List.getElem?_eq_some_iff.1 h).1
  have h2 := bys_get h
  simp [List.getElem?_append_left hlt, h2]
/-- The same, as the walk writes the place. -/
theorem Reads.frowI {b : Nat} {o : Nat} {u : TypeId} {l : List UInt8} {c : UInt8} (i : Nat) (ho : o = i) (h : l[i]? = some c) : Reads w0 (FRow b u l :: F) ⟨b, o, none⟩ (kB c) := by subst ho; exact Reads.frow h
end
section
variable {P : Program} {T : Tbl} {w0 : World} {n : Nat} {HL : Held} {ops : Array Oper} {J : Env → List HProp → Prop} {ix : Nat} {rest : List Oper} {o : Oper} {e : Env} {H F : List HProp}
/-- '[]byte(s)'. -/
theorem XO.rowOfStr {s t u : TypeId} {x : Operand} {l : List UInt8} {d : Nat} (hT : T.Ok P) (hk0 : Keeps w0 H (keptBy HL ix)) (hg : wantedE ops e n o = true) (hd : o.dst = some d) (hop : o.op = .convert s t x) (hs : T.und s = some .string) (ht : T.und t = some (.slice u)) (hu : T.und u = some (.int .u8))
    (hx : e.ev n x = kS l) (hk : ∀ b, Keeps w0 (FRow b u l :: H) (keptBy HL ix)) (h : ∀ b c, XO P T w0 n HL ops J (ix + 1) rest (e.upd d (.slice (some ⟨b, 0, none⟩) l.length c)) (FRow b u l :: H)) : XO P T w0 n HL ops J ix (o :: rest) e H := by
  refine .effOp hk0 hg (by rw [hop]; simp [cls, hs, ht]) (fun w hrel => ?_)
  have hr := Lib.run_convert_string_bytes (P := P) w s t u (S l) (hT.und _ _ hs) (hT.und _ _ ht) (hT.und _ _ hu)
  refine ⟨.slice (some ⟨w.heap.size, 0, none⟩) (S l).size (grownCap w (S l).size 0 u), Lib.bytesWorld w u (S l), _, .inl (by simp only [execOp, hop, hx, Sem.run_bind, hr, Result.andThen_ok, Sem.run_pure]), ?_, hk w.heap.size, by rw [hd]; exact h w.heap.size _⟩
  have h1 : Rel w0 H w.drew := hrel.drew
  have hcs : Lib.bytesCells w u (S l) = ⟨bys l ++ List.replicate (grownCap w l.length 0 u - l.length) (Value.int .u8 0)⟩ := by
    apply Array.ext'
    simp [Lib.bytesCells, bys]
    rfl
  have h2 := h1.alloc (.cells (Lib.bytesCells w u (S l)) u)
  have hsz : w.drew.heap.size = w.heap.size := rfl
  rw [hsz] at h2
  have hne : ∀ k, k ≠ w.heap.size → (Lib.bytesWorld w u (S l)).heap[k]? = ({ w.drew with heap := w.drew.heap.push (.cells (Lib.bytesCells w u (S l)) u) } : World).heap[k]? := by
    intro k hk
    rcases Nat.lt_or_ge k w.heap.size with hlt | hge
    · rw [Lib.bytesWorld_at_old w u (S l) k hlt]
      show w.heap[k]? = (w.drew.heap.push _)[k]?
      rw [Array.getElem?_push, hsz, if_neg hk]; rfl
    · rw [Array.getElem?_eq_none (by rw [Lib.bytesWorld_size]; omega), Array.getElem?_eq_none (by show (w.drew.heap.push _).size ≤ k; rw [Array.size_push, hsz]; omega)]
  have h3 := h2.set (w' := Lib.bytesWorld w u (S l)) (o' := .cells (Lib.bytesCells w u (S l)) u ((Lib.bytesCells w u (S l)).size, (Lib.bytesCells w u (S l)).size + 1)) (by rfl) (by rfl) (by rfl)
    (by rw [Lib.bytesWorld_size]; show _ = (w.drew.heap.push _).size; rw [Array.size_push, hsz]) (Lib.bytesWorld_at_new w u (S l)) hne
  rw [hcs] at h3
  exact h3.frow_mk rfl rfl
/-- A byte is set. -/
theorem XO.storeF {t u : TypeId} {x y : Operand} {b of : Nat} {l : List UInt8} {z : Int} {F : List HProp} (i : Nat) (c : UInt8) (ho : of = i) (hz : z = c.toNat) (hi : i < l.length) (hT : T.Ok P) (hk0 : Keeps w0 (FRow b u l :: F) (keptBy HL ix)) (hg : wantedE ops e n o = true) (hd : o.dst = none) (hop : o.op = .store t x y) (hx : e.ev n x = .pointer (some ⟨b, of, none⟩))
    (hy : e.ev n y = .int .u8 z) (hs : T.size t = some 1)
    (hk : Keeps w0 (FRow b u (l.set i c) :: F) (keptBy HL ix)) (h : XO P T w0 n HL ops J (ix + 1) rest e (FRow b u (l.set i c) :: F)) : XO P T w0 n HL ops J ix (o :: rest) e (FRow b u l :: F) := by
  subst ho; subst hz
  refine .effOp hk0 hg (by rw [hop]; rfl) (fun w hrel => ?_)
  obtain ⟨tail, hb⟩ := hrel.frow_blk
  have hcell : w.cell? ⟨b, of, none⟩ = some (kB l[of]) := Reads.frow (List.getElem?_eq_getElem hi) w hrel
  have hl : of < (bys l ++ tail).length := by rw [List.length_append, bys_length]; omega
  have hf : w.frozen? ⟨b, of, none⟩ = false := by
    have := hb.get
    simp [World.frozen?, this]
    intro h2; have := bys_length l; omega
  have h1 : (Value.int IntKind.u8 c.toNat).oneCell' = true := rfl
  have hset : (Go.store ((⟨b, of, none⟩ : Addr).add 0) (kB c)).run P w = .ok () (w.setCell ⟨b, of, none⟩ (kB c)) := by
    rw [Addr.add_mk, Nat.add_zero, run_store P w _ _ .plain h1, hcell]
    simp [hf]
  have hr' := hb.setCell of (kB c)
  have hr2 : Rel w0 (FRow b u (l.set of c) :: F) (w.setCell ⟨b, of, none⟩ (kB c)) := by
    refine Rel.frow_mk (cs := (bys l ++ tail).set of (kB c)) (tail := tail) (n := (bys l ++ tail).length) ?_ ?_ (by simp)
    · simpa using hr'
    · rw [List.set_append_left _ _ (by rw [bys_length]; exact hi)]
      simp [bys, List.map_set]
  refine ⟨undef, _, _, .inr ⟨?_, rfl⟩, hr2, hk, by rw [hd]; exact h⟩
  have hcs : (Value.int IntKind.u8 (c.toNat : Int)).cells = #[.int .u8 c.toNat] := rfl
  simp only [execOp, hop, hx, hy, Instr.storeAt, Instr.sureAddr, storeVar, hcs, Sem.run_bind, Sem.run_pure, Result.andThen_ok, run_size hT hs, ne_eq, not_true_eq_false, if_false, storeCells, List.size_toArray, List.length_cons, List.length_nil, hset]
/-- 'string(b)'. -/
theorem XO.strOfF {s t u : TypeId} {x : Operand} {b k c : Nat} {l : List UInt8} {d : Nat} (hT : T.Ok P) (hk0 : Keeps w0 (FRow b u l :: F) (keptBy HL ix)) (hg : wantedE ops e n o = true) (hd : o.dst = some d) (hop : o.op = .convert s t x) (hs : T.und s = some (.slice u)) (ht : T.und t = some .string) (hu : T.und u = some (.int .u8))
    (hx : e.ev n x = .slice (some ⟨b, 0, none⟩) k c) (hl : k = l.length) (h : XO P T w0 n HL ops J (ix + 1) rest (e.upd d (kS l)) (FRow b u l :: F)) : XO P T w0 n HL ops J ix (o :: rest) e (FRow b u l :: F) := by
  subst hl
  refine .effOp hk0 hg (by rw [hop]; simp [cls, hs, ht]) (fun w hrel => ?_)
  refine ⟨_, w, _, .inl ?_, hrel, hk0, by rw [hd]; exact h⟩
  have hmap : bys l = (l.map fun c : UInt8 => (c.toNat : Int)).map (Value.int .u8) := by simp [bys]
  have hlc : (loadCells ⟨b, 0, none⟩ l.length).run P w = .ok ((l.map fun c : UInt8 => (c.toNat : Int)).map (Value.int .u8)).toArray w := by
    have := run_loadCells_list (P := P) w ⟨b, 0, none⟩ ((l.map fun c : UInt8 => (c.toNat : Int)).map (Value.int .u8)) (fun j v hj => by
      rw [Addr.add_mk, Nat.zero_add]; rw [← hmap] at hj
      simp only [bys, List.getElem?_map, Option.map_eq_some_iff] at hj
      obtain ⟨c, h1, rfl⟩ := hj
      exact Reads.frow h1 w hrel)
    simpa using this
  have := run_bytesToString (P := P) w ⟨b, 0, none⟩ l.length c _ hlc
  have e0 := foldl_bys l []
  simp only [List.nil_append] at e0
  rw [show (S [] : ByteArray) = ByteArray.empty from rfl] at e0
  rw [e0] at this
  simp [execOp, hop, convert, run_und hT hs, run_und hT ht, run_und hT hu, hx, this]
end
end Go.Sx

/- Rules: one element more at the end of a row, whatever its cells; a row that was made, as a row of elements. Conditions: the table 'T' fits the program. -/
namespace Go.Sx
open Go Go.RowKit
section
variable {P : Program} {T : Tbl} {w0 : World} {n : Nat} {HL : Held} {ops : Array Oper} {J : Env → List HProp → Prop} {ix : Nat} {rest : List Oper} {o : Oper} {e : Env} {H F : List HProp}
/-- 'append(l, x)', x written out in a row of its own, which is given up. -/
theorem XO.appendG {x y : Operand} {t u t' : TypeId} {a : Option Addr} {cap k c s bs b : Nat} {l vs : List Value} (l' : List Value) {z : Value} {d : Nat} (hT : T.Ok P) (hk0 : Keeps w0 (Row a cap u s k l :: cel b t' vs :: F) (keptBy HL ix)) (hg : wantedE ops e n o = true) (hd : o.dst = some d)
    (hop : o.op = .call { callee := .builtin .append, args := #[x, y], argTypes := #[t, t] }) (hu : T.und t = some (.slice u)) (hs : T.size u = some s) (hbs : T.bytes u = some bs) (hz : T.zero u = some z) (hzs : Nat.beq z.cells.size s = true) (hs0 : Nat.blt 0 s = true)
    (hx : e.ev n x = .slice a k cap) (hy : e.ev n y = .slice (some ⟨b, 0, none⟩) 1 c) (hl : vs.length = s) (h1 : vs.all (·.oneCell') = true) {N : Nat} (hN : k + 1 ≤ N) (hn : Nat.ble (N * bs) 140737488355328 = true) (hn2 : Nat.ble N 9223372036854775807 = true) (hr : l ++ vs = l')
    (hk : ∀ a' cap', Keeps w0 (Row a' cap' u s (k + 1) l' :: cel b t' vs :: F) (keptBy HL ix)) (h : ∀ a' cap', XO P T w0 n HL ops J (ix + 1) rest (e.upd d (.slice a' (k + 1) cap')) (Row a' cap' u s (k + 1) l' :: F)) : XO P T w0 n HL ops J ix (o :: rest) e (Row a cap u s k l :: cel b t' vs :: F) := by
  subst hr
  refine .append (ad := ⟨b, 0, none⟩) hT hk0 hg hd hop hu hs hbs hz hzs hs0 hx hy (ReadsL.skip fun j v hj => ?_) (by rw [hl, Nat.one_mul]) (by decide) h1 hN hn hn2 hk (fun a' cap' => .ent (Ent.cons _ (Ent.drop _ _)) (h a' cap'))
  rw [Addr.add_mk, Nat.zero_add]; exact Reads.here hj
end
end Go.Sx

/- Contracts: tokens, values, numbers in the base of sixteen, a field's line. Conditions: none. -/
namespace Go.Proofs.YtngicmoadobgpaaDoor
open Go Go.Sx Go.ChunkM Go.StrM
variable {w0 : World} {F H : List HProp} {K : Value → List HProp → Prop}
theorem all_step {p : UInt8 → Bool} {l : List UInt8} {i : Nat} {c : UInt8} (h : ∀ (j : Nat) x, j < i → l[j]? = some x → p x = true) (hc : l[i]? = some c) (hp : p c = true) : ∀ (j : Nat) x, j < i + 1 → l[j]? = some x → p x = true := fun j x hj hx => by
  by_cases e : j = i
  · subst e; rw [hc] at hx; injection hx with hx; subst hx; exact hp
  · exact h j x (by omega) hx
theorem all_done {p : UInt8 → Bool} {l : List UInt8} (h : ∀ (j : Nat) x, j < l.length → l[j]? = some x → p x = true) : ∀ c ∈ l, p c = true := fun c hc => by
  obtain ⟨j, hj⟩ := List.getElem?_of_mem hc
  exact h j c (List.getElem?_eq_some_iff.1 hj).1 hj
theorem marks_ix {c : UInt8} : (0 ≤ Lib.indexByte [33, 35, 36, 37, 38, 39, 42, 43, 45, 46, 94, 95, 124, 126, 96] c → marks.contains c = true) ∧ (Lib.indexByte [33, 35, 36, 37, 38, 39, 42, 43, 45, 46, 94, 95, 124, 126, 96] c < 0 → marks.contains c = false) := by
  by_cases h : c ∈ marks
  · have := idx_in c marks h
    exact ⟨fun _ => by simpa using h, fun h2 => by unfold marks at this; omega⟩
  · have := idx_not c marks h
    exact ⟨fun h2 => by unfold marks at this; omega, fun _ => by simpa using h⟩
theorem tokB_no {c : UInt8} (h1 : isLet c = false) (h2 : isDig c = false) (h3 : Lib.indexByte [33, 35, 36, 37, 38, 39, 42, 43, 45, 46, 94, 95, 124, 126, 96] c < 0) : tokB c = false := by
  simp only [tokB, h1, h2, marks_ix.2 h3, Bool.or_self]
theorem tokB_yes {c : UInt8} (h : isLet c = true ∨ isDig c = true ∨ 0 ≤ Lib.indexByte [33, 35, 36, 37, 38, 39, 42, 43, 45, 46, 94, 95, 124, 126, 96] c) : tokB c = true := by
  rcases h with h | h | h
  · simp only [tokB, h, Bool.true_or]
  · simp only [tokB, h, Bool.true_or, Bool.or_true]
  · simp only [tokB, marks_ix.1 h, Bool.or_true]
theorem token_spec {l : List UInt8} (hl : l.length ≤ 4611686018427387904) (h1 : tokenP l → K (.bool true) F) (h2 : ¬ tokenP l → K (.bool false) F) : Tri Tryd.prog 91 #[kS l] w0 F K := by
  refine Tri.enterF Tryd.func91 Tryd.ntmps91 Tryd.results91 rfl rfl fun fr hfr => ?_
  repeat' (first | refine walk ?_ | exact trivial | refine Tw.mk ?_ ?_ | fail)
  refine XS.loopI (ι := Nat) (fun i => [(0, kS l), (6, kI l.length), (7, kI i)]) (fun _ => F) (fun i => i ≤ l.length ∧ ∀ (j : Nat) c, j < i → l[j]? = some c → tokB c = true) (fun i => l.length - i) 0 ⟨Nat.zero_le _, fun j _ hj => absurd hj (by omega)⟩ ⟨rfl, rfl, rfl, trivial⟩ entA ?_
  rintro i e ⟨hi, ha⟩ ih
  by_cases hlt : i < l.length
  · obtain ⟨c, hc⟩ : ∃ c, l[i]? = some c := ⟨_, List.getElem?_eq_getElem hlt⟩
    repeat' (first | refine walk ?_ | exact trivial | refine Tw.mk ?_ ?_ | intro hx | refine letter_spec ?_ ?_ | refine digit_spec ?_ ?_ | refine ixb_spec ?_ | (exfalso; omega) | exact Out.i (h2 fun ht => by have := ht.2 c (List.mem_of_getElem? hc); rw [tokB_no (by assumption) (by assumption) (by assumption)] at this; cases this) | exact ih (i + 1) _ _ ⟨hlt, all_step ha hc (tokB_yes (by first | exact .inl (by assumption) | exact .inr (.inl (by assumption)) | exact .inr (.inr (by assumption)) | fail))⟩ (by omega) ⟨rfl, rfl, rfl, trivial⟩ entA | fail)
  · obtain rfl : i = l.length := by omega
    have ha := all_done ha
    clear ih
    repeat' (first | refine walk ?_ | exact trivial | refine Tw.mk ?_ ?_ | intro hx | (exfalso; omega) | exact Out.i (h1 ⟨by assumption, ha⟩) | exact Out.i (h2 fun ht => ht.1 (by assumption)) | fail)
theorem valB_no {c : UInt8} (h : (c.toNat : Int) ≠ 9 ∧ ((c.toNat : Int) < 32 ∨ (c.toNat : Int) = 127)) : valB c = false := by
  simp only [valB, decide_eq_false_iff_not]; omega
theorem valB_yes {c : UInt8} (h : (c.toNat : Int) = 9 ∨ ((32 : Int) ≤ c.toNat ∧ (c.toNat : Int) ≠ 127)) : valB c = true := by
  simp only [valB, decide_eq_true_eq]; omega
theorem value_spec {l : List UInt8} (hl : l.length ≤ 4611686018427387904) (h1 : valueP l → K (.bool true) F) (h2 : ¬ valueP l → K (.bool false) F) : Tri Tryd.prog 92 #[kS l] w0 F K := by
  refine Tri.enterF Tryd.func92 Tryd.ntmps92 Tryd.results92 rfl rfl fun fr hfr => ?_
  repeat' (first | refine walk ?_ | exact trivial | refine Tw.mk ?_ ?_ | fail)
  refine XS.loopI (ι := Nat) (fun i => [(0, kS l), (6, kI l.length), (7, kI i)]) (fun _ => F) (fun i => i ≤ l.length ∧ ∀ (j : Nat) c, j < i → l[j]? = some c → valB c = true) (fun i => l.length - i) 0 ⟨Nat.zero_le _, fun j _ hj => absurd hj (by omega)⟩ ⟨rfl, rfl, rfl, trivial⟩ entA ?_
  rintro i e ⟨hi, ha⟩ ih
  by_cases hlt : i < l.length
  · obtain ⟨c, hc⟩ : ∃ c, l[i]? = some c := ⟨_, List.getElem?_eq_getElem hlt⟩
    repeat' (first | refine walk ?_ | exact trivial | refine Tw.mk ?_ ?_ | intro hx | (exfalso; omega) | exact Out.i (h2 fun ht => by have := ht.1 c (List.mem_of_getElem? hc); rw [valB_no (by omega)] at this; cases this) | exact ih (i + 1) _ _ ⟨hlt, all_step ha hc (valB_yes (by omega))⟩ (by omega) ⟨rfl, rfl, rfl, trivial⟩ entA | fail)
  · obtain rfl : i = l.length := by omega
    have ha := all_done ha
    clear ih
    repeat' (first | refine walk ?_ | exact trivial | refine Tw.mk ?_ ?_ | intro hx | (exfalso; omega) | refine trim_spec (by omega) ?_ | exact Out.i (h1 ⟨ha, by assumption⟩) | exact Out.i (h2 fun ht => absurd ht.2 (by assumption)) | fail)
/-- A field's line. -/
abbrev fldV (l : List UInt8) : List Value := [kS (before 58 l), kS (trim (behind 58 l))]
theorem field_spec {l : List UInt8} (hl : l.length ≤ 4611686018427387904) (h1 : fieldP l → K (.tuple #[.agg ⟨fldV l⟩, kI 0]) F) (h2 : ¬ fieldP l → K (.tuple #[.agg ⟨[kS [], kS []]⟩, kI 70]) F) : Tri Tryd.prog 77 #[kS l] w0 F K := by
  refine Tri.enterF Tryd.func77 Tryd.ntmps77 Tryd.results77 rfl rfl fun fr hfr => ?_
  have hb : 58 ∈ l → (before 58 l).length ≤ l.length ∧ (behind 58 l).length ≤ l.length := fun h => by have := len_before h; omega
  repeat' (first | refine walk ?_ | exact trivial | refine Tw.mk ?_ ?_ | intro hx | (intro (bx : Nat)) | refine cut_spec hl ?_ ?_ | refine trim_spec (by have := hb (by assumption); omega) ?_ | refine trim_spec (by first | exact Nat.zero_le _ | omega) ?_ | refine token_spec (by have := hb (by assumption); omega) ?_ ?_ | refine value_spec (by have := hb (by assumption); have := trim_le (behind 58 l); omega) ?_ ?_ | fail)
  all_goals first | exact Out.s0 (h1 ⟨by assumption, by assumption, by assumption⟩) | exact Out.s0 (h2 fun ht => absurd ht.1 (by assumption)) | exact Out.s0 (h2 fun ht => absurd ht.2.1 (by assumption)) | exact Out.s0 (h2 fun ht => absurd ht.2.2 (by assumption))
end Go.Proofs.YtngicmoadobgpaaDoor

/- Contracts: numbers in the base of sixteen. Conditions: none. -/
namespace Go.Proofs.YtngicmoadobgpaaDoor
open Go Go.Sx Go.ChunkM Go.StrM
variable {w0 : World} {F H : List HProp} {K : Value → List HProp → Prop}
theorem hexDig_dig {c : UInt8} (h : isDig c = true) : hexDig c = some (c.toNat - 48) := by
  simp only [isDig, decide_eq_true_eq] at h
  unfold hexDig; rw [if_pos h]
theorem hexDig_let {c : UInt8} (h : isDig c = false) (h2 : 97 ≤ c.toNat ||| 32 ∧ c.toNat ||| 32 ≤ 102) : hexDig c = some ((c.toNat ||| 32) - 87) := by
  simp only [isDig, decide_eq_false_iff_not] at h
  unfold hexDig; rw [if_neg h, if_pos h2]
theorem hexDig_no {c : UInt8} (h : isDig c = false) (h2 : ¬ (97 ≤ c.toNat ||| 32 ∧ c.toNat ||| 32 ≤ 102)) : hexDig c = none := by
  simp only [isDig, decide_eq_false_iff_not] at h
  unfold hexDig; rw [if_neg h, if_neg h2]
theorem hexGo_step {l : List UInt8} {i n : Nat} {c : UInt8} (hc : l[i]? = some c) : hexGo (l.drop i) n = match hexDig c with | some d => hexGo (l.drop (i + 1)) (n * 16 + d) | none => none := by
  have hlt := (List.getElem?_eq_some_iff.1 hc)
  rw [List.drop_eq_getElem_cons hlt.1, hlt.2]; rfl
theorem hex_spec {l : List UInt8} (hl : l.length ≤ 4611686018427387904) (h1 : ∀ n : Nat, hexOf l 8 = some n → n < 4294967296 → K (.tuple #[kI n, .bool true]) F) (h2 : hexOf l 8 = none → K (.tuple #[kI 0, .bool false]) F) : Tri Tryd.prog 89 #[kS l, kI 8] w0 F K := by
  have hno : l = [] ∨ 8 < l.length → hexOf l 8 = none := fun h => by unfold hexOf; rw [if_pos h]
  refine Tri.enterF Tryd.func89 Tryd.ntmps89 Tryd.results89 rfl rfl fun fr hfr => ?_
  repeat' (first | refine walk ?_ | exact trivial | refine Tw.mk ?_ ?_ | intro hx | refine XO.minI rfl rfl rfl rfl rfl (fun hm => ?_) (fun hm => ?_) | (exfalso; omega) | exact Out.i (h2 (hno (by first | exact .inl (by assumption) | exact .inr (by omega)))) | fail)
  rename_i hne
  have hok : ¬ (l = [] ∨ 8 < l.length) := fun h => by
    rcases h with h | h
    · exact hne h
    · omega
  refine XS.loopI (ι := Nat × Nat) (fun q => [(0, kS l), (6, kI q.2), (19, kI l.length), (20, kI q.1)]) (fun _ => F) (fun q => q.1 ≤ l.length ∧ q.2 < 16 ^ q.1 ∧ hexGo l 0 = hexGo (l.drop q.1) q.2) (fun q => l.length - q.1) (0, 0) ⟨Nat.zero_le _, by decide, rfl⟩ ⟨rfl, rfl, rfl, rfl, trivial⟩ entA ?_
  rintro ⟨i, n⟩ e ⟨hi, hn, hg⟩ ih
  simp only at hi hn hg
  have h16 : (16 : Nat) ^ i ≤ 16 ^ 8 := Nat.pow_le_pow_right (by decide) (by omega)
  have h168 : (16 : Nat) ^ 8 = 4294967296 := by decide
  dsimp only
  by_cases hlt : i < l.length
  · obtain ⟨c, hc⟩ : ∃ c, l[i]? = some c := ⟨_, List.getElem?_eq_getElem hlt⟩
    have hs := hexGo_step (n := n) hc
    have hc8 := u8_lt c
    have hor : c.toNat ||| 32 < 2 ^ 8 := Nat.or_lt_two_pow hc8 (by decide)
    have hi16 : (16 : Nat) ^ (i + 1) = 16 ^ i * 16 := Nat.pow_succ ..
    have hdg : isDig c = true → 48 ≤ c.toNat ∧ c.toNat ≤ 57 := fun h => by simpa only [isDig, decide_eq_true_eq] using h
    have hs1 : isDig c = true → hexGo l 0 = hexGo (l.drop (i + 1)) (n * 2 ^ 4 + (c.toNat - 48)) := fun h => by rw [hg, hs, hexDig_dig h]
    have hs2 : isDig c = false → 97 ≤ c.toNat ||| 32 ∧ c.toNat ||| 32 ≤ 102 → hexGo l 0 = hexGo (l.drop (i + 1)) (n * 2 ^ 4 + ((c.toNat ||| 32) - 97 + 10)) := fun h h2 => by
      rw [hg, hs, hexDig_let h h2, show (c.toNat ||| 32) - 97 + 10 = (c.toNat ||| 32) - 87 by omega]
    have hs3 : isDig c = false → ¬ (97 ≤ c.toNat ||| 32 ∧ c.toNat ||| 32 ≤ 102) → hexOf l 8 = none := fun h h2 => by
      unfold hexOf; rw [if_neg hok, hg, hs, hexDig_no h h2]
    repeat' (first | refine walk ?_ | exact trivial | refine Tw.mk ?_ ?_ | (intro hx; have hy := hdg hx) | intro hx | refine digit_spec ?_ ?_ | (exfalso; omega) | fail)
    all_goals first
      | exact ih (i + 1, n * 2 ^ 4 + (c.toNat - 48)) _ _ ⟨hlt, by simp only; omega, hs1 hx⟩ (by simp only; omega) ⟨rfl, rfl, rfl, rfl, trivial⟩ entA
      | exact ih (i + 1, n * 2 ^ 4 + ((c.toNat ||| 32) - 97 + 10)) _ _ ⟨hlt, by simp only; omega, hs2 (by assumption) (by omega)⟩ (by simp only; omega) ⟨rfl, rfl, rfl, rfl, trivial⟩ entA
      | exact Out.i (h2 (hs3 (by assumption) (by omega)))
  · obtain rfl : i = l.length := by omega
    clear ih
    repeat' (first | refine walk ?_ | exact trivial | refine Tw.mk ?_ ?_ | intro hx | (exfalso; omega) | exact Out.i (h1 n (by unfold hexOf; rw [if_neg hok, hg, List.drop_length]; rfl) (by omega)) | fail)
end Go.Proofs.YtngicmoadobgpaaDoor

/- Rules: what a strings.Builder does with pointers and with the memory of its bytes. Conditions: the table 'T' fits the program. -/
namespace Go.Sx
open Go Go.RowKit
section
variable {P : Program} {T : Tbl} {w0 : World} {n : Nat} {HL : Held} {ops : Array Oper} {J : Env → List HProp → Prop} {ix : Nat} {rest : List Oper} {o : Oper} {e : Env} {H F : List HProp}
theorem shape_of {w : World} {b : Nat} {cs : Array Value} {t : TypeId} {fz : Nat × Nat} (h : w.heap[b]? = some (.cells cs t fz)) : w.shape? b = some (t, cs.size) := by
  simp [World.shape?, h]
theorem XO.toUnsafe {s t u tb : TypeId} {x : Operand} {b k : Nat} {l : List Value} {d : Nat} (hT : T.Ok P) (hk0 : Keeps w0 (cel b tb l :: F) (keptBy HL ix)) (hg : wantedE ops e n o = true) (hd : o.dst = some d) (hop : o.op = .convert s t x) (hs : T.und s = some (.pointer u)) (ht : T.und t = some .unsafePointer) (hz : T.size u = some (k + 1))
    (hx : e.ev n x = .pointer (some ⟨b, 0, none⟩)) (hl : Nat.blt 0 l.length = true) (h : XO P T w0 n HL ops J (ix + 1) rest (e.upd d (.pointer (some ⟨b, 0, none⟩))) (cel b tb l :: F)) : XO P T w0 n HL ops J ix (o :: rest) e (cel b tb l :: F) := by
  refine .effOp hk0 hg (by rw [hop]; simp [cls, hs, ht]) (fun w hrel => ⟨_, w, _, .inl ?_, hrel, hk0, by rw [hd]; exact h⟩)
  obtain ⟨i, hi, hsz⟩ := hT.size _ _ hz
  have hg2 := hrel.get
  have := Lib.run_to_unsafe (P := P) w ⟨b, 0, none⟩ (hT.und _ _ hs) (hT.und _ _ ht) hi (by omega) (shape_of hg2) (Nat.le_of_ble_eq_true hl)
  simp [execOp, hop, hx, this]
theorem XO.fromUnsafe {s t u tb : TypeId} {x : Operand} {b k : Nat} {l : List Value} {d : Nat} (hT : T.Ok P) (hk0 : Keeps w0 (cel b tb l :: F) (keptBy HL ix)) (hg : wantedE ops e n o = true) (hd : o.dst = some d) (hop : o.op = .convert s t x) (hs : T.und s = some .unsafePointer) (ht : T.und t = some (.pointer u)) (hz : T.size u = some k)
    (hx : e.ev n x = .pointer (some ⟨b, 0, none⟩)) (hl : liesAt P P.depth tb (l.length / P.cellsOf tb) 0 u 1 = true) (h : XO P T w0 n HL ops J (ix + 1) rest (e.upd d (.pointer (some ⟨b, 0, none⟩))) (cel b tb l :: F)) : XO P T w0 n HL ops J ix (o :: rest) e (cel b tb l :: F) := by
  refine .effOp hk0 hg (by rw [hop]; simp [cls, hs, ht]) (fun w hrel => ⟨_, w, _, .inl ?_, hrel, hk0, by rw [hd]; exact h⟩)
  obtain ⟨i, hi, hsz⟩ := hT.size _ _ hz
  have hg2 := hrel.get
  have := Lib.run_from_unsafe (P := P) w ⟨b, 0, none⟩ (hT.und _ _ hs) (hT.und _ _ ht) hi (shape_of hg2) hl
  simp [execOp, hop, hx, this]
theorem XO.neqSame {x y : Operand} {t t' u : TypeId} {a : Addr} {k : Nat} {d : Nat} (hT : T.Ok P) (hh : heldAt HL ix = none) (hg : wantedE ops e n o = true) (hd : o.dst = some d) (hop : o.op = .binOp .neq t x y t') (hu : T.und t = some (.pointer u)) (hz : T.size u = some k) (hlk : looks T t x y = true)
    (hx : e.ev n x = .pointer (some a)) (hy : e.ev n y = .pointer (some a)) (h : XO P T w0 n HL ops J (ix + 1) rest (e.upd d (.bool false)) H) : XO P T w0 n HL ops J ix (o :: rest) e H := by
  refine .readOp (v := .bool false) hh hg (by rw [hop]; simp [cls, hlk]) (fun w hrel => ?_) (by rw [hd]; exact h)
  obtain ⟨i, hi, hsz⟩ := hT.size _ _ hz
  have := Lib.run_neq_ptr_same (P := P) w a (hT.und _ _ hu) hi
  simp only [execOp, hop, hx, hy, Sem.run_bind, eqGuard_plain BinOp.neq t x y (.pointer (some a)) (.pointer (some a)) (by simp) (by simp), Result.andThen_ok, this]
  rfl
theorem XO.sliceData {x : Operand} {ts : Array TypeId} {a : Option Addr} {k c : Nat} {d : Nat} (hk0 : Keeps w0 H (keptBy HL ix)) (hg : wantedE ops e n o = true) (hd : o.dst = some d) (hop : o.op = .call { callee := .builtin .unsafeSliceData, args := #[x], argTypes := ts })
    (hx : e.ev n x = .slice a k c) (hc : a = none ∨ 0 < c) (h : XO P T w0 n HL ops J (ix + 1) rest (e.upd d (.pointer a)) H) : XO P T w0 n HL ops J ix (o :: rest) e H := by
  refine .effOp hk0 hg (by rw [hop]; rfl) (fun w hrel => ⟨.pointer a, w, _, .inl ?_, hrel, hk0, by rw [hd]; exact h⟩)
  have : (Builtin.unsafeSliceData_ ts o.type #[.slice a k c]).run P w = .ok (.pointer a) w := by
    cases a with
    | none => rfl
    | some a => exact Lib.run_unsafeSliceData_row w ts o.type a k c (by rcases hc with h | h; cases h; omega)
  simp only [execOp, hop, resolve, invoke, builtin, Sem.run_bind, Sem.run_pure, Result.andThen_ok, List.map_toArray, List.map_cons, List.map_nil, hx, this]
theorem XO.unsafeStr {x y : Operand} {pt it u : TypeId} {a : Option Addr} {cap : Nat} {l : List UInt8} {d : Nat} (hT : T.Ok P) (hk0 : Keeps w0 (Row a cap u 1 l.length (bys l) :: F) (keptBy HL ix)) (hk : keptBy HL ix = []) (hg : wantedE ops e n o = true) (hd : o.dst = some d) (hop : o.op = .call { callee := .builtin .unsafeString, args := #[x, y], argTypes := #[pt, it] })
    (hp : T.und pt = some (.pointer u)) (hc : P.cellsOf u = 1) (hx : e.ev n x = .pointer a) (hy : e.ev n y = .int .i64 l.length) (h : XO P T w0 n HL ops J (ix + 1) rest (e.upd d (kS l)) F) : XO P T w0 n HL ops J ix (o :: rest) e (Row a cap u 1 l.length (bys l) :: F) := by
  by_cases h0 : l = []
  · subst h0
    refine .effOp hk0 hg (by rw [hop]; rfl) (fun w hrel => ⟨kS [], w, F, .inl ?_, hrel.ent (Ent.drop _ _), by rw [hk]; trivial, by rw [hd]; exact h⟩)
    have := Lib.run_unsafeString_none (P := P) w pt it o.type a
    simp only [execOp, hop, resolve, invoke, builtin, Sem.run_bind, Sem.run_pure, Result.andThen_ok, List.map_toArray, List.map_cons, List.map_nil, hx, hy, List.length_nil, Int.natCast_zero, this]
    rfl
  · have hl : 0 < l.length := List.length_pos_iff.2 h0
    refine .effOp hk0 hg (by rw [hop]; rfl) (fun w hrel => ?_)
    obtain ⟨g, rfl, hr2⟩ := hrel.row_open hl
    obtain ⟨tail, hr3, hl1, hl2, hkc, hcm⟩ := hr2.rowAt_blk
    have hg2 := hr3.get
    have hlen : l.length ≤ (bys l ++ tail).length := by rw [List.length_append, bys_length]; omega
    have hrun : (Builtin.unsafeString_ #[pt, it] o.type #[.pointer (some ⟨g, 0, none⟩), .int .i64 l.length]).run P w = .ok (.string ⟨l.toArray⟩) (w.freeze ⟨g, 0, none⟩ l.length) := by
      refine Lib.run_unsafeString_row w pt it o.type u (hT.und _ _ hp) hc g _ (shape_of hg2) l h0 hlen (by simp only [maxLen] at hcm; omega) (fun j v hj => ?_)
      rw [Addr.add_mk, Nat.zero_add]
      exact Reads.row (bys_get hj) w hr2
    refine ⟨kS l, w.freeze ⟨g, 0, none⟩ l.length, F, .inl ?_, ?_, by rw [hk]; trivial, by rw [hd]; exact h⟩
    · simp only [execOp, hop, resolve, invoke, builtin, Sem.run_bind, Sem.run_pure, Result.andThen_ok, List.map_toArray, List.map_cons, List.map_nil, hx, hy, hrun]
    · have hne : ¬ l.length = 0 := by omega
      unfold World.freeze
      rw [if_neg hne]
      refine Rel.ent (H := blk g (.cells ⟨bys l ++ tail⟩ u (0, l.length)) :: F) ?_ (Ent.drop _ _)
      refine Rel.set (o' := .cells ⟨bys l ++ tail⟩ u (0, l.length)) hr3 rfl rfl rfl ?_ ?_ (fun j hj => ?_)
      · simp only [Array.size_modify]
      · simp only [Array.getElem?_modify, if_true, hg2, Option.map_some]
        simp
      · simp only [Array.getElem?_modify]
        rw [if_neg (Ne.symm hj)]
end
end Go.Sx

/- Contracts: strings.Builder. Conditions: no more bytes than memory bears. -/
namespace Go.Proofs.YtngicmoadobgpaaDoor
open Go Go.Sx Go.ChunkM Go.StrM
variable {w0 : World} {F H : List HProp} {K : Value → List HProp → Prop}
/-- A builder in a block of its own: what it holds. -/
def bld (b : Nat) (tb : TypeId) (l : List UInt8) : HProp := hex fun q : { q : Bool × Option Addr × Nat // q.2.1 = none ∨ 0 < q.2.2 } =>
  stars [cel b tb [.pointer (if q.1.1 then some ⟨b, 0, none⟩ else none), .slice q.1.2.1 l.length q.1.2.2], Row q.1.2.1 q.1.2.2 5 1 l.length (bys l)]
theorem bld_mk {b tb : Nat} {l : List UInt8} (p : Bool) {a : Option Addr} {c : Nat} (h : a = none ∨ 0 < c) : Ent (cel b tb [.pointer (if p then some ⟨b, 0, none⟩ else none), .slice a l.length c] :: Row a c 5 1 l.length (bys l) :: F) (bld b tb l :: F) :=
  Ent.trans Ent.pack2 (Ent.hex (f := fun q : { q : Bool × Option Addr × Nat // q.2.1 = none ∨ 0 < q.2.2 } => stars [cel b tb [.pointer (if q.1.1 then some ⟨b, 0, none⟩ else none), .slice q.1.2.1 l.length q.1.2.2], Row q.1.2.1 q.1.2.2 5 1 l.length (bys l)]) ⟨(p, a, c), h⟩)
theorem bld_open {f : FuncId} {args : Array Value} {b tb : Nat} {l : List UInt8} (h : ∀ (p : Bool) (a : Option Addr) (c : Nat), (a = none ∨ 0 < c) → Tri Tryd.prog f args w0 (cel b tb [.pointer (if p then some ⟨b, 0, none⟩ else none), .slice a l.length c] :: Row a c 5 1 l.length (bys l) :: F) K) : Tri Tryd.prog f args w0 (bld b tb l :: F) K :=
  Tri.ex (ι := { q : Bool × Option Addr × Nat // q.2.1 = none ∨ 0 < q.2.2 }) (H' := fun q => cel b tb [.pointer (if q.1.1 then some ⟨b, 0, none⟩ else none), .slice q.1.2.1 l.length q.1.2.2] :: Row q.1.2.1 q.1.2.2 5 1 l.length (bys l) :: F)
    (fun _ hr => let ⟨x, hx⟩ := Rel.hex hr; ⟨x, hx.ent Ent.unpack2⟩) (fun q => h q.1.1 q.1.2.1 q.1.2.2 q.2)
/-- A new one. -/
theorem bld_new {b tb : Nat} : Ent (cel b tb [.pointer none, .slice none 0 0] :: F) (bld b tb [] :: F) :=
  Ent.trans (Ent.cons _ (Row.nil 5 1 F)) (bld_mk (l := []) false (.inl rfl))
/-- The types at whose beginning a builder lies. -/
def bldT (tb : TypeId) : Prop := liesAt Tryd.prog Tryd.prog.depth tb (2 / Tryd.prog.cellsOf tb) 0 74 1 = true
theorem bldT_own : bldT 74 := by unfold bldT; kernel_rfl
set_option maxRecDepth 100000 in
theorem noEsc_run (v : Value) (w : World) : (callFunc 75 ⟨[v]⟩).run Tryd.prog w = .ok (.value v) w := by
  rw [run_callFunc_extern Tryd.func75 (by kernel_rfl) (by kernel_rfl) (by kernel_rfl) (e := Extern.AbiNoEscape.same) (by kernel_rfl), Lib.run_noEscape]
  rfl
set_option maxRecDepth 20000 in
theorem copyCheck_spec {b tb : Nat} {p : Bool} {v : Value} (ht : bldT tb) (h : K (.tuple #[]) (cel b tb [ptr b, v] :: F)) : Tri Tryd.prog 60 #[ptr b] w0 (cel b tb [.pointer (if p then some ⟨b, 0, none⟩ else none), v] :: F) K := by
  cases p with
  | true =>
    refine Tri.enterF Tryd.func60 Tryd.ntmps60 Tryd.results60 rfl rfl fun fr hfr => ?_
    simp only [if_true]
    repeat' (first | refine walk ?_ | exact trivial | refine Tw.mk ?_ ?_ | refine XO.neqSame TT_ok rfl rfl rfl rfl rfl rfl rfl rfl rfl ?_ | exact Out.i h | fail)
  | false =>
    refine Tri.enterF Tryd.func60 Tryd.ntmps60 Tryd.results60 rfl rfl fun fr hfr => ?_
    simp only [Bool.false_eq_true, if_false]
    have nx := noEsc_run (.pointer (some ⟨b, 0, none⟩))
    repeat' (first | refine walk ?_ | exact trivial | refine Tw.mk ?_ ?_ | refine XO.toUnsafe TT_ok trivial rfl rfl rfl rfl rfl rfl rfl rfl ?_ | refine XO.callX trivial rfl rfl rfl rfl (noEsc_run _) ?_ | refine XO.fromUnsafe TT_ok trivial rfl rfl rfl rfl rfl rfl rfl ht ?_ | exact Out.i h | fail)
theorem bld_of {b tb n : Nat} {l : List UInt8} {vs : List Value} {a : Option Addr} {c : Nat} (hn : n = l.length) (hv : vs = bys l) (h : a = none ∨ 0 < c) : Ent (cel b tb [ptr b, .slice a n c] :: Row a c 5 1 n vs :: F) (bld b tb l :: F) := by
  subst hn hv; exact bld_mk true h
set_option maxRecDepth 20000 in
theorem wstr_spec {b tb : Nat} {l s : List UInt8} (ht : bldT tb) (hN : l.length + s.length ≤ 140737488355328) (h : K (.tuple #[kI s.length, .nilIface]) (bld b tb (l ++ s) :: F)) : Tri Tryd.prog 36 #[ptr b, kS s] w0 (bld b tb l :: F) K := by
  refine bld_open fun p a c hac => ?_
  refine Tri.enterF Tryd.func36 Tryd.ntmps36 Tryd.results36 rfl rfl fun fr hfr => ?_
  repeat' (first | refine walk ?_ | exact trivial | refine Tw.mk ?_ ?_ | refine copyCheck_spec ht ?_ | (refine XO.sel1 (c := Row a c 5 1 l.length (bys l)) ?_; refine XO.appendS TT_ok trivial rfl rfl rfl rfl rfl rfl rfl rfl rfl rfl rfl hN (fun _ _ => trivial) (fun a' cap' hn => ?_)) | fail)
  exact Out.e h (Ent.trans (selA (c := cel b tb [ptr b, .slice a' (l.length + s.length) cap'])) (bld_of (by simp) (by simp [bys]) (hn hac)))
theorem bstr_spec {b tb : Nat} {l : List UInt8} (h : K (kS l) F) : Tri Tryd.prog 38 #[ptr b] w0 (bld b tb l :: F) K := by
  refine bld_open fun p a c hac => ?_
  refine Tri.enterF Tryd.func38 Tryd.ntmps38 Tryd.results38 rfl rfl fun fr hfr => ?_
  repeat' (first | refine walk ?_ | exact trivial | refine Tw.mk ?_ ?_ | refine XS.drawH (T := TT) [(8, [4], heldC ⟨b, 1, none⟩ (.slice a l.length c))] [(8, [4])] rfl follows_ok (by decide +kernel) ?_ | refine XO.sliceData (by repeat' (first | exact trivial | exact readA | exact heldM_0 | exact heldM_1 | exact heldM_2 | exact heldM_3 | exact heldM_4 | refine And.intro ?_ ?_ | exact Reads.here rfl | refine Reads.skip ?_)) rfl rfl rfl rfl hac ?_ | (refine XO.sel1 (c := Row a c 5 1 l.length (bys l)) ?_; refine XO.unsafeStr TT_ok trivial rfl rfl rfl rfl rfl (by kernel_rfl) rfl rfl ?_) | refine XO.callH (by repeat' (first | exact trivial | exact readA | exact heldM_0 | exact heldM_1 | exact heldM_2 | exact heldM_3 | exact heldM_4 | refine And.intro ?_ ?_ | exact Reads.here rfl | refine Reads.skip ?_)) rfl rfl rfl (by kernel_rfl) rfl ?_ | refine And.intro (by repeat' (first | exact trivial | exact readA | exact heldM_0 | exact heldM_1 | exact heldM_2 | exact heldM_3 | exact heldM_4 | refine And.intro ?_ ?_ | exact Reads.here rfl | refine Reads.skip ?_)) ?_ | refine XO.loadH TT_ok rfl rfl rfl rfl rfl rfl (by repeat' (first | exact trivial | exact readA | exact heldM_0 | exact heldM_1 | exact heldM_2 | exact heldM_3 | exact heldM_4 | refine And.intro ?_ ?_ | exact Reads.here rfl | refine Reads.skip ?_)) ?_ | refine XO.buildSlice TT_ok (by repeat' (first | exact trivial | exact readA | exact heldM_0 | exact heldM_1 | exact heldM_2 | exact heldM_3 | exact heldM_4 | refine And.intro ?_ ?_ | exact Reads.here rfl | refine Reads.skip ?_)) rfl rfl rfl rfl rfl rfl rfl rfl rfl rfl rfl rfl (fun _ => (by repeat' (first | exact trivial | exact readA | exact heldM_0 | exact heldM_1 | exact heldM_2 | exact heldM_3 | exact heldM_4 | refine And.intro ?_ ?_ | exact Reads.here rfl | refine Reads.skip ?_))) (fun b1 => ?_) | fail)
  exact Out.s0 h
end Go.Proofs.YtngicmoadobgpaaDoor

/- Contracts: a decoder of chunked bodies: its lines. Conditions: what a decoder keeps. -/
namespace Go.Proofs.YtngicmoadobgpaaDoor
open Go Go.Sx Go.ChunkM Go.StrM
variable {w0 : World} {F H : List HProp} {K : Value → List HProp → Prop}
theorem cut2_spec {l : List UInt8} {c : UInt8} (hl : l.length ≤ 4611686018427387904) (h : ∀ t, K (.tuple #[kS (before c l), kS (behind c l), .bool t]) F) : Tri Tryd.prog 88 #[kS l, kS [c]] w0 F K :=
  cut_spec hl (fun _ => h true) (fun hm => by have e := before_not c l hm; have := h false; rw [e.1, e.2] at this; exact this)
abbrev dcel (b : Nat) (D : DS) (a : Option Addr) (c : Nat) : HProp := cel b 71 [kI D.most, kI D.size, kI D.state, kI D.left, .slice a D.line.length c, .bool D.cr, kI D.trl, kI D.err]
/-- The numbers of a decoder lie in their bounds. -/
def lim (D : DS) : Prop := -9223372036854775808 ≤ D.most ∧ D.most ≤ 9223372036854775807
theorem bound_spec {b c : Nat} {D : DS} {a : Option Addr} (h : K (kI (bound D.state)) (dcel b D a c :: F)) : Tri Tryd.prog 62 #[ptr b] w0 (dcel b D a c :: F) K := by
  have e0 : D.state = 0 → bound D.state = 64 := fun h => by unfold bound; rw [if_pos h]
  have e3 : D.state ≠ 0 → D.state = 3 → bound D.state = 512 := fun h h2 => by unfold bound; rw [if_neg h, if_pos h2]
  have e9 : D.state ≠ 0 → D.state ≠ 3 → bound D.state = 0 := fun h h2 => by unfold bound; rw [if_neg h, if_neg h2]
  refine Tri.enterF Tryd.func62 Tryd.ntmps62 Tryd.results62 rfl rfl fun fr hfr => ?_
  repeat' (first | refine walk ?_ | exact trivial | refine Tw.mk ?_ ?_ | intro hx | fail)
  all_goals first
    | (rw [e0 (by assumption)] at h; exact Out.i h)
    | (rw [e3 (by assumption) (by assumption)] at h; exact Out.i h)
    | (rw [e9 (by assumption) (by assumption)] at h; exact Out.i h)
theorem extB_yes {c : UInt8} (h : (c.toNat : Int) = 9 ∨ ((32 : Int) ≤ c.toNat ∧ (c.toNat : Int) ≤ 126)) : extB c = true := by simp only [extB, decide_eq_true_eq]; omega
theorem extB_no {c : UInt8} (h : (c.toNat : Int) ≠ 9 ∧ ((c.toNat : Int) < 32 ∨ (126 : Int) < c.toNat)) : extB c = false := by simp only [extB, decide_eq_false_iff_not]; omega
theorem hexU_spec {l : List UInt8} (hl : l.length ≤ 4611686018427387904) (h : ∀ (n : Nat) (t : Bool), (t = true ∧ hexOf l 8 = some n ∧ n < 4294967296) ∨ (t = false ∧ n = 0 ∧ hexOf l 8 = none) → K (.tuple #[kI n, .bool t]) F) : Tri Tryd.prog 89 #[kS l, kI 8] w0 F K :=
  hex_spec hl (fun n h1 h2 => h n true (.inl ⟨rfl, h1, h2⟩)) (fun h1 => h 0 false (.inr ⟨rfl, rfl, h1⟩))
theorem sized_spec {b c : Nat} {D : DS} {a : Option Addr} {l : List UInt8} (hl : l.length ≤ 4611686018427387904) (hD : Ok D) (hm : lim D) (h : K (kI (sized D l).2) (dcel b (sized D l).1 a c :: F)) : Tri Tryd.prog 76 #[ptr b, kS l] w0 (dcel b D a c :: F) K := by
  have hb1 := before_le 59 l
  have hb2 := behind_le 59 l
  have s0 := hD.s0
  have s1 := hD.s1
  obtain ⟨m1, m2⟩ := hm
  refine Tri.enterF Tryd.func76 Tryd.ntmps76 Tryd.results76 rfl rfl fun fr hfr => ?_
  repeat' (first | refine walk ?_ | exact trivial | refine Tw.mk ?_ ?_ | intro (tb : Bool) | (intro (n : Nat) (t : Bool) hn) | refine cut2_spec hl ?_ | refine hexU_spec (by omega) ?_ | fail)
  generalize hx : behind 59 l = ext at *
  have hrest : ∀ tt : Bool, (tt = true ↔ t = true ∧ ext.all extB = true) → sized D l = if tt then (if n = 0 then ({ D with state := 3 }, 0) else if D.most - D.size < n then (D, 101) else ({ D with state := 1, left := n }, 0)) else (D, 100) := by
    intro tt htt
    unfold sized
    rw [hx]
    rcases hn with ⟨h1, h2, _⟩ | ⟨h1, _, h2⟩
    · rw [h2]
      subst h1
      simp only [true_and] at htt
      by_cases he : ext.all extB = true
      · have := htt.2 he; subst this; simp [he]
      · have : tt = false := by
          cases tt
          · rfl
          · exact absurd (htt.1 rfl) he
        subst this; simp [he]
    · rw [h2]
      subst h1
      have : tt = false := by
        cases tt
        · rfl
        · exact absurd (htt.1 rfl).1 (by simp)
      subst this; rfl
  refine XS.loopI (ι := Nat × Bool) (fun q => [(0, ptr b), (6, kS ext), (8, kI n), (9, .bool q.2), (23, kI ext.length), (24, kI q.1)]) (fun _ => dcel b D a c :: F) (fun q => q.1 ≤ ext.length ∧ (q.2 = true ↔ t = true ∧ ∀ (j : Nat) x, j < q.1 → ext[j]? = some x → extB x = true)) (fun q => ext.length - q.1) (0, t) ⟨Nat.zero_le _, ⟨fun h => ⟨h, fun j _ hj => absurd hj (by simp)⟩, fun h => h.1⟩⟩ ⟨rfl, rfl, rfl, rfl, rfl, rfl, trivial⟩ entA ?_
  rintro ⟨i, tt⟩ e ⟨hi, ht⟩ ih
  simp only at hi ht
  dsimp only
  by_cases hlt : i < ext.length
  · obtain ⟨x, hc⟩ : ∃ c, ext[i]? = some c := ⟨_, List.getElem?_eq_getElem hlt⟩
    have stepT : tt = true → extB x = true → (true = true ↔ t = true ∧ ∀ (j : Nat) y, j < i + 1 → ext[j]? = some y → extB y = true) := fun h1 h2 => ⟨fun _ => ⟨(ht.1 h1).1, all_step (ht.1 h1).2 hc h2⟩, fun _ => rfl⟩
    have stepF : tt = false ∨ extB x = false → (false = true ↔ t = true ∧ ∀ (j : Nat) y, j < i + 1 → ext[j]? = some y → extB y = true) := by
      intro h1
      refine ⟨fun h => (by cases h), fun h2 => ?_⟩
      rcases h1 with h1 | h1
      · have := ht.2 ⟨h2.1, fun j y hj hy => h2.2 j y (by omega) hy⟩
        rw [h1] at this; cases this
      · have := h2.2 i x (by omega) hc
        rw [h1] at this; cases this
    cases tt
    · repeat' (first | refine walk ?_ | exact trivial | refine Tw.mk ?_ ?_ | intro hy | (exfalso; omega) | exact ih (i + 1, false) _ _ ⟨hlt, stepF (.inl rfl)⟩ (by simp only; omega) ⟨rfl, rfl, rfl, rfl, rfl, rfl, trivial⟩ entA | fail)
    · repeat' (first | refine walk ?_ | exact trivial | refine Tw.mk ?_ ?_ | intro hy | (exfalso; omega) | fail)
      all_goals first
        | exact ih (i + 1, true) _ _ ⟨hlt, stepT rfl (extB_yes (by omega))⟩ (by simp only; omega) ⟨rfl, rfl, rfl, rfl, rfl, rfl, trivial⟩ entA
        | exact ih (i + 1, false) _ _ ⟨hlt, stepF (.inr (extB_no (by omega)))⟩ (by simp only; omega) ⟨rfl, rfl, rfl, rfl, rfl, rfl, trivial⟩ entA
  · obtain rfl : i = ext.length := by omega
    clear ih
    have hr := hrest tt (by rw [ht, List.all_eq_true]; exact ⟨fun h => ⟨h.1, all_done h.2⟩, fun h => ⟨h.1, fun j x _ hx => h.2 x (List.mem_of_getElem? hx)⟩⟩)
    have hn2 : tt = true → n < 4294967296 := fun h0 => by
      rcases hn with ⟨_, _, h⟩ | ⟨h, _⟩
      · exact h
      · have := (ht.1 h0).1; rw [h] at this; cases this
    cases tt
    · simp only [Bool.false_eq_true, if_false] at hr
      rw [hr] at h
      repeat' (first | refine walk ?_ | exact trivial | refine Tw.mk ?_ ?_ | intro hy | (exfalso; omega) | exact Out.i h | fail)
    · simp only [if_true] at hr
      have hn2 := hn2 rfl
      by_cases n0 : n = 0
      · subst n0
        rw [hr, if_pos rfl] at h
        repeat' (first | refine walk ?_ | exact trivial | refine Tw.mk ?_ ?_ | intro hy | (exfalso; omega) | exact Out.i h | fail)
      · rw [if_neg n0] at hr
        by_cases hov : D.most - D.size < n
        · rw [hr, if_pos hov] at h
          repeat' (first | refine walk ?_ | exact trivial | refine Tw.mk ?_ ?_ | intro hy | (exfalso; omega) | exact Out.i h | fail)
        · rw [hr, if_neg hov] at h
          repeat' (first | refine walk ?_ | exact trivial | refine Tw.mk ?_ ?_ | intro hy | (exfalso; omega) | exact Out.i h | fail)
end Go.Proofs.YtngicmoadobgpaaDoor
