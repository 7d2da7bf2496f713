/- Some texts put together: lemmas and contracts for the law. Conditions: as each text says. -/
import Derived.Ground.NamesProg
import Derived.Test.YtngicmoadobgpaaDoorProg
import Derived.Shelf.Strconv.Itoa3
import Derived.Shelf.Strings.OnBuilder
import Derived.Shelf.Strings.SlTrimAscii
import Derived.Test.YtngicmoadobgpaaDoorU3
import Derived.Lib.Bytealg
import Derived.Lib.SlTrimSet
import Derived.Test.YtngicmoadobgpaaDoorU9
import Derived.Test.YtngicmoadobgpaaDoorU8
import Derived.Lib.ConvBytes
/- Contracts of the library laid at this program. Conditions: none. -/
namespace Go.Proofs
open Go.Shelf
def Tryd.trimN_ren : Go.Shelf.Ren := ⟨fun | 160 => 103 | 232 => 113 | 231 => 112 | 227 => 114 | 234 => 116 | 233 => 115 | 236 => 118 | 235 => 117 | 228 => 124 | 271 => 127 | 151 => 126 | 197 => 125 | 120 => 135 | 152 => 134 | 260 => 133 | 137 => 105 | 119 => 138 | 224 => 122 | 225 => 121 | 217 => 119 | 266 => 128 | n => n, fun | 9 => 9 | 4 => 4 | 3 => 3 | 5 => 5 | 117 => 149 | 116 => 148 | 0 => 0 | 124 => 152 | 21 => 21 | 105 => 156 | 46 => 136 | 119 => 164 | 139 => 167 | 138 => 166 | n => n, fun | 3 => 4 | 4 => 5 | n => n⟩
theorem Tryd.trimN : Go.Proofs.Lays.n160 Tryd.prog Tryd.trimN_ren := {
  mixed := by kernel_rfl
  f119 := Tryd.func138.trans (congrArg some (by kernel_rfl))
  f120 := Tryd.func135.trans (congrArg some (by kernel_rfl))
  f137 := Tryd.func105.trans (congrArg some (by kernel_rfl))
  f151 := Tryd.func126.trans (congrArg some (by kernel_rfl))
  f152 := Tryd.func134.trans (congrArg some (by kernel_rfl))
  f160 := Tryd.func103.trans (congrArg some (by kernel_rfl))
  f197 := Tryd.func125.trans (congrArg some (by kernel_rfl))
  f217 := Tryd.func119.trans (congrArg some (by kernel_rfl))
  f224 := Tryd.func122.trans (congrArg some (by kernel_rfl))
  f225 := Tryd.func121.trans (congrArg some (by kernel_rfl))
  f227 := Tryd.func114.trans (congrArg some (by kernel_rfl))
  f228 := Tryd.func124.trans (congrArg some (by kernel_rfl))
  f231 := Tryd.func112.trans (congrArg some (by kernel_rfl))
  f232 := Tryd.func113.trans (congrArg some (by kernel_rfl))
  f233 := Tryd.func115.trans (congrArg some (by kernel_rfl))
  f234 := Tryd.func116.trans (congrArg some (by kernel_rfl))
  f235 := Tryd.func117.trans (congrArg some (by kernel_rfl))
  f236 := Tryd.func118.trans (congrArg some (by kernel_rfl))
  f260 := Tryd.func133.trans (congrArg some (by kernel_rfl))
  f266 := Tryd.func128.trans (congrArg some (by kernel_rfl))
  f271 := Tryd.func127.trans (congrArg some (by kernel_rfl))
  t0 := Tryd.underlying0
  a0 := Tryd.isAgg0
  z0 := Tryd.sizeOf0
  v0 := Tryd.zeroValue0
  t3 := Tryd.underlying3
  a3 := Tryd.isAgg3
  z3 := Tryd.sizeOf3
  v3 := Tryd.zeroValue3
  t4 := Tryd.underlying4
  a4 := Tryd.isAgg4
  z4 := Tryd.sizeOf4
  v4 := Tryd.zeroValue4
  t5 := Tryd.underlying5
  a5 := Tryd.isAgg5
  z5 := Tryd.sizeOf5
  v5 := Tryd.zeroValue5
  t9 := Tryd.underlying9
  a9 := Tryd.isAgg9
  z9 := Tryd.sizeOf9
  v9 := Tryd.zeroValue9
  t21 := Tryd.underlying21
  a21 := Tryd.isAgg21
  z21 := Tryd.sizeOf21
  v21 := Tryd.zeroValue21
  t46 := Tryd.underlying136
  a46 := Tryd.isAgg136
  z46 := Tryd.sizeOf136
  v46 := Tryd.zeroValue136
  t105 := Tryd.underlying156
  a105 := Tryd.isAgg156
  z105 := Tryd.sizeOf156
  v105 := Tryd.zeroValue156
  t116 := Tryd.underlying148
  a116 := Tryd.isAgg148
  z116 := Tryd.sizeOf148
  t117 := Tryd.underlying149
  a117 := Tryd.isAgg149
  z117 := Tryd.sizeOf149
  v117 := Tryd.zeroValue149
  t119 := Tryd.underlying164
  a119 := Tryd.isAgg164
  z119 := Tryd.sizeOf164
  t124 := Tryd.underlying152
  a124 := Tryd.isAgg152
  z124 := Tryd.sizeOf152
  v124 := Tryd.zeroValue152
  t138 := Tryd.underlying166
  a138 := Tryd.isAgg166
  z138 := Tryd.sizeOf166
  v138 := Tryd.zeroValue166
  t139 := Tryd.underlying167
  a139 := Tryd.isAgg167
  z139 := Tryd.sizeOf167
  v139 := Tryd.zeroValue167
  g3 := by kernel_rfl
  g4 := by kernel_rfl }
def Tryd.itoaN_ren : Go.Shelf.Ren := ⟨fun | 171 => 42 | 243 => 64 | 246 => 63 | 283 => 78 | 284 => 79 | 285 => 80 | 286 => 81 | 129 => 94 | 317 => 93 | 318 => 95 | 319 => 96 | 320 => 97 | 337 => 106 | 338 => 107 | n => n, fun | 3 => 3 | 9 => 9 | 2 => 2 | 4 => 4 | 171 => 118 | 0 => 0 | 53 => 119 | 37 => 31 | 5 => 5 | 173 => 122 | 212 => 132 | 51 => 133 | 20 => 20 | 213 => 134 | 46 => 136 | 232 => 153 | 233 => 154 | n => n, fun | 17 => 0 | 18 => 1 | 19 => 2 | n => n⟩
theorem Tryd.itoaN : Go.Proofs.LaysM.n171 Tryd.prog Tryd.itoaN_ren := {
  mixed := by kernel_rfl
  f129 := Tryd.func94.trans (congrArg some (by kernel_rfl))
  f171 := Tryd.func42.trans (congrArg some (by kernel_rfl))
  f243 := Tryd.func64.trans (congrArg some (by kernel_rfl))
  f246 := Tryd.func63.trans (congrArg some (by kernel_rfl))
  f283 := Tryd.func78.trans (congrArg some (by kernel_rfl))
  f284 := Tryd.func79.trans (congrArg some (by kernel_rfl))
  f285 := Tryd.func80.trans (congrArg some (by kernel_rfl))
  f286 := Tryd.func81.trans (congrArg some (by kernel_rfl))
  f317 := Tryd.func93.trans (congrArg some (by kernel_rfl))
  f318 := Tryd.func95.trans (congrArg some (by kernel_rfl))
  f319 := Tryd.func96.trans (congrArg some (by kernel_rfl))
  f320 := Tryd.func97.trans (congrArg some (by kernel_rfl))
  f337 := Tryd.func106.trans (congrArg some (by kernel_rfl))
  f338 := Tryd.func107.trans (congrArg some (by kernel_rfl))
  t0 := Tryd.underlying0
  a0 := Tryd.isAgg0
  z0 := Tryd.sizeOf0
  v0 := Tryd.zeroValue0
  t2 := Tryd.underlying2
  a2 := Tryd.isAgg2
  z2 := Tryd.sizeOf2
  v2 := Tryd.zeroValue2
  t3 := Tryd.underlying3
  a3 := Tryd.isAgg3
  z3 := Tryd.sizeOf3
  v3 := Tryd.zeroValue3
  t4 := Tryd.underlying4
  a4 := Tryd.isAgg4
  z4 := Tryd.sizeOf4
  v4 := Tryd.zeroValue4
  t5 := Tryd.underlying5
  a5 := Tryd.isAgg5
  z5 := Tryd.sizeOf5
  v5 := Tryd.zeroValue5
  t9 := Tryd.underlying9
  a9 := Tryd.isAgg9
  z9 := Tryd.sizeOf9
  v9 := Tryd.zeroValue9
  t20 := Tryd.underlying20
  a20 := Tryd.isAgg20
  z20 := Tryd.sizeOf20
  v20 := Tryd.zeroValue20
  t37 := Tryd.underlying31
  a37 := Tryd.isAgg31
  z37 := Tryd.sizeOf31
  v37 := Tryd.zeroValue31
  t46 := Tryd.underlying136
  a46 := Tryd.isAgg136
  z46 := Tryd.sizeOf136
  v46 := Tryd.zeroValue136
  t51 := Tryd.underlying133
  a51 := Tryd.isAgg133
  z51 := Tryd.sizeOf133
  v51 := Tryd.zeroValue133
  t53 := Tryd.underlying119
  a53 := Tryd.isAgg119
  z53 := Tryd.sizeOf119
  v53 := Tryd.zeroValue119
  t171 := Tryd.underlying118
  a171 := Tryd.isAgg118
  z171 := Tryd.sizeOf118
  v171 := Tryd.zeroValue118
  t173 := Tryd.underlying122
  a173 := Tryd.isAgg122
  z173 := Tryd.sizeOf122
  v173 := Tryd.zeroValue122
  t212 := Tryd.underlying132
  a212 := Tryd.isAgg132
  z212 := Tryd.sizeOf132
  v212 := Tryd.zeroValue132
  t213 := Tryd.underlying134
  a213 := Tryd.isAgg134
  z213 := Tryd.sizeOf134
  t232 := Tryd.underlying153
  a232 := Tryd.isAgg153
  z232 := Tryd.sizeOf153
  v232 := Tryd.zeroValue153
  t233 := Tryd.underlying154
  a233 := Tryd.isAgg154
  z233 := Tryd.sizeOf154
  v233 := Tryd.zeroValue154
  g17 := by kernel_rfl
  g18 := by kernel_rfl
  g19 := by kernel_rfl
  i0 := by kernel_rfl
  i2 := by kernel_rfl
  i3 := by kernel_rfl
  i4 := by kernel_rfl
  i5 := by kernel_rfl
  i9 := by kernel_rfl
  i20 := by kernel_rfl
  i37 := by kernel_rfl
  i46 := by kernel_rfl
  i51 := by kernel_rfl
  i53 := by kernel_rfl
  i171 := by kernel_rfl
  i173 := by kernel_rfl
  i212 := by kernel_rfl
  i232 := by kernel_rfl
  i233 := by kernel_rfl
  m17 := by kernel_rfl
  m18 := by kernel_rfl
  m19 := by kernel_rfl }
def Tryd.joinN_ren : Go.Shelf.Ren := ⟨fun | 156 => 67 | 165 => 85 | 166 => 36 | 169 => 38 | 240 => 60 | 241 => 100 | 276 => 75 | 277 => 110 | n => n, fun | 31 => 29 | 9 => 9 | 3 => 3 | 4 => 4 | 0 => 0 | 20 => 20 | 72 => 74 | 76 => 77 | 70 => 72 | 37 => 31 | 75 => 76 | 127 => 107 | 164 => 114 | 5 => 5 | 80 => 36 | n => n, fun | n => n⟩
theorem Tryd.joinN : Go.Proofs.Lays.n156 Tryd.prog Tryd.joinN_ren := {
  mixed := by kernel_rfl
  f156 := Tryd.func67.trans (congrArg some (by kernel_rfl))
  f165 := Tryd.func85.trans (congrArg some (by kernel_rfl))
  f166 := Tryd.func36.trans (congrArg some (by kernel_rfl))
  f169 := Tryd.func38.trans (congrArg some (by kernel_rfl))
  f240 := Tryd.func60.trans (congrArg some (by kernel_rfl))
  f241 := Tryd.func100.trans (congrArg some (by kernel_rfl))
  f276 := Tryd.func75.trans (congrArg some (by kernel_rfl))
  f277 := Tryd.func110.trans (congrArg some (by kernel_rfl))
  t0 := Tryd.underlying0
  a0 := Tryd.isAgg0
  z0 := Tryd.sizeOf0
  v0 := Tryd.zeroValue0
  t3 := Tryd.underlying3
  a3 := Tryd.isAgg3
  z3 := Tryd.sizeOf3
  v3 := Tryd.zeroValue3
  t4 := Tryd.underlying4
  a4 := Tryd.isAgg4
  z4 := Tryd.sizeOf4
  v4 := Tryd.zeroValue4
  t9 := Tryd.underlying9
  a9 := Tryd.isAgg9
  z9 := Tryd.sizeOf9
  v9 := Tryd.zeroValue9
  t20 := Tryd.underlying20
  a20 := Tryd.isAgg20
  z20 := Tryd.sizeOf20
  v20 := Tryd.zeroValue20
  t31 := Tryd.underlying29
  a31 := Tryd.isAgg29
  z31 := Tryd.sizeOf29
  v31 := Tryd.zeroValue29
  t37 := Tryd.underlying31
  a37 := Tryd.isAgg31
  z37 := Tryd.sizeOf31
  v37 := Tryd.zeroValue31
  t70 := Tryd.underlying72
  a70 := Tryd.isAgg72
  z70 := Tryd.sizeOf72
  v70 := Tryd.zeroValue72
  t72 := Tryd.underlying74
  a72 := Tryd.isAgg74
  z72 := Tryd.sizeOf74
  v72 := Tryd.zeroValue74
  t75 := Tryd.underlying76
  a75 := Tryd.isAgg76
  z75 := Tryd.sizeOf76
  v75 := Tryd.zeroValue76
  t76 := Tryd.underlying77
  a76 := Tryd.isAgg77
  z76 := Tryd.sizeOf77
  v76 := Tryd.zeroValue77
  t127 := Tryd.underlying107
  a127 := Tryd.isAgg107
  z127 := Tryd.sizeOf107
  v127 := Tryd.zeroValue107
  t164 := Tryd.underlying114
  a164 := Tryd.isAgg114
  z164 := Tryd.sizeOf114
  v164 := Tryd.zeroValue114 }
end Go.Proofs

/- Chunked bodies, in plain Lean: what a decoder does with each byte. Conditions: none. -/
namespace Go.ChunkM
/-- A decoder. state: 0 a size's line, 1 data, 2 data's end, 3 a trailer, 4 done. -/
structure DS where
  most : Int
  size : Int
  state : Int
  left : Int
  line : List UInt8
  cr : Bool
  trl : Int
  err : Int
/-- A byte's digit. -/
def hexDig (c : UInt8) : Option Nat :=
  if 48 ≤ c.toNat ∧ c.toNat ≤ 57 then some (c.toNat - 48) else if 97 ≤ (c.toNat ||| 32) ∧ (c.toNat ||| 32) ≤ 102 then some ((c.toNat ||| 32) - 87) else none
def hexGo : List UInt8 → Nat → Option Nat
  | [], n => some n
  | c :: l, n => match hexDig c with | some d => hexGo l (n * 16 + d) | none => none
def hexOf (l : List UInt8) (digits : Nat) : Option Nat := if l = [] ∨ digits < l.length then none else hexGo l 0
def extB (c : UInt8) : Bool := decide (c.toNat = 9 ∨ 32 ≤ c.toNat ∧ c.toNat ≤ 126)
/-- A text is cut at a byte. -/
def before (b : UInt8) (l : List UInt8) : List UInt8 := l.takeWhile (· != b)
def behind (b : UInt8) (l : List UInt8) : List UInt8 := (l.dropWhile (· != b)).drop 1
def bound (s : Int) : Nat := if s = 0 then 64 else if s = 3 then 512 else 0
def sized (d : DS) (l : List UInt8) : DS × Int :=
  match hexOf (before 59 l) 8 with
  | none => (d, 100)
  | some n => if (behind 59 l).all extB then (if n = 0 then ({ d with state := 3 }, 0) else if d.most - d.size < n then (d, 101) else ({ d with state := 1, left := n }, 0)) else (d, 100)
section
variable (fld : List UInt8 → Bool)
def whole (d : DS) (l : List UInt8) : DS × Int :=
  if d.state = 0 then sized d l else if d.state = 2 then ({ d with state := 0 }, 0) else if l = [] then ({ d with state := 4 }, 0)
  else if fld l = false ∨ 32 < d.trl + 1 then ({ d with trl := d.trl + 1 }, 100) else ({ d with trl := d.trl + 1 }, 0)
def take (d : DS) (c : UInt8) : DS × Int :=
  if d.cr = true ∧ c = 10 then whole fld { d with line := [], cr := false } d.line
  else if d.cr = true ∨ c = 10 then (d, 100)
  else if c = 13 then ({ d with cr := true }, 0)
  else if bound d.state ≤ d.line.length then (d, 100)
  else ({ d with line := d.line ++ [c] }, 0)
/-- One byte. -/
def step (d : DS) (c : UInt8) : DS × List UInt8 :=
  if d.state = 1 then ({ d with left := d.left - 1, size := d.size + 1, state := if d.left - 1 = 0 then 2 else 1 }, [c])
  else ({ (take fld d c).1 with err := (take fld d c).2 }, [])
def stops (d : DS) : Bool := decide (d.state = 4) || decide (d.err ≠ 0)
/-- Bytes, one behind the other: what the decoder is then, what of the body they are, how many were taken. -/
def run : DS → List UInt8 → DS × List UInt8 × Nat
  | d, [] => (d, [], 0)
  | d, c :: l => if stops d then (d, [], 0) else ((run (step fld d c).1 l).1, (step fld d c).2 ++ (run (step fld d c).1 l).2.1, (run (step fld d c).1 l).2.2 + 1)
/-- What an answer is: the decoder, the bytes, the number, whether the body is whole, the error. -/
def feed (d : DS) (l : List UInt8) : DS × List UInt8 × Nat × Bool × Int :=
  if d.err ≠ 0 then (d, [], 0, false, d.err) else if (run fld d l).1.err ≠ 0 then ((run fld d l).1, [], 0, false, (run fld d l).1.err)
  else ((run fld d l).1, (run fld d l).2.1, (run fld d l).2.2, decide ((run fld d l).1.state = 4), 0)
/-- What a decoder keeps. -/
structure Ok (d : DS) : Prop where
  s0 : 0 ≤ d.size
  s1 : d.size = 0 ∨ d.size ≤ d.most
  st : 0 ≤ d.state ∧ d.state ≤ 4
  dat : d.state = 1 → 0 < d.left ∧ d.size + d.left ≤ d.most
  line : d.line.length ≤ 512
  trl : 0 ≤ d.trl ∧ d.trl ≤ 32 ∨ (0 ≤ d.trl ∧ d.trl ≤ 33 ∧ d.err ≠ 0)
variable {fld}
theorem run_append (a b : List UInt8) : ∀ d : DS, run fld d (a ++ b) = ((run fld (run fld d a).1 b).1, (run fld d a).2.1 ++ (run fld (run fld d a).1 b).2.1, (run fld d a).2.2 + (run fld (run fld d a).1 b).2.2) := by
  induction a with
  | nil => intro d; simp [run]
  | cons c l ih =>
    intro d
    by_cases h : stops d = true
    · simp only [List.cons_append, run, h, if_true, List.nil_append, Nat.zero_add]
      cases b with
      | nil => rfl
      | cons x b => simp [run, h]
    · simp only [List.cons_append, run, h, if_false, Bool.false_eq_true, ih, List.append_assoc]
      congr 2
      omega
theorem run_stop {d : DS} (h : stops d = true) (l : List UInt8) : run fld d l = (d, [], 0) := by
  cases l with
  | nil => rfl
  | cons => simp [run, h]
theorem run_le : ∀ (l : List UInt8) (d : DS), (run fld d l).2.2 ≤ l.length
  | [], _ => Nat.le_refl _
  | c :: l, d => by
    simp only [run]
    split
    · exact Nat.zero_le _
    · have := run_le l (step fld d c).1
      simp only [List.length_cons]; omega
theorem step_le (d : DS) (c : UInt8) : (step fld d c).2.length ≤ 1 := by
  unfold step; split <;> simp
theorem run_out : ∀ (l : List UInt8) (d : DS), (run fld d l).2.1.length ≤ (run fld d l).2.2
  | [], _ => Nat.le_refl _
  | c :: l, d => by
    simp only [run]
    split
    · exact Nat.le_refl _
    · have h1 := run_out l (step fld d c).1
      have h2 := step_le (fld := fld) d c
      simp only [List.length_append]; omega
/-- Not all bytes are taken just if the decoder stops. -/
theorem run_lt : ∀ (l : List UInt8) (d : DS), (run fld d l).2.2 < l.length → stops (run fld d l).1 = true
  | [], _, h => absurd h (Nat.not_lt_zero _)
  | c :: l, d, h => by
    simp only [run] at h ⊢
    split
    · assumption
    · rename_i hs
      rw [if_neg hs] at h
      simp only [List.length_cons] at h
      exact run_lt l _ (by omega)
/-- Many bytes of data. -/
theorem run_data : ∀ (n : Nat) (l : List UInt8) (d : DS), d.state = 1 → d.err = 0 → 0 < n → n ≤ l.length → (n : Int) ≤ d.left →
    run fld d l = ((run fld { d with left := d.left - n, size := d.size + n, state := if d.left - n = 0 then 2 else 1 } (l.drop n)).1, l.take n ++ (run fld { d with left := d.left - n, size := d.size + n, state := if d.left - n = 0 then 2 else 1 } (l.drop n)).2.1,
      n + (run fld { d with left := d.left - n, size := d.size + n, state := if d.left - n = 0 then 2 else 1 } (l.drop n)).2.2)
  | 0, _, _, _, _, h, _, _ => absurd h (Nat.lt_irrefl _)
  | _ + 1, [], _, _, _, _, h, _ => absurd h (by simp)
  | n + 1, c :: l, d, hs, he, _, hl, hd => by
    have hns : stops d = false := by simp [stops, hs, he]
    have e1 : step fld d c = ({ d with left := d.left - 1, size := d.size + 1, state := if d.left - 1 = 0 then 2 else 1 }, [c]) := by simp [step, hs]
    by_cases h0 : n = 0
    · subst h0
      simp only [run, hns, Bool.false_eq_true, if_false, e1, List.drop_succ_cons, List.drop_zero, List.take_succ_cons, List.take_zero, Int.natCast_one, Nat.zero_add]
      congr 2
      omega
    · have hne : d.left - 1 ≠ 0 := by omega
      have hl' : n ≤ l.length := by simpa using hl
      have ih := run_data n l { d with left := d.left - 1, size := d.size + 1, state := if d.left - 1 = 0 then 2 else 1 } (by simp [hne]) he (by omega) hl' (by simp only; omega)
      simp only [run, hns, Bool.false_eq_true, if_false, e1, List.drop_succ_cons, List.take_succ_cons]
      rw [ih]
      have x1 : d.left - 1 - (n : Int) = d.left - ((n + 1 : Nat) : Int) := by omega
      have x2 : d.size + 1 + (n : Int) = d.size + ((n + 1 : Nat) : Int) := by omega
      simp only [x1, x2, List.cons_append]
      congr 2
      omega
end
end Go.ChunkM
namespace Go.ChunkM
variable {fld : List UInt8 → Bool}
theorem Ok.trl0 {d : DS} (h : Ok d) (he : d.err = 0) : 0 ≤ d.trl ∧ d.trl ≤ 32 := by
  rcases h.trl with h | ⟨_, _, h⟩
  · exact h
  · exact absurd he h
theorem sized_ok {d : DS} (l : List UInt8) (h : Ok d) (he : d.err = 0) : Ok { (sized d l).1 with err := (sized d l).2 } ∧ (sized d l).1.most = d.most ∧ (sized d l).1.size = d.size := by
  have ht := h.trl0 he
  unfold sized
  split
  · exact ⟨⟨h.s0, h.s1, h.st, h.dat, h.line, .inl ht⟩, rfl, rfl⟩
  · split
    · split
      · exact ⟨⟨h.s0, h.s1, by simp, by simp, h.line, .inl ht⟩, rfl, rfl⟩
      · split
        · exact ⟨⟨h.s0, h.s1, h.st, h.dat, h.line, .inl ht⟩, rfl, rfl⟩
        · exact ⟨⟨h.s0, h.s1, by simp, fun _ => by simp only; omega, h.line, .inl ht⟩, rfl, rfl⟩
    · exact ⟨⟨h.s0, h.s1, h.st, h.dat, h.line, .inl ht⟩, rfl, rfl⟩
theorem whole_ok {d : DS} (l : List UInt8) (h : Ok d) (he : d.err = 0) : Ok { (whole fld d l).1 with err := (whole fld d l).2 } ∧ (whole fld d l).1.most = d.most ∧ (whole fld d l).1.size = d.size := by
  have ht := h.trl0 he
  unfold whole
  split
  · exact sized_ok l h he
  · split
    · exact ⟨⟨h.s0, h.s1, by simp, by simp, h.line, .inl ht⟩, rfl, rfl⟩
    · split
      · exact ⟨⟨h.s0, h.s1, by simp, by simp, h.line, .inl ht⟩, rfl, rfl⟩
      · split
        · exact ⟨⟨h.s0, h.s1, h.st, h.dat, h.line, .inr ⟨by simp only; omega, by simp only; omega, by simp⟩⟩, rfl, rfl⟩
        · rename_i hc
          exact ⟨⟨h.s0, h.s1, h.st, h.dat, h.line, .inl ⟨by simp only; omega, by simp only; omega⟩⟩, rfl, rfl⟩
theorem bound_le (s : Int) : bound s ≤ 512 := by unfold bound; split <;> (try split) <;> decide
theorem take_ok {d : DS} (c : UInt8) (h : Ok d) (he : d.err = 0) : Ok { (take fld d c).1 with err := (take fld d c).2 } ∧ (take fld d c).1.most = d.most ∧ (take fld d c).1.size = d.size := by
  have ht := h.trl0 he
  unfold take
  split
  · exact whole_ok (d := { d with line := [], cr := false }) _ ⟨h.s0, h.s1, h.st, h.dat, by simp, h.trl⟩ he
  · split
    · exact ⟨⟨h.s0, h.s1, h.st, h.dat, h.line, .inl ht⟩, rfl, rfl⟩
    · split
      · exact ⟨⟨h.s0, h.s1, h.st, h.dat, h.line, .inl ht⟩, rfl, rfl⟩
      · split
        · exact ⟨⟨h.s0, h.s1, h.st, h.dat, h.line, .inl ht⟩, rfl, rfl⟩
        · have := bound_le d.state
          exact ⟨⟨h.s0, h.s1, h.st, h.dat, by simp only [List.length_append, List.length_cons, List.length_nil]; omega, .inl ht⟩, rfl, rfl⟩
theorem step_ok {d : DS} (c : UInt8) (h : Ok d) (hs : stops d = false) : Ok (step fld d c).1 ∧ (step fld d c).1.most = d.most ∧ (step fld d c).1.size = d.size + (step fld d c).2.length := by
  have he : d.err = 0 := by simp only [stops, Bool.or_eq_false_iff, decide_eq_false_iff_not] at hs; omega
  unfold step
  split
  · rename_i h1
    have := h.dat h1
    have := h.s0
    refine ⟨⟨by simp only; omega, .inr (by simp only; omega), ?_, ?_, h.line, h.trl⟩, rfl, by simp⟩
    · simp only; split <;> simp
    · simp only; split
      · intro h; cases h
      · intro; omega
  · have := take_ok (fld := fld) c h he
    exact ⟨this.1, this.2.1, by simp [this.2.2]⟩
theorem run_ok : ∀ (l : List UInt8) {d : DS}, Ok d → Ok (run fld d l).1 ∧ (run fld d l).1.most = d.most ∧ (run fld d l).1.size = d.size + (run fld d l).2.1.length
  | [], d, h => ⟨h, rfl, by simp [run]⟩
  | c :: l, d, h => by
    simp only [run]
    by_cases hs : stops d = true
    · simp only [hs, if_true]; exact ⟨h, True.intro, by simp⟩
    · simp only [hs, if_false, Bool.false_eq_true]
      have h1 := step_ok (fld := fld) c h (by simpa using hs)
      have h2 := run_ok l h1.1
      exact ⟨h2.1, h2.2.1.trans h1.2.1, by rw [h2.2.2, h1.2.2, List.length_append]; omega⟩
end Go.ChunkM
namespace Go.ChunkM
/-! ### sizes, written -/
def dig (d : Nat) : UInt8 := if d < 10 then (48 + d).toUInt8 else (87 + d).toUInt8
def hexE (n : Nat) : List UInt8 := if _h : n = 0 then [] else hexE (n / 16) ++ [dig (n % 16)]
termination_by n
decreasing_by omega
theorem hexE_zero : hexE 0 = [] := by rw [hexE]; rfl
theorem hexE_pos {n : Nat} (h : n ≠ 0) : hexE n = hexE (n / 16) ++ [dig (n % 16)] := by rw [hexE, dif_neg h]
theorem hexE_ne {n : Nat} (h : n ≠ 0) : hexE n ≠ [] := by rw [hexE_pos h]; simp
theorem hexE_len : ∀ (k n : Nat), n < 16 ^ k → (hexE n).length ≤ k
  | 0, n, h => by have : n = 0 := by simpa using h
                  subst this; rw [hexE_zero]; exact Nat.le_refl _
  | k + 1, n, h => by
    by_cases h0 : n = 0
    · subst h0; rw [hexE_zero]; exact Nat.zero_le _
    · rw [hexE_pos h0, List.length_append]
      have := hexE_len k (n / 16) (by rw [Nat.pow_succ] at h; omega)
      simp only [List.length_cons, List.length_nil]; omega
theorem dig_hex : ∀ d : Nat, d < 16 → hexDig (dig d) = some d := by decide
theorem dig_plain : ∀ d : Nat, d < 16 → dig d ≠ 10 ∧ dig d ≠ 13 ∧ dig d ≠ 59 := by decide
theorem hexGo_append (a b : List UInt8) : ∀ n, hexGo (a ++ b) n = (hexGo a n).bind (hexGo b) := by
  induction a with
  | nil => intro n; rfl
  | cons c a ih =>
    intro n
    simp only [List.cons_append, hexGo]
    cases hexDig c with
    | none => rfl
    | some d => exact ih _
theorem hexGo_enc : ∀ n : Nat, hexGo (hexE n) 0 = some n := by
  intro n
  induction n using Nat.strongRecOn with
  | ind n ih =>
    by_cases h0 : n = 0
    · subst h0; rw [hexE_zero]; rfl
    · rw [hexE_pos h0, hexGo_append, ih _ (by omega)]
      simp only [Option.bind_some, hexGo, dig_hex _ (Nat.mod_lt _ (by decide : 16 > 0))]
      congr 1; omega
theorem hexGo_zeros (k : Nat) (l : List UInt8) : hexGo (List.replicate k 48 ++ l) 0 = hexGo l 0 := by
  induction k with
  | zero => rfl
  | succ k ih => simp only [List.replicate_succ, List.cons_append, hexGo, show hexDig 48 = some 0 from rfl]; exact ih
theorem hexE_plain : ∀ (n : Nat) (c : UInt8), c ∈ hexE n → c ≠ 10 ∧ c ≠ 13 ∧ c ≠ 59 := by
  intro n
  induction n using Nat.strongRecOn with
  | ind n ih =>
    intro c hc
    by_cases h0 : n = 0
    · subst h0; rw [hexE_zero] at hc; cases hc
    · rw [hexE_pos h0] at hc
      rcases List.mem_append.1 hc with hc | hc
      · exact ih _ (by omega) c hc
      · simp only [List.mem_cons, List.not_mem_nil, or_false] at hc
        subst hc
        exact dig_plain _ (Nat.mod_lt _ (by decide))
/-! ### lines -/
variable {fld : List UInt8 → Bool}
theorem run_text : ∀ (l : List UInt8) (d : DS) (rest : List UInt8), d.state ≠ 1 → d.state ≠ 4 → d.err = 0 → d.cr = false → (∀ c ∈ l, c ≠ 10 ∧ c ≠ 13) → d.line.length + l.length ≤ bound d.state →
    run fld d (l ++ rest) = ((run fld { d with line := d.line ++ l } rest).1, (run fld { d with line := d.line ++ l } rest).2.1, l.length + (run fld { d with line := d.line ++ l } rest).2.2)
  | [], d, rest, _, _, _, _, _, _ => by simp
  | c :: l, d, rest, h1, h4, he, hc, hl, hb => by
    have hs : stops d = false := by simp [stops, h4, he]
    have hcc := hl c List.mem_cons_self
    simp only [List.length_cons] at hb
    have e1 : step fld d c = ({ d with line := d.line ++ [c] }, []) := by
      simp only [step, h1, if_false, take, hc, Bool.false_eq_true, false_and, false_or, hcc.1, hcc.2]
      rw [if_neg (by omega)]
      cases d; simp_all
    have ih := run_text l { d with line := d.line ++ [c] } rest h1 h4 he hc (fun x hx => hl x (List.mem_cons_of_mem _ hx)) (by simp only [List.length_append, List.length_cons, List.length_nil]; omega)
    simp only [List.cons_append, run, hs, Bool.false_eq_true, if_false, e1, List.nil_append, List.length_cons]
    rw [ih]
    simp only [List.append_assoc, List.singleton_append]
    congr 2
    omega
/-- A whole line, its end too. -/
theorem run_line (l : List UInt8) (d : DS) (rest : List UInt8) (h1 : d.state ≠ 1) (h4 : d.state ≠ 4) (he : d.err = 0) (hc : d.cr = false) (hn : d.line = []) (hl : ∀ c ∈ l, c ≠ 10 ∧ c ≠ 13) (hb : l.length ≤ bound d.state) :
    run fld d (l ++ 13 :: 10 :: rest) = ((run fld { (whole fld d l).1 with err := (whole fld d l).2 } rest).1, (run fld { (whole fld d l).1 with err := (whole fld d l).2 } rest).2.1, l.length + 2 + (run fld { (whole fld d l).1 with err := (whole fld d l).2 } rest).2.2) := by
  rw [run_text l d _ h1 h4 he hc hl (by rw [hn]; simpa using hb)]
  obtain ⟨m, s, st, lf, ln, cr, tr, er⟩ := d
  simp only at h1 h4 he hc hn
  subst he hc hn
  have g1 : step fld ⟨m, s, st, lf, l, false, tr, 0⟩ 13 = (⟨m, s, st, lf, l, true, tr, 0⟩, []) := by simp [step, h1, take]
  have g2 : step fld ⟨m, s, st, lf, l, true, tr, 0⟩ 10 = ({ (whole fld ⟨m, s, st, lf, [], false, tr, 0⟩ l).1 with err := (whole fld ⟨m, s, st, lf, [], false, tr, 0⟩ l).2 }, []) := by simp [step, h1, take]
  have s1 : stops ⟨m, s, st, lf, l, false, tr, 0⟩ = false := by simp [stops, h4]
  have s2 : stops ⟨m, s, st, lf, l, true, tr, 0⟩ = false := by simp [stops, h4]
  simp only [List.nil_append]
  rw [run, s1, if_neg (by simp), g1, run, s2, if_neg (by simp), g2]
  simp only [List.nil_append]
  congr 2
  omega
end Go.ChunkM
namespace Go.ChunkM
/-! ### whole bodies -/
variable {fld : List UInt8 → Bool}
/-- A decoder between two chunks. -/
def rdy (m s lf : Int) : DS := ⟨m, s, 0, lf, [], false, 0, 0⟩
theorem run_chunk (sl t rest : List UInt8) {m s lf : Int} (hl : ∀ c ∈ sl, c ≠ 10 ∧ c ≠ 13) (hb : sl.length ≤ 64) (hx : hexOf (before 59 sl) 8 = some t.length) (he : (behind 59 sl).all extB = true) (ht : t ≠ []) (hm : s + t.length ≤ m) :
    run fld (rdy m s lf) (sl ++ 13 :: 10 :: (t ++ 13 :: 10 :: rest)) = ((run fld (rdy m (s + t.length) 0) rest).1, t ++ (run fld (rdy m (s + t.length) 0) rest).2.1, sl.length + t.length + 4 + (run fld (rdy m (s + t.length) 0) rest).2.2) := by
  have h0 : 0 < t.length := List.length_pos_iff.2 ht
  rw [run_line sl (rdy m s lf) _ (by simp [rdy]) (by simp [rdy]) rfl rfl rfl hl hb]
  have e1 : whole fld (rdy m s lf) sl = ({ rdy m s lf with state := 1, left := t.length }, 0) := by
    have a1 : ¬ (t.length = 0) := by omega
    have a2 : ¬ (m - s < (t.length : Int)) := by omega
    simp [whole, rdy, sized, hx, he, a1, a2]
  rw [e1]
  simp only [rdy]
  rw [run_data t.length (t ++ 13 :: 10 :: rest) ⟨m, s, 1, t.length, [], false, 0, 0⟩ rfl rfl h0 (by simp) (Int.le_refl _)]
  simp only [List.drop_left, List.take_left, Int.sub_self, if_true]
  have h2 := run_line (fld := fld) [] ⟨m, s + t.length, 2, 0, [], false, 0, 0⟩ rest (by simp) (by simp) rfl rfl rfl (fun _ h => by cases h) (Nat.zero_le _)
  simp only [List.nil_append] at h2
  rw [h2]
  have e2 : whole fld ⟨m, s + t.length, 2, 0, [], false, 0, 0⟩ [] = (⟨m, s + t.length, 0, 0, [], false, 0, 0⟩, 0) := by simp [whole]
  rw [e2]
  simp only [List.length_nil]
  congr 2
  omega
theorem run_over (sl t rest : List UInt8) {m s lf : Int} (hl : ∀ c ∈ sl, c ≠ 10 ∧ c ≠ 13) (hb : sl.length ≤ 64) (hx : hexOf (before 59 sl) 8 = some t.length) (he : (behind 59 sl).all extB = true) (ht : t ≠ []) (hm : m < s + t.length) :
    (run fld (rdy m s lf) (sl ++ 13 :: 10 :: rest)).1.err = 101 := by
  have h0 : 0 < t.length := List.length_pos_iff.2 ht
  rw [run_line sl (rdy m s lf) _ (by simp [rdy]) (by simp [rdy]) rfl rfl rfl hl hb]
  have e1 : whole fld (rdy m s lf) sl = (rdy m s lf, 101) := by
    have a1 : ¬ (t.length = 0) := by omega
    have a2 : m - s < (t.length : Int) := by omega
    simp [whole, rdy, sized, hx, he, a1, a2]
  rw [e1, run_stop (by simp [stops])]
/-- A size's line: noughts, the size, an extension. -/
theorem line_hex {z n : Nat} {e : List UInt8} (h0 : n ≠ 0) (_hn : n < 16 ^ 7) (hz : z + (hexE n).length ≤ 8) : hexOf (before 59 (List.replicate z 48 ++ hexE n ++ 59 :: e)) 8 = some n ∧ behind 59 (List.replicate z 48 ++ hexE n ++ 59 :: e) = e ∧ hexOf (before 59 (List.replicate z 48 ++ hexE n)) 8 = some n ∧ behind 59 (List.replicate z 48 ++ hexE n) = [] := by
  have hall : ∀ c ∈ List.replicate z 48 ++ hexE n, (c != 59) = true := fun c hc => by
    rcases List.mem_append.1 hc with hc | hc
    · rw [List.eq_of_mem_replicate hc]; rfl
    · have := (hexE_plain n c hc).2.2; simpa using this
  have hv : hexOf (List.replicate z 48 ++ hexE n) 8 = some n := by
    unfold hexOf
    rw [if_neg, hexGo_zeros, hexGo_enc]
    rintro (h | h)
    · exact hexE_ne h0 (List.append_eq_nil_iff.1 h).2
    · simp only [List.length_append, List.length_replicate] at h; omega
  have b1 : before 59 (List.replicate z 48 ++ hexE n ++ 59 :: e) = List.replicate z 48 ++ hexE n := by
    unfold before; rw [List.takeWhile_append_of_pos hall]; simp
  have b2 : behind 59 (List.replicate z 48 ++ hexE n ++ 59 :: e) = e := by
    unfold behind; rw [List.dropWhile_append_of_pos hall]; simp
  have b3 : before 59 (List.replicate z 48 ++ hexE n) = List.replicate z 48 ++ hexE n := by
    unfold before; rw [← List.append_nil (List.replicate z 48 ++ hexE n), List.takeWhile_append_of_pos hall]; simp
  have b4 : behind 59 (List.replicate z 48 ++ hexE n) = [] := by
    unfold behind; rw [← List.append_nil (List.replicate z 48 ++ hexE n), List.dropWhile_append_of_pos hall]; simp
  exact ⟨by rw [b1]; exact hv, b2, by rw [b3]; exact hv, b4⟩
def encT (t : List UInt8) : List UInt8 := if t = [] then [] else hexE t.length ++ 13 :: 10 :: (t ++ [13, 10])
theorem run_texts : ∀ (ts : List (List UInt8)) (rest : List UInt8) (m s lf : Int), (∀ t ∈ ts, t.length < 16 ^ 7) → s + ts.flatten.length ≤ m →
    ∃ lf', run fld (rdy m s lf) ((ts.map encT).flatten ++ rest) = ((run fld (rdy m (s + ts.flatten.length) lf') rest).1, ts.flatten ++ (run fld (rdy m (s + ts.flatten.length) lf') rest).2.1, (ts.map encT).flatten.length + (run fld (rdy m (s + ts.flatten.length) lf') rest).2.2)
  | [], rest, m, s, lf, _, _ => ⟨lf, by simp⟩
  | t :: ts, rest, m, s, lf, hs, hm => by
    simp only [List.map_cons, List.flatten_cons, List.length_append] at hm ⊢
    have hst : ∀ t ∈ ts, t.length < 16 ^ 7 := fun x hx => hs x (List.mem_cons_of_mem _ hx)
    by_cases h0 : t = []
    · subst h0
      obtain ⟨lf', ih⟩ := run_texts ts rest m s lf hst (by simp only [List.length_nil] at hm; omega)
      exact ⟨lf', by simpa [encT] using ih⟩
    · have ht := hs t List.mem_cons_self
      have hl0 : t.length ≠ 0 := fun h => h0 (List.length_eq_zero_iff.1 h)
      obtain ⟨lf', ih⟩ := run_texts ts rest m (s + t.length) 0 hst (by omega)
      refine ⟨lf', ?_⟩
      have hlen := hexE_len 7 _ ht
      obtain ⟨_, _, c3, c4⟩ := line_hex (z := 0) (e := []) hl0 ht (by omega)
      simp only [List.replicate_zero, List.nil_append] at c3 c4
      have h1 := run_chunk (fld := fld) (hexE t.length) t ((ts.map encT).flatten ++ rest) (m := m) (s := s) (lf := lf) (fun c hc => ⟨(hexE_plain _ c hc).1, (hexE_plain _ c hc).2.1⟩) (by omega) c3 (by rw [c4]; rfl) h0 (by omega)
      have e1 : encT t ++ (ts.map encT).flatten ++ rest = hexE t.length ++ 13 :: 10 :: (t ++ 13 :: 10 :: ((ts.map encT).flatten ++ rest)) := by simp [encT, h0]
      rw [e1, h1, ih]
      have e2 : (encT t).length = (hexE t.length).length + t.length + 4 := by simp only [encT, h0, if_false, List.length_append, List.length_cons, List.length_nil]; omega
      simp only [List.append_assoc, e2, Int.natCast_add, ← Int.add_assoc]
      congr 2
      omega
theorem texts_over : ∀ (ts : List (List UInt8)) (rest : List UInt8) (m s lf : Int), (∀ t ∈ ts, t.length < 16 ^ 7) → s ≤ m → m < s + ts.flatten.length → (run fld (rdy m s lf) ((ts.map encT).flatten ++ rest)).1.err = 101
  | [], rest, m, s, lf, _, h1, h2 => by simp at h2; omega
  | t :: ts, rest, m, s, lf, hs, h1, h2 => by
    simp only [List.map_cons, List.flatten_cons, List.length_append] at h2 ⊢
    have hst : ∀ t ∈ ts, t.length < 16 ^ 7 := fun x hx => hs x (List.mem_cons_of_mem _ hx)
    by_cases h0 : t = []
    · subst h0
      have ih := texts_over ts rest m s lf hst h1 (by simp only [List.length_nil] at h2; omega)
      simpa [encT] using ih
    · have ht := hs t List.mem_cons_self
      have hl0 : t.length ≠ 0 := fun h => h0 (List.length_eq_zero_iff.1 h)
      have hlen := hexE_len 7 _ ht
      obtain ⟨_, _, c3, c4⟩ := line_hex (z := 0) (e := []) hl0 ht (by omega)
      simp only [List.replicate_zero, List.nil_append] at c3 c4
      have e1 : encT t ++ (ts.map encT).flatten ++ rest = hexE t.length ++ 13 :: 10 :: (t ++ 13 :: 10 :: ((ts.map encT).flatten ++ rest)) := by simp [encT, h0]
      rw [e1]
      by_cases hf : s + t.length ≤ m
      · rw [run_chunk (fld := fld) (hexE t.length) t _ (fun c hc => ⟨(hexE_plain _ c hc).1, (hexE_plain _ c hc).2.1⟩) (by omega) c3 (by rw [c4]; rfl) h0 hf]
        exact texts_over ts rest m (s + t.length) 0 hst hf (by omega)
      · exact run_over _ t _ (fun c hc => ⟨(hexE_plain _ c hc).1, (hexE_plain _ c hc).2.1⟩) (by omega) c3 (by rw [c4]; rfl) h0 (by omega)
theorem run_last (tail : List UInt8) (m s lf : Int) : run fld (rdy m s lf) (48 :: 13 :: 10 :: 13 :: 10 :: tail) = (⟨m, s, 4, lf, [], false, 0, 0⟩, [], 5) := by
  have h1 := run_line (fld := fld) [48] (rdy m s lf) (13 :: 10 :: tail) (by simp [rdy]) (by simp [rdy]) rfl rfl rfl (by simp) (show (1 : Nat) ≤ 64 by decide)
  have e1 : whole fld (rdy m s lf) [48] = ({ rdy m s lf with state := 3 }, 0) := by
    have a1 : hexOf (before 59 [48]) 8 = some 0 := by decide
    have a2 : behind 59 [48] = [] := by decide
    simp [whole, rdy, sized, a1, a2]
  rw [e1] at h1
  simp only [List.singleton_append] at h1
  rw [h1]
  have h2 := run_line (fld := fld) [] ⟨m, s, 3, lf, [], false, 0, 0⟩ tail (by simp) (by simp) rfl rfl rfl (fun _ h => by cases h) (Nat.zero_le _)
  simp only [List.nil_append] at h2
  simp only [rdy]
  rw [h2]
  have e2 : whole fld ⟨m, s, 3, lf, [], false, 0, 0⟩ [] = (⟨m, s, 4, lf, [], false, 0, 0⟩, 0) := by simp [whole]
  rw [e2, run_stop (by simp [stops])]
  rfl
end Go.ChunkM

/- Small pieces of texts, in plain Lean: cutting, blanks, tokens, values. Conditions: none. -/
namespace Go.StrM
open Go.ChunkM
theorem before_append (c : UInt8) : ∀ l : List UInt8, c ∈ l → l = before c l ++ c :: behind c l
  | [], h => by cases h
  | x :: l, h => by
    by_cases hx : x = c
    · subst hx; simp [before, behind]
    · have hm : c ∈ l := by rcases List.mem_cons.1 h with h | h; exact absurd h.symm hx; exact h
      have ih := before_append c l hm
      have e1 : before c (x :: l) = x :: before c l := by simp [before, hx]
      have e2 : behind c (x :: l) = behind c l := by simp [behind, hx]
      rw [e1, e2, List.cons_append, ← ih]
theorem before_not (c : UInt8) : ∀ l : List UInt8, c ∉ l → before c l = l ∧ behind c l = []
  | [], _ => ⟨rfl, rfl⟩
  | x :: l, h => by
    have hx : x ≠ c := fun e => h (by subst e; exact List.mem_cons_self)
    have ih := before_not c l fun hm => h (List.mem_cons_of_mem _ hm)
    refine ⟨?_, ?_⟩
    · have : before c (x :: l) = x :: before c l := by simp [before, hx]
      rw [this, ih.1]
    · have : behind c (x :: l) = behind c l := by simp [behind, hx]
      rw [this, ih.2]
theorem before_no (c : UInt8) (l : List UInt8) : c ∉ before c l := fun h => by
  induction l with
  | nil => cases h
  | cons x l ih =>
    by_cases hx : x = c
    · subst hx; simp [before] at h
    · have e1 : before c (x :: l) = x :: before c l := by simp [before, hx]
      rw [e1] at h
      rcases List.mem_cons.1 h with h | h
      · exact hx h.symm
      · exact ih h
theorem idx_in (c : UInt8) : ∀ l : List UInt8, c ∈ l → Lib.indexByte l c = (before c l).length
  | [], h => by cases h
  | x :: l, h => by
    by_cases hx : x = c
    · subst hx; simp [Lib.indexByte, before]
    · have hm : c ∈ l := by rcases List.mem_cons.1 h with h | h; exact absurd h.symm hx; exact h
      have ih := idx_in c l hm
      have e1 : before c (x :: l) = x :: before c l := by simp [before, hx]
      have hb : (x == c) = false := by simpa using hx
      have hn : (Lib.indexByte l c == -1) = false := by rw [ih]; simp
      rw [Lib.indexByte, hb, hn, e1, ih]; simp
theorem idx_not (c : UInt8) : ∀ l : List UInt8, c ∉ l → Lib.indexByte l c = -1
  | [], _ => rfl
  | x :: l, h => by
    have hx : x ≠ c := fun e => h (by subst e; exact List.mem_cons_self)
    have ih := idx_not c l fun hm => h (List.mem_cons_of_mem _ hm)
    have hb : (x == c) = false := by simpa using hx
    rw [Lib.indexByte, hb, ih]; rfl
theorem take_before {c : UInt8} {l : List UInt8} (h : c ∈ l) : l.take (before c l).length = before c l := by
  have e := before_append c l h
  have : (before c l ++ c :: behind c l).take (before c l).length = before c l := List.take_left
  rw [← e] at this; exact this
theorem drop_before {c : UInt8} {l : List UInt8} (h : c ∈ l) : l.drop ((before c l).length + 1) = behind c l := by
  have e := before_append c l h
  have : (before c l ++ c :: behind c l).drop ((before c l).length + 1) = behind c l := by
    rw [← List.drop_drop, List.drop_left]; rfl
  rw [← e] at this; exact this
theorem len_before {c : UInt8} {l : List UInt8} (h : c ∈ l) : (before c l).length + 1 + (behind c l).length = l.length := by
  have e := congrArg List.length (before_append c l h)
  simp only [List.length_append, List.length_cons] at e; omega
/-! ### kinds of bytes -/
def isDig (c : UInt8) : Bool := decide (48 ≤ c.toNat ∧ c.toNat ≤ 57)
def isLet (c : UInt8) : Bool := decide (97 ≤ c.toNat ∧ c.toNat ≤ 122 ∨ 65 ≤ c.toNat ∧ c.toNat ≤ 90)
def marks : List UInt8 := [33, 35, 36, 37, 38, 39, 42, 43, 45, 46, 94, 95, 124, 126, 96]
def tokB (c : UInt8) : Bool := isLet c || isDig c || marks.contains c
def valB (c : UInt8) : Bool := decide (c.toNat = 9 ∨ 32 ≤ c.toNat ∧ c.toNat ≠ 127)
def tokenP (l : List UInt8) : Prop := l ≠ [] ∧ ∀ c ∈ l, tokB c = true
abbrev trim (l : List UInt8) : List UInt8 := Lib.trimS l [32, 9]
def valueP (l : List UInt8) : Prop := (∀ c ∈ l, valB c = true) ∧ trim l = l
/-- Is a line a field? -/
def fieldP (l : List UInt8) : Prop := 58 ∈ l ∧ tokenP (before 58 l) ∧ valueP (trim (behind 58 l))
instance (l : List UInt8) : Decidable (tokenP l) := by unfold tokenP; infer_instance
instance (l : List UInt8) : Decidable (valueP l) := by unfold valueP; infer_instance
instance (l : List UInt8) : Decidable (fieldP l) := by unfold fieldP; infer_instance
def fieldOk (l : List UInt8) : Bool := decide (fieldP l)
theorem trim_le (l : List UInt8) : (trim l).length ≤ l.length := by
  have dl : ∀ (p : UInt8 → Bool) (l : List UInt8), (l.dropWhile p).length ≤ l.length := fun p l => (List.dropWhile_sublist p).length_le
  unfold trim Lib.trimS Lib.trimLeftS Lib.trimRightS
  refine Nat.le_trans (dl _ _) ?_
  rw [List.length_reverse]
  exact Nat.le_trans (dl _ _) (by simp)
/-! ### numbers in the base of sixteen -/
theorem hexDig_lt {c : UInt8} {d : Nat} (h : hexDig c = some d) : d < 16 := by
  unfold hexDig at h
  split at h
  · injection h; omega
  · split at h
    · injection h; omega
    · cases h
theorem hexGo_some : ∀ (l : List UInt8) (n k : Nat), n < 16 ^ k → ∀ r, hexGo l n = some r → r < 16 ^ (k + l.length)
  | [], n, k, h, r, hr => by injection hr with hr; subst hr; exact h
  | c :: l, n, k, h, r, hr => by
    simp only [hexGo] at hr
    cases hd : hexDig c with
    | none => rw [hd] at hr; cases hr
    | some d =>
      rw [hd] at hr
      have := hexDig_lt hd
      have h2 := hexGo_some l (n * 16 + d) (k + 1) (by rw [Nat.pow_succ]; omega) r hr
      rw [List.length_cons, show k + (l.length + 1) = k + 1 + l.length by omega]; exact h2
end Go.StrM
namespace Go.StrM
open Go.ChunkM
theorem before_le (c : UInt8) (l : List UInt8) : (before c l).length ≤ l.length := (List.takeWhile_sublist _).length_le
theorem behind_le (c : UInt8) (l : List UInt8) : (behind c l).length ≤ l.length := by
  unfold behind
  rw [List.length_drop]
  have := (List.dropWhile_sublist (p := (· != c)) (l := l)).length_le
  omega
end Go.StrM

/- Contracts: bytes' kinds, cutting, blanks, tokens, values, numbers in the base of sixteen, a field's line. Conditions: none. -/
namespace Go.Proofs.YtngicmoadobgpaaDoor
open Go Go.Sx Go.ChunkM Go.StrM
variable {w0 : World} {F H : List HProp} {K : Value → List HProp → Prop}
theorem digit_spec {c : UInt8} (h1 : isDig c = true → K (.bool true) F) (h2 : isDig c = false → K (.bool false) F) : Tri Tryd.prog 102 #[kB c] w0 F K := by
  refine Tri.enterF Tryd.func102 Tryd.ntmps102 Tryd.results102 rfl rfl fun fr hfr => ?_
  repeat' (first | refine walk ?_ | exact trivial | refine Tw.mk ?_ ?_ | intro hc | fail)
  all_goals first | exact Out.i (h1 (by simp only [isDig, decide_eq_true_eq]; omega)) | exact Out.i (h2 (by simp only [isDig, decide_eq_false_iff_not]; omega))
theorem letter_spec {c : UInt8} (h1 : isLet c = true → K (.bool true) F) (h2 : isLet c = false → K (.bool false) F) : Tri Tryd.prog 104 #[kB c] w0 F K := by
  refine Tri.enterF Tryd.func104 Tryd.ntmps104 Tryd.results104 rfl rfl fun fr hfr => ?_
  repeat' (first | refine walk ?_ | exact trivial | refine Tw.mk ?_ ?_ | intro hc | fail)
  all_goals first | exact Out.i (h1 (by simp only [isLet, decide_eq_true_eq]; omega)) | exact Out.i (h2 (by simp only [isLet, decide_eq_false_iff_not]; omega))
set_option maxRecDepth 100000 in
theorem ixb_run (l : List UInt8) (c : UInt8) (w : World) : (callFunc 128 ⟨[kS l, kB c]⟩).run Tryd.prog w = .ok (.value (.int .i64 (Lib.indexByte l c))) w := by
  rw [run_callFunc_extern Tryd.func128 (by kernel_rfl) (by kernel_rfl) (by kernel_rfl) (e := Extern.BytealgIndexByte.indexByte) (by kernel_rfl), Lib.run_indexByteString]
  have : ((c.toNat : Int)).toNat.toUInt8 = c := by simp
  simp only [Result.andThen, this]
theorem ixb0_spec {l : List UInt8} {c : UInt8} (h : K (.int .i64 (Lib.indexByte l c)) F) : Tri Tryd.prog 119 #[kS l, kB c] w0 F K := by
  refine Tri.enterF Tryd.func119 Tryd.ntmps119 Tryd.results119 rfl rfl fun fr hfr => ?_
  repeat' (first | refine XS.seq ?_ | refine XS.region (T := TT) ?_ | refine XO.callX trivial rfl rfl rfl rfl (ixb_run _ _) ?_ | refine XO.q TT_ok rfl rfl rfl rfl rfl ?_ | refine XO.nil ?_ | refine XS.ret1F TT_ok (by assumption) resA1 ?_ | exact Out.i h)
theorem ixb_spec {l : List UInt8} {c : UInt8} (h : K (.int .i64 (Lib.indexByte l c)) F) : Tri Tryd.prog 105 #[kS l, kB c] w0 F K := by
  refine Tri.enterF Tryd.func105 Tryd.ntmps105 Tryd.results105 rfl rfl fun fr hfr => ?_
  repeat' (first | refine walk ?_ | exact trivial | refine Tw.mk ?_ ?_ | refine ixb0_spec ?_ | exact Out.i h | fail)
theorem ix1_spec {l : List UInt8} {c : UInt8} (h : K (.int .i64 (Lib.indexByte l c)) F) : Tri Tryd.prog 111 #[kS l, kS [c]] w0 F K := by
  refine Tri.enterF Tryd.func111 Tryd.ntmps111 Tryd.results111 rfl rfl fun fr hfr => ?_
  repeat' (first | refine walk ?_ | exact trivial | refine Tw.mk ?_ ?_ | intro hc | refine ixb0_spec ?_ | exact Out.i h | (subst hc; exact Out.i (by simpa [Lib.indexByte] using h)) | fail)
/-- A text is cut at a byte. -/
theorem cut0_spec {l : List UInt8} {c : UInt8} (hl : l.length ≤ 4611686018427387904) (h1 : c ∈ l → K (.tuple #[kS (before c l), kS (behind c l), .bool true]) F) (h2 : c ∉ l → K (.tuple #[kS l, kS [], .bool false]) F) : Tri Tryd.prog 101 #[kS l, kS [c]] w0 F K := by
  by_cases hm : c ∈ l
  · have e1 := idx_in c l hm
    have e2 := take_before hm
    have e3 := drop_before hm
    have e4 := len_before hm
    have h1 := h1 hm
    rw [← e2, ← e3] at h1
    refine Tri.enterF Tryd.func101 Tryd.ntmps101 Tryd.results101 rfl rfl fun fr hfr => ?_
    refine walk ?_
    refine ⟨ix1_spec ?_, trivial⟩
    rw [e1]
    repeat' (first | refine walk ?_ | exact trivial | refine Tw.mk ?_ ?_ | intro hc | exact Out.i h1 | fail)
  · have e1 := idx_not c l hm
    have h2 := h2 hm
    refine Tri.enterF Tryd.func101 Tryd.ntmps101 Tryd.results101 rfl rfl fun fr hfr => ?_
    refine walk ?_
    refine ⟨ix1_spec ?_, trivial⟩
    rw [e1]
    repeat' (first | refine walk ?_ | exact trivial | refine Tw.mk ?_ ?_ | intro hc | exact Out.i h2 | fail)
theorem cut_spec {l : List UInt8} {c : UInt8} (hl : l.length ≤ 4611686018427387904) (h1 : c ∈ l → K (.tuple #[kS (before c l), kS (behind c l), .bool true]) F) (h2 : c ∉ l → K (.tuple #[kS l, kS [], .bool false]) F) : Tri Tryd.prog 88 #[kS l, kS [c]] w0 F K := by
  refine Tri.enterF Tryd.func88 Tryd.ntmps88 Tryd.results88 rfl rfl fun fr hfr => ?_
  repeat' (first | refine walk ?_ | exact trivial | refine Tw.mk ?_ ?_ | intro hc | refine cut0_spec hl ?_ ?_ | exact Out.i (h1 hc) | exact Out.i (h2 hc) | fail)
theorem trim0_spec {l : List UInt8} (hl : l.length ≤ 9223372036854775807) (h : K (kS (trim l)) F) : Tri Tryd.prog 103 #[kS l, kS [32, 9]] w0 F K :=
  Tri.ofBelow (fun w _ => Any.strings_Trim_laid Tryd.trimN (by kernel_rfl) (S l) (S [32, 9]) w hl (by decide) (ascii_of_all (by decide))) h
theorem trim_spec {l : List UInt8} (hl : l.length ≤ 9223372036854775807) (h : K (kS (trim l)) F) : Tri Tryd.prog 90 #[kS l] w0 F K := by
  refine Tri.enterF Tryd.func90 Tryd.ntmps90 Tryd.results90 rfl rfl fun fr hfr => ?_
  repeat' (first | refine walk ?_ | exact trivial | refine Tw.mk ?_ ?_ | refine trim0_spec hl ?_ | exact Out.i h | fail)
end Go.Proofs.YtngicmoadobgpaaDoor

/- Rows that a conversion from a text has made: marked as perhaps the text's own, no cell of them frozen. Conditions: the table 'T' fits the program. -/
namespace Go.Sx
open Go Go.RowKit
/-- The bytes l at the head of the row b, spare room behind them; the mark lies behind all. -/
def FRow (b : Nat) (u : TypeId) (l : List UInt8) : HProp := fun h => ∃ tail, h b = some (.cells ⟨bys l ++ tail⟩ u ((bys l ++ tail).length, (bys l ++ tail).length + 1))
section
variable {P : Program} {w0 : World} {F : List HProp}
theorem Rel.frow_blk {w : World} {b : Nat} {u : TypeId} {l : List UInt8} (h : Rel w0 (FRow b u l :: F) w) : ∃ tail, Rel w0 (blk b (.cells ⟨bys l ++ tail⟩ u ((bys l ++ tail).length, (bys l ++ tail).length + 1)) :: F) w := by
  obtain ⟨x, ⟨h1, h2, d, l1, l2, ⟨tail, hb⟩, s⟩, g⟩ := h.heap
  exact ⟨tail, ⟨h.below, x, ⟨h1, h2, d, l1, l2, hb, s⟩, g⟩⟩
theorem Rel.frow_mk {w : World} {b n : Nat} {u : TypeId} {l : List UInt8} {cs tail : List Value} (h : Rel w0 (blk b (.cells ⟨cs⟩ u (n, n + 1)) :: F) w) (hc : cs = bys l ++ tail) (hn : n = cs.length) : Rel w0 (FRow b u l :: F) w := by
  subst hc; subst hn
  obtain ⟨x, ⟨h1, h2, d, l1, l2, hb, s⟩, g⟩ := h.heap
  exact ⟨h.below, x, ⟨h1, h2, d, l1, l2, ⟨tail, hb⟩, s⟩, g⟩
theorem Reads.frow {b i : Nat} {u : TypeId} {l : List UInt8} {c : UInt8} (h : l[i]? = some c) : Reads w0 (FRow b u l :: F) ⟨b, i, none⟩ (kB c) := fun w hr => by
  obtain ⟨tail, hb⟩ := hr.frow_blk
  have := hb.get
  simp only [World.cell?, this]
  have hlt : i < (bys l).length := by rw [bys_length]; exact (List.getElem?_eq_some_iff.1 h).1
  have h2 := bys_get h
  simp [List.getElem?_append_left hlt, h2]
/-- The same, as the walk writes the place. -/
theorem Reads.frowI {b : Nat} {o : Nat} {u : TypeId} {l : List UInt8} {c : UInt8} (i : Nat) (ho : o = i) (h : l[i]? = some c) : Reads w0 (FRow b u l :: F) ⟨b, o, none⟩ (kB c) := by subst ho; exact Reads.frow h
end
section
variable {P : Program} {T : Tbl} {w0 : World} {n : Nat} {HL : Held} {ops : Array Oper} {J : Env → List HProp → Prop} {ix : Nat} {rest : List Oper} {o : Oper} {e : Env} {H F : List HProp}
/-- '[]byte(s)'. -/
theorem XO.rowOfStr {s t u : TypeId} {x : Operand} {l : List UInt8} {d : Nat} (hT : T.Ok P) (hk0 : Keeps w0 H (keptBy HL ix)) (hg : wantedE ops e n o = true) (hd : o.dst = some d) (hop : o.op = .convert s t x) (hs : T.und s = some .string) (ht : T.und t = some (.slice u)) (hu : T.und u = some (.int .u8))
    (hx : e.ev n x = kS l) (hk : ∀ b, Keeps w0 (FRow b u l :: H) (keptBy HL ix)) (h : ∀ b c, XO P T w0 n HL ops J (ix + 1) rest (e.upd d (.slice (some ⟨b, 0, none⟩) l.length c)) (FRow b u l :: H)) : XO P T w0 n HL ops J ix (o :: rest) e H := by
  refine .effOp hk0 hg (by rw [hop]; simp [cls, hs, ht]) (fun w hrel => ?_)
  have hr := Lib.run_convert_string_bytes (P := P) w s t u (S l) (hT.und _ _ hs) (hT.und _ _ ht) (hT.und _ _ hu)
  refine ⟨.slice (some ⟨w.heap.size, 0, none⟩) (S l).size (grownCap w (S l).size 0 u), Lib.bytesWorld w u (S l), _, .inl (by simp only [execOp, hop, hx, Sem.run_bind, hr, Result.andThen_ok, Sem.run_pure]), ?_, hk w.heap.size, by rw [hd]; exact h w.heap.size _⟩
  have h1 : Rel w0 H w.drew := hrel.drew
  have hcs : Lib.bytesCells w u (S l) = ⟨bys l ++ List.replicate (grownCap w l.length 0 u - l.length) (Value.int .u8 0)⟩ := by
    apply Array.ext'
    simp [Lib.bytesCells, bys]
    rfl
  have h2 := h1.alloc (.cells (Lib.bytesCells w u (S l)) u)
  have hsz : w.drew.heap.size = w.heap.size := rfl
  rw [hsz] at h2
  have hne : ∀ k, k ≠ w.heap.size → (Lib.bytesWorld w u (S l)).heap[k]? = ({ w.drew with heap := w.drew.heap.push (.cells (Lib.bytesCells w u (S l)) u) } : World).heap[k]? := by
    intro k hk
    rcases Nat.lt_or_ge k w.heap.size with hlt | hge
    · rw [Lib.bytesWorld_at_old w u (S l) k hlt]
      show w.heap[k]? = (w.drew.heap.push _)[k]?
      rw [Array.getElem?_push, hsz, if_neg hk]; rfl
    · rw [Array.getElem?_eq_none (by rw [Lib.bytesWorld_size]; omega), Array.getElem?_eq_none (by show (w.drew.heap.push _).size ≤ k; rw [Array.size_push, hsz]; omega)]
  have h3 := h2.set (w' := Lib.bytesWorld w u (S l)) (o' := .cells (Lib.bytesCells w u (S l)) u ((Lib.bytesCells w u (S l)).size, (Lib.bytesCells w u (S l)).size + 1)) (by rfl) (by rfl) (by rfl)
    (by rw [Lib.bytesWorld_size]; show _ = (w.drew.heap.push _).size; rw [Array.size_push, hsz]) (Lib.bytesWorld_at_new w u (S l)) hne
  rw [hcs] at h3
  exact h3.frow_mk rfl rfl
/-- A byte is set. -/
theorem XO.storeF {t u : TypeId} {x y : Operand} {b of : Nat} {l : List UInt8} {z : Int} {F : List HProp} (i : Nat) (c : UInt8) (ho : of = i) (hz : z = c.toNat) (hi : i < l.length) (hT : T.Ok P) (hk0 : Keeps w0 (FRow b u l :: F) (keptBy HL ix)) (hg : wantedE ops e n o = true) (hd : o.dst = none) (hop : o.op = .store t x y) (hx : e.ev n x = .pointer (some ⟨b, of, none⟩))
    (hy : e.ev n y = .int .u8 z) (hs : T.size t = some 1)
    (hk : Keeps w0 (FRow b u (l.set i c) :: F) (keptBy HL ix)) (h : XO P T w0 n HL ops J (ix + 1) rest e (FRow b u (l.set i c) :: F)) : XO P T w0 n HL ops J ix (o :: rest) e (FRow b u l :: F) := by
  subst ho; subst hz
  refine .effOp hk0 hg (by rw [hop]; rfl) (fun w hrel => ?_)
  obtain ⟨tail, hb⟩ := hrel.frow_blk
  have hcell : w.cell? ⟨b, of, none⟩ = some (kB l[of]) := Reads.frow (List.getElem?_eq_getElem hi) w hrel
  have hl : of < (bys l ++ tail).length := by rw [List.length_append, bys_length]; omega
  have hf : w.frozen? ⟨b, of, none⟩ = false := by
    have := hb.get
    simp [World.frozen?, this]
    intro h2; have := bys_length l; omega
  have h1 : (Value.int IntKind.u8 c.toNat).oneCell' = true := rfl
  have hset : (Go.store ((⟨b, of, none⟩ : Addr).add 0) (kB c)).run P w = .ok () (w.setCell ⟨b, of, none⟩ (kB c)) := by
    rw [Addr.add_mk, Nat.add_zero, run_store P w _ _ .plain h1, hcell]
    simp [hf]
  have hr' := hb.setCell of (kB c)
  have hr2 : Rel w0 (FRow b u (l.set of c) :: F) (w.setCell ⟨b, of, none⟩ (kB c)) := by
    refine Rel.frow_mk (cs := (bys l ++ tail).set of (kB c)) (tail := tail) (n := (bys l ++ tail).length) ?_ ?_ (by simp)
    · simpa using hr'
    · rw [List.set_append_left _ _ (by rw [bys_length]; exact hi)]
      simp [bys, List.map_set]
  refine ⟨undef, _, _, .inr ⟨?_, rfl⟩, hr2, hk, by rw [hd]; exact h⟩
  have hcs : (Value.int IntKind.u8 (c.toNat : Int)).cells = #[.int .u8 c.toNat] := rfl
  simp only [execOp, hop, hx, hy, Instr.storeAt, Instr.sureAddr, storeVar, hcs, Sem.run_bind, Sem.run_pure, Result.andThen_ok, run_size hT hs, ne_eq, not_true_eq_false, if_false, storeCells, List.size_toArray, List.length_cons, List.length_nil, hset]
/-- 'string(b)'. -/
theorem XO.strOfF {s t u : TypeId} {x : Operand} {b k c : Nat} {l : List UInt8} {d : Nat} (hT : T.Ok P) (hk0 : Keeps w0 (FRow b u l :: F) (keptBy HL ix)) (hg : wantedE ops e n o = true) (hd : o.dst = some d) (hop : o.op = .convert s t x) (hs : T.und s = some (.slice u)) (ht : T.und t = some .string) (hu : T.und u = some (.int .u8))
    (hx : e.ev n x = .slice (some ⟨b, 0, none⟩) k c) (hl : k = l.length) (h : XO P T w0 n HL ops J (ix + 1) rest (e.upd d (kS l)) (FRow b u l :: F)) : XO P T w0 n HL ops J ix (o :: rest) e (FRow b u l :: F) := by
  subst hl
  refine .effOp hk0 hg (by rw [hop]; simp [cls, hs, ht]) (fun w hrel => ?_)
  refine ⟨_, w, _, .inl ?_, hrel, hk0, by rw [hd]; exact h⟩
  have hmap : bys l = (l.map fun c : UInt8 => (c.toNat : Int)).map (Value.int .u8) := by simp [bys]
  have hlc : (loadCells ⟨b, 0, none⟩ l.length).run P w = .ok ((l.map fun c : UInt8 => (c.toNat : Int)).map (Value.int .u8)).toArray w := by
    have := run_loadCells_list (P := P) w ⟨b, 0, none⟩ ((l.map fun c : UInt8 => (c.toNat : Int)).map (Value.int .u8)) (fun j v hj => by
      rw [Addr.add_mk, Nat.zero_add]; rw [← hmap] at hj
      simp only [bys, List.getElem?_map, Option.map_eq_some_iff] at hj
      obtain ⟨c, h1, rfl⟩ := hj
      exact Reads.frow h1 w hrel)
    simpa using this
  have := run_bytesToString (P := P) w ⟨b, 0, none⟩ l.length c _ hlc
  have e0 := foldl_bys l []
  simp only [List.nil_append] at e0
  rw [show (S [] : ByteArray) = ByteArray.empty from rfl] at e0
  rw [e0] at this
  simp [execOp, hop, convert, run_und hT hs, run_und hT ht, run_und hT hu, hx, this]
end
end Go.Sx

/- Rules: one element more at the end of a row, whatever its cells; a row that was made, as a row of elements. Conditions: the table 'T' fits the program. -/
namespace Go.Sx
open Go Go.RowKit
section
variable {P : Program} {T : Tbl} {w0 : World} {n : Nat} {HL : Held} {ops : Array Oper} {J : Env → List HProp → Prop} {ix : Nat} {rest : List Oper} {o : Oper} {e : Env} {H F : List HProp}
/-- 'append(l, x)', x written out in a row of its own, which is given up. -/
theorem XO.appendG {x y : Operand} {t u t' : TypeId} {a : Option Addr} {cap k c s bs b : Nat} {l vs : List Value} (l' : List Value) {z : Value} {d : Nat} (hT : T.Ok P) (hk0 : Keeps w0 (Row a cap u s k l :: cel b t' vs :: F) (keptBy HL ix)) (hg : wantedE ops e n o = true) (hd : o.dst = some d)
    (hop : o.op = .call { callee := .builtin .append, args := #[x, y], argTypes := #[t, t] }) (hu : T.und t = some (.slice u)) (hs : T.size u = some s) (hbs : T.bytes u = some bs) (hz : T.zero u = some z) (hzs : Nat.beq z.cells.size s = true) (hs0 : Nat.blt 0 s = true)
    (hx : e.ev n x = .slice a k cap) (hy : e.ev n y = .slice (some ⟨b, 0, none⟩) 1 c) (hl : vs.length = s) (h1 : vs.all (·.oneCell') = true) {N : Nat} (hN : k + 1 ≤ N) (hn : Nat.ble (N * bs) 140737488355328 = true) (hn2 : Nat.ble N 9223372036854775807 = true) (hr : l ++ vs = l')
    (hk : ∀ a' cap', Keeps w0 (Row a' cap' u s (k + 1) l' :: cel b t' vs :: F) (keptBy HL ix)) (h : ∀ a' cap', XO P T w0 n HL ops J (ix + 1) rest (e.upd d (.slice a' (k + 1) cap')) (Row a' cap' u s (k + 1) l' :: F)) : XO P T w0 n HL ops J ix (o :: rest) e (Row a cap u s k l :: cel b t' vs :: F) := by
  subst hr
  refine .append (ad := ⟨b, 0, none⟩) hT hk0 hg hd hop hu hs hbs hz hzs hs0 hx hy (ReadsL.skip fun j v hj => ?_) (by rw [hl, Nat.one_mul]) (by decide) h1 hN hn hn2 hk (fun a' cap' => .ent (Ent.cons _ (Ent.drop _ _)) (h a' cap'))
  rw [Addr.add_mk, Nat.zero_add]; exact Reads.here hj
end
end Go.Sx
