/- What the dice's functions come to, those of the program and those of the document. Conditions: numbers are of their kinds. -/
import Derived.Test.YtpfnhkdhcjclpaaKb
import Derived.Test.YtpfnhkdhcjclpaaDiceM
namespace Go.Proofs.Ytpfnhkdhcjclpaa
open Go Go.Sx Go.DiceM
variable {w0 : World} {F H : List HProp} {K : Value → List HProp → Prop}
def dice (b : Nat) (s d : Int) : HProp := cel b 118 [kU s, kI d]
theorem mix_spec (x : Int) (h : K (kU (mixI x)) H) : Tri Try.prog 36 #[kU x] w0 H K := by
  refine Tri.enterF Try.func36 Try.ntmps36 Try.results36 rfl rfl fun fr hfr => ?_
  repeat' (first | refine walk ?_ | exact trivial | refine Tw.mk ?_ ?_ | fail)
theorem dnew_spec (x : Int) (h : ∀ b, K (ptr b) (dice b (IntKind.u64.wrap x) 0 :: H)) : Tri Try.prog 35 #[kI x] w0 H K := by
  refine Tri.enterF Try.func35 Try.ntmps35 Try.results35 rfl rfl fun fr hfr => ?_
  repeat' (first | refine walk ?_ | exact trivial | refine Tw.mk ?_ ?_ | intro b | fail)
  exact Out.i (h b)
theorem next_spec {b : Nat} {s d : Int} (hd : 0 ≤ d ∧ d < 9223372036854775807) (h : K (kU (mixI (stepI s))) (dice b (stepI s) (d + 1) :: F)) : Tri Try.prog 72 #[ptr b] w0 (dice b s d :: F) K := by
  refine Tri.enterF Try.func72 Try.ntmps72 Try.results72 rfl rfl fun fr hfr => ?_
  unfold dice
  repeat' (first | refine walk ?_ | exact trivial | refine Tw.mk ?_ ?_ | refine mix_spec _ ?_ | fail)
theorem mul64_spec {a b : Int} (ha : 0 ≤ a ∧ a < 18446744073709551616) (hb : 0 ≤ b ∧ b < 18446744073709551616) (h : ∀ y, K (.tuple #[kU (mulHi a b), kU y]) H) : Tri Try.prog 71 #[kU a, kU b] w0 H K := by
  refine Tri.enterF Try.func71 Try.ntmps71 Try.results71 rfl rfl fun fr hfr => ?_
  repeat' (first | refine walk ?_ | exact trivial | refine Tw.mk ?_ ?_ | fail)
  refine Out.i ?_
  exact cast (congrArg (fun z => K (.tuple #[.int .u64 z, .int .u64 _]) H) (hi1 a b ha.1 ha.2 hb.1 hb.2).symm) (h _)
/-- What 'Below' answers, and the state behind it. -/
def belowI (s n : Int) : Int := if n < 1 then 0 else mulHi (mixI (stepI s)) n
def belowS (s n : Int) : Int := if n < 1 then s else stepI s
def belowD (d n : Int) : Int := if n < 1 then d else d + 1
theorem mulHi_n {x n : Int} (hx : 0 ≤ x ∧ x < 18446744073709551616) (hn : 0 < n) (hn' : n ≤ 9223372036854775807) : IntKind.i64.wrap (mulHi x n) = mulHi x n := by
  have := mulHi_lt x n hx.1 hx.2 hn
  exact wrap64_id (by omega) (by omega)
theorem belowI_lt (s : Int) {n : Int} (hn : 1 ≤ n) : 0 ≤ belowI s n ∧ belowI s n < n := by
  unfold belowI
  rw [if_neg (by omega)]
  exact mulHi_lt _ _ (mixI_lt _).1 (mixI_lt _).2 (by omega)
theorem below_spec {b : Nat} {s d n : Int} (hd : 0 ≤ d ∧ d < 9223372036854775807) (hn : -9223372036854775808 ≤ n ∧ n ≤ 9223372036854775807) (h : K (kI (belowI s n)) (dice b (belowS s n) (belowD d n) :: F)) : Tri Try.prog 45 #[ptr b, kI n] w0 (dice b s d :: F) K := by
  refine Tri.enterF Try.func45 Try.ntmps45 Try.results45 rfl rfl fun fr hfr => ?_
  repeat' (first | refine walk ?_ | exact trivial | refine Tw.mk ?_ ?_ | intro hc | refine Tri.sel1 (next_spec hd ?_) | refine mul64_spec (mixI_lt _) (u64_lt _) (fun _ => ?_) | fail)
  · simp only [belowI, belowS, belowD, if_pos (show n < 1 by assumption)] at h; exact Out.i h
  · refine Out.i ?_
    have hn1 : ¬ n < 1 := by omega
    rw [u64_id (by omega) (by omega), mulHi_n (mixI_lt _) (by omega) (by omega)]
    simp only [belowI, belowS, belowD, if_neg hn1] at h; exact h
theorem hash_spec (s : ByteArray) (hs : s.size ≤ 9223372036854775807) (h : K (kU (hashI s.data.toList)) H) : Tri Try.prog 37 #[.string s] w0 H K := by
  have hl : s.data.toList.length = s.size := rfl
  refine Tri.enterF Try.func37 Try.ntmps37 Try.results37 rfl rfl fun fr hfr => ?_
  repeat' (first | refine walk ?_ | exact trivial | refine Tw.mk ?_ ?_ | fail)
  refine XS.loopI (ι := Nat) (fun k => [(0, .string s), (6, .int .i64 s.size), (7, .int .i64 k), (3, .int .u64 (hashI (s.data.toList.take k)))]) (fun _ => H) (fun k => k ≤ s.size) (fun k => s.size - k) 0 (Nat.zero_le _) ⟨rfl, rfl, rfl, rfl, trivial⟩ (Ent.refl _) ?_
  intro k e hk ih
  repeat' (first | refine walk ?_ | exact trivial | refine Tw.mk ?_ ?_ | intro hc | fail)
  · exact ih (k + 1) _ _ (by omega) (by omega) ⟨rfl, rfl, rfl, congrArg (Value.int .u64) (hash_snoc _ k (by omega)).symm, trivial⟩ (Ent.refl _)
  · refine Out.i ?_
    rw [List.take_of_length_le (by omega)]; exact h
end Go.Proofs.Ytpfnhkdhcjclpaa
