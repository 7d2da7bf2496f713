/- The document's balancer: its dice, its ring. Conditions: numbers are of their kinds. -/
import Derived.Test.YtpfnhkdhcjclpaaBalK
import Derived.Test.YtpfnhkdhcjclpaaBalN
namespace Go.Proofs.Ytpfnhkdhcjclpaa
open Go Go.Sx Go.DiceM Go.BalM
variable {w0 : World} {F H : List HProp} {K : Value → List HProp → Prop}
theorem rmix_spec (x : Int) (h : K (kU (mixI x)) H) : Tri Try.prog 78 #[kU x] w0 H K := by
  refine Tri.enterF Try.func78 Try.ntmps78 Try.results78 rfl rfl fun fr hfr => ?_
  repeat' (first | refine walk ?_ | exact trivial | refine Tw.mk ?_ ?_ | fail)
theorem rhash_spec (s : ByteArray) (hs : s.size ≤ 9223372036854775807) (h : K (kU (hashI s.data.toList)) H) : Tri Try.prog 79 #[.string s] w0 H K := by
  have hl : s.data.toList.length = s.size := rfl
  refine Tri.enterF Try.func79 Try.ntmps79 Try.results79 rfl rfl fun fr hfr => ?_
  repeat' (first | refine walk ?_ | exact trivial | refine Tw.mk ?_ ?_ | fail)
  refine XS.loopI (ι := Nat) (fun k => [(0, .string s), (4, .int .i64 k), (3, .int .u64 (hashI (s.data.toList.take k)))]) (fun _ => H) (fun k => k ≤ s.size) (fun k => s.size - k) 0 (Nat.zero_le _) ⟨rfl, rfl, rfl, trivial⟩ (Ent.refl _) ?_
  intro k e hk ih
  repeat' (first | refine walk ?_ | exact trivial | refine Tw.mk ?_ ?_ | intro hc | fail)
  · exact ih (k + 1) _ _ (by omega) (by omega) ⟨rfl, rfl, congrArg (Value.int .u64) (hash_snoc _ k (by omega)).symm, trivial⟩ (Ent.refl _)
  · refine Out.i ?_
    rw [List.take_of_length_le (by omega)]; exact h
theorem high_spec {a b : Int} (ha : 0 ≤ a ∧ a < 18446744073709551616) (hb : 0 ≤ b ∧ b < 18446744073709551616) (h : K (kU (mulHi a b)) H) : Tri Try.prog 77 #[kU a, kU b] w0 H K := by
  refine Tri.enterF Try.func77 Try.ntmps77 Try.results77 rfl rfl fun fr hfr => ?_
  repeat' (first | refine walk ?_ | exact trivial | refine Tw.mk ?_ ?_ | fail)
  refine Out.i ?_
  exact cast (congrArg (fun z => K (.int .u64 z) H) (hi2 a b ha.1 ha.2 hb.1 hb.2).symm) h
abbrev rbal (r : Nat) (pol last : Int) (v : Value) (s d : Int) : HProp := cel r 98 [kI pol, kI last, v, kU s, kI d]
theorem rnext_spec {r : Nat} {pol last s d : Int} {v : Value} (hd : 0 ≤ d ∧ d < 9223372036854775807) (h : K (kU (mixI (stepI s))) (rbal r pol last v (stepI s) (d + 1) :: F)) : Tri Try.prog 76 #[.pointer (some ⟨r, 3, none⟩)] w0 (rbal r pol last v s d :: F) K := by
  refine Tri.enterF Try.func76 Try.ntmps76 Try.results76 rfl rfl fun fr hfr => ?_
  repeat' (first | refine walk ?_ | exact trivial | refine Tw.mk ?_ ?_ | refine rmix_spec _ ?_ | fail)
theorem rbelow_eq {r : Nat} {pol last s d n z : Int} {v : Value} (hd : 0 ≤ d ∧ d < 9223372036854775807) (hn : 1 ≤ n ∧ n ≤ 9223372036854775807) (hz : belowI s n = z) (h : K (kI z) (rbal r pol last v (stepI s) (d + 1) :: F)) : Tri Try.prog 50 #[.pointer (some ⟨r, 3, none⟩), kI n] w0 (rbal r pol last v s d :: F) K := by
  refine Tri.enterF Try.func50 Try.ntmps50 Try.results50 rfl rfl fun fr hfr => ?_
  repeat' (first | refine walk ?_ | exact trivial | refine Tw.mk ?_ ?_ | intro hc | refine Tri.sel1 (rnext_spec hd ?_) | refine high_spec (mixI_lt _) (u64_lt _) ?_ | fail)
  refine Out.i ?_
  rw [u64_id (by omega) (by omega), mulHi_n (mixI_lt _) (by omega) (by omega)]
  simp only [belowI, if_neg (show ¬ n < 1 by omega)] at hz
  rw [hz]; exact h
theorem rload_spec {a : Option Addr} {c i : Nat} {ls : List Int} (hb : Base w0 (.slice a ls.length c) 1 ls.length (flat ienc ls)) (h : K (kI (loadOf ls i)) F) : Tri Try.prog 49 #[.slice a ls.length c, kI i] w0 F K := by
  refine Tri.enterF Try.func49 Try.ntmps49 Try.results49 rfl rfl fun fr hfr => ?_
  by_cases hi : i < ls.length
  · obtain ⟨z, hz⟩ : ∃ z, ls[i]? = some z := ⟨_, List.getElem?_eq_getElem hi⟩
    obtain ⟨g, off, rfl, hrd⟩ := hb.rdF kI (fun _ => rfl) hz
    simp only [loadOf, hz, Option.getD_some] at h
    repeat' (first | refine walk ?_ | exact trivial | refine Tw.mk ?_ ?_ | intro hc | fail)
  · have : loadOf ls i = 0 := by simp [loadOf, Nat.not_lt.1 hi]
    rw [this] at h
    repeat' (first | refine walk ?_ | exact trivial | refine Tw.mk ?_ ?_ | intro hc | fail)
end Go.Proofs.Ytpfnhkdhcjclpaa
