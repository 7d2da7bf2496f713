/- Contracts: numbers in the base of sixteen. Conditions: none. -/
import Derived.Test.YtngicmoadobgpaaDoorStrB
namespace Go.Proofs.YtngicmoadobgpaaDoor
open Go Go.Sx Go.ChunkM Go.StrM
variable {w0 : World} {F H : List HProp} {K : Value → List HProp → Prop}
theorem hexDig_dig {c : UInt8} (h : isDig c = true) : hexDig c = some (c.toNat - 48) := by
  simp only [isDig, decide_eq_true_eq] at h
  unfold hexDig; rw [if_pos h]
theorem hexDig_let {c : UInt8} (h : isDig c = false) (h2 : 97 ≤ c.toNat ||| 32 ∧ c.toNat ||| 32 ≤ 102) : hexDig c = some ((c.toNat ||| 32) - 87) := by
  simp only [isDig, decide_eq_false_iff_not] at h
  unfold hexDig; rw [if_neg h, if_pos h2]
theorem hexDig_no {c : UInt8} (h : isDig c = false) (h2 : ¬ (97 ≤ c.toNat ||| 32 ∧ c.toNat ||| 32 ≤ 102)) : hexDig c = none := by
  simp only [isDig, decide_eq_false_iff_not] at h
  unfold hexDig; rw [if_neg h, if_neg h2]
theorem hexGo_step {l : List UInt8} {i n : Nat} {c : UInt8} (hc : l[i]? = some c) : hexGo (l.drop i) n = match hexDig c with | some d => hexGo (l.drop (i + 1)) (n * 16 + d) | none => none := by
  have hlt := (List.getElem?_eq_some_iff.1 hc)
  rw [List.drop_eq_getElem_cons hlt.1, hlt.2]; rfl
theorem hex_spec {l : List UInt8} (hl : l.length ≤ 4611686018427387904) (h1 : ∀ n : Nat, hexOf l 8 = some n → n < 4294967296 → K (.tuple #[kI n, .bool true]) F) (h2 : hexOf l 8 = none → K (.tuple #[kI 0, .bool false]) F) : Tri Tryd.prog 89 #[kS l, kI 8] w0 F K := by
  have hno : l = [] ∨ 8 < l.length → hexOf l 8 = none := fun h => by unfold hexOf; rw [if_pos h]
  refine Tri.enterF Tryd.func89 Tryd.ntmps89 Tryd.results89 rfl rfl fun fr hfr => ?_
  repeat' (first | refine walk ?_ | exact trivial | refine Tw.mk ?_ ?_ | intro hx | refine XO.minI rfl rfl rfl rfl rfl (fun hm => ?_) (fun hm => ?_) | (exfalso; omega) | exact Out.i (h2 (hno (by first | exact .inl (by assumption) | exact .inr (by omega)))) | fail)
  rename_i hne
  have hok : ¬ (l = [] ∨ 8 < l.length) := fun h => by
    rcases h with h | h
    · exact hne h
    · omega
  refine XS.loopI (ι := Nat × Nat) (fun q => [(0, kS l), (6, kI q.2), (19, kI l.length), (20, kI q.1)]) (fun _ => F) (fun q => q.1 ≤ l.length ∧ q.2 < 16 ^ q.1 ∧ hexGo l 0 = hexGo (l.drop q.1) q.2) (fun q => l.length - q.1) (0, 0) ⟨Nat.zero_le _, by decide, rfl⟩ ⟨rfl, rfl, rfl, rfl, trivial⟩ entA ?_
  rintro ⟨i, n⟩ e ⟨hi, hn, hg⟩ ih
  simp only at hi hn hg
  have h16 : (16 : Nat) ^ i ≤ 16 ^ 8 := Nat.pow_le_pow_right (by decide) (by omega)
  have h168 : (16 : Nat) ^ 8 = 4294967296 := by decide
  dsimp only
  by_cases hlt : i < l.length
  · obtain ⟨c, hc⟩ : ∃ c, l[i]? = some c := ⟨_, List.getElem?_eq_getElem hlt⟩
    have hs := hexGo_step (n := n) hc
    have hc8 := u8_lt c
    have hor : c.toNat ||| 32 < 2 ^ 8 := Nat.or_lt_two_pow hc8 (by decide)
    have hi16 : (16 : Nat) ^ (i + 1) = 16 ^ i * 16 := Nat.pow_succ ..
    have hdg : isDig c = true → 48 ≤ c.toNat ∧ c.toNat ≤ 57 := fun h => by simpa only [isDig, decide_eq_true_eq] using h
    have hs1 : isDig c = true → hexGo l 0 = hexGo (l.drop (i + 1)) (n * 2 ^ 4 + (c.toNat - 48)) := fun h => by rw [hg, hs, hexDig_dig h]
    have hs2 : isDig c = false → 97 ≤ c.toNat ||| 32 ∧ c.toNat ||| 32 ≤ 102 → hexGo l 0 = hexGo (l.drop (i + 1)) (n * 2 ^ 4 + ((c.toNat ||| 32) - 97 + 10)) := fun h h2 => by
      rw [hg, hs, hexDig_let h h2, show (c.toNat ||| 32) - 97 + 10 = (c.toNat ||| 32) - 87 by omega]
    have hs3 : isDig c = false → ¬ (97 ≤ c.toNat ||| 32 ∧ c.toNat ||| 32 ≤ 102) → hexOf l 8 = none := fun h h2 => by
      unfold hexOf; rw [if_neg hok, hg, hs, hexDig_no h h2]
    repeat' (first | refine walk ?_ | exact trivial | refine Tw.mk ?_ ?_ | (intro hx; have hy := hdg hx) | intro hx | refine digit_spec ?_ ?_ | (exfalso; omega) | fail)
    all_goals first
      | exact ih (i + 1, n * 2 ^ 4 + (c.toNat - 48)) _ _ ⟨hlt, by simp only; omega, hs1 hx⟩ (by simp only; omega) ⟨rfl, rfl, rfl, rfl, trivial⟩ entA
      | exact ih (i + 1, n * 2 ^ 4 + ((c.toNat ||| 32) - 97 + 10)) _ _ ⟨hlt, by simp only; omega, hs2 (by assumption) (by omega)⟩ (by simp only; omega) ⟨rfl, rfl, rfl, rfl, trivial⟩ entA
      | exact Out.i (h2 (hs3 (by assumption) (by omega)))
  · obtain rfl : i = l.length := by omega
    clear ih
    repeat' (first | refine walk ?_ | exact trivial | refine Tw.mk ?_ ?_ | intro hx | (exfalso; omega) | exact Out.i (h1 n (by unfold hexOf; rw [if_neg hok, hg, List.drop_length]; rfl) (by omega)) | fail)
end Go.Proofs.YtngicmoadobgpaaDoor
