/- Contracts: the document's Trim. Conditions: none. -/
import Derived.Test.YtngicmoadobgpaaDoorChunkE
import Derived.Test.YtngicmoadobgpaaDoorChunkH
import Derived.Test.YtngicmoadobgpaaDoorChunkX
namespace Go.Proofs.YtngicmoadobgpaaDoor
open Go Go.Sx Go.ChunkM Go.StrM
variable {w0 : World} {F H : List HProp} {K : Value → List HProp → Prop}
theorem blank_spec {c : UInt8} (h1 : isBl c = true → K (.bool true) F) (h2 : isBl c = false → K (.bool false) F) : Tri Tryd.prog 39 #[kB c] w0 F K := by
  have hi := isBl_iff c
  refine Tri.enterF Tryd.func39 Tryd.ntmps39 Tryd.results39 rfl rfl fun fr hfr => ?_
  repeat' (first | refine walk ?_ | exact trivial | refine Tw.mk ?_ ?_ | intro hy | fail)
  all_goals first
    | exact Out.i (h1 (hi.2 (by omega)))
    | exact Out.i (h2 (by cases hb : isBl c; rfl; have := hi.1 hb; omega))
set_option maxRecDepth 20000 in
theorem rtrim_spec {l : List UInt8} (hl : l.length ≤ 4611686018427387904) (h : K (kS (trim l)) F) : Tri Tryd.prog 14 #[kS l] w0 F K := by
  refine Tri.enterF Tryd.func14 Tryd.ntmps14 Tryd.results14 rfl rfl fun fr hfr => ?_
  refine walkn ?_
  refine ⟨?_, trivial⟩
  refine XS.joinM (ι := Nat) (fun i => [(0, kS l), (3, kI i), (4, kI l.length)]) (fun _ => F) (fun i => i ≤ l.length ∧ (∀ (j : Nat) c, j < i → l[j]? = some c → isBl c = true) ∧ (∀ c, l[i]? = some c → isBl c = false)) ?_ (fun hj => ?_)
  · rintro i e ⟨hi, hb, hn⟩
    repeat' (first | refine walk ?_ | exact trivial | refine Tw.mk ?_ ?_ | fail)
    refine XS.loopI (ι := Nat) (fun k => [(0, kS l), (3, kI i), (4, kI k)]) (fun _ => F) (fun k => i ≤ k ∧ k ≤ l.length ∧ ∀ (j : Nat) c, k ≤ j → l[j]? = some c → isBl c = true) (fun k => k) l.length ⟨hi, Nat.le_refl _, fun j c hj hc => absurd (List.getElem?_eq_some_iff.1 hc).1 (by omega)⟩ ⟨rfl, rfl, rfl, trivial⟩ entA ?_
    rintro k e ⟨k1, k2, k3⟩ ih
    have fin : (i < k → ∀ c, l[k - 1]? = some c → isBl c = false) → (l.drop i).take (k - i) = trim l := fun hc => trim_cut k1 k2 hb k3 (fun h => ⟨hn, hc h⟩)
    by_cases hlt : i < k
    · obtain ⟨m, rfl⟩ : ∃ m, k = m + 1 := ⟨k - 1, by omega⟩
      obtain ⟨c, hc⟩ : ∃ c, l[m]? = some c := ⟨_, List.getElem?_eq_getElem (by omega)⟩
      have hc2 : l[(((m + 1 : Nat) : Int) - 1).toNat]? = some c := by rw [show (((m + 1 : Nat) : Int) - 1).toNat = m by omega]; exact hc
      have hs : isBl c = true → ∀ (j : Nat) x, m ≤ j → l[j]? = some x → isBl x = true := fun hbl j x hj hx => by
        by_cases e : j = m
        · subst e; rw [hc] at hx; injection hx with hx; subst hx; exact hbl
        · exact k3 j x (by omega) hx
      have hf : isBl c = false → (l.drop i).take (m + 1 - i) = trim l := fun hbl => fin (fun _ x hx => by
        rw [show m + 1 - 1 = m by omega, hc] at hx; injection hx with hx; subst hx; exact hbl)
      repeat' (first | refine walk ?_ | exact trivial | refine Tw.mk ?_ ?_ | intro hy | (exfalso; omega) | refine blank_spec ?_ ?_ | exact ih m _ _ ⟨by omega, by omega, hs (by assumption)⟩ (by omega) ⟨rfl, rfl, congrArg kI (by omega), trivial⟩ entA | (rw [hf (by assumption)]; exact Out.i h) | fail)
    · have hf := fin (fun h => absurd h hlt)
      repeat' (first | refine walk ?_ | exact trivial | refine Tw.mk ?_ ?_ | intro hy | (exfalso; omega) | (rw [hf]; exact Out.i h) | fail)
  · refine XS.block ?_
    refine XS.loopI (ι := Nat) (fun i => [(0, kS l), (3, kI i), (4, kI l.length)]) (fun _ => F) (fun i => i ≤ l.length ∧ (∀ (j : Nat) c, j < i → l[j]? = some c → isBl c = true)) (fun i => l.length - i) 0 ⟨Nat.zero_le _, fun j c hj => absurd hj (by omega)⟩ ⟨rfl, rfl, rfl, trivial⟩ entA ?_
    rintro i e ⟨hi, hb⟩ ih
    by_cases hlt : i < l.length
    · obtain ⟨c, hc⟩ : ∃ c, l[i]? = some c := ⟨_, List.getElem?_eq_getElem hlt⟩
      have hn : isBl c = false → ∀ x, l[i]? = some x → isBl x = false := fun hbl x hx => by rw [hc] at hx; injection hx with hx; subst hx; exact hbl
      repeat' (first | refine walk ?_ | exact trivial | refine Tw.mk ?_ ?_ | intro hy | (exfalso; omega) | refine blank_spec ?_ ?_ | exact ih (i + 1) _ _ ⟨hlt, all_step hb hc (by assumption)⟩ (by omega) ⟨rfl, rfl, rfl, trivial⟩ entA | exact ⟨i, ⟨hi, hb, hn (by assumption)⟩, ⟨rfl, rfl, rfl, trivial⟩, entA⟩ | fail)
    · have hn : ∀ x, l[i]? = some x → isBl x = false := fun x hx => absurd (List.getElem?_eq_some_iff.1 hx).1 hlt
      repeat' (first | refine walk ?_ | exact trivial | refine Tw.mk ?_ ?_ | intro hy | (exfalso; omega) | exact ⟨i, ⟨hi, hb, hn⟩, ⟨rfl, rfl, rfl, trivial⟩, entA⟩ | fail)
end Go.Proofs.YtngicmoadobgpaaDoor
