/- The document's balancer: the open host with so many ahead, the ring. Conditions: numbers are of their kinds. -/
import Derived.Test.YtpfnhkdhcjclpaaBalL
namespace Go.Proofs.Ytpfnhkdhcjclpaa
open Go Go.Sx Go.DiceM Go.BalM
variable {w0 : World} {F H : List HProp} {K : Value → List HProp → Prop}
theorem opens_get {op : List Bool} {n i : Nat} (hi : op[i]? = some true) (hn : i < n) : (opens n op)[(opens i op).length]? = some i := by
  induction n with
  | zero => omega
  | succ n ih =>
    rw [opens_succ]
    by_cases e : i = n
    · subst e; simp [hi]
    · have h1 := ih (by omega)
      rw [List.getElem?_append_left (List.getElem?_eq_some_iff.1 h1).1]
      exact h1
theorem opens_mono {op : List Bool} {i : Nat} : ∀ {j : Nat}, i ≤ j → (opens i op).length ≤ (opens j op).length
  | 0, h => by have : i = 0 := by omega
               rw [this]; exact Nat.le_refl _
  | j + 1, h => by
    by_cases e : i = j + 1
    · rw [e]; exact Nat.le_refl _
    · have := opens_mono (op := op) (show i ≤ j by omega)
      rw [opens_succ, List.length_append]; omega
theorem nth_spec {a : Option Addr} {c q z n : Nat} {op : List Bool} (ho : op.length ≤ 140737488351232) (hb : Base w0 (.slice a op.length c) 1 op.length (flat benc op)) (hz : (opens n op)[q]? = some z) (h : K (kI z) F) : Tri Try.prog 51 #[.slice a op.length c, kI q] w0 F K := by
  have hzm := mem_opens.1 (List.mem_of_getElem? hz)
  have hzl := (List.getElem?_eq_some_iff.1 hzm.2).1
  have hql := (List.getElem?_eq_some_iff.1 hz).1
  have hqz : (opens z op).length = q := by
    have h1 := opens_get hzm.2 hzm.1
    have h2 := (opens_asc n op)
    obtain ⟨h3, e3⟩ := List.getElem?_eq_some_iff.1 h1
    obtain ⟨h4, e4⟩ := List.getElem?_eq_some_iff.1 hz
    rcases Nat.lt_trichotomy (opens z op).length q with hlt | heq | hgt
    · have := List.pairwise_iff_getElem.1 h2 _ _ h3 h4 hlt; omega
    · exact heq
    · have := List.pairwise_iff_getElem.1 h2 _ _ h4 h3 hgt; omega
  refine Tri.enterF Try.func51 Try.ntmps51 Try.results51 rfl rfl fun fr hfr => ?_
  repeat' (first | refine walk ?_ | exact trivial | refine Tw.mk ?_ ?_ | intro hc | fail)
  refine XS.loopI (ι := Nat) (fun i => [(0, .slice a op.length c), (1, kI ((q : Int) - ((opens i op).length : Int))), (5, kI i)]) (fun _ => F) (fun i => i ≤ z) (fun i => z - i) 0 (Nat.zero_le _) ⟨rfl, by simp [opens]; rfl, rfl, trivial⟩ (Ent.refl _) ?_
  intro i e hi ih
  obtain ⟨u, hu⟩ : ∃ u, op[i]? = some u := ⟨_, List.getElem?_eq_getElem (by omega)⟩
  obtain ⟨g, off, rfl, hrd⟩ := hb.rdF .bool (fun _ => rfl) hu
  have hmono : (opens i op).length ≤ q := by
    rw [← hqz]; exact opens_mono hi
  by_cases he : i = z
  · subst he
    rw [hzm.2] at hu; injection hu with hu; subst hu
    rw [hqz]
    repeat' (first | refine walk ?_ | exact trivial | refine Tw.mk ?_ ?_ | intro hc | fail)
    all_goals first | (exfalso; omega) | exact Out.i h
  · have hlt : i < z := by omega
    cases u
    · repeat' (first | refine walk ?_ | exact trivial | refine Tw.mk ?_ ?_ | intro hc | fail)
      refine ih (i + 1) _ _ hlt (by omega) ⟨rfl, ?_, rfl, trivial⟩ (Ent.refl _)
      rw [opens_succ, hu]; simp; rfl
    · have hs : (opens (i + 1) op).length = (opens i op).length + 1 := by rw [opens_succ, hu]; simp
      have hm2 : (opens i op).length + 1 ≤ q := by
        rw [← hs, ← hqz]; exact opens_mono hlt
      have hqi : (q : Int) ≤ 140737488351232 := by have := opens_len z op; omega
      repeat' (first | refine walk ?_ | exact trivial | refine Tw.mk ?_ ?_ | intro hc | fail)
      refine ih (i + 1) _ _ hlt (by omega) ⟨rfl, ?_, rfl, trivial⟩ (Ent.refl _)
      rw [hs]
      exact congrArg (Value.int .i64) (by push_cast; omega)
end Go.Proofs.Ytpfnhkdhcjclpaa
