/- Contracts: a decoder of chunked bodies: its lines. Conditions: what a decoder keeps. -/
import Derived.Test.YtngicmoadobgpaaDoorBld
namespace Go.Proofs.YtngicmoadobgpaaDoor
open Go Go.Sx Go.ChunkM Go.StrM
variable {w0 : World} {F H : List HProp} {K : Value → List HProp → Prop}
theorem cut2_spec {l : List UInt8} {c : UInt8} (hl : l.length ≤ 4611686018427387904) (h : ∀ t, K (.tuple #[kS (before c l), kS (behind c l), .bool t]) F) : Tri Tryd.prog 88 #[kS l, kS [c]] w0 F K :=
  cut_spec hl (fun _ => h true) (fun hm => by have e := before_not c l hm; have := h false; rw [e.1, e.2] at this; exact this)
abbrev dcel (b : Nat) (D : DS) (a : Option Addr) (c : Nat) : HProp := cel b 71 [kI D.most, kI D.size, kI D.state, kI D.left, .slice a D.line.length c, .bool D.cr, kI D.trl, kI D.err]
/-- The numbers of a decoder lie in their bounds. -/
def lim (D : DS) : Prop := -9223372036854775808 ≤ D.most ∧ D.most ≤ 9223372036854775807
theorem bound_spec {b c : Nat} {D : DS} {a : Option Addr} (h : K (kI (bound D.state)) (dcel b D a c :: F)) : Tri Tryd.prog 62 #[ptr b] w0 (dcel b D a c :: F) K := by
  have e0 : D.state = 0 → bound D.state = 64 := fun h => by unfold bound; rw [if_pos h]
  have e3 : D.state ≠ 0 → D.state = 3 → bound D.state = 512 := fun h h2 => by unfold bound; rw [if_neg h, if_pos h2]
  have e9 : D.state ≠ 0 → D.state ≠ 3 → bound D.state = 0 := fun h h2 => by unfold bound; rw [if_neg h, if_neg h2]
  refine Tri.enterF Tryd.func62 Tryd.ntmps62 Tryd.results62 rfl rfl fun fr hfr => ?_
  repeat' (first | refine walk ?_ | exact trivial | refine Tw.mk ?_ ?_ | intro hx | fail)
  all_goals first
    | (rw [e0 (by assumption)] at h; exact Out.i h)
    | (rw [e3 (by assumption) (by assumption)] at h; exact Out.i h)
    | (rw [e9 (by assumption) (by assumption)] at h; exact Out.i h)
theorem extB_yes {c : UInt8} (h : (c.toNat : Int) = 9 ∨ ((32 : Int) ≤ c.toNat ∧ (c.toNat : Int) ≤ 126)) : extB c = true := by simp only [extB, decide_eq_true_eq]; omega
theorem extB_no {c : UInt8} (h : (c.toNat : Int) ≠ 9 ∧ ((c.toNat : Int) < 32 ∨ (126 : Int) < c.toNat)) : extB c = false := by simp only [extB, decide_eq_false_iff_not]; omega
theorem hexU_spec {l : List UInt8} (hl : l.length ≤ 4611686018427387904) (h : ∀ (n : Nat) (t : Bool), (t = true ∧ hexOf l 8 = some n ∧ n < 4294967296) ∨ (t = false ∧ n = 0 ∧ hexOf l 8 = none) → K (.tuple #[kI n, .bool t]) F) : Tri Tryd.prog 89 #[kS l, kI 8] w0 F K :=
  hex_spec hl (fun n h1 h2 => h n true (.inl ⟨rfl, h1, h2⟩)) (fun h1 => h 0 false (.inr ⟨rfl, rfl, h1⟩))
theorem sized_spec {b c : Nat} {D : DS} {a : Option Addr} {l : List UInt8} (hl : l.length ≤ 4611686018427387904) (hD : Ok D) (hm : lim D) (h : K (kI (sized D l).2) (dcel b (sized D l).1 a c :: F)) : Tri Tryd.prog 76 #[ptr b, kS l] w0 (dcel b D a c :: F) K := by
  have hb1 := before_le 59 l
  have hb2 := behind_le 59 l
  have s0 := hD.s0
  have s1 := hD.s1
  obtain ⟨m1, m2⟩ := hm
  refine Tri.enterF Tryd.func76 Tryd.ntmps76 Tryd.results76 rfl rfl fun fr hfr => ?_
  repeat' (first | refine walk ?_ | exact trivial | refine Tw.mk ?_ ?_ | intro (tb : Bool) | (intro (n : Nat) (t : Bool) hn) | refine cut2_spec hl ?_ | refine hexU_spec (by omega) ?_ | fail)
  generalize hx : behind 59 l = ext at *
  have hrest : ∀ tt : Bool, (tt = true ↔ t = true ∧ ext.all extB = true) → sized D l = if tt then (if n = 0 then ({ D with state := 3 }, 0) else if D.most - D.size < n then (D, 101) else ({ D with state := 1, left := n }, 0)) else (D, 100) := by
    intro tt htt
    unfold sized
    rw [hx]
    rcases hn with ⟨h1, h2, _⟩ | ⟨h1, _, h2⟩
    · rw [h2]
      subst h1
      simp only [true_and] at htt
      by_cases he : ext.all extB = true
      · have := htt.2 he; subst this; simp [he]
      · have : tt = false := by
          cases tt
          · rfl
          · exact absurd (htt.1 rfl) he
        subst this; simp [he]
    · rw [h2]
      subst h1
      have : tt = false := by
        cases tt
        · rfl
        · exact absurd (htt.1 rfl).1 (by simp)
      subst this; rfl
  refine XS.loopI (ι := Nat × Bool) (fun q => [(0, ptr b), (6, kS ext), (8, kI n), (9, .bool q.2), (23, kI ext.length), (24, kI q.1)]) (fun _ => dcel b D a c :: F) (fun q => q.1 ≤ ext.length ∧ (q.2 = true ↔ t = true ∧ ∀ (j : Nat) x, j < q.1 → ext[j]? = some x → extB x = true)) (fun q => ext.length - q.1) (0, t) ⟨Nat.zero_le _, ⟨fun h => ⟨h, fun j _ hj => absurd hj (by simp)⟩, fun h => h.1⟩⟩ ⟨rfl, rfl, rfl, rfl, rfl, rfl, trivial⟩ entA ?_
  rintro ⟨i, tt⟩ e ⟨hi, ht⟩ ih
  simp only at hi ht
  dsimp only
  by_cases hlt : i < ext.length
  · obtain ⟨x, hc⟩ : ∃ c, ext[i]? = some c := ⟨_, List.getElem?_eq_getElem hlt⟩
    have stepT : tt = true → extB x = true → (true = true ↔ t = true ∧ ∀ (j : Nat) y, j < i + 1 → ext[j]? = some y → extB y = true) := fun h1 h2 => ⟨fun _ => ⟨(ht.1 h1).1, all_step (ht.1 h1).2 hc h2⟩, fun _ => rfl⟩
    have stepF : tt = false ∨ extB x = false → (false = true ↔ t = true ∧ ∀ (j : Nat) y, j < i + 1 → ext[j]? = some y → extB y = true) := by
      intro h1
      refine ⟨fun h => (by cases h), fun h2 => ?_⟩
      rcases h1 with h1 | h1
      · have := ht.2 ⟨h2.1, fun j y hj hy => h2.2 j y (by omega) hy⟩
        rw [h1] at this; cases this
      · have := h2.2 i x (by omega) hc
        rw [h1] at this; cases this
    cases tt
    · repeat' (first | refine walk ?_ | exact trivial | refine Tw.mk ?_ ?_ | intro hy | (exfalso; omega) | exact ih (i + 1, false) _ _ ⟨hlt, stepF (.inl rfl)⟩ (by simp only; omega) ⟨rfl, rfl, rfl, rfl, rfl, rfl, trivial⟩ entA | fail)
    · repeat' (first | refine walk ?_ | exact trivial | refine Tw.mk ?_ ?_ | intro hy | (exfalso; omega) | fail)
      all_goals first
        | exact ih (i + 1, true) _ _ ⟨hlt, stepT rfl (extB_yes (by omega))⟩ (by simp only; omega) ⟨rfl, rfl, rfl, rfl, rfl, rfl, trivial⟩ entA
        | exact ih (i + 1, false) _ _ ⟨hlt, stepF (.inr (extB_no (by omega)))⟩ (by simp only; omega) ⟨rfl, rfl, rfl, rfl, rfl, rfl, trivial⟩ entA
  · obtain rfl : i = ext.length := by omega
    clear ih
    have hr := hrest tt (by rw [ht, List.all_eq_true]; exact ⟨fun h => ⟨h.1, all_done h.2⟩, fun h => ⟨h.1, fun j x _ hx => h.2 x (List.mem_of_getElem? hx)⟩⟩)
    have hn2 : tt = true → n < 4294967296 := fun h0 => by
      rcases hn with ⟨_, _, h⟩ | ⟨h, _⟩
      · exact h
      · have := (ht.1 h0).1; rw [h] at this; cases this
    cases tt
    · simp only [Bool.false_eq_true, if_false] at hr
      rw [hr] at h
      repeat' (first | refine walk ?_ | exact trivial | refine Tw.mk ?_ ?_ | intro hy | (exfalso; omega) | exact Out.i h | fail)
    · simp only [if_true] at hr
      have hn2 := hn2 rfl
      by_cases n0 : n = 0
      · subst n0
        rw [hr, if_pos rfl] at h
        repeat' (first | refine walk ?_ | exact trivial | refine Tw.mk ?_ ?_ | intro hy | (exfalso; omega) | exact Out.i h | fail)
      · rw [if_neg n0] at hr
        by_cases hov : D.most - D.size < n
        · rw [hr, if_pos hov] at h
          repeat' (first | refine walk ?_ | exact trivial | refine Tw.mk ?_ ?_ | intro hy | (exfalso; omega) | exact Out.i h | fail)
        · rw [hr, if_neg hov] at h
          repeat' (first | refine walk ?_ | exact trivial | refine Tw.mk ?_ ?_ | intro hy | (exfalso; omega) | exact Out.i h | fail)
end Go.Proofs.YtngicmoadobgpaaDoor
