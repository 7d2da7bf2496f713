/- The document's balancer: New, Pick. Conditions: numbers are of their kinds. -/
import Derived.Test.YtpfnhkdhcjclpaaBalP
import Derived.Test.YtpfnhkdhcjclpaaBalR
namespace Go.Proofs.Ytpfnhkdhcjclpaa
open Go Go.Sx Go.DiceM Go.BalM
variable {w0 : World} {F H : List HProp} {K : Value → List HProp → Prop}
theorem rnew_spec {pol seed : Int} {a : Option Addr} {k c : Nat} (h : ∀ r, K (ptr r) (rbal r pol (-1) (.slice a k c) (IntKind.u64.wrap seed) 0 :: F)) : Tri Try.prog 25 #[kI pol, .slice a k c, kI seed] w0 F K := by
  refine Tri.enterF Try.func25 Try.ntmps25 Try.results25 rfl rfl fun fr hfr => ?_
  repeat' (first | refine walk ?_ | exact trivial | refine Tw.mk ?_ ?_ | intro (r : Nat) | intro hc | fail)
  exact Out.s0 (h r)
set_option maxHeartbeats 4000000 in
theorem rpick_spec {r : Nat} {pol last s d : Int} {hs : List ByteArray} {op : List Bool} {ls : List Int} {a a1 a2 : Option Addr} {c c1 c2 : Nat} {key : ByteArray} (hn : hs.length ≤ 1000) (hss : ∀ s ∈ hs, s.size ≤ 140737488351232) (hsb : Base w0 (.slice a hs.length c) 1 hs.length (flat senc hs)) (ho : op.length ≤ 140737488351232) (b1 : Base w0 (.slice a1 op.length c1) 1 op.length (flat benc op)) (b2 : Base w0 (.slice a2 ls.length c2) 1 ls.length (flat ienc ls)) (hk : key.size ≤ 140737488351232) (hd : 0 ≤ d ∧ d < 9223372036854775807)
    (h0 : opens hs.length op = [] → K (kI (-1)) (rbal r pol last (.slice a hs.length c) s d :: F))
    (h2 : pol = 2 → ∀ i, IsLeast (opens hs.length op) (loadOf ls) i → K (kI i) (rbal r pol last (.slice a hs.length c) s d :: F))
    (h3 : pol = 3 → ∀ (q i : Nat), belowI s (opens hs.length op).length = q → (opens hs.length op)[q]? = some i → K (kI i) (rbal r pol last (.slice a hs.length c) (stepI s) (d + 1) :: F))
    (h4 : pol = 4 → ∀ i, Best hs (· ∈ opens hs.length op) (mixI (hashOf key)) i → K (kI i) (rbal r pol last (.slice a hs.length c) s d :: F))
    (h5 : pol ≠ 2 → pol ≠ 3 → pol ≠ 4 → opens hs.length op ≠ [] → K (kI (nextOf (opens hs.length op) last)) (rbal r pol (nextOf (opens hs.length op) last) (.slice a hs.length c) s d :: F)) :
    Tri Try.prog 27 #[ptr r, .slice a1 op.length c1, .slice a2 ls.length c2, .string key] w0 (rbal r pol last (.slice a hs.length c) s d :: F) K := by
  refine Tri.enterF Try.func27 Try.ntmps27 Try.results27 rfl rfl fun fr hfr => ?_
  repeat' (first | refine walk ?_ | exact trivial | refine Tw.mk ?_ ?_ | intro hc | fail)
  refine XS.loopI (ι := Nat × Int × Int × Int) (fun q => [(0, ptr r), (1, .slice a1 op.length c1), (2, .slice a2 ls.length c2), (3, .string key), (9, kI (opens q.1 op).length), (10, kI q.2.1), (11, kI q.2.2.1), (12, kI q.2.2.2), (13, kI q.1)]) (fun _ => rbal r pol last (.slice a hs.length c) s d :: F)
    (fun q => q.1 ≤ hs.length ∧ ((q.2.1 = -1 ∧ opens q.1 op = []) ∨ ∃ j : Nat, q.2.1 = j ∧ IsLeast (opens q.1 op) (loadOf ls) j) ∧ Opt (opens q.1 op).head? q.2.2.1 ∧ Opt (above (opens q.1 op) last) q.2.2.2) (fun q => hs.length - q.1) (0, -1, -1, -1) ⟨Nat.zero_le _, .inl ⟨rfl, rfl⟩, .inl ⟨rfl, rfl⟩, .inl ⟨rfl, rfl⟩⟩ ⟨rfl, rfl, rfl, rfl, rfl, rfl, rfl, rfl, rfl, trivial⟩ entA ?_
  rintro ⟨i, least, first, next⟩ e ⟨hi, hl, hf, hx⟩ ih
  simp only at hi hl hf hx
  dsimp only
  have hol := opens_len i op
  by_cases hlt : i < hs.length
  · by_cases hop : op[i]? = some true
    · have hio := (List.getElem?_eq_some_iff.1 hop).1
      obtain ⟨g1, o1, rfl, hrd1⟩ := b1.rdF .bool (fun _ => rfl) hop
      have e1 : opens (i + 1) op = opens i op ++ [i] := by rw [opens_succ, hop]; simp
      have e2 : (((opens i op).length : Int) + 1) = ((opens (i + 1) op).length : Int) := by rw [e1]; simp
      have hlast : ∀ {z : Int}, (0 ≤ z ∨ (i : Int) ≤ last) → Opt (above (opens i op) last) z → Opt (above (opens (i + 1) op) last) z := fun hz h => by rw [e1]; exact next_old h hz
      rcases hl with ⟨rfl, hnil⟩ | ⟨j, rfl, hj⟩
      · repeat' (first | refine walk ?_ | exact trivial | refine Tw.mk ?_ ?_ | intro hc | fail)
        all_goals
          refine ih (i + 1, i, _, _) _ _ ⟨hlt, .inr ⟨i, rfl, by rw [e1, hnil]; exact IsLeast.one _ _⟩, by dsimp only; rw [e1]; first | exact first_new hf (by omega) | exact first_old hf (by omega), by dsimp only; rw [e1]; first | exact next_new hx (by omega) (by omega) | exact next_old hx (by omega)⟩ (by simp only; omega) ⟨rfl, rfl, rfl, rfl, congrArg kI e2, rfl, rfl, rfl, rfl, trivial⟩ entA
      · have hji : j ≤ i := Nat.le_of_lt (mem_opens.1 hj.1).1
        repeat' (first | refine walk ?_ | exact trivial | refine Tw.mk ?_ ?_ | intro hc | refine rload_spec b2 ?_ | fail)
        all_goals
          refine ih (i + 1, _, _, _) _ _ ⟨hlt, by dsimp only; rw [e1]; first | exact .inr ⟨i, rfl, hj.take (by omega)⟩ | exact .inr ⟨j, rfl, hj.keep (by omega) hji⟩, by dsimp only; rw [e1]; first | exact first_new hf (by omega) | exact first_old hf (by omega), by dsimp only; rw [e1]; first | exact next_new hx (by omega) (by omega) | exact next_old hx (by omega)⟩ (by simp only; omega) ⟨rfl, rfl, rfl, rfl, congrArg kI e2, rfl, rfl, rfl, rfl, trivial⟩ entA
    · have hop' : op[i]?.getD false = false := by
        cases hq : op[i]? with
        | none => rfl
        | some t => cases t with
          | false => rfl
          | true => exact absurd hq hop
      have e1 : opens (i + 1) op = opens i op := by rw [opens_succ, hop']; simp
      by_cases hio : i < op.length
      · have hu : op[i]? = some false := by
          rw [List.getElem?_eq_getElem hio] at hop' ⊢
          simpa using hop'
        obtain ⟨g1, o1, rfl, hrd1⟩ := b1.rdF .bool (fun _ => rfl) hu
        repeat' (first | refine walk ?_ | exact trivial | refine Tw.mk ?_ ?_ | intro hc | fail)
        exact ih (i + 1, least, first, next) _ _ ⟨hlt, by simp only [e1]; exact hl, by simp only [e1]; exact hf, by simp only [e1]; exact hx⟩ (by simp only; omega) ⟨rfl, rfl, rfl, rfl, by simp only [e1]; rfl, rfl, rfl, rfl, rfl, trivial⟩ entA
      · repeat' (first | refine walk ?_ | exact trivial | refine Tw.mk ?_ ?_ | intro hc | fail)
        exact ih (i + 1, least, first, next) _ _ ⟨hlt, by simp only [e1]; exact hl, by simp only [e1]; exact hf, by simp only [e1]; exact hx⟩ (by simp only; omega) ⟨rfl, rfl, rfl, rfl, by simp only [e1]; rfl, rfl, rfl, rfl, rfl, trivial⟩ entA
  · obtain rfl : i = hs.length := by omega
    clear ih
    by_cases he : opens hs.length op = []
    · have hl0 : (opens hs.length op).length = 0 := by rw [he]; rfl
      repeat' (first | refine walk ?_ | exact trivial | refine Tw.mk ?_ ?_ | intro hc | fail)
      exact Out.i (h0 he)
    · have hpos : 0 < (opens hs.length op).length := List.length_pos_iff.2 he
      obtain ⟨j, rfl, hj⟩ : ∃ j : Nat, least = j ∧ IsLeast (opens hs.length op) (loadOf ls) j := by
        rcases hl with ⟨_, h⟩ | h
        · exact absurd h he
        · exact h
      by_cases p2 : pol = 2
      · subst p2
        repeat' (first | refine walk ?_ | exact trivial | refine Tw.mk ?_ ?_ | intro hc | fail)
        exact Out.i (h2 rfl j hj)
      by_cases p3 : pol = 3
      · subst p3
        have hb := belowI_lt s (n := ((opens hs.length op).length : Int)) (by omega)
        obtain ⟨q, hq⟩ := Int.eq_ofNat_of_zero_le hb.1
        have hql : q < (opens hs.length op).length := by omega
        obtain ⟨z, hz⟩ : ∃ z, (opens hs.length op)[q]? = some z := ⟨_, List.getElem?_eq_getElem hql⟩
        clear hb
        repeat' (first | refine walk ?_ | exact trivial | refine Tw.mk ?_ ?_ | intro hc | refine Tri.sel1 (rbelow_eq (z := ((q : Nat) : Int)) hd (by omega) hq ?_) | refine nth_spec ho b1 hz ?_ | fail)
        exact Out.i (h3 rfl q z hq hz)
      by_cases p4 : pol = 4
      · subst p4
        repeat' (first | refine walk ?_ | exact trivial | refine Tw.mk ?_ ?_ | intro hc | refine Tri.sel1 (ring_spec hn hss hsb b1 hk he (fun z hz => ?_)) | fail)
        exact Out.i (h4 rfl z hz)
      · repeat' (first | refine walk ?_ | exact trivial | refine Tw.mk ?_ ?_ | intro hc | fail)
        · have e3 := next_b hx (by omega) hf he
          subst e3
          exact Out.i (h5 p2 p3 p4 he)
        · have e3 := next_a hx (by omega)
          subst e3
          exact Out.i (h5 p2 p3 p4 he)
end Go.Proofs.Ytpfnhkdhcjclpaa
