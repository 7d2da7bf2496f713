/- Contracts: the document's chunk; the document's Trim. Conditions: none. -/
import Derived.Test.YtngicmoadobgpaaDoorChunkG
namespace Go.Proofs.YtngicmoadobgpaaDoor
open Go Go.Sx Go.ChunkM Go.StrM
variable {w0 : World} {F H : List HProp} {K : Value → List HProp → Prop}
theorem row_of {a : Option Addr} {c n : Nat} {l : List UInt8} {vs : List Value} (hn : n = l.length) (hv : vs = bys l) : Ent (Row a c 5 1 n vs :: F) (bRow a c l :: F) := by subst hn hv; exact Ent.refl _
theorem dig_lo {x : Nat} (h : x ≤ 9) : ((48 : Int) + x) = ((dig x).toNat : Int) := by
  have : ∀ x : Nat, x < 10 → (dig x).toNat = 48 + x := by decide
  have := this x (by omega); omega
theorem dig_hi {x : Nat} (h : 9 < x) (h2 : x < 16) : ((97 : Int) + x - 10) = ((dig x).toNat : Int) := by
  have : ∀ x : Nat, x < 16 → 9 < x → (dig x).toNat = 87 + x := by decide
  have := this x h2 h; omega
theorem dig_any {x : Nat} (h : x < 16) : ((48 : Int) + x) = ((48 + x).toUInt8.toNat : Int) := by
  have : ∀ x : Nat, x < 16 → (48 + x).toUInt8.toNat = 48 + x := by decide
  have := this x h; omega
theorem bRow_snoc {a : Option Addr} {c : Nat} {l : List UInt8} {x : UInt8} : bRow a c (l ++ [x]) = Row a c 5 1 (l.length + 1) (bys l ++ [kB x]) := by simp [bRow, bys]
set_option maxHeartbeats 1000000 in
set_option maxRecDepth 20000 in
theorem renc_spec {l : List UInt8} (hl : l.length < 268435456) (h : ∀ a c, K (.slice a (encT l).length c) (bRow a c (encT l) :: F)) : Tri Tryd.prog 13 #[kS l] w0 F K := by
  refine Tri.enterF Tryd.func13 Tryd.ntmps13 Tryd.results13 rfl rfl fun fr hfr => ?_
  repeat' (first | refine walk ?_ | exact trivial | refine Tw.mk ?_ ?_ | fail)
  refine XS.loopI (ι := Nat × List UInt8 × Option Addr × Nat) (fun q => [(0, kS l), (3, .slice q.2.2.1 q.2.1.length q.2.2.2), (4, kI q.1)]) (fun q => bRow q.2.2.1 q.2.2.2 q.2.1 :: F) (fun q => (q.1 = 0 ∧ q.2.1 = hexE l.length) ∨ ∃ j, j ≤ 7 ∧ q.1 = 16 ^ j ∧ q.2.1 = hexE (l.length / 16 ^ (j + 1))) (fun q => q.1) (268435456, [], none, 0)
    (.inr ⟨7, by decide, by decide, by rw [show l.length / 16 ^ (7 + 1) = 0 by omega, hexE_zero]⟩) ⟨rfl, rfl, rfl, trivial⟩ (Row.nil 5 1 F) ?_
  rintro ⟨d, out, a, c⟩ e hp ih
  dsimp only at hp ⊢
  have hexl : ∀ m : Nat, m < 268435456 → (hexE m).length ≤ 8 := fun m hm => hexE_len 8 m (by omega)
  have ol : out.length ≤ 8 := by
    rcases hp with ⟨_, rfl⟩ | ⟨j, _, _, rfl⟩
    · exact hexl _ (by omega)
    · exact hexl _ (Nat.lt_of_le_of_lt (Nat.div_le_self ..) hl)
  by_cases hx : 0 < d ∧ 0 < l.length
  · obtain ⟨hd0, hL⟩ := hx
    obtain ⟨j, hj, rfl, ho⟩ : ∃ j, j ≤ 7 ∧ d = 16 ^ j ∧ out = hexE (l.length / 16 ^ (j + 1)) := by
      rcases hp with ⟨h0, _⟩ | h
      · omega
      · exact h
    have hq : l.length / 16 ^ (j + 1) = l.length / 16 ^ j / 16 := by rw [Nat.pow_succ, Nat.div_div_eq_div_mul]
    rw [hq] at ho
    have hnext : ∀ o2, o2 = hexE (l.length / 16 ^ j) → (16 ^ j / 16 = 0 ∧ o2 = hexE l.length) ∨ ∃ i, i ≤ 7 ∧ 16 ^ j / 16 = 16 ^ i ∧ o2 = hexE (l.length / 16 ^ (i + 1)) := by
      intro o2 h2
      cases j with
      | zero => left; exact ⟨by decide, by rw [h2]; simp⟩
      | succ i => right; exact ⟨i, by omega, by rw [Nat.pow_succ, Nat.mul_div_cancel _ (by decide)], h2⟩
    have hlt : 16 ^ j / 16 < 16 ^ j := by omega
    have hdl : 16 ^ j ≤ 268435456 := by
      have : 16 ^ j ≤ 16 ^ 7 := Nat.pow_le_pow_right (by decide) hj
      have h7 : 16 ^ 7 = 268435456 := by decide
      omega
    generalize hd : 16 ^ j = d at *
    have hx16 : l.length / d % 16 < 16 := Nat.mod_lt _ (by decide)
    by_cases hsk : l.length / d % 16 = 0 ∧ out.length = 0
    · have hq0 : l.length / d = 0 := by
        have : hexE (l.length / d / 16) = [] := by rw [← ho]; exact List.length_eq_zero_iff.1 hsk.2
        have h16 : l.length / d / 16 = 0 := by
          rcases Nat.eq_zero_or_pos (l.length / d / 16) with h | h
          · exact h
          · exact absurd this (hexE_ne (by omega))
        omega
      have hn := hnext out (by rw [hq0, hexE_zero]; exact List.length_eq_zero_iff.1 hsk.2)
      repeat' (first | refine walk ?_ | exact trivial | refine Tw.mk ?_ ?_ | intro hy | (exfalso; omega) | exact ih (d / 16, out, a, c) _ _ hn hlt ⟨rfl, rfl, rfl, trivial⟩ entA | fail)
    · have hq0 : l.length / d ≠ 0 := fun h0 => hsk ⟨by rw [h0], by rw [ho, h0, hexE_zero]; rfl⟩
      have hn := hnext (out ++ [dig (l.length / d % 16)]) (by rw [hexE_pos hq0, ← ho])
      have ol : out.length ≤ 8 := ol
      by_cases h9 : l.length / d % 16 ≤ 9
      · have hz1 := dig_lo h9
        repeat' (first | refine walk ?_ | exact trivial | refine Tw.mk ?_ ?_ | intro hy | (intro (bx : Nat)) | (exfalso; omega) | (refine XO.sel1 (c := bRow a c out) ?_; refine XO.append (m := 1) (N := 4294967296) (news := [kB (dig (l.length / d % 16))]) TT_ok trivial rfl rfl rfl rfl rfl rfl rfl rfl rfl rfl rfl (ReadsL.skip (ReadsL.here 1)) rfl (by decide) rfl (by omega) rfl rfl (fun _ _ => trivial) (fun a' c' => ?_)) | fail)
        all_goals (rename_i a' c'; exact ih (d / 16, out ++ [dig (l.length / d % 16)], a', c') _ _ hn hlt ⟨rfl, congrArg (fun n => Value.slice a' n c') (by simp), rfl, trivial⟩ (Ent.trans (row_of (by simp) (by simp [bys])) (Ent.cons _ (Ent.drop _ _))))
      · have hz1 := dig_any hx16
        have hz2 := dig_hi (by omega : 9 < l.length / d % 16) hx16
        repeat' (first | refine walk ?_ | exact trivial | refine Tw.mk ?_ ?_ | intro hy | (intro (bx : Nat)) | (exfalso; omega) | (refine XO.sel1 (c := bRow a c out) ?_; refine XO.append (m := 1) (N := 4294967296) (news := [kB (dig (l.length / d % 16))]) TT_ok trivial rfl rfl rfl rfl rfl rfl rfl rfl rfl rfl rfl (ReadsL.skip (ReadsL.here 1)) rfl (by decide) rfl (by omega) rfl rfl (fun _ _ => trivial) (fun a' c' => ?_)) | fail)
        all_goals (rename_i a' c'; exact ih (d / 16, out ++ [dig (l.length / d % 16)], a', c') _ _ hn hlt ⟨rfl, congrArg (fun n => Value.slice a' n c') (by simp), rfl, trivial⟩ (Ent.trans (row_of (by simp) (by simp [bys])) (Ent.cons _ (Ent.drop _ _))))
  · clear ih
    have fin : ∀ (a : Option Addr) (c n : Nat) (vs : List Value) (G : List HProp), n = (encT l).length → vs = bys (encT l) → Ent G F → Out K (.slice a n c) (Row a c 5 1 n vs :: G) := fun a c n vs G h1 h2 h3 => by
      subst h1 h2; exact Out.e (h a c) (Ent.cons _ h3)
    by_cases hL : l.length = 0
    · have hl0 := List.length_eq_zero_iff.1 hL
      have ho : out = [] := by
        rcases hp with ⟨_, rfl⟩ | ⟨j, _, _, rfl⟩
        · rw [hL, hexE_zero]
        · rw [hL, Nat.zero_div, hexE_zero]
      repeat' (first | refine walk ?_ | exact trivial | refine Tw.mk ?_ ?_ | intro hy | (exfalso; omega) | exact fin _ _ _ _ _ (by rw [ho, hl0]; rfl) (by rw [ho, hl0]; rfl) (Ent.refl _) | fail)
    · have ho : out = hexE l.length := by
        rcases hp with ⟨_, h⟩ | ⟨j, _, h, _⟩
        · exact h
        · exact absurd ⟨by rw [h]; exact Nat.pow_pos (by decide), by omega⟩ hx
      have hne : l ≠ [] := fun h => hL (by rw [h]; rfl)
      have e1 : encT l = out ++ [13, 10] ++ l ++ [13, 10] := by rw [ho]; simp [encT, hne]
      repeat' (first | refine walk ?_ | exact trivial | refine Tw.mk ?_ ?_ | intro hy | (intro (bx : Nat)) | (exfalso; omega) | (refine XO.sel1 (c := Row _ _ 5 1 _ _) ?_; refine XO.append (m := 1) (N := 4294967296) (news := [.int .u8 13]) TT_ok trivial rfl rfl rfl rfl rfl rfl rfl rfl rfl rfl rfl (ReadsL.skip (ReadsL.here 1)) rfl (by decide) rfl (by omega) rfl rfl (fun _ _ => trivial) (fun a' c' => ?_)) | (refine XO.sel1 (c := Row _ _ 5 1 _ _) ?_; refine XO.append (m := 1) (N := 4294967296) (news := [.int .u8 10]) TT_ok trivial rfl rfl rfl rfl rfl rfl rfl rfl rfl rfl rfl (ReadsL.skip (ReadsL.here 1)) rfl (by decide) rfl (by omega) rfl rfl (fun _ _ => trivial) (fun a' c' => ?_)) | (refine XO.sel1 (c := Row _ _ 5 1 _ _) ?_; refine XO.appendS TT_ok trivial rfl rfl rfl rfl rfl rfl rfl rfl rfl rfl rfl (by omega) (fun _ _ => trivial) (fun a' c' hn => ?_)) | fail)
      exact fin _ _ _ _ _ (by rw [e1]; simp only [List.length_append, List.length_cons, List.length_nil]) (by rw [e1]; simp [bys]) dropA
end Go.Proofs.YtngicmoadobgpaaDoor
