/- The balancer's laws: BalanceEven. Conditions: none. -/
import Derived.Test.YtpfnhkdhcjclpaaBalG
namespace Go.Proofs.Ytpfnhkdhcjclpaa
open Go Go.Sx Go.DiceM Go.BalM
variable {w0 : World} {F H : List HProp} {K : Value → List HProp → Prop}
theorem bnew_zero {g n : Nat} {pol seed : Int} (hn : n ≤ 1000) (h : ∀ b, K (ptr b) (bal b ⟨pol, List.replicate n noStr, n - 1, IntKind.u64.wrap seed, 0⟩ :: F)) :
    Tri Try.prog 24 #[kI pol, .slice (some ⟨g, 0, none⟩) n n, kI seed] w0 (cel g 9 (zrow n (senc noStr)) :: F) K := by
  have hl : (List.replicate n noStr).length = n := List.length_replicate ..
  refine Tri.ent (Ent.celView (w0 := w0) (n := n) (es := 1) (by rw [zrow_length]; rfl) (by simp only [maxLen]; omega)) ?_
  rw [← flat_zero]
  have := bnew_spec (w0 := w0) (v := .slice (some ⟨g, 0, none⟩) n n) (hs := List.replicate n noStr) (pol := pol) (seed := seed) (F := F) (K := fun v H' => ∃ H'', Ent H' H'' ∧ K v H'') (by rw [hl]; exact hn) (fun s hs => by rw [(List.mem_replicate.1 hs).2]; decide) (fun b => ⟨_, Ent.cons _ (Ent.drop _ _), by rw [hl]; exact h b⟩)
  rw [hl] at this
  exact Tri.post this
/-- No two open hosts' loads differ by more than one. -/
structure Even (xs : List Nat) (ls : List Int) (m : Nat) : Prop where
  one : ∀ p ∈ xs, ∀ q ∈ xs, loadOf ls p ≤ loadOf ls q + 1
  low : ∀ z ∈ ls, 0 ≤ z ∧ z ≤ m
theorem loadOf_set {ls : List Int} {h p : Nat} {z : Int} (hh : h < ls.length) : loadOf (ls.set h z) p = if p = h then z else loadOf ls p := by
  unfold loadOf
  rw [List.getElem?_set]
  by_cases e : h = p
  · subst e; simp [hh]
  · rw [if_neg e, if_neg (fun e' => e e'.symm)]
theorem Even.step {xs : List Nat} {ls : List Int} {m h : Nat} {z : Int} (he : Even xs ls m) (hl : IsLeast xs (loadOf ls) h) (hz : ls[h]? = some z) : Even xs (ls.set h (z + 1)) (m + 1) := by
  have hh := (List.getElem?_eq_some_iff.1 hz).1
  have hzl : loadOf ls h = z := by simp [loadOf, hz]
  refine ⟨fun p hp q hq => ?_, fun y hy => ?_⟩
  · rw [loadOf_set hh, loadOf_set hh]
    have h1 := he.one p hp q hq
    have h2 := hl.2 p hp
    have h3 := hl.2 q hq
    have h4 := he.one p hp h hl.1
    rw [hzl] at h2 h3 h4
    split <;> split <;> omega
  · rcases List.mem_or_eq_of_mem_set hy with hy | rfl
    · have := he.low y hy; omega
    · have := he.low z (List.mem_of_getElem? hz); omega
set_option maxHeartbeats 4000000 in
theorem balance_even {hosts m : Int} {v : Value} {d1 : DV} (h0 : -9223372036854775808 ≤ hosts ∧ hosts ≤ 9223372036854775807) (h1 : (Sh.slice 1 .bool).rd w0 [v] d1) (h2 : -9223372036854775808 ≤ m ∧ m ≤ 9223372036854775807) :
    Tri Try.prog 10 #[kI hosts, v, kI m] w0 F fun v _ => v = .bool true := by
  obtain ⟨op, l1, b1⟩ := bools_of h1
  obtain ⟨a1, c1, rfl⟩ := b1.form
  by_cases hok : 1 ≤ hosts ∧ hosts ≤ 50 ∧ 0 ≤ m ∧ m ≤ 300
  · obtain ⟨g1, g2, g3, g4⟩ := hok
    obtain ⟨n, rfl⟩ := Int.eq_ofNat_of_zero_le (show 0 ≤ hosts by omega)
    obtain ⟨m, rfl⟩ := Int.eq_ofNat_of_zero_le g3
    refine Tri.enterF Try.func10 Try.ntmps10 Try.results10 rfl rfl fun fr hfr => ?_
    repeat' (first | refine walk ?_ | exact trivial | refine Tw.mk ?_ ?_ | refine banchor_spec ?_ | exact Out.i rfl | intro hc | refine XO.makeSlice (k := n) TT_ok trivial rfl rfl rfl rfl rfl rfl rfl rfl rfl rfl rfl (N := 1000) (by omega) rfl rfl (fun _ => trivial) (fun g => ?_) | refine Tri.sel1 (bnew_zero (by omega) (fun b => ?_)) | fail)
    generalize hB : (⟨2, List.replicate n noStr, n - 1, IntKind.u64.wrap 0, 0⟩ : BS) = B
    have hBh : B.hs.length = n := by rw [← hB]; exact List.length_replicate ..
    have hBp : B.policy = 2 := by rw [← hB]
    have hBd : B.d = 0 := by rw [← hB]
    refine XS.sel1 (c := cel g 3 (zrow n (ienc 0))) (XS.ent (RowAt.of_cel (n := n) (es := 1) (by rw [zrow_length]; rfl) (by simp only [maxLen]; omega)) ?_)
    rw [← flat_zero]
    refine XS.loopI (ι := Nat × List Int) (fun q => [(0, kI n), (1, .slice a1 op.length c1), (2, kI m), (7, ptr b), (8, .slice (some ⟨g, 0, none⟩) n n), (9, kI q.1)]) (fun q => RowAt g n 3 1 n (flat ienc q.2) :: bal b B :: F)
      (fun q => q.1 ≤ m ∧ q.2.length = n ∧ Even (opens n op) q.2 q.1) (fun q => m - q.1) (0, List.replicate n 0) ⟨Nat.zero_le _, by simp, ⟨fun p _ q _ => by
        have : ∀ p, loadOf (List.replicate n 0) p = 0 := fun p => by unfold loadOf; rw [List.getElem?_replicate]; split <;> rfl
        rw [this, this]; decide, fun z hz => by rw [(List.mem_replicate.1 hz).2]; simp⟩⟩ ⟨rfl, rfl, rfl, rfl, rfl, rfl, trivial⟩ entA ?_
    rintro ⟨i, ls⟩ e ⟨hi, hll, hev⟩ ih
    simp only at hi hll hev
    dsimp only
    by_cases hlt : i < m
    · have pick : ∀ {a' : Option Addr} {c' n' : Nat} {l' : List Value} {F' : List HProp} {K' : Value → List HProp → Prop}, n' = ls.length → l' = flat ienc ls → (opens n op = [] → K' (kI (-1)) (bal b B :: F')) → (∀ (h : Nat), IsLeast (opens n op) (loadOf ls) h → K' (kI h) (bal b B :: F')) →
          Tri Try.prog 26 #[ptr b, .slice a1 op.length c1, .slice a' n' c', .string noStr] w0 (Row a' c' 3 1 n' l' :: bal b B :: F') K' := fun {a' c' n' l' F' K'} e1 e2 k0 k1 => by
        subst e1 e2
        refine Tri.ent (Ent.trans (Ent.rowView (w0 := w0)) (Ent.trans b1.view Ent.front2)) (Tri.post (pickLB (F := F') hBp (by omega) (by rw [hBd]; omega) (by decide) (by omega) (by omega) (fun h0 => ⟨_, Ent.cons _ (Ent.trans (Ent.drop _ _) (Ent.drop _ _)), k0 (by rw [← hBh]; exact h0)⟩) (fun h hh => ⟨_, Ent.cons _ (Ent.trans (Ent.drop _ _) (Ent.drop _ _)), k1 h (by rw [← hBh]; exact hh)⟩)))
      repeat' (first | refine walk ?_ | exact trivial | refine Tw.mk ?_ ?_ | (intro (h : Nat) hh; obtain ⟨hln, hop⟩ := mem_opens.1 hh.1; have hio := (List.getElem?_eq_some_iff.1 hop).1; obtain ⟨ga, offa, rfl, hrd⟩ := b1.rdF .bool (fun _ => rfl) hop; obtain ⟨z, hz⟩ : ∃ z, ls[h]? = some z := ⟨_, List.getElem?_eq_getElem (by omega)⟩; have hzb := hev.low z (List.mem_of_getElem? hz); have hnew := hev.step hh hz; have hhl : h < ls.length := by omega) | intro hc | exact Out.i rfl | refine XO.sel1 (XO.storeRowE (xs := ls) (z + 1) ienc_len hhl TT_ok trivial rfl rfl rfl rfl rfl rfl rfl rfl trivial ?_) | refine XO.buildSlice0 TT_ok trivial rfl rfl rfl rfl rfl (fun _ => trivial) (fun b3 => ?_) | (refine XO.sel1 (c := RowAt g n 3 1 n (flat ienc ls)) ?_; refine XO.sel1 (c := Row (some ⟨b3, 0, none⟩) 0 3 1 0 []) ?_; refine XO.appendN (k := 0) (m := n) (N := 1048577) (news := flat ienc ls) TT_ok trivial rfl rfl rfl rfl rfl rfl rfl rfl rfl rfl rfl (fun hm => ⟨_, rfl, by have := ReadsL.rowTake (w0 := w0) (b := g) (cap := n) (n := n) (t := 3) (es := 1) (enc := ienc) (xs := ls) (F := bal b B :: F) ls.length; rw [List.take_length] at this; exact ReadsL.skip this⟩) (by rw [flat_length ienc_len]; omega) (flat_all ienc_all _) (by omega) rfl rfl (fun _ _ => trivial) (fun a' cap' => ?_)) | refine Tri.sel2 (pick (by omega) (List.nil_append _) (fun _ => ?_) ?_) | fail)
      have hzh : (ls.set h (z + 1))[h]? = some (z + 1) := List.getElem?_set_self hhl
      generalize hls' : ls.set h (z + 1) = ls' at hnew hzh ⊢
      have hll' : ls'.length = n := by rw [← hls', List.length_set, hll]
      refine XS.loopI (ι := Nat) (fun k => [(0, kI n), (1, .slice (some ⟨ga, offa, none⟩) op.length c1), (2, kI m), (7, ptr b), (8, .slice (some ⟨g, 0, none⟩) n n), (9, kI i), (10, kI h), (71, .slice (some ⟨ga, offa, none⟩) op.length c1), (72, kI op.length), (73, kI k)]) (fun _ => RowAt g n 3 1 n (flat ienc ls') :: bal b B :: F) (fun k => k ≤ op.length) (fun k => op.length - k) 0 (Nat.zero_le _) ⟨rfl, rfl, rfl, rfl, rfl, rfl, rfl, rfl, rfl, rfl, trivial⟩ entA ?_
      intro k e2 hk ih2
      by_cases hlt2 : k < op.length
      · obtain ⟨u, hu⟩ : ∃ u, op[k]? = some u := ⟨_, List.getElem?_eq_getElem hlt2⟩
        obtain ⟨_, _, hq, hrd2⟩ := b1.rdF .bool (fun _ => rfl) hu
        cases hq
        cases u
        · repeat' (first | refine walk ?_ | exact trivial | refine Tw.mk ?_ ?_ | intro hc | fail)
          exact ih2 (k + 1) _ _ hlt2 (by omega) ⟨rfl, rfl, rfl, rfl, rfl, rfl, rfl, rfl, rfl, rfl, trivial⟩ entA
        · by_cases hkn : k < n
          · obtain ⟨y, hy⟩ : ∃ y, ls'[k]? = some y := ⟨_, List.getElem?_eq_getElem (by omega)⟩
            have hyb := hnew.low y (List.mem_of_getElem? hy)
            have hzb2 := hnew.low _ (List.mem_of_getElem? hzh)
            have o1 := hnew.one k (mem_opens.2 ⟨hkn, hu⟩) h hh.1
            have o2 := hnew.one h hh.1 k (mem_opens.2 ⟨hkn, hu⟩)
            simp only [loadOf, hy, hzh, Option.getD_some] at o1 o2
            repeat' (first | refine walk ?_ | exact trivial | refine Tw.mk ?_ ?_ | intro hc | fail)
            all_goals first | (exfalso; omega) | exact ih2 (k + 1) _ _ hlt2 (by omega) ⟨rfl, rfl, rfl, rfl, rfl, rfl, rfl, rfl, rfl, rfl, trivial⟩ entA
          · repeat' (first | refine walk ?_ | exact trivial | refine Tw.mk ?_ ?_ | intro hc | fail)
            exact ih2 (k + 1) _ _ hlt2 (by omega) ⟨rfl, rfl, rfl, rfl, rfl, rfl, rfl, rfl, rfl, rfl, trivial⟩ entA
      · obtain rfl : k = op.length := by omega
        repeat' (first | refine walk ?_ | exact trivial | refine Tw.mk ?_ ?_ | intro hc | fail)
        exact ih (i + 1, ls') _ _ ⟨hlt, hll', hnew⟩ (by simp only; omega) ⟨rfl, rfl, rfl, rfl, rfl, rfl, trivial⟩ entA
    · obtain rfl : i = m := by omega
      repeat' (first | refine walk ?_ | exact trivial | refine Tw.mk ?_ ?_ | intro hc | exact Out.i rfl | fail)
  · refine Tri.enterF Try.func10 Try.ntmps10 Try.results10 rfl rfl fun fr hfr => ?_
    repeat' (first | refine walk ?_ | exact trivial | refine Tw.mk ?_ ?_ | refine banchor_spec ?_ | exact Out.i rfl | intro hc | fail)
    all_goals (exfalso; omega)
end Go.Proofs.Ytpfnhkdhcjclpaa
