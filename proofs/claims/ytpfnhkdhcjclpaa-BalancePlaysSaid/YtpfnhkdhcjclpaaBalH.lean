/- The balancer's laws: BalanceStays, BalanceFair, BalanceEven. Conditions: none. -/
import Derived.Test.YtpfnhkdhcjclpaaBalG
import Derived.Test.YtpfnhkdhcjclpaaSxAny
namespace Go.Proofs.Ytpfnhkdhcjclpaa
open Go Go.Sx Go.DiceM Go.BalM
variable {w0 : World} {F H : List HProp} {K : Value → List HProp → Prop}
def allTo (n i : Nat) : List Bool := (List.range n).map fun j => decide (j < i)
def lessTo (n i c : Nat) : List Bool := (List.range n).map fun j => decide (j < i) && !decide (j = c)
theorem allTo_len (n i : Nat) : (allTo n i).length = n := by simp [allTo]
theorem lessTo_len (n i c : Nat) : (lessTo n i c).length = n := by simp [lessTo]
theorem allTo_zero (n : Nat) : allTo n 0 = List.replicate n false := by
  apply List.ext_getElem
  · simp [allTo]
  · intro i h1 h2; simp [allTo]
theorem lessTo_zero (n c : Nat) : lessTo n 0 c = List.replicate n false := by
  apply List.ext_getElem
  · simp [lessTo]
  · intro i h1 h2; simp [lessTo]
theorem allTo_succ {n i : Nat} : allTo n (i + 1) = (allTo n i).set i true := by
  apply List.ext_getElem
  · simp [allTo]
  · intro j h1 h2
    rw [List.getElem_set]
    simp only [allTo, List.getElem_map, List.getElem_range]
    by_cases e : i = j
    · subst e; simp
    · rw [if_neg e]; congr 1; simp only [eq_iff_iff]; omega
theorem lessTo_succ {n i c : Nat} {t : Bool} (ht : t = !decide (i = c)) : lessTo n (i + 1) c = (lessTo n i c).set i t := by
  subst ht
  apply List.ext_getElem
  · simp [lessTo]
  · intro j h1 h2
    rw [List.getElem_set]
    simp only [lessTo, List.getElem_map, List.getElem_range]
    by_cases e : i = j
    · subst e; simp
    · rw [if_neg e]; congr 2; simp only [eq_iff_iff]; omega
theorem mem_all {n i : Nat} : i ∈ opens n (allTo n n) ↔ i < n := by
  rw [mem_opens]
  refine ⟨fun h => h.1, fun h => ⟨h, ?_⟩⟩
  simp [allTo, h]
theorem mem_less {n i c : Nat} : i ∈ opens n (lessTo n n c) ↔ i < n ∧ i ≠ c := by
  rw [mem_opens]
  constructor
  · rintro ⟨h, h2⟩
    simp [lessTo, h] at h2
    exact ⟨h, h2⟩
  · rintro ⟨h, h2⟩
    exact ⟨h, by simp [lessTo, h, h2]⟩
theorem pickRingN {b n : Nat} {B : BS} {op : List Bool} {v1 : Value} {key : ByteArray} (hl : op.length = n) (hb : B.hs.length = n) (hp : B.policy = 4) (hn : n ≤ 1000) (hd : B.d = 0) (hk : key.size ≤ 140737488351232) (h0 : opens n op = [] → K (kI (-1)) (bal b B :: view w0 v1 1 n (flat benc op) :: F))
    (h4 : ∀ i : Nat, Best B.hs (· ∈ opens n op) (mixI (hashOf key)) i → K (kI i) (bal b B :: view w0 v1 1 n (flat benc op) :: F)) : Tri Try.prog 26 #[ptr b, v1, .slice none 0 0, .string key] w0 (bal b B :: view w0 v1 1 n (flat benc op) :: F) K := by
  subst hl
  exact pickRing hp (by omega) (by omega) (by omega) (by omega) (fun h => h0 (by rw [← hb]; exact h)) (fun i hi => h4 i (by rw [← hb]; exact hi))
set_option maxHeartbeats 4000000 in
theorem balance_stays {closed : Int} {key : ByteArray} {v : Value} {d0 : DV} (h0 : (Sh.slice 16 .str).rd w0 [v] d0) (hk : key.size ≤ 140737488351232) (hc0 : -9223372036854775808 ≤ closed ∧ closed ≤ 9223372036854775807) :
    Tri Try.prog 9 #[v, .string key, kI closed] w0 F fun v _ => v = .bool true := by
  obtain ⟨hs, hsl, hss, hsb⟩ := strs_of h0
  obtain ⟨a, c, rfl⟩ := hsb.form
  refine Tri.enterF Try.func9 Try.ntmps9 Try.results9 rfl rfl fun fr hfr => ?_
  repeat' (first | refine walk ?_ | exact trivial | refine Tw.mk ?_ ?_ | refine banchor_spec ?_ | exact Out.i rfl | intro (bx : Nat) | intro hc | refine XO.buildSlice0 TT_ok trivial rfl rfl rfl rfl rfl (fun _ => trivial) (fun b3 => ?_) | (refine XO.sel1 (c := Row (some ⟨b3, 0, none⟩) 0 9 1 0 []) ?_; refine XO.appendN (k := 0) (m := hs.length) (N := 1048577) (news := flat senc hs) TT_ok trivial rfl rfl rfl rfl rfl rfl rfl rfl rfl rfl rfl (fun hm => let ⟨ad, e1, e2⟩ := hsb.reads hm; ⟨ad, e1, e2 _⟩) (by rw [flat_length senc_len]) (flat_all (fun _ => rfl) _) (by omega) rfl rfl (fun _ _ => trivial) (fun a' cap' => ?_)) | refine Tri.sel1 (bnew_row (by omega) hss (Nat.zero_add _) (List.nil_append _) (fun b => ?_)) | refine XS.drawA (T := TT) [] follows_ok ?_ | refine XA.p 0 TT_ok rfl rfl (by decide +kernel) rfl rfl (Stills.nil) ?_ | refine XA.lenS 0 TT_ok rfl rfl (by decide +kernel) rfl rfl rfl rfl (Stills.nil) ?_ | refine XA.no 0 rfl rfl (by decide +kernel) rfl (Stills.nil) ?_ | refine XA.p 1 TT_ok rfl rfl (by decide +kernel) rfl rfl (Stills.nil) ?_ | refine XA.lenS 1 TT_ok rfl rfl (by decide +kernel) rfl rfl rfl rfl (Stills.nil) ?_ | refine XA.no 1 rfl rfl (by decide +kernel) rfl (Stills.nil) ?_ | refine XA.p 2 TT_ok rfl rfl (by decide +kernel) rfl rfl (Stills.nil) ?_ | refine XA.lenS 2 TT_ok rfl rfl (by decide +kernel) rfl rfl rfl rfl (Stills.nil) ?_ | refine XA.no 2 rfl rfl (by decide +kernel) rfl (Stills.nil) ?_ | refine XA.p 3 TT_ok rfl rfl (by decide +kernel) rfl rfl (Stills.nil) ?_ | refine XA.lenS 3 TT_ok rfl rfl (by decide +kernel) rfl rfl rfl rfl (Stills.nil) ?_ | refine XA.no 3 rfl rfl (by decide +kernel) rfl (Stills.nil) ?_ | refine XA.p 4 TT_ok rfl rfl (by decide +kernel) rfl rfl (Stills.nil) ?_ | refine XA.lenS 4 TT_ok rfl rfl (by decide +kernel) rfl rfl rfl rfl (Stills.nil) ?_ | refine XA.no 4 rfl rfl (by decide +kernel) rfl (Stills.nil) ?_ | refine XA.p 5 TT_ok rfl rfl (by decide +kernel) rfl rfl (Stills.nil) ?_ | refine XA.lenS 5 TT_ok rfl rfl (by decide +kernel) rfl rfl rfl rfl (Stills.nil) ?_ | refine XA.no 5 rfl rfl (by decide +kernel) rfl (Stills.nil) ?_ | refine XA.p 6 TT_ok rfl rfl (by decide +kernel) rfl rfl (Stills.nil) ?_ | refine XA.lenS 6 TT_ok rfl rfl (by decide +kernel) rfl rfl rfl rfl (Stills.nil) ?_ | refine XA.no 6 rfl rfl (by decide +kernel) rfl (Stills.nil) ?_ | refine XA.p 7 TT_ok rfl rfl (by decide +kernel) rfl rfl (Stills.nil) ?_ | refine XA.lenS 7 TT_ok rfl rfl (by decide +kernel) rfl rfl rfl rfl (Stills.nil) ?_ | refine XA.no 7 rfl rfl (by decide +kernel) rfl (Stills.nil) ?_ | refine JA.mk (Stills.nil) ?_ | refine XA.one (i := 0) (by decide +kernel) rfl ?_ | refine XA.one (i := 1) (by decide +kernel) rfl ?_ | refine XA.one (i := 2) (by decide +kernel) rfl ?_ | refine XA.one (i := 3) (by decide +kernel) rfl ?_ | refine XA.one (i := 4) (by decide +kernel) rfl ?_ | refine XA.one (i := 5) (by decide +kernel) rfl ?_ | refine XA.one (i := 6) (by decide +kernel) rfl ?_ | refine XA.one (i := 7) (by decide +kernel) rfl ?_ | refine XA.done (by decide +kernel) ?_ | refine XA.two (i := 2) (j := 5) (by decide +kernel) rfl rfl ?_ ?_ | refine XO.makeSlice (k := hs.length) TT_ok trivial rfl rfl rfl rfl rfl rfl rfl rfl rfl rfl rfl (N := 1000) (by omega) rfl rfl (fun _ => trivial) (fun g => ?_) | fail)
  all_goals rename_i g1
  · obtain ⟨ga, rfl⟩ : ∃ x, x = g1 := ⟨_, rfl⟩
    obtain ⟨gb, rfl⟩ : ∃ x, x = g := ⟨_, rfl⟩
    obtain ⟨cl, rfl⟩ := Int.eq_ofNat_of_zero_le (show 0 ≤ closed by omega)
    generalize hn : hs.length = n at *
    generalize hB : (⟨4, hs, (n : Int) - 1, IntKind.u64.wrap 0, 0⟩ : BS) = B
    have hBh : B.hs = hs := by rw [← hB]
    have hBp : B.policy = 4 := by rw [← hB]
    have hBd : B.d = 0 := by rw [← hB]
    refine XS.sel1 (c := cel gb 4 (zrow n (benc false))) (XS.ent (RowAt.of_cel (n := n) (es := 1) (by rw [zrow_length]; rfl) (by simp only [maxLen]; omega)) ?_)
    refine XS.sel1 (c := cel ga 4 (zrow n (benc false))) (XS.ent (RowAt.of_cel (n := n) (es := 1) (by rw [zrow_length]; rfl) (by simp only [maxLen]; omega)) ?_)
    rw [← flat_zero]
    refine XS.loopI (ι := Nat) (fun i => [(0, .slice a n c), (1, .string key), (2, kI cl), (7, ptr b), (8, .slice (some ⟨ga, 0, none⟩) n n), (9, .slice (some ⟨gb, 0, none⟩) n n), (46, kI n), (47, kI i)]) (fun i => RowAt ga n 4 1 n (flat benc (allTo n i)) :: RowAt gb n 4 1 n (flat benc (lessTo n i cl)) :: bal b B :: F) (fun i => i ≤ n) (fun i => n - i) 0 (Nat.zero_le _) ⟨rfl, rfl, rfl, rfl, rfl, rfl, rfl, rfl, trivial⟩ (by simp only [allTo_zero, lessTo_zero]; exact entA) ?_
    intro i e hi ih
    by_cases hlt : i < n
    · have hla : i < (allTo n i).length := by rw [allTo_len]; exact hlt
      have hlb : i < (lessTo n i cl).length := by rw [lessTo_len]; exact hlt
      repeat' (first | refine walk ?_ | exact trivial | refine Tw.mk ?_ ?_ | intro hc | refine XO.sel1 (XO.storeRowE (xs := allTo n i) true benc_len hla TT_ok trivial rfl rfl rfl rfl rfl rfl rfl rfl trivial ?_) | refine XO.sel1 (XO.storeRowE (xs := lessTo n i cl) true benc_len hlb TT_ok trivial rfl rfl rfl rfl rfl rfl rfl rfl trivial ?_) | refine XO.sel1 (XO.storeRowE (xs := lessTo n i cl) false benc_len hlb TT_ok trivial rfl rfl rfl rfl rfl rfl rfl rfl trivial ?_) | fail)
      · have hne : (i : Int) ≠ cl := by assumption
        refine ih (i + 1) _ _ hlt (by omega) ⟨rfl, rfl, rfl, rfl, rfl, rfl, rfl, rfl, trivial⟩ ?_
        rw [allTo_succ, lessTo_succ (t := true) (by rw [decide_eq_false (by omega)]; rfl)]
        exact entA
      · have hne : (i : Int) = cl := by assumption
        refine ih (i + 1) _ _ hlt (by omega) ⟨rfl, rfl, rfl, rfl, rfl, rfl, rfl, rfl, trivial⟩ ?_
        rw [allTo_succ, lessTo_succ (t := false) (by rw [decide_eq_true (by omega)]; rfl)]
        exact entA
    · obtain rfl : i = n := by omega
      clear ih
      refine XS.sel1 (c := RowAt gb i 4 1 i (flat benc (lessTo i i cl))) (XS.ent (Ent.trans Row.of_at (Ent.rowView (w0 := w0))) ?_)
      refine XS.sel1 (c := RowAt ga i 4 1 i (flat benc (allTo i i))) (XS.ent (Ent.trans Row.of_at (Ent.rowView (w0 := w0))) ?_)
      have hcl : cl < i := by omega
      have pickA : ∀ {F' : List HProp} {K' : Value → List HProp → Prop}, (∀ j : Nat, Best hs (· ∈ opens i (allTo i i)) (mixI (hashOf key)) j → K' (kI j) (bal b B :: view w0 (.slice (some ⟨ga, 0, none⟩) i i) 1 i (flat benc (allTo i i)) :: F')) → Tri Try.prog 26 #[ptr b, .slice (some ⟨ga, 0, none⟩) i i, .slice none 0 0, .string key] w0 (bal b B :: view w0 (.slice (some ⟨ga, 0, none⟩) i i) 1 i (flat benc (allTo i i)) :: F') K' := fun k4 =>
        pickRingN (allTo_len i i) (by rw [hBh]; exact hn) hBp (by omega) hBd hk (fun h0 => by
          have : cl ∈ opens i (allTo i i) := mem_all.2 hcl
          rw [h0] at this; cases this) (by rw [hBh]; exact k4)
      by_cases hone : i = 1
      · have hnone : opens i (lessTo i i cl) = [] := List.eq_nil_iff_forall_not_mem.2 fun x hx => by have := mem_less.1 hx; omega
        have pickL : ∀ {F' : List HProp} {K' : Value → List HProp → Prop}, K' (kI (-1)) (bal b B :: view w0 (.slice (some ⟨gb, 0, none⟩) i i) 1 i (flat benc (lessTo i i cl)) :: F') → Tri Try.prog 26 #[ptr b, .slice (some ⟨gb, 0, none⟩) i i, .slice none 0 0, .string key] w0 (bal b B :: view w0 (.slice (some ⟨gb, 0, none⟩) i i) 1 i (flat benc (lessTo i i cl)) :: F') K' := fun k0 =>
          pickRingN (lessTo_len i i cl) (by rw [hBh]; exact hn) hBp (by omega) hBd hk (fun _ => k0) (fun j hj => by
            have := hj.1
            simp only [hnone] at this; cases this)
        repeat' (first | refine walk ?_ | exact trivial | refine Tw.mk ?_ ?_ | (intro (h : Nat) hh; have hhl := hh.lt) | intro hc | refine Tri.sel2 (pickA ?_) | refine Tri.sel2 (pickL ?_) | exact Out.i rfl | fail)
        all_goals skip
      · have pickL : ∀ {F' : List HProp} {K' : Value → List HProp → Prop}, (∀ j : Nat, Best hs (· ∈ opens i (lessTo i i cl)) (mixI (hashOf key)) j → K' (kI j) (bal b B :: view w0 (.slice (some ⟨gb, 0, none⟩) i i) 1 i (flat benc (lessTo i i cl)) :: F')) → Tri Try.prog 26 #[ptr b, .slice (some ⟨gb, 0, none⟩) i i, .slice none 0 0, .string key] w0 (bal b B :: view w0 (.slice (some ⟨gb, 0, none⟩) i i) 1 i (flat benc (lessTo i i cl)) :: F') K' := fun k4 =>
          pickRingN (lessTo_len i i cl) (by rw [hBh]; exact hn) hBp (by omega) hBd hk (fun h0 => by
            have : (if cl = 0 then 1 else 0) ∈ opens i (lessTo i i cl) := mem_less.2 (by split <;> omega)
            rw [h0] at this; cases this) (by rw [hBh]; exact k4)
        refine walk ?_
        refine ⟨fun _ => Tri.sel2 (pickA ?_), trivial⟩
        intro h hh
        have hhl := hh.lt
        refine walk ?_
        refine ⟨Tri.sel2 (pickL ?_), trivial⟩
        intro g hg
        have hgl := mem_less.1 hg.1
        have hgh : h = cl ∨ g = h := by
          by_cases e : h = cl
          · exact .inl e
          · exact .inr (Best.unique hg (Best.sub hh (mem_less.2 ⟨mem_all.1 hh.1, e⟩) (fun x hx => mem_all.2 (mem_less.1 hx).1)))
        repeat' (first | refine walk ?_ | exact trivial | refine Tw.mk ?_ ?_ | (intro (j : Nat) hj; have hjh := Best.unique hj hh) | intro hc | refine Tri.sel2 (pickA ?_) | exact Out.i rfl | fail)
        all_goals (try (exfalso; omega))
  · obtain ⟨ga, rfl⟩ : ∃ x, x = g := ⟨_, rfl⟩
    obtain ⟨gb, rfl⟩ : ∃ x, x = g1 := ⟨_, rfl⟩
    obtain ⟨cl, rfl⟩ := Int.eq_ofNat_of_zero_le (show 0 ≤ closed by omega)
    generalize hn : hs.length = n at *
    generalize hB : (⟨4, hs, (n : Int) - 1, IntKind.u64.wrap 0, 0⟩ : BS) = B
    have hBh : B.hs = hs := by rw [← hB]
    have hBp : B.policy = 4 := by rw [← hB]
    have hBd : B.d = 0 := by rw [← hB]
    refine XS.sel1 (c := cel gb 4 (zrow n (benc false))) (XS.ent (RowAt.of_cel (n := n) (es := 1) (by rw [zrow_length]; rfl) (by simp only [maxLen]; omega)) ?_)
    refine XS.sel1 (c := cel ga 4 (zrow n (benc false))) (XS.ent (RowAt.of_cel (n := n) (es := 1) (by rw [zrow_length]; rfl) (by simp only [maxLen]; omega)) ?_)
    rw [← flat_zero]
    refine XS.loopI (ι := Nat) (fun i => [(0, .slice a n c), (1, .string key), (2, kI cl), (7, ptr b), (8, .slice (some ⟨ga, 0, none⟩) n n), (9, .slice (some ⟨gb, 0, none⟩) n n), (46, kI n), (47, kI i)]) (fun i => RowAt ga n 4 1 n (flat benc (allTo n i)) :: RowAt gb n 4 1 n (flat benc (lessTo n i cl)) :: bal b B :: F) (fun i => i ≤ n) (fun i => n - i) 0 (Nat.zero_le _) ⟨rfl, rfl, rfl, rfl, rfl, rfl, rfl, rfl, trivial⟩ (by simp only [allTo_zero, lessTo_zero]; exact entA) ?_
    intro i e hi ih
    by_cases hlt : i < n
    · have hla : i < (allTo n i).length := by rw [allTo_len]; exact hlt
      have hlb : i < (lessTo n i cl).length := by rw [lessTo_len]; exact hlt
      repeat' (first | refine walk ?_ | exact trivial | refine Tw.mk ?_ ?_ | intro hc | refine XO.sel1 (XO.storeRowE (xs := allTo n i) true benc_len hla TT_ok trivial rfl rfl rfl rfl rfl rfl rfl rfl trivial ?_) | refine XO.sel1 (XO.storeRowE (xs := lessTo n i cl) true benc_len hlb TT_ok trivial rfl rfl rfl rfl rfl rfl rfl rfl trivial ?_) | refine XO.sel1 (XO.storeRowE (xs := lessTo n i cl) false benc_len hlb TT_ok trivial rfl rfl rfl rfl rfl rfl rfl rfl trivial ?_) | fail)
      · have hne : (i : Int) ≠ cl := by assumption
        refine ih (i + 1) _ _ hlt (by omega) ⟨rfl, rfl, rfl, rfl, rfl, rfl, rfl, rfl, trivial⟩ ?_
        rw [allTo_succ, lessTo_succ (t := true) (by rw [decide_eq_false (by omega)]; rfl)]
        exact entA
      · have hne : (i : Int) = cl := by assumption
        refine ih (i + 1) _ _ hlt (by omega) ⟨rfl, rfl, rfl, rfl, rfl, rfl, rfl, rfl, trivial⟩ ?_
        rw [allTo_succ, lessTo_succ (t := false) (by rw [decide_eq_true (by omega)]; rfl)]
        exact entA
    · obtain rfl : i = n := by omega
      clear ih
      refine XS.sel1 (c := RowAt gb i 4 1 i (flat benc (lessTo i i cl))) (XS.ent (Ent.trans Row.of_at (Ent.rowView (w0 := w0))) ?_)
      refine XS.sel1 (c := RowAt ga i 4 1 i (flat benc (allTo i i))) (XS.ent (Ent.trans Row.of_at (Ent.rowView (w0 := w0))) ?_)
      have hcl : cl < i := by omega
      have pickA : ∀ {F' : List HProp} {K' : Value → List HProp → Prop}, (∀ j : Nat, Best hs (· ∈ opens i (allTo i i)) (mixI (hashOf key)) j → K' (kI j) (bal b B :: view w0 (.slice (some ⟨ga, 0, none⟩) i i) 1 i (flat benc (allTo i i)) :: F')) → Tri Try.prog 26 #[ptr b, .slice (some ⟨ga, 0, none⟩) i i, .slice none 0 0, .string key] w0 (bal b B :: view w0 (.slice (some ⟨ga, 0, none⟩) i i) 1 i (flat benc (allTo i i)) :: F') K' := fun k4 =>
        pickRingN (allTo_len i i) (by rw [hBh]; exact hn) hBp (by omega) hBd hk (fun h0 => by
          have : cl ∈ opens i (allTo i i) := mem_all.2 hcl
          rw [h0] at this; cases this) (by rw [hBh]; exact k4)
      by_cases hone : i = 1
      · have hnone : opens i (lessTo i i cl) = [] := List.eq_nil_iff_forall_not_mem.2 fun x hx => by have := mem_less.1 hx; omega
        have pickL : ∀ {F' : List HProp} {K' : Value → List HProp → Prop}, K' (kI (-1)) (bal b B :: view w0 (.slice (some ⟨gb, 0, none⟩) i i) 1 i (flat benc (lessTo i i cl)) :: F') → Tri Try.prog 26 #[ptr b, .slice (some ⟨gb, 0, none⟩) i i, .slice none 0 0, .string key] w0 (bal b B :: view w0 (.slice (some ⟨gb, 0, none⟩) i i) 1 i (flat benc (lessTo i i cl)) :: F') K' := fun k0 =>
          pickRingN (lessTo_len i i cl) (by rw [hBh]; exact hn) hBp (by omega) hBd hk (fun _ => k0) (fun j hj => by
            have := hj.1
            simp only [hnone] at this; cases this)
        repeat' (first | refine walk ?_ | exact trivial | refine Tw.mk ?_ ?_ | (intro (h : Nat) hh; have hhl := hh.lt) | intro hc | refine Tri.sel2 (pickA ?_) | refine Tri.sel2 (pickL ?_) | exact Out.i rfl | fail)
        all_goals skip
      · have pickL : ∀ {F' : List HProp} {K' : Value → List HProp → Prop}, (∀ j : Nat, Best hs (· ∈ opens i (lessTo i i cl)) (mixI (hashOf key)) j → K' (kI j) (bal b B :: view w0 (.slice (some ⟨gb, 0, none⟩) i i) 1 i (flat benc (lessTo i i cl)) :: F')) → Tri Try.prog 26 #[ptr b, .slice (some ⟨gb, 0, none⟩) i i, .slice none 0 0, .string key] w0 (bal b B :: view w0 (.slice (some ⟨gb, 0, none⟩) i i) 1 i (flat benc (lessTo i i cl)) :: F') K' := fun k4 =>
          pickRingN (lessTo_len i i cl) (by rw [hBh]; exact hn) hBp (by omega) hBd hk (fun h0 => by
            have : (if cl = 0 then 1 else 0) ∈ opens i (lessTo i i cl) := mem_less.2 (by split <;> omega)
            rw [h0] at this; cases this) (by rw [hBh]; exact k4)
        refine walk ?_
        refine ⟨fun _ => Tri.sel2 (pickA ?_), trivial⟩
        intro h hh
        have hhl := hh.lt
        refine walk ?_
        refine ⟨Tri.sel2 (pickL ?_), trivial⟩
        intro g hg
        have hgl := mem_less.1 hg.1
        have hgh : h = cl ∨ g = h := by
          by_cases e : h = cl
          · exact .inl e
          · exact .inr (Best.unique hg (Best.sub hh (mem_less.2 ⟨mem_all.1 hh.1, e⟩) (fun x hx => mem_all.2 (mem_less.1 hx).1)))
        repeat' (first | refine walk ?_ | exact trivial | refine Tw.mk ?_ ?_ | (intro (j : Nat) hj; have hjh := Best.unique hj hh) | intro hc | refine Tri.sel2 (pickA ?_) | exact Out.i rfl | fail)
        all_goals (try (exfalso; omega))
end Go.Proofs.Ytpfnhkdhcjclpaa
