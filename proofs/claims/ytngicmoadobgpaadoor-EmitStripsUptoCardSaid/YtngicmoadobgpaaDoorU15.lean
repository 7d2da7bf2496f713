/- Some texts put together: lemmas and contracts for the law. Conditions: as each text says. -/
import Derived.Test.YtngicmoadobgpaaDoorU14
import Derived.Test.YtngicmoadobgpaaDoorU13
import Derived.Test.YtngicmoadobgpaaDoorU8
import Derived.RangeFuncRecord
/- Contracts: counting, cutting at each comma, the elements of a list, the program's and the document's. Conditions: none. -/
namespace Go.Proofs.YtngicmoadobgpaaDoor
open Go Go.Sx Go.ChunkM Go.StrM Go.EmitM
variable {w0 : World} {F H : List HProp} {K : Value → List HProp → Prop}
set_option maxRecDepth 100000 in
theorem cntb_run (l : List UInt8) (c : UInt8) (w : World) : (callFunc 137 ⟨[kS l, kB c]⟩).run Tryd.prog w = .ok (.value (kI (l.count c))) w := by
  rw [run_callFunc_extern Tryd.func137 (by kernel_rfl) (by kernel_rfl) (by kernel_rfl) (e := Extern.BytealgCount.count) (by kernel_rfl), Lib.run_countString]
  have : ((c.toNat : Int)).toNat.toUInt8 = c := by simp
  simp only [Result.andThen, this, Lib.countByte]
theorem count_spec {l : List UInt8} {c : UInt8} (h : K (kI (l.count c)) F) : Tri Tryd.prog 130 #[kS l, kS [c]] w0 F K := by
  have nx := cntb_run l c
  refine Tri.enterF Tryd.func130 Tryd.ntmps130 Tryd.results130 rfl rfl fun fr hfr => ?_
  repeat' (first | refine walk ?_ | exact trivial | refine Tw.mk ?_ ?_ | intro hy | exact Out.i h | fail)
theorem index_spec {l : List UInt8} {c : UInt8} (h : K (.int .i64 (Lib.indexByte l c)) F) : Tri Tryd.prog 131 #[kS l, kS [c]] w0 F K := by
  refine Tri.enterF Tryd.func131 Tryd.ntmps131 Tryd.results131 rfl rfl fun fr hfr => ?_
  repeat' (first | refine walk ?_ | exact trivial | refine Tw.mk ?_ ?_ | refine ix1_spec ?_ | exact Out.i h | fail)
/-- A row of texts of one's own. -/
abbrev tRow (a : Option Addr) (c : Nat) (ts : List (List UInt8)) : HProp := Row a c 9 1 ts.length (flat lenc ts)
theorem set_fill {ps : List (List UInt8)} {m k : Nat} (x : List UInt8) (hk : ps.length + (m + 1) = k) : (ps ++ List.replicate (k - ps.length) []).set ps.length x = (ps ++ [x]) ++ List.replicate (k - (ps ++ [x]).length) [] := by
  have e1 : k - ps.length = m + 1 := by omega
  have e2 : k - (ps ++ [x]).length = m := by rw [List.length_append]; simp; omega
  rw [List.set_append_right _ _ (Nat.le_refl _), Nat.sub_self, e1, e2, List.replicate_succ, List.set_cons_zero]
  simp
set_option maxRecDepth 20000 in
theorem gsplit_spec {l : List UInt8} {c : UInt8} (hl : l.length ≤ 17592186044414) (h : ∀ a cp, K (.slice a (pieces c l).length cp) (tRow a cp (pieces c l) :: F)) : Tri Tryd.prog 120 #[kS l, kS [c], kI 0, kI (-1)] w0 F K := by
  have hct := List.count_le_length (a := c) (l := l)
  obtain ⟨k, hk⟩ : ∃ k, k = (pieces c l).length := ⟨_, rfl⟩
  have hk2 := pieces_count c l
  rw [← hk] at h hk2
  refine Tri.enterF Tryd.func120 Tryd.ntmps120 Tryd.results120 rfl rfl fun fr hfr => ?_
  repeat' (first | refine walk ?_ | exact trivial | refine Tw.mk ?_ ?_ | intro hy | refine count_spec ?_ | (exfalso; omega) | refine XO.minE (k : Int) rfl rfl rfl rfl rfl (fun _ => by omega) (fun _ => by omega) ?_ | refine XO.makeSlice (k := k) TT_ok trivial rfl rfl rfl rfl rfl rfl rfl rfl rfl rfl rfl (N := 17592186044416) (by omega) rfl rfl (fun _ => trivial) (fun g => ?_) | (exfalso; exact List.cons_ne_nil _ _ (by assumption)) | fail)
  rename_i g
  have hz : ∀ n, (flat lenc (List.replicate n ([] : List UInt8))).length = n * 1 := fun n => by rw [flat_length lenc_len, List.length_replicate]
  refine XS.loopI (ι := List (List UInt8) × List UInt8) (fun q => [(0, kS q.2), (1, kS [c]), (2, kI 0), (3, kI (k - 1 : Nat)), (9, .slice (some ⟨g, 0, none⟩) k k), (10, kI q.1.length)]) (fun q => RowAt g k 9 1 k (flat lenc (q.1 ++ List.replicate (k - q.1.length) [])) :: F) (fun q => q.1 ++ pieces c q.2 = pieces c l ∧ q.2.length ≤ l.length) (fun q => q.2.length) ([], l)
    ⟨rfl, Nat.le_refl _⟩ ⟨rfl, rfl, rfl, congrArg kI (by omega), rfl, rfl, trivial⟩ (by
      simp only [List.nil_append, List.length_nil, Nat.sub_zero]
      refine Ent.trans ?_ (RowAt.of_cel (n := k) (hz k) (by simp only [maxLen]; omega))
      rw [flat_zero]; exact Ent.refl _) ?_
  rintro ⟨ps, s⟩ e ⟨hp, hs⟩ ih
  simp only at hp hs
  dsimp only
  have hp1 := congrArg List.length hp
  rw [List.length_append, ← hk] at hp1
  have hp2 := pieces_count c s
  have hfill : (ps ++ List.replicate (k - ps.length) []).length = k := by rw [List.length_append, List.length_replicate]; omega
  by_cases hc : c ∈ s
  · have i1 := idx_in c s hc
    have i2 := take_before hc
    have i3 := drop_before hc
    have i4 := len_before hc
    have i5 := pieces_in hc
    have i6 := List.count_pos_iff.2 hc
    rw [i5, List.length_cons] at hp1
    have i7 := pieces_pos c (behind c s)
    have i8 := set_fill (ps := ps) (m := k - ps.length - 1) (k := k) (before c s) (by omega)
    have i9 : (ps ++ [before c s]) ++ pieces c (behind c s) = pieces c l := by rw [← hp, i5]; simp
    repeat' (first | refine walk ?_ | exact trivial | refine Tw.mk ?_ ?_ | intro hy | (exfalso; omega) | (refine index_spec ?_; rw [i1]) | refine XO.subHiE (before c s).length i2 TT_ok rfl rfl rfl rfl rfl rfl (by omega) (by omega) ?_ | refine XO.subLo ((before c s).length + 1) TT_ok rfl rfl rfl rfl rfl rfl (by simp only [List.length_cons, List.length_nil]; omega) (by omega) ?_ | refine XO.sel1 (XO.storeRowE (xs := ps ++ List.replicate (k - ps.length) []) (before c s) lenc_len (by omega) TT_ok trivial rfl rfl rfl rfl rfl rfl rfl rfl trivial ?_) | exact ih (ps ++ [before c s], behind c s) _ _ ⟨i9, by simp only; omega⟩ (by simp only; omega) ⟨congrArg kS i3, rfl, rfl, rfl, rfl, congrArg kI (by simp), trivial⟩ (by dsimp only; rw [← i8]; exact Ent.refl _) | fail)
  · have i5 := pieces_not hc
    rw [i5] at hp hp1
    simp only [List.length_cons, List.length_nil] at hp1
    clear ih
    have i8 := set_fill (ps := ps) (m := 0) (k := k) s (by omega)
    rw [hp, ← hk, Nat.sub_self, List.replicate_zero, List.append_nil] at i8
    have hrow : Ent (RowAt g k 9 1 k (flat lenc (pieces c l)) :: F) (tRow (some ⟨g, 0, none⟩) k (pieces c l) :: F) := by
      show Ent _ (Row (some ⟨g, 0, none⟩) k 9 1 (pieces c l).length (flat lenc (pieces c l)) :: F)
      rw [← hk]; exact Row.of_at
    repeat' (first | refine walk ?_ | exact trivial | refine Tw.mk ?_ ?_ | intro hy | (exfalso; omega) | refine XO.sel1 (XO.storeRowE (xs := ps ++ List.replicate (k - ps.length) []) s lenc_len (by omega) TT_ok trivial rfl rfl rfl rfl rfl rfl rfl rfl trivial ?_) | refine XO.sliceHi (h := k) TT_ok rfl rfl rfl rfl rfl rfl (congrArg kI (by omega)) (by omega) ?_ | exact Out.e (h _ _) (by rw [i8]; exact hrow) | fail)
theorem split_spec {l : List UInt8} {c : UInt8} (hl : l.length ≤ 17592186044414) (h : ∀ a cp, K (.slice a (pieces c l).length cp) (tRow a cp (pieces c l) :: F)) : Tri Tryd.prog 109 #[kS l, kS [c]] w0 F K := by
  refine Tri.enterF Tryd.func109 Tryd.ntmps109 Tryd.results109 rfl rfl fun fr hfr => ?_
  repeat' (first | refine walk ?_ | exact trivial | refine Tw.mk ?_ ?_ | refine gsplit_spec hl (fun a cp => ?_) | exact Out.i (h _ _) | fail)
/-- The elements, the program's. -/
theorem elements_spec {l : List UInt8} (hl : l.length ≤ 8796093022207) (h : ∀ a cp, K (.slice a (elems l).length cp) (tRow a cp (elems l) :: F)) : Tri Tryd.prog 99 #[kS l] w0 F K := by
  refine Tri.enterF Tryd.func99 Tryd.ntmps99 Tryd.results99 rfl rfl fun fr hfr => ?_
  have hps := pieces_pos 44 l
  repeat' (first | refine walk ?_ | exact trivial | refine Tw.mk ?_ ?_ | refine split_spec (by omega) (fun a0 c0 => ?_) | fail)
  refine XS.rowOpen hps fun g hg => ?_
  subst hg
  refine XS.loopI (ι := Nat × Option Addr × Nat) (fun q => [(3, .slice q.2.1 (elemsOf ((pieces 44 l).take q.1)).length q.2.2), (7, .slice (some ⟨g, 0, none⟩) (pieces 44 l).length c0), (8, kI (pieces 44 l).length), (9, kI q.1)]) (fun q => tRow q.2.1 q.2.2 (elemsOf ((pieces 44 l).take q.1)) :: RowAt g c0 9 1 (pieces 44 l).length (flat lenc (pieces 44 l)) :: F) (fun q => q.1 ≤ (pieces 44 l).length) (fun q => (pieces 44 l).length - q.1) (0, none, 0)
    (Nat.zero_le _) ⟨rfl, rfl, rfl, rfl, trivial⟩ (Row.nil _ _ _) ?_
  rintro ⟨i, a, cp⟩ e hi ih
  simp only at hi
  dsimp only
  have hpl := pieces_sum 44 l
  have hpc := pieces_count 44 l
  have hct := List.count_le_length (a := (44 : UInt8)) (l := l)
  have hel := elemsOf_len ((pieces 44 l).take i)
  rw [List.length_take] at hel
  by_cases hlt : i < (pieces 44 l).length
  · obtain ⟨p, hp⟩ : ∃ c, (pieces 44 l)[i]? = some c := ⟨_, List.getElem?_eq_getElem hlt⟩
    have hpp : p.length ≤ l.length := by
      have h1 := (List.sublist_flatten_of_mem (List.mem_of_getElem? hp)).length_le
      omega
    have htk : elemsOf ((pieces 44 l).take (i + 1)) = elemsOf ((pieces 44 l).take i) ++ elemsOf [p] := by rw [List.take_add_one, hp]; exact elemsOf_append _ _
    rw [elemsOf_one] at htk
    by_cases ht : trim p = []
    · rw [if_pos ht, List.append_nil] at htk
      repeat' (first | refine walk ?_ | exact trivial | refine Tw.mk ?_ ?_ | intro hy | (exfalso; omega) | refine trim_spec (by omega) ?_ | (exfalso; exact absurd ht (by assumption)) | exact ih (i + 1, a, cp) _ _ hlt (by simp only; omega) ⟨by dsimp only; rw [htk]; rfl, rfl, rfl, rfl, trivial⟩ (by dsimp only; rw [htk]; exact Ent.refl _) | fail)
    · rw [if_neg ht] at htk
      have hfl : flat lenc (elemsOf ((pieces 44 l).take i)) ++ [kS (trim p)] = flat lenc (elemsOf ((pieces 44 l).take (i + 1))) := by rw [htk, flat_snoc]; rfl
      have hln : (elemsOf ((pieces 44 l).take (i + 1))).length = (elemsOf ((pieces 44 l).take i)).length + 1 := by rw [htk, List.length_append]; rfl
      repeat' (first | refine walk ?_ | exact trivial | refine Tw.mk ?_ ?_ | intro hy | (exfalso; omega) | refine trim_spec (by omega) ?_ | (exfalso; exact absurd (by assumption) ht) | (refine XO.sel1 (c := tRow _ _ (elemsOf ((pieces 44 l).take i))) ?_; refine XO.appendG (N := 8796093022208) (flat lenc (elemsOf ((pieces 44 l).take (i + 1)))) TT_ok trivial rfl rfl rfl rfl rfl rfl rfl rfl rfl rfl rfl rfl rfl (by omega) rfl rfl hfl (fun _ _ => trivial) (fun a' cap' => ?_)) | exact ih (i + 1, _, _) _ _ hlt (by simp only; omega) ⟨by dsimp only; rw [hln]; rfl, rfl, rfl, rfl, trivial⟩ (by dsimp only; rw [← hln]; exact Ent.refl _) | fail)
  · obtain rfl : i = (pieces 44 l).length := by omega
    clear ih
    rw [List.take_length]
    repeat' (first | refine walk ?_ | exact trivial | refine Tw.mk ?_ ?_ | intro hy | (exfalso; omega) | exact Out.e (h _ _) (Ent.cons _ (Ent.drop _ _)) | fail)
end Go.Proofs.YtngicmoadobgpaaDoor

/- Contracts: the document's elements of a list. Conditions: none. -/
namespace Go.Proofs.YtngicmoadobgpaaDoor
open Go Go.Sx Go.ChunkM Go.StrM Go.EmitM
variable {w0 : World} {F H : List HProp} {K : Value → List HProp → Prop}
theorem pieces_mid {c : UInt8} (r : List UInt8) : ∀ {p : List UInt8}, c ∉ p → pieces c (p ++ c :: r) = p :: pieces c r
  | [], _ => by simp [pieces]
  | x :: p, h => by
    have hx : x ≠ c := fun e => h (by subst e; exact List.mem_cons_self)
    rw [List.cons_append, pieces, if_neg hx, pieces_mid r fun hm => h (List.mem_cons_of_mem _ hm)]
theorem no_part {l : List UInt8} {f i : Nat} (h : ∀ (j : Nat) c, f ≤ j → j < i → l[j]? = some c → c ≠ 44) : (44 : UInt8) ∉ (l.drop f).take (i - f) := fun hm => by
  obtain ⟨j, hj⟩ := List.getElem?_of_mem hm
  rw [List.getElem?_take] at hj
  split at hj
  · rename_i hlt
    rw [List.getElem?_drop] at hj
    exact h (f + j) 44 (by omega) (by omega) hj rfl
  · cases hj
theorem pieces_cut {l : List UInt8} {f i : Nat} (hf : f ≤ i) (h : ∀ (j : Nat) c, f ≤ j → j < i → l[j]? = some c → c ≠ 44) (hi : l[i]? = some 44) : pieces 44 (l.drop f) = (l.drop f).take (i - f) :: pieces 44 (l.drop (i + 1)) := by
  obtain ⟨hlt, hv⟩ := List.getElem?_eq_some_iff.1 hi
  have e1 : l.drop f = (l.drop f).take (i - f) ++ 44 :: l.drop (i + 1) := by
    have h1 := (List.take_append_drop (i - f) (l.drop f)).symm
    rw [List.drop_drop, show f + (i - f) = i by omega, List.drop_eq_getElem_cons hlt, hv] at h1
    exact h1
  have h2 := pieces_mid (l.drop (i + 1)) (no_part h)
  rw [← e1] at h2; exact h2
theorem pieces_last {l : List UInt8} {f : Nat} (h : ∀ (j : Nat) c, f ≤ j → j < l.length → l[j]? = some c → c ≠ 44) : pieces 44 (l.drop f) = [(l.drop f).take (l.length - f)] := by
  have h1 := no_part h
  have e1 : (l.drop f).take (l.length - f) = l.drop f := List.take_of_length_le (by rw [List.length_drop]; exact Nat.le_refl _)
  rw [e1] at h1 ⊢
  exact pieces_not h1
theorem relements_spec {l : List UInt8} (hl : l.length ≤ 8796093022207) (h : ∀ a cp, K (.slice a (elems l).length cp) (tRow a cp (elems l) :: F)) : Tri Tryd.prog 87 #[kS l] w0 F K := by
  refine Tri.enterF Tryd.func87 Tryd.ntmps87 Tryd.results87 rfl rfl fun fr hfr => ?_
  repeat' (first | refine walk ?_ | exact trivial | refine Tw.mk ?_ ?_ | fail)
  refine XS.loopI (ι := (Nat × Nat) × List (List UInt8) × Option Addr × Nat) (fun q => [(0, kS l), (3, .slice q.2.2.1 q.2.1.length q.2.2.2), (4, kI q.1.1), (5, kI q.1.2)]) (fun q => tRow q.2.2.1 q.2.2.2 q.2.1 :: F)
    (fun q => q.1.1 ≤ q.1.2 ∧ q.2.1.length ≤ q.1.1 ∧ (q.1.2 ≤ l.length ∧ q.2.1 ++ elemsOf (pieces 44 (l.drop q.1.1)) = elems l ∧ (∀ (j : Nat) c, q.1.1 ≤ j → j < q.1.2 → l[j]? = some c → c ≠ 44) ∨ q.1.2 = l.length + 1 ∧ q.2.1 = elems l)) (fun q => l.length + 1 - q.1.2) ((0, 0), [], none, 0)
    ⟨Nat.le_refl _, Nat.le_refl _, .inl ⟨Nat.zero_le _, rfl, fun j c _ hj => absurd hj (Nat.not_lt_zero _)⟩⟩ ⟨rfl, rfl, rfl, rfl, trivial⟩ (Row.nil _ _ _) ?_
  rintro ⟨⟨f, i⟩, os, a, cp⟩ e ⟨hfi, hlen, hpre⟩ ih
  simp only at hfi hlen hpre
  dsimp only
  rcases hpre with ⟨hi, hos, hno⟩ | ⟨rfl, rfl⟩
  · have hstep : ∀ p, p = (l.drop f).take (i - f) → p.length ≤ 8796093022207 := fun p hp => by subst hp; rw [List.length_take, List.length_drop]; omega
    generalize hp : (l.drop f).take (i - f) = p at *
    have hpl := hstep p rfl
    have hflat : flat lenc os ++ [kS (trim p)] = flat lenc (os ++ [trim p]) := by rw [flat_snoc]; rfl
    have hsn : (os ++ [trim p]).length = os.length + 1 := by simp
    have hle : trim p ≠ [] → 0 < (trim p).length := List.length_pos_iff.2
    have happ : ∀ ps, elemsOf (p :: ps) = elemsOf [p] ++ elemsOf ps := fun ps => by rw [← elemsOf_append]; rfl
    rcases Nat.lt_or_ge i l.length with hlt | hge
    · obtain ⟨x, hx⟩ : ∃ c, l[i]? = some c := ⟨_, List.getElem?_eq_getElem hlt⟩
      by_cases h44 : x = 44
      · subst h44
        have hc := pieces_cut hfi hno hx
        rw [hp] at hc
        rw [hc, happ, elemsOf_one, ← List.append_assoc] at hos
        by_cases ht : trim p = []
        · rw [if_pos ht, List.append_nil] at hos
          have ht2 : (trim p).length = 0 := by rw [ht]; rfl
          repeat' (first | refine walk ?_ | exact trivial | refine Tw.mk ?_ ?_ | intro hy | (exfalso; omega) | (exfalso; exact hy rfl) | (rw [hp]; refine rtrim_spec (by omega) ?_) | exact ih ((i + 1, i + 1), os, a, cp) _ _ ⟨Nat.le_refl _, by simp only; omega, .inl ⟨hlt, hos, fun j c hj1 hj2 => absurd hj2 (by simp only at hj1 ⊢; omega)⟩⟩ (by simp only; omega) ⟨rfl, rfl, rfl, rfl, trivial⟩ (Ent.refl _) | fail)
        · rw [if_neg ht] at hos
          have ht2 := hle ht
          repeat' (first | refine walk ?_ | exact trivial | refine Tw.mk ?_ ?_ | intro hy | (exfalso; omega) | (exfalso; exact hy rfl) | (rw [hp]; refine rtrim_spec (by omega) ?_) | (refine XO.sel1 (c := tRow _ _ os) ?_; refine XO.appendG (N := 8796093022208) (flat lenc (os ++ [trim p])) TT_ok trivial rfl rfl rfl rfl rfl rfl rfl rfl rfl rfl rfl rfl rfl (by omega) rfl rfl hflat (fun _ _ => trivial) (fun a' cap' => ?_)) | exact ih ((i + 1, i + 1), os ++ [trim p], _, _) _ _ ⟨Nat.le_refl _, by simp only; rw [hsn]; omega, .inl ⟨hlt, hos, fun j c hj1 hj2 => absurd hj2 (by simp only at hj1 ⊢; omega)⟩⟩ (by simp only; omega) ⟨rfl, by dsimp only; rw [hsn]; rfl, rfl, rfl, trivial⟩ (by dsimp only; rw [← hsn]; exact Ent.refl _) | fail)
      · have hx4 : x.toNat ≠ 44 := fun e => h44 (UInt8.toNat_inj.1 e)
        have hno2 : ∀ (j : Nat) c, f ≤ j → j < i + 1 → l[j]? = some c → c ≠ 44 := fun j c h1 h2 h3 => by
          rcases Nat.lt_or_ge j i with h4 | h4
          · exact hno j c h1 h4 h3
          · obtain rfl : j = i := by omega
            rw [hx] at h3; injection h3 with h3; subst h3; exact h44
        repeat' (first | refine walk ?_ | exact trivial | refine Tw.mk ?_ ?_ | intro hy | (exfalso; omega) | exact ih ((f, i + 1), os, a, cp) _ _ ⟨by simp only; omega, hlen, .inl ⟨hlt, hos, hno2⟩⟩ (by simp only; omega) ⟨rfl, rfl, rfl, rfl, trivial⟩ (Ent.refl _) | fail)
    · obtain rfl : i = l.length := by omega
      have hc := pieces_last hno
      rw [hp] at hc
      rw [hc, elemsOf_one] at hos
      by_cases ht : trim p = []
      · rw [if_pos ht, List.append_nil] at hos
        have ht2 : (trim p).length = 0 := by rw [ht]; rfl
        repeat' (first | refine walk ?_ | exact trivial | refine Tw.mk ?_ ?_ | intro hy | (exfalso; omega) | (exfalso; exact hy rfl) | (rw [hp]; refine rtrim_spec (by omega) ?_) | exact ih ((l.length + 1, l.length + 1), os, a, cp) _ _ ⟨Nat.le_refl _, by simp only; omega, .inr ⟨rfl, hos⟩⟩ (by simp only; omega) ⟨rfl, rfl, rfl, rfl, trivial⟩ (Ent.refl _) | fail)
      · rw [if_neg ht] at hos
        have ht2 := hle ht
        repeat' (first | refine walk ?_ | exact trivial | refine Tw.mk ?_ ?_ | intro hy | (exfalso; omega) | (exfalso; exact hy rfl) | (rw [hp]; refine rtrim_spec (by omega) ?_) | (refine XO.sel1 (c := tRow _ _ os) ?_; refine XO.appendG (N := 8796093022208) (flat lenc (os ++ [trim p])) TT_ok trivial rfl rfl rfl rfl rfl rfl rfl rfl rfl rfl rfl rfl rfl (by omega) rfl rfl hflat (fun _ _ => trivial) (fun a' cap' => ?_)) | exact ih ((l.length + 1, l.length + 1), os ++ [trim p], _, _) _ _ ⟨Nat.le_refl _, by simp only; rw [hsn]; omega, .inr ⟨rfl, hos⟩⟩ (by simp only; omega) ⟨rfl, by dsimp only; rw [hsn]; rfl, rfl, rfl, trivial⟩ (by dsimp only; rw [← hsn]; exact Ent.refl _) | fail)
  · clear ih
    repeat' (first | refine walk ?_ | exact trivial | refine Tw.mk ?_ ?_ | intro hy | (exfalso; omega) | exact Out.i (h _ _) | fail)
end Go.Proofs.YtngicmoadobgpaaDoor

/- Contracts: fields, of which one name is left out. Conditions: none. -/
namespace Go.Sx
theorem ReadsN.viewFlat {w0 : World} {α : Type} {enc : α → List Value} {es b off m k : Nat} {xs : List α} {x : α} {F : List HProp} (he : ∀ x, (enc x).length = es) (h : xs[k]? = some x) : ReadsN w0 (viewAt w0 b off es m (flat enc xs) :: F) ⟨b, off + k * es, none⟩ es (enc x) :=
  ⟨he x, fun j v hj => by rw [Addr.add_mk, Nat.add_assoc]; exact Reads.view (flat_get he h hj)⟩
end Go.Sx
namespace Go.Proofs.YtngicmoadobgpaaDoor
open Go Go.Sx Go.ChunkM Go.StrM Go.EmitM
variable {w0 : World} {F H : List HProp} {K : Value → List HProp → Prop}
def fenc : Fld → List Value | (n, v) => [kS n, kS v]
theorem fenc_len : ∀ f, (fenc f).length = 2 := fun (_, _) => rfl
abbrev fRow (a : Option Addr) (c : Nat) (fs : List Fld) : HProp := Row a c 59 2 fs.length (flat fenc fs)
abbrev fView (w0 : World) (v : Value) (fs : List Fld) : HProp := view w0 v 2 fs.length (flat fenc fs)
/-- Fields whose texts are no longer than may be. -/
def FsOk (fs : List Fld) : Prop := fs.length ≤ 4398046511103 ∧ ∀ f ∈ fs, f.1.length ≤ 140737488351232 ∧ f.2.length ≤ 140737488351232
theorem remove_app (a b : List Fld) (n : List UInt8) : remove (a ++ b) n = remove a n ++ remove b n := List.filter_append ..
theorem remove_len (fs : List Fld) (n : List UInt8) : (remove fs n).length ≤ fs.length := List.length_filter_le ..
theorem remove_ok {fs : List Fld} (h : FsOk fs) (n : List UInt8) : FsOk (remove fs n) := ⟨Nat.le_trans (remove_len fs n) h.1, fun f hf => h.2 f (List.mem_filter.1 hf).1⟩
theorem remove_spec {v : Value} {fs : List Fld} {nm : List UInt8} (hfs : FsOk fs) (h : ∀ a c, K (.slice a (remove fs nm).length c) (fRow a c (remove fs nm) :: fView w0 v fs :: F)) : Tri Tryd.prog 83 #[v, kS nm] w0 (fView w0 v fs :: F) K := by
  refine Tri.viewForm (args := fun v => #[v, kS nm]) fun a c hv => ?_
  subst hv
  refine Tri.enterF Tryd.func83 Tryd.ntmps83 Tryd.results83 rfl rfl fun fr hfr => ?_
  repeat' (first | refine walk ?_ | exact trivial | refine Tw.mk ?_ ?_ | fail)
  refine XS.loopI (ι := Nat × Option Addr × Nat) (fun q => [(1, kS nm), (5, .slice q.2.1 (remove (fs.take q.1) nm).length q.2.2), (8, .slice a fs.length c), (9, kI fs.length), (10, kI q.1)]) (fun q => fRow q.2.1 q.2.2 (remove (fs.take q.1) nm) :: fView w0 (.slice a fs.length c) fs :: F)
    (fun q => q.1 ≤ fs.length) (fun q => fs.length - q.1) (0, none, 0) (Nat.zero_le _) ⟨rfl, rfl, rfl, rfl, rfl, trivial⟩ (Row.nil _ _ _) ?_
  rintro ⟨i, a2, c2⟩ e hi ih
  simp only at hi
  dsimp only
  have hml := remove_len (fs.take i) nm
  rw [List.length_take] at hml
  have hl1 := hfs.1
  by_cases hlt : i < fs.length
  · obtain ⟨⟨n1, v1⟩, hf⟩ : ∃ f, fs[i]? = some f := ⟨_, List.getElem?_eq_getElem hlt⟩
    obtain ⟨hn1, hv1⟩ := hfs.2 _ (List.mem_of_getElem? hf)
    simp only at hn1 hv1
    have htk : remove (fs.take (i + 1)) nm = remove (fs.take i) nm ++ remove [(n1, v1)] nm := by rw [List.take_add_one, hf]; exact remove_app _ _ _
    refine XS.sel1 (c := fView w0 (.slice a fs.length c) fs) (XS.viewOpen (by omega) fun g off c3 hv hc3 => ?_)
    injection hv with hv1 _ hv3
    subst hv1 hv3
    have hE : ∀ X : List HProp, Ent (Sx.viewAt w0 g off 2 fs.length (flat fenc fs) :: X) (fView w0 (.slice (some ⟨g, off, none⟩) fs.length c) fs :: X) := fun X => Ent.viewAt hc3
    cases hal : alike n1 nm
    · have h1 : remove [(n1, v1)] nm = [(n1, v1)] := by simp [remove, hal]
      rw [h1] at htk
      have hfl : flat fenc (remove (fs.take i) nm) ++ [kS n1, kS v1] = flat fenc (remove (fs.take (i + 1)) nm) := by rw [htk, flat_snoc]; rfl
      have hsn : (remove (fs.take (i + 1)) nm).length = (remove (fs.take i) nm).length + 1 := by rw [htk, List.length_append]; rfl
      repeat' (first | refine walk ?_ | exact trivial | refine Tw.mk ?_ ?_ | intro hy | (exfalso; omega) | refine XO.loadN TT_ok rfl rfl rfl rfl rfl rfl rfl (ReadsN.viewFlat fenc_len hf) ?_ | (refine alike_spec hn1 ?_; rw [hal]) | (refine XO.sel1 (c := fRow _ _ (remove (fs.take i) nm)) ?_; refine XO.appendG (N := 4398046511104) (flat fenc (remove (fs.take (i + 1)) nm)) TT_ok trivial rfl rfl rfl rfl rfl rfl rfl rfl rfl rfl rfl rfl rfl (by omega) rfl rfl hfl (fun _ _ => trivial) (fun a' cap' => ?_)) | fail)
      refine ih (i + 1, _, _) _ _ hlt (by simp only; omega) ⟨rfl, by dsimp only; rw [hsn]; rfl, rfl, rfl, rfl, trivial⟩ (Ent.cons _ (Ent.trans (Ent.drop _ _) (hE _)) |>.trans ?_)
      dsimp only; rw [← hsn]; exact Ent.refl _
    · have h1 : remove [(n1, v1)] nm = [] := by simp [remove, hal]
      rw [h1, List.append_nil] at htk
      repeat' (first | refine walk ?_ | exact trivial | refine Tw.mk ?_ ?_ | intro hy | (exfalso; omega) | refine XO.loadN TT_ok rfl rfl rfl rfl rfl rfl rfl (ReadsN.viewFlat fenc_len hf) ?_ | (refine alike_spec hn1 ?_; rw [hal]) | fail)
      refine ih (i + 1, a2, c2) _ _ hlt (by simp only; omega) ⟨rfl, by dsimp only; rw [htk]; rfl, rfl, rfl, rfl, trivial⟩ (Ent.trans (Ent.drop _ _) (Ent.trans (hE _) ?_))
      dsimp only; rw [htk]; exact entA
  · obtain rfl : i = fs.length := by omega
    clear ih
    rw [List.take_length]
    repeat' (first | refine walk ?_ | exact trivial | refine Tw.mk ?_ ?_ | intro hy | (exfalso; omega) | exact Out.i (h _ _) | fail)
end Go.Proofs.YtngicmoadobgpaaDoor

/- Rules for a range over a function: the statement, its rounds, a call of the round. Conditions: the loop's body only goes on (no break, no return in it). -/
namespace Go.Sx
open Go Go.RowKit
/-! ### operations of any frame: one with marks, one that is a round -/
def Act.more (a : Act) (D : List Deferred) : Act := { a with defers := a.defers ++ D }
def QN (K : Act → World → Prop) : Exit → Act → World → Prop
  | .normal, a, w => K a w
  | _, _, _ => False
def isDef (o : Oper) : Bool := match o.op with | .defer _ => true | _ => false
def noDef (l : List Oper) : Bool := l.all fun o => !isDef o
theorem noDef_spec {l : List Oper} (h : noDef l = true) (i : Nat) (o : Oper) (c : Call) (ho : l[i]? = some o) : o.op ≠ .defer c := fun hc => by
  have := List.all_eq_true.1 h o (List.mem_of_getElem? ho)
  simp [isDef, hc] at this
section
variable {P : Program} {ops : Array Oper} {K : Act → World → Prop}
theorem more_put (a : Act) (D : List Deferred) (d : Option Tmp) (v : Value) : (Act.more a D).put d v = Act.more (a.put d v) D := by cases d <;> rfl
theorem more_eval (a : Act) (D : List Deferred) : (Act.more a D).eval = a.eval := by funext x; cases x <;> rfl
theorem opsG (hnd : ∀ (i : Nat) o c, ops[i]? = some o → o.op ≠ .defer c) (D : List Deferred) (rest : List Nat) (b : Frame) (k : List Item) (cs : List Frame) : ∀ (l : List Nat) (a : Act) (w : World), wpOps P ops (QN K) l a w →
    ∃ a' w', K a' w' ∧ Steps P (lone (b.atR (Act.more a D) (.inRegion ops (l ++ rest) :: k)) cs w) (lone (b.atR (Act.more a' D) (.inRegion ops rest :: k)) cs w')
  | [], a, w, h => ⟨a, w, h, .refl _ _⟩
  | i :: l, a, w, h => by
    simp only [wpOps] at h
    cases ho : ops[i]? with
    | none =>
      simp only [ho] at h
      obtain ⟨a', w', hq, hs⟩ := opsG hnd D rest b k cs l a w h
      have h1 := stepR_op_skip (P := P) (b := b) (a := Act.more a D) (k := k) (cs := cs) (w := w) (ops := ops) (i := i) (rest := l ++ rest) (by simp [ho])
      simp only [ho, Option.bind_none, Act.put] at h1
      exact ⟨a', w', hq, .head h1 hs⟩
    | some o =>
      simp only [ho] at h
      by_cases hw : Region.wanted o (yielded ops a.tmps) = true
      · simp only [hw, if_true] at h
        rcases h with h | ⟨_, a0, w1, hq⟩
        case inr => exact hq.elim
        simp only [Oper.wp] at h
        have hg := stepGR_op (P := P) (b := b) (a := Act.more a D) (k := k) (cs := cs) (w := w) (rest := l ++ rest) ho hw
        rw [Oper.semAt_eq _ _ _ (hnd i o · ho), more_eval] at hg
        have hfin : ∀ v, (b.atR (Act.more a D) (.inRegion ops (i :: (l ++ rest)) :: k)).finish v = b.atR (Act.more (a.put o.dst v) D) (.inRegion ops (l ++ rest) :: k) := by
          intro v; rw [Frame.finish_atR, ho, ← more_put]; rfl
        generalize hr : (execOp a.eval o).run P w = r at h
        rw [List.cons_append]
        cases r with
        | halt x w1 => cases x <;> first | exact h.elim | exact False.elim h
        | ok n w1 =>
          cases n <;> simp only [Oper.upon] at h
          case value v =>
            obtain ⟨a', w', hq, hs⟩ := opsG hnd D rest b k cs l _ _ h
            refine ⟨a', w', hq, .head (step_lone_go ?_) hs⟩
            rw [hg, ← hfin]; simp [stepG.apply, Sem.runT_eq, hr]
          case skip =>
            obtain ⟨a', w', hq, hs⟩ := opsG hnd D rest b k cs l _ _ h
            refine ⟨a', w', hq, .head (step_lone_go ?_) hs⟩
            rw [hg, ← hfin]; simp [stepG.apply, Sem.runT_eq, hr]
          case enter f args =>
            obtain ⟨x, w2, fr, hR, hsteps, _, hleave⟩ := h (b.atR (Act.more a D) (.inRegion ops (i :: (l ++ rest)) :: k) :: cs)
            have henter : step P (lone (b.atR (Act.more a D) (.inRegion ops (i :: (l ++ rest)) :: k)) cs w) =
                .next (lone (Frame.enter P f args .normal) (b.atR (Act.more a D) (.inRegion ops (i :: (l ++ rest)) :: k) :: cs) w1) :=
              step_lone_go (by rw [hg]; simp [stepG.apply, Sem.runT_eq, hr, Frame.atR])
            cases x with
            | returned v =>
              obtain ⟨a', w', hq, hs⟩ := opsG hnd D rest b k cs l _ _ hR
              refine ⟨a', w', hq, .head henter (Steps.trans hsteps (.head ?_ hs))⟩
              rw [← hfin]; exact step_leave_returned hleave
            | panicked chain => exact hR.elim
            | outgrown => obtain ⟨_, _, hq⟩ := hR; exact hq.elim
          case row row args =>
            obtain ⟨v, w2, hR, hsteps⟩ := h (b.atR (Act.more a D) (.inRegion ops (i :: (l ++ rest)) :: k)) cs
            have henter : step P (lone (b.atR (Act.more a D) (.inRegion ops (i :: (l ++ rest)) :: k)) cs w) =
                .next (lone (Frame.ofRow P row args .normal) (b.atR (Act.more a D) (.inRegion ops (i :: (l ++ rest)) :: k) :: cs) w1) :=
              step_lone_go (by rw [hg]; simp [stepG.apply, Sem.runT_eq, hr, Frame.atR])
            obtain ⟨a', w', hq, hs⟩ := opsG hnd D rest b k cs l _ _ hR
            refine ⟨a', w', hq, .head henter (Steps.trans hsteps ?_)⟩
            rw [hfin]; exact hs
          case defer d =>
            obtain ⟨a', w', hq, hs⟩ := opsG hnd D rest b k cs l _ _ h
            refine ⟨a', w', hq, .head (step_lone_go ?_) hs⟩
            have e1 : ({ b.atR (Act.more a D) (.inRegion ops (i :: (l ++ rest)) :: k) with defers := d :: (a.defers ++ D) } : Frame).finish undef = b.atR (Act.more (({ a with defers := d :: a.defers } : Go.Act).put o.dst undef) D) (.inRegion ops (l ++ rest) :: k) := by
              have := Frame.finish_atR b { Act.more a D with defers := d :: (a.defers ++ D) } ops i (l ++ rest) k undef
              rw [ho] at this
              rw [← more_put]; exact this
            rw [hg]
            simp only [stepG.apply, Sem.runT_eq, hr, GStep.bare_after]
            exact congrArg (fun fr => GStep.go { frame := fr, callers := cs, status := .running, dying := none } w1) e1
      · have hw' : Region.wanted o (yielded ops (Act.more a D).tmps) = false := by rw [show (Act.more a D).tmps = a.tmps from rfl]; simpa using hw
        simp only [hw, if_false, Bool.false_eq_true] at h
        obtain ⟨a', w', hq, hs⟩ := opsG hnd D rest b k cs l _ _ h
        have h1 := stepR_op_skip (P := P) (b := b) (a := Act.more a D) (k := k) (cs := cs) (w := w) (ops := ops) (i := i) (rest := l ++ rest) (by simp [ho, hw'])
        rw [ho, more_put] at h1
        exact ⟨a', w', hq, .head h1 hs⟩
end
section
variable {P : Program} {T : Tbl} {ops : Array Oper}
theorem wpOps_of_wpT {K : Act → World → Prop} : ∀ (l : List Oper) (k : Nat), (∀ (j : Nat) o, l[j]? = some o → ops[k + j]? = some o) → ∀ (a : Act) (w : World), wpT P T ops [] K k l a w → wpOps P ops (QN K) (List.range' k l.length) a w
  | [], _, _, _, _, h => h
  | o :: l, k, hl, a, w, h => by
    have h0 : ops[k]? = some o := hl 0 o rfl
    rw [List.length_cons, List.range'_succ, wpOps_cons]
    refine tI_wpOp (T := T) (HL := []) (K := wpT P T ops [] K (k + 1) l) (fun a w hh => wpOps_of_wpT l (k + 1) (fun j o hj => ?_) a w hh) ?_
    · have := hl (j + 1) o (by simpa using hj)
      rwa [show k + (j + 1) = k + 1 + j by omega] at this
    · unfold tI; simp only [h0]; exact h
end
theorem wpAny_text {P : Program} {T : Tbl} {HL : Held} {ops : Array Oper} {Q : Exit → Act → World → Prop} {a : Act} {w : World} (hB : regionOk T (skel HL) ops = true) (h : wpT P T ops HL (Q .normal) 0 ops.toList a w) : wpAny P .any ops Q ops.size (Array.replicate ops.size false) a w := by
  simp only [regionOk, Bool.and_eq_true] at hB
  have hok : ∀ i o, ops[i]? = some o → okAt T (skel HL) ops (anc ops.toList []) i o = true := fun i o ho => by
    have := okFrom_spec ops.toList 0 hB.2 i o (by simpa using ho)
    rwa [Nat.zero_add] at this
  have hun : unlisted ops (Array.replicate ops.size false) = List.range ops.size := by
    refine List.filter_eq_self.2 fun x hx => ?_
    have := List.mem_range.1 hx
    simp [this]
  refine wpAny_of_text (T := T) (HL := HL) (Region.noSelect_spec hB.1) hok _ _ a _ ⟨by simp, fun j oj _ hl => ?_⟩ ?_ ?_
  · exfalso
    rcases Nat.lt_or_ge j ops.size with h' | h'
    · simp [h'] at hl
    · simp [h'] at hl
  · rw [hun]; simp
  · rw [hun, List.range_eq_range', ← Array.length_toList]
    exact wpI_of_wpT ops.toList 0 (by simp) a _ h
/-- What is to be shown of a frame with marks D among its deferred calls, or of a round's frame. -/
structure XG (P : Program) (w0 : World) (b : Frame) (D : List Deferred) (n : Nat) (fin : List Frame → Machine → Prop) (todo : List Item) (e : Env) (H : List HProp) : Prop where
  run : ∀ cs w, Rel w0 H w → (b.roundOf = none ∨ ∃ c' cs', cs = c' :: cs') → ∃ m, Steps P (lone (b.atR (Act.more (e.act n) D) todo) cs w) m ∧ fin cs m
section
variable {P : Program} {T : Tbl} {w0 : World} {b : Frame} {D : List Deferred} {n : Nat} {fin : List Frame → Machine → Prop} {k : List Item} {e : Env} {H : List HProp}
theorem XG.ent {H' : List HProp} (x : Ent H H') (h : XG P w0 b D n fin k e H') : XG P w0 b D n fin k e H := ⟨fun cs w hr => h.run cs w (hr.ent x)⟩
theorem XG.step {k' : List Item} (hs : ∀ cs w, step P (lone (b.atR (Act.more (e.act n) D) k) cs w) = .next (lone (b.atR (Act.more (e.act n) D) k') cs w)) (h : XG P w0 b D n fin k' e H) : XG P w0 b D n fin k e H := ⟨fun cs w hr hc =>
  let ⟨m, hst, hf⟩ := h.run cs w hr hc; ⟨m, .head (hs cs w) hst, hf⟩⟩
theorem XG.seq {x y : Code} (h : XG P w0 b D n fin (.code x :: .code y :: k) e H) : XG P w0 b D n fin (.code (.seq x y) :: k) e H := .step (fun _ _ => stepR_seq) h
theorem XG.skip (h : XG P w0 b D n fin k e H) : XG P w0 b D n fin (.code .skip :: k) e H := .step (fun _ _ => stepR_skip) h
theorem XG.block {id : Nat} {c : Code} (h : XG P w0 b D n fin (.code c :: .inBlock id :: k) e H) : XG P w0 b D n fin (.code (.block id c) :: k) e H := .step (fun _ _ => stepR_block) h
theorem XG.inBlock {id : Nat} (h : XG P w0 b D n fin k e H) : XG P w0 b D n fin (.inBlock id :: k) e H := .step (fun _ _ => stepR_inBlock) h
theorem XG.cond {c : Operand} {x y : Code} {t : Bool} (hc : e.ev n c = .bool t) (h : XG P w0 b D n fin (.code (if t then x else y) :: k) e H) : XG P w0 b D n fin (.code (.cond c x y) :: k) e H :=
  .step (fun _ _ => stepR_cond (by rw [more_eval, Env.act_eval]; exact hc)) h
theorem XG.region {id : Nat} {l : List Oper} (hnd : noDef l = true) (h : XO P T w0 n [] l.toArray (XG P w0 b D n fin k) 0 l e H) : XG P w0 b D n fin (.code (.region id l.toArray false) :: k) e H := by
  constructor
  intro cs w hr hc
  have h1 := wpOps_of_wpT (ops := l.toArray) l 0 (fun j o hj => by simpa using hj) _ _ (h.run w hr)
  obtain ⟨a', w', ⟨e', H', rfl, hr', hx⟩, hs⟩ := opsG (fun i o c ho => noDef_spec hnd i o c (by simpa using ho)) D [] b k cs _ _ _ h1
  obtain ⟨m, hst, hf⟩ := hx.run cs w' hr' hc
  rw [show List.range' 0 l.length ++ [] = List.range l.toArray.size by rw [List.append_nil, ← List.range_eq_range']; rfl] at hs
  exact ⟨m, .head stepR_region (Steps.trans hs (.head stepR_region_end hst)), hf⟩
theorem XG.draw {id : Nat} {l : List Oper} (hm : P.follows .mixedOrders = true) (hB : regionOk T [] l.toArray = true) (hnd : noDef l = true) (h : XO P T w0 n [] l.toArray (XG P w0 b D n fin k) 0 l e H) : XG P w0 b D n fin (.code (.region id l.toArray true) :: k) e H := by
  constructor
  intro cs w hr hc
  have hall : ∀ t, wpOps P l.toArray (QN fun a w' => ∃ e' H', a = e'.act n ∧ Rel w0 H' w' ∧ XG P w0 b D n fin k e' H') (Region.schedule (P.follows .mixedOrders) l.toArray t) (e.act n) { w with drawn := w.drawn + 1 } := fun t => by
    simp only [Region.schedule, hm, Bool.true_or, if_true]
    exact wpAny_sound l.toArray.size t _ _ _ (wpAny_text (T := T) (HL := []) (Q := QN fun a w' => ∃ e' H', a = e'.act n ∧ Rel w0 H' w' ∧ XG P w0 b D n fin k e' H') hB (h.run _ hr.drew))
  obtain ⟨a', w', ⟨e', H', rfl, hr', hx⟩, hs⟩ := opsG (fun i o c ho => noDef_spec hnd i o c (by simpa using ho)) D [] b k cs _ _ _ (hall (w.tape w.drawn (.order b.fn id)))
  obtain ⟨m, hst, hf⟩ := hx.run cs w' hr' hc
  rw [List.append_nil] at hs
  exact ⟨m, .head stepR_region_draw (Steps.trans hs (.head stepR_region_end hst)), hf⟩
theorem XG.drawH {id : Nat} {l : List Oper} (HL : Held) (sk : List (Nat × List Nat)) (hsk : skel HL = sk) (hm : P.follows .mixedOrders = true) (hB : regionOk T sk l.toArray = true) (hnd : noDef l = true) (h : XO P T w0 n HL l.toArray (XG P w0 b D n fin k) 0 l e H) : XG P w0 b D n fin (.code (.region id l.toArray true) :: k) e H := by
  constructor
  intro cs w hr hc
  have hall : ∀ t, wpOps P l.toArray (QN fun a w' => ∃ e' H', a = e'.act n ∧ Rel w0 H' w' ∧ XG P w0 b D n fin k e' H') (Region.schedule (P.follows .mixedOrders) l.toArray t) (e.act n) { w with drawn := w.drawn + 1 } := fun t => by
    simp only [Region.schedule, hm, Bool.true_or, if_true]
    exact wpAny_sound l.toArray.size t _ _ _ (wpAny_text (T := T) (HL := HL) (Q := QN fun a w' => ∃ e' H', a = e'.act n ∧ Rel w0 H' w' ∧ XG P w0 b D n fin k e' H') (by rw [hsk]; exact hB) (h.run _ hr.drew))
  obtain ⟨a', w', ⟨e', H', rfl, hr', hx⟩, hs⟩ := opsG (fun i o c ho => noDef_spec hnd i o c (by simpa using ho)) D [] b k cs _ _ _ (hall (w.tape w.drawn (.order b.fn id)))
  obtain ⟨m, hst, hf⟩ := hx.run cs w' hr' hc
  rw [List.append_nil] at hs
  exact ⟨m, .head stepR_region_draw (Steps.trans hs (.head stepR_region_end hst)), hf⟩
end
/-! ### the loop's record -/
/-- The record of a loop that nothing has left. -/
def lpc (L : Nat) (st : LoopState) (fn : FuncId) (tm : Array Value) (ps : Array Tmp) (ars bd : Code) (Db : Nat) : HProp := blk L (.loop ⟨st, none, fn, tm, ps, ars, bd, Db⟩)
def mark (Db : Nat) : List Deferred := [{ target := .collected Db, args := #[] }]
theorem Rel.putObj {w0 w : World} {F : List HProp} {r : Nat} {o : Obj} (o' : Obj) (h : Rel w0 (blk r o :: F) w) : Rel w0 (blk r o' :: F) (w.putObj r o') := by
  have hg := h.get
  have hlt : r < w.heap.size := (Array.getElem?_eq_some_iff.1 hg).1
  exact h.set rfl rfl rfl (by simp) (World.putObj_heap_same hlt) (fun k hk => World.putObj_heap_other hk)
/-- A function's frame is left. -/
def finF (P : Program) (w0 : World) (f : FuncId) (R : Value → List HProp → Prop) (cs : List Frame) (m : Machine) : Prop := ∃ v w' fr H', m = lone fr cs w' ∧ R v H' ∧ Rel w0 H' w' ∧ fr.fn = f ∧ fr.leaving P w' (.returned v)
/-- A round has ended: its caller goes on. -/
def finR (w0 : World) (R : Value → List HProp → Prop) (cs : List Frame) (m : Machine) : Prop := ∃ c cs' v w' H', cs = c :: cs' ∧ m = lone (c.finish v) cs' w' ∧ R v H' ∧ Rel w0 H' w'
section
variable {P : Program} {T : Tbl} {w0 : World} {b : Frame} {D : List Deferred} {n : Nat} {fin : List Frame → Machine → Prop} {k : List Item} {e : Env} {H F : List HProp} {R : Value → List HProp → Prop}
variable {L Db : Nat} {fn : FuncId} {tm : Array Value} {ps : Array Tmp} {ars bd : Code}
theorem XG.begin (hb : b.roundOf = some L) (h : XG P w0 b D n fin k e (lpc L .busy fn tm ps ars bd Db :: F)) : XG P w0 b D n fin (.beginRound :: k) e (lpc L .ready fn tm ps ars bd Db :: F) := by
  constructor
  intro cs w hr hc
  have h1 := run_beginRound (P := P) hr.get rfl
  obtain ⟨m, hst, hf⟩ := h.run cs _ (hr.putObj (.loop ⟨.busy, none, fn, tm, ps, ars, bd, Db⟩)) hc
  exact ⟨m, .head (stepR_beginRound hb h1) hst, hf⟩
theorem XG.endR (hb : b.roundOf = some L) (hk : b.kind = .normal) (h : R (.bool true) (lpc L .ready fn tm ps ars bd Db :: F)) : XG P w0 b D n (finR w0 R) [] e (lpc L .busy fn tm ps ars bd Db :: F) := by
  constructor
  intro cs w hr hc
  obtain ⟨c, cs, rfl⟩ : ∃ c' cs', cs = c' :: cs' := by
    rcases hc with hc | hc
    · rw [hb] at hc; cases hc
    · exact hc
  have h1 := run_endRound (P := P) none hr.get
  exact ⟨_, .one (stepR_round_end hb hk h1), c, cs, _, _, _, rfl, rfl, h, hr.putObj _⟩
theorem XG.retM {rs : List ResultVar} {vs : List Value} (hT : T.Ok P) (hF : Fr P b rs) (hro : b.roundOf = none) (hR : ResOk T w0 (blk Db (.deferred none) :: F) e n rs vs) (h : Out R (tup vs) (blk Db (.deferred none) :: F)) :
    XG P w0 b (mark Db) n (finF P w0 b.fn R) (.code .ret :: k) e (blk Db (.deferred (some [])) :: F) := by
  obtain ⟨hk, fn, hf, hres⟩ := hF
  obtain ⟨H', x, h⟩ := h
  constructor
  intro cs w hr hc
  have hr' := hr.putObj (.deferred none)
  have h1 := step_collected (P := P) (fr := { b.atR (Act.more (e.act n) (mark Db)) (.code .ret :: k) with mode := .returning }) (cs := cs) (d := { target := .collected Db, args := #[] }) (ds := []) (by simp) rfl rfl (run_takeDeferred hr.get)
  refine ⟨_, .head (stepR_ret hro) (.one h1), tup vs, _, _, H', rfl, h, hr'.ent x, rfl, rfl, rfl, hk, fn, hf, ?_⟩
  have := ResOk.run hT hr' hR
  show (results fn (e.act n).tmps).run P _ = _
  rw [results_eq, hres, Sem.run_bind, Array.mapM_eq_mapM_toList, Sem.run_map, this]
  cases vs with
  | nil => rfl
  | cons v vs => cases vs <;> simp [tup]
/-- The statement. -/
theorem XS.rangeFunc {g : Operand} {f : FuncId} {first cap : Array Value} (hg : e.ev n g = .func (.func f) first cap) (hf : callOk P f = true)
    (h : ∀ L Db, Tri P f ⟨first.toList ++ [.func (.yield L) #[] #[]] ++ cap.toList⟩ w0 (lpc L .ready b.fn (e.act n).tmps ps ars bd Db :: blk Db (.deferred (some [])) :: H)
      fun _ H' => ∃ H2, Ent H' (lpc L .ready b.fn (e.act n).tmps ps ars bd Db :: H2) ∧ XG P w0 { b with roundOf := none } (mark Db) n (finF P w0 b.fn R) k e H2) :
    XS P w0 b n R (.code (.rangeFunc g ps ars bd) :: k) e H := by
  constructor
  intro cs w hr
  have e0 : ∀ todo, b.at (e.act n) todo = ({ b with roundOf := none } : Frame).atR (e.act n) todo := fun todo => (Frame.atR_of_none (b := { b with roundOf := none }) rfl _ _).symm
  rw [e0]
  have hen := run_enterLoop_outer (P := P) (w := w) b.fn (e.act n).tmps ps ars bd
  have hr1 : Rel w0 (lpc (w.heap.size + 1) .ready b.fn (e.act n).tmps ps ars bd w.heap.size :: blk w.heap.size (.deferred (some [])) :: H) ((w.alloc (.deferred (some []))).alloc (.loop { state := .ready, pending := none, fn := b.fn, tmps := (e.act n).tmps, params := ps, assign := ars, body := bd, defers := w.heap.size })) := by
    have h2 := (hr.alloc (.deferred (some []))).alloc (.loop { state := .ready, pending := none, fn := b.fn, tmps := (e.act n).tmps, params := ps, assign := ars, body := bd, defers := w.heap.size })
    have hs : ({ w with heap := w.heap.push (.deferred (some [])) } : World).heap.size = w.heap.size + 1 := by simp
    rw [hs] at h2
    exact h2
  generalize hw1 : ((w.alloc (.deferred (some []))).alloc (.loop { state := .ready, pending := none, fn := b.fn, tmps := (e.act n).tmps, params := ps, assign := ars, body := bd, defers := w.heap.size })) = w1 at hen hr1
  have hres : (resolve (e.act n).eval (rangeCall g (w.heap.size + 1)) 0).run P w1 = .ok ⟨.fn (.func f) cap, first ++ #[.func (.yield (w.heap.size + 1)) #[] #[]]⟩ w1 := by
    have ha : e.ev n (.const (.func (.yield (w.heap.size + 1)) #[] #[])) = .func (.yield (w.heap.size + 1)) #[] #[] := rfl
    simp [resolve, Env.act_eval, hg, Deferred.ofValue, ha]
  have hinv : (invoke (.fn (.func f) cap) (first ++ #[.func (.yield (w.heap.size + 1)) #[] #[]])).run P w1 = .ok (.enter f ⟨first.toList ++ [.func (.yield (w.heap.size + 1)) #[] #[]] ++ cap.toList⟩) w1 := by
    rw [show (⟨first.toList ++ [.func (.yield (w.heap.size + 1)) #[] #[]] ++ cap.toList⟩ : Array Value) = first ++ #[.func (.yield (w.heap.size + 1)) #[] #[]] ++ cap by apply Array.ext'; simp]
    simp only [invoke, run_callFunc hf]
  have s1 := stepR_rangeFunc (P := P) (b := { b with roundOf := none }) (a := e.act n) (k := k) (cs := cs) (w := w) hen hres hinv
  obtain ⟨x, w3, fr, ⟨v, H', rfl, hr3, H2, hx, hG⟩, hst, _, hlv⟩ := (h _ _).run w1 hr1 (({ b with roundOf := none } : Frame).atR { (e.act n) with defers := mark w.heap.size ++ (e.act n).defers } (.inRangeFunc (w.heap.size + 1) :: k) :: cs)
  have hr4 := hr3.ent hx
  have hend := run_endLoop (P := P) hr4.get (by simp)
  have s2 := step_leave_returned (c := ({ b with roundOf := none } : Frame).atR { (e.act n) with defers := mark w.heap.size ++ (e.act n).defers } (.inRangeFunc (w.heap.size + 1) :: k)) (cs := cs) hlv
  rw [finish_atR_inRangeFunc] at s2
  have s3 := stepR_endRangeFunc (P := P) (b := { b with roundOf := none }) (a := { (e.act n) with defers := mark w.heap.size ++ (e.act n).defers }) (k := k) (cs := cs) hend
  obtain ⟨m, hs4, v4, w4, fr4, H4, rfl, h41, h42, h43, h44⟩ := hG.run cs _ ((hr4.putObj _).ent (Ent.drop _ _)) (.inl rfl)
  exact ⟨v4, w4, fr4, H4, h41, h42, .head s1 (Steps.trans hst (.head s2 (.head s3 hs4))), h43, h44⟩
end
/-! ### a call of the round -/
/-- What a call of yield does. -/
structure YTri (P : Program) (w0 : World) (L : Nat) (args : Array Value) (H : List HProp) (R : Value → List HProp → Prop) : Prop where
  run : ∀ w, Rel w0 H w → ∃ f tmps ars bd, (Instr.yield L args).run P w = .ok (.round L f tmps ars bd) w ∧ ∀ c cs, ∃ v w' H', R v H' ∧ Rel w0 H' w' ∧ Steps P (lone (Frame.round L f tmps ars bd .normal) (c :: cs) w) (lone (c.finish v) cs w')
section
variable {P : Program} {T : Tbl} {w0 : World} {b : Frame} {n : Nat} {k : List Item} {e : Env} {H F : List HProp} {R : Value → List HProp → Prop}
variable {L Db : Nat} {fn : FuncId} {ars bd : Code}
theorem YTri.ent {args : Array Value} {H' : List HProp} (x : Ent H H') (h : YTri P w0 L args H' R) : YTri P w0 L args H R := ⟨fun w hr => h.run w (hr.ent x)⟩
theorem YTri.mono {args : Array Value} {R' : Value → List HProp → Prop} (h : YTri P w0 L args H R) (k : ∀ v H', R v H' → R' v H') : YTri P w0 L args H R' := ⟨fun w hr =>
  let ⟨f, tm, ars, bd, h1, h2⟩ := h.run w hr; ⟨f, tm, ars, bd, h1, fun c cs => let ⟨v, w', H', h3, h4, h5⟩ := h2 c cs; ⟨v, w', H', k _ _ h3, h4, h5⟩⟩⟩
theorem act_set (e : Env) (n p : Nat) (x : Value) (_h : p < n) : (e.act n).tmps.setIfInBounds p x = ((e.upd p x).act n).tmps := by
  apply Array.ext'
  apply List.ext_getElem?
  intro j
  simp only [Env.act, Array.toList_setIfInBounds, List.getElem?_set, List.getElem?_map, List.length_map, List.length_range]
  by_cases hj : j < n
  · by_cases hp : p = j
    · subst hp; simp [hj, Env.upd]
    · rw [if_neg hp]; simp [hj, Env.upd, Ne.symm hp]
  · simp [hj]
    intro h1; omega
/-- The round's frame. -/
abbrev roundFr (fn : FuncId) (L : Nat) : Frame := { (default : Frame) with fn := fn, kind := .normal, roundOf := some L }
theorem YTri.of_body {p : Tmp} {x : Value} (hp : p < n) (h : XG P w0 (roundFr fn L) [] n (finR w0 R) [.code ars, .beginRound, .code bd] (e.upd p x) (lpc L .ready fn (e.act n).tmps #[p] ars bd Db :: F)) :
    YTri P w0 L #[x] (lpc L .ready fn (e.act n).tmps #[p] ars bd Db :: F) R := by
  constructor
  intro w hr
  refine ⟨_, _, _, _, run_yield hr.get rfl, fun c cs => ?_⟩
  obtain ⟨m, hst, c', cs', v, w', H', hcs, rfl, hR, hr'⟩ := h.run (c :: cs) w hr (.inr ⟨c, cs, rfl⟩)
  injection hcs with h1 h2
  subst h1; subst h2
  refine ⟨v, w', H', hR, hr', ?_⟩
  have e1 : Frame.round L fn (((#[p] : Array Tmp).zip #[x]).foldl (fun tmps (t, a) => tmps.setIfInBounds t a) (e.act n).tmps) ars bd .normal = (roundFr fn L).atR (Act.more ((e.upd p x).act n) []) [.code ars, .beginRound, .code bd] := by
    have h3 : ((#[p] : Array Tmp).zip #[x]).foldl (fun tmps (t, a) => tmps.setIfInBounds t a) (e.act n).tmps = ((e.upd p x).act n).tmps := by simpa using act_set e n p x hp
    rw [h3]; rfl
  rw [e1]; exact hst
/-- A region with one call of yield in it. -/
def Yop (P : Program) (w0 : World) (n : Nat) (ops : Array Oper) (o : Oper) (J : Env → List HProp → Prop) (e : Env) (H : List HProp) : Prop :=
  (wantedE ops e n o = false ∧ J (e.put o.dst undef) H) ∨
    (wantedE ops e n o = true ∧ ∃ x xs ts L args, o.op = .call { callee := .value x, args := xs, argTypes := ts } ∧ e.ev n x = .func (.yield L) #[] #[] ∧ evL (e.ev n) xs.toList = some args ∧ YTri P w0 L ⟨args⟩ H fun v H' => J (e.put o.dst v) H')
theorem XS.regionY {id : Nat} (pre : List Oper) (o : Oper) (post : List Oper) {l : List Oper} (hl : l = pre ++ o :: post) (hn1 : noDef l = true)
    (h : XO P T w0 n [] l.toArray (Yop P w0 n l.toArray o fun e' H' => XO P T w0 n [] l.toArray (XS P w0 b n R k) (pre.length + 1) post e' H') 0 pre e H) : XS P w0 b n R (.code (.region id l.toArray false) :: k) e H := by
  have hnd : ∀ (i : Nat) o c, l.toArray[i]? = some o → o.op ≠ .defer c := fun i o c ho => noDef_spec hn1 i o c (by simpa using ho)
  have ho : l.toArray[pre.length]? = some o := by simp [hl]
  have hrange : List.range l.toArray.size = List.range' 0 pre.length ++ (pre.length :: List.range' (pre.length + 1) post.length) := by
    have h1 := List.range'_append_1 (s := 0) (m := pre.length) (n := post.length + 1)
    rw [Nat.zero_add] at h1
    rw [List.range_eq_range', ← List.range'_succ, h1]
    simp [hl]
  have eat : ∀ (e : Env) todo, b.at (e.act n) todo = ({ b with roundOf := none } : Frame).atR (Act.more (e.act n) []) todo := fun e todo => (Frame.atR_of_none (b := { b with roundOf := none }) rfl _ _).symm
  constructor
  intro cs w hr
  rw [eat]
  have h1 := wpOps_of_wpT (ops := l.toArray) pre 0 (fun j o hj => by
    have hlt := (List.getElem?_eq_some_iff.1 hj).1
    simp [hl, List.getElem?_append_left hlt, hj]) _ _ (h.run w hr)
  obtain ⟨a1, w1, ⟨e1, H1, rfl, hr1, hy⟩, hs1⟩ := opsG hnd [] (pre.length :: List.range' (pre.length + 1) post.length) { b with roundOf := none } k cs _ _ _ h1
  rw [← hrange] at hs1
  -- behind the call
  have key : ∀ (e2 : Env) (H2 : List HProp) (w2 : World), Rel w0 H2 w2 → XO P T w0 n [] l.toArray (XS P w0 b n R k) (pre.length + 1) post e2 H2 →
      ∃ v w' fr H', R v H' ∧ Rel w0 H' w' ∧ Steps P (lone (({ b with roundOf := none } : Frame).atR (Act.more (e2.act n) []) (.inRegion l.toArray (List.range' (pre.length + 1) post.length) :: k)) cs w2) (lone fr cs w') ∧ fr.fn = b.fn ∧ fr.leaving P w' (.returned v) := by
    intro e2 H2 w2 hr2 hx
    have h2 := wpOps_of_wpT (ops := l.toArray) post (pre.length + 1) (fun j o hj => by
      simp only [hl, List.getElem?_toArray]
      rw [List.getElem?_append_right (by omega), show pre.length + 1 + j - pre.length = j + 1 by omega]
      simpa using hj) _ _ (hx.run w2 hr2)
    obtain ⟨a3, w3, ⟨e3, H3, rfl, hr3, hS⟩, hs3⟩ := opsG hnd [] [] { b with roundOf := none } k cs _ _ _ h2
    rw [List.append_nil] at hs3
    obtain ⟨v, w', fr, H', g1, g2, g3, g4⟩ := hS.run cs w3 hr3
    rw [eat] at g3
    exact ⟨v, w', fr, H', g1, g2, Steps.trans hs3 (.head stepR_region_end g3), g4⟩
  have hput : ∀ (d : Option Tmp) (v : Value), (Act.more (e1.act n) []).put d v = Act.more ((e1.put d v).act n) [] := fun d v => by rw [more_put, ← Env.act_put]
  rcases hy with ⟨hw, hx⟩ | ⟨hw, x, xs, ts, L, args, hop, hxv, hargs, hY⟩
  · have hw' : Region.wanted o (yielded l.toArray (Act.more (e1.act n) []).tmps) = false := by rw [show (Act.more (e1.act n) []).tmps = (e1.act n).tmps from rfl, wantedE_eq]; exact hw
    have s1 := stepR_op_skip (P := P) (b := { b with roundOf := none }) (a := Act.more (e1.act n) []) (k := k) (cs := cs) (w := w1) (ops := l.toArray) (i := pre.length) (rest := List.range' (pre.length + 1) post.length) (by rw [ho]; exact hw')
    rw [ho, Option.bind_some, hput] at s1
    obtain ⟨v, w', fr, H', g1, g2, g3, g4⟩ := key _ _ _ hr1 hx
    exact ⟨v, w', fr, H', g1, g2, .head stepR_region (Steps.trans hs1 (.head s1 g3)), g4⟩
  · have hw' : Region.wanted o (yielded l.toArray (Act.more (e1.act n) []).tmps) = true := by rw [show (Act.more (e1.act n) []).tmps = (e1.act n).tmps from rfl, wantedE_eq]; exact hw
    obtain ⟨f, tmps, ars, bd, hrun, hgo⟩ := hY.run w1 hr1
    have hg := stepGR_op (P := P) (b := { b with roundOf := none }) (a := Act.more (e1.act n) []) (k := k) (cs := cs) (w := w1) (rest := List.range' (pre.length + 1) post.length) ho hw'
    rw [Oper.semAt_eq _ _ _ (hnd _ o · ho), more_eval] at hg
    have h1 : xs.map (e1.ev n) = ⟨args⟩ := by apply Array.ext'; simpa using evL_eq hargs
    have hex : (execOp (e1.act n).eval o).run P w1 = .ok (.round L f tmps ars bd) w1 := by
      rw [Env.act_eval]
      simp [execOp, hop, resolve, hxv, Deferred.ofValue, invoke, h1, hrun]
    obtain ⟨v, w2, H2, hJ, hr2, hs2⟩ := hgo (({ b with roundOf := none } : Frame).atR (Act.more (e1.act n) []) (.inRegion l.toArray (pre.length :: List.range' (pre.length + 1) post.length) :: k)) cs
    have s1 : Go.step P (lone (({ b with roundOf := none } : Frame).atR (Act.more (e1.act n) []) (.inRegion l.toArray (pre.length :: List.range' (pre.length + 1) post.length) :: k)) cs w1) =
        .next (lone (Frame.round L f tmps ars bd .normal) (({ b with roundOf := none } : Frame).atR (Act.more (e1.act n) []) (.inRegion l.toArray (pre.length :: List.range' (pre.length + 1) post.length) :: k) :: cs) w1) :=
      step_lone_go (by rw [hg]; simp [stepG.apply, Sem.runT_eq, hex, Frame.atR])
    rw [Frame.finish_atR, ho, Option.bind_some, hput] at hs2
    obtain ⟨v, w', fr, H', g1, g2, g3, g4⟩ := key _ _ _ hr2 hJ
    exact ⟨v, w', fr, H', g1, g2, .head stepR_region (Steps.trans hs1 (.head s1 (Steps.trans hs2 g3))), g4⟩
end
end Go.Sx
