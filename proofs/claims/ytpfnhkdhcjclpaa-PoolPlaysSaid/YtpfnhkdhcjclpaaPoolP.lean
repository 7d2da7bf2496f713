/- The document's pool as the program has it: a chunk, its small functions. Conditions: none. -/
import Derived.Test.YtpfnhkdhcjclpaaPoolG
import Derived.Test.YtpfnhkdhcjclpaaPoolN
namespace Go.Proofs.Ytpfnhkdhcjclpaa
open Go Go.Sx Go.WheelM Go.PoolM
variable {w0 : World} {F H : List HProp} {K : Value → List HProp → Prop}
def cenc : Int × Lk → List Value
  | (n, ⟨h, b, u⟩) => [kI n, kI h, kI b, .bool u]
theorem cenc_len : ∀ x, (cenc x).length = 4 := fun _ => rfl
theorem cenc_all : ∀ x, (cenc x).all (·.oneCell') = true := fun _ => rfl
abbrev rhead (r : Nat) (most pend opened : Int) (a : Option Addr) (n c : Nat) (a2 : Option Addr) (n2 c2 : Nat) : HProp := cel r 64 [kI most, kI pend, kI opened, .slice a n c, .slice a2 n2 c2]
abbrev crow (a : Option Addr) (c : Nat) (cs : List (Int × Lk)) : HProp := Row a c 136 4 cs.length (flat cenc cs)
abbrev qrow (a : Option Addr) (c : Nat) (qs : List (Int × Int)) : HProp := Row a c 134 2 qs.length (flat wenc qs)
abbrev rparts (r : Nat) (S : PS) (a : Option Addr) (c : Nat) (a2 : Option Addr) (c2 : Nat) : List HProp := [rhead r S.most S.pend S.opened a S.conns.length c a2 S.queue.length c2, crow a c S.conns, qrow a2 c2 S.queue]
def rpool (r : Nat) (S : PS) : HProp := hex fun q : (Option Addr × Nat) × Option Addr × Nat => stars (rparts r S q.1.1 q.1.2 q.2.1 q.2.2)
theorem rpool_mk {r c c2 : Nat} {a a2 : Option Addr} {S : PS} : Ent (rhead r S.most S.pend S.opened a S.conns.length c a2 S.queue.length c2 :: crow a c S.conns :: qrow a2 c2 S.queue :: F) (rpool r S :: F) :=
  Ent.trans Ent.pack3 (Ent.hex (f := fun q : (Option Addr × Nat) × Option Addr × Nat => stars (rparts r S q.1.1 q.1.2 q.2.1 q.2.2)) ((a, c), a2, c2))
theorem rpool_open {r : Nat} {S : PS} {f : FuncId} {args : Array Value} (h : ∀ a c a2 c2, Tri Try.prog f args w0 (rhead r S.most S.pend S.opened a S.conns.length c a2 S.queue.length c2 :: crow a c S.conns :: qrow a2 c2 S.queue :: F) K) : Tri Try.prog f args w0 (rpool r S :: F) K :=
  Tri.ex (ι := (Option Addr × Nat) × Option Addr × Nat) (H' := fun q => rparts r S q.1.1 q.1.2 q.2.1 q.2.2 ++ F)
    (fun _ hr => let ⟨q, hq⟩ := hr.hex; ⟨q, hq.ent Ent.unpack3⟩) (fun q => h q.1.1 q.1.2 q.2.1 q.2.2)
theorem aget_at {n : Int} {l : Lk} : ∀ {cs : List (Int × Lk)} {i : Nat}, cs[i]? = some (n, l) → aget (cs.take i) n = none → aget cs n = some l
  | [], i, h, _ => by simp at h
  | q :: cs, 0, h, _ => by
    simp only [List.getElem?_cons_zero, Option.some.injEq] at h
    subst h; simp [aget]
  | q :: cs, i + 1, h, hn => by
    simp only [List.take_succ_cons, aget] at hn
    split at hn
    · cases hn
    · rename_i e
      simp only [aget, if_neg e]
      exact aget_at (by simpa using h) hn
theorem aget_skip {n : Int} {p : Int × Lk} : ∀ {l : List (Int × Lk)}, aget l n = none → p.1 ≠ n → aget (l ++ [p]) n = none
  | [], _, hp => by simp [aget, Ne.symm hp]
  | q :: l, h, hp => by
    simp only [aget] at h
    split at h
    · cases h
    · rename_i e
      simp only [List.cons_append, aget, if_neg e]
      exact aget_skip h hp
/-- The place of a number. -/
theorem at_spec {r c n2 c2 : Nat} {most pend opened n : Int} {a a2 : Option Addr} {cs : List (Int × Lk)} (hl : cs.length ≤ 1048576)
    (h1 : ∀ i l, cs[i]? = some (n, l) → aget cs n = some l → K (kI (i : Nat)) (rhead r most pend opened a cs.length c a2 n2 c2 :: crow a c cs :: F))
    (h2 : aget cs n = none → K (kI (-1)) (rhead r most pend opened a cs.length c a2 n2 c2 :: crow a c cs :: F)) :
    Tri Try.prog 82 #[ptr r, kI n] w0 (rhead r most pend opened a cs.length c a2 n2 c2 :: crow a c cs :: F) K := by
  refine Tri.enterF Try.func82 Try.ntmps82 Try.results82 rfl rfl fun fr hfr => ?_
  repeat' (first | refine walk ?_ | exact trivial | refine Tw.mk ?_ ?_ | intro hc | fail)
  refine XS.loopI (ι := Nat) (fun i => [(0, ptr r), (1, kI n), (5, kI i)]) (fun _ => rhead r most pend opened a cs.length c a2 n2 c2 :: crow a c cs :: F) (fun i => i ≤ cs.length ∧ aget (cs.take i) n = none) (fun i => cs.length - i) 0 ⟨Nat.zero_le _, rfl⟩ ⟨rfl, rfl, rfl, trivial⟩ entA ?_
  rintro i e ⟨hi, hno⟩ ih
  by_cases hlt : i < cs.length
  · obtain ⟨⟨m, l⟩, hz⟩ : ∃ z, cs[i]? = some z := ⟨_, List.getElem?_eq_getElem hlt⟩
    refine XS.sel1 (c := crow a c cs) (XS.rowOpen (by omega) fun g hg => ?_)
    subst hg
    repeat' (first | refine walk ?_ | exact trivial | refine Tw.mk ?_ ?_ | intro hc | fail)
    · obtain rfl : m = n := hc
      exact Out.e (h1 i l hz (aget_at hz hno)) entA
    · exact ih (i + 1) _ _ ⟨hlt, by rw [List.take_add_one, hz]; exact aget_skip hno hc⟩ (by omega) ⟨rfl, rfl, rfl, trivial⟩ entA
  · obtain rfl : i = cs.length := by omega
    rw [List.take_length] at hno
    repeat' (first | refine walk ?_ | exact trivial | refine Tw.mk ?_ ?_ | intro hc | fail)
    exact Out.i (h2 hno)
/-- One less: a copy without it. -/
theorem drop_spec {r c n2 c2 i : Nat} {most pend opened : Int} {a a2 : Option Addr} {cs : List (Int × Lk)} {p : Int × Lk} (hl : cs.length ≤ 1048576) (hp : cs[i]? = some p)
    (h : ∀ a' c' n' l', n' = (cs.eraseIdx i).length → l' = flat cenc (cs.eraseIdx i) → K (.tuple #[]) (rhead r most pend opened a' n' c' a2 n2 c2 :: Row a' c' 136 4 n' l' :: F)) :
    Tri Try.prog 83 #[ptr r, kI i] w0 (rhead r most pend opened a cs.length c a2 n2 c2 :: crow a c cs :: F) K := by
  have hlt := (List.getElem?_eq_some_iff.1 hp).1
  refine Tri.enterF Try.func83 Try.ntmps83 Try.results83 rfl rfl fun fr hfr => ?_
  refine XS.sel1 (c := crow a c cs) (XS.rowOpen (by omega) fun g hg => ?_)
  subst hg
  have hfl : ∀ l, (flat cenc l).length = l.length * 4 := fun l => flat_length cenc_len l
  repeat' (first | refine walk ?_ | exact trivial | refine Tw.mk ?_ ?_ | (refine XO.rowLe (fun hle => ?_); refine XO.sliceHi (h := i) TT_ok rfl rfl rfl rfl rfl rfl rfl (by omega) ?_) | (refine XO.ent (Row.nil 136 4 _) ?_; refine XO.appendN (m := i) (N := 1048577) (news := flat cenc (cs.take i)) TT_ok trivial rfl rfl rfl rfl rfl rfl rfl rfl rfl rfl rfl (fun _ => ⟨_, rfl, ReadsL.skip (ReadsL.rowTake i)⟩) (by rw [hfl, List.length_take]; omega) (flat_all cenc_all _) (by omega) rfl rfl (fun _ _ => trivial) (fun a' cap' => ?_)) | (refine XO.sel1 (c := RowAt g c _ 4 cs.length (flat cenc cs)) ?_; refine XO.rowLe (fun hle => ?_); refine XO.sliceLo (l := i + 1) TT_ok rfl rfl rfl rfl rfl rfl rfl hlt hle (fun ad had => ?_)) | (refine XO.ent Ent.front1 ?_; refine XO.appendN (k := 0 + i) (m := cs.length - (i + 1)) (N := 1048577) (news := flat cenc (cs.drop (i + 1))) TT_ok trivial rfl rfl rfl rfl rfl rfl rfl rfl rfl rfl rfl (fun hm => ⟨_, rfl, by rw [had (by omega), Nat.zero_add ((i + 1) * _)]; exact ReadsL.skip (ReadsL.rowDrop (i + 1) cenc_len)⟩) (by rw [hfl, List.length_drop]) (flat_all cenc_all _) (by omega) rfl rfl (fun _ _ => trivial) (fun a' cap' => ?_)) | fail)
  exact Out.e (h a' cap' (0 + i + (cs.length - (i + 1))) ([] ++ flat cenc (cs.take i) ++ flat cenc (cs.drop (i + 1))) (by rw [List.length_eraseIdx_of_lt hlt]; omega) (by rw [List.nil_append, ← flat_append, ← List.eraseIdx_eq_take_drop_succ])) entA
/-- Is an exchange known? -/
theorem rknown_spec {r c c2 : Nat} {most pend opened x : Int} {a a2 : Option Addr} {cs : List (Int × Lk)} {qs : List (Int × Int)} (hl : cs.length ≤ 1048576) (hl2 : qs.length ≤ 1048576)
    (h : K (.bool (cs.any (fun p => p.2.by_ x) || qs.any fun q => decide (q.1 = x))) (rhead r most pend opened a cs.length c a2 qs.length c2 :: crow a c cs :: qrow a2 c2 qs :: F)) :
    Tri Try.prog 80 #[ptr r, kI x] w0 (rhead r most pend opened a cs.length c a2 qs.length c2 :: crow a c cs :: qrow a2 c2 qs :: F) K := by
  refine Tri.enterF Try.func80 Try.ntmps80 Try.results80 rfl rfl fun fr hfr => ?_
  repeat' (first | refine walk ?_ | exact trivial | refine Tw.mk ?_ ?_ | intro hc | fail)
  refine XS.loopI (ι := Nat) (fun i => [(0, ptr r), (1, kI x), (5, kI i)]) (fun _ => rhead r most pend opened a cs.length c a2 qs.length c2 :: crow a c cs :: qrow a2 c2 qs :: F) (fun i => i ≤ cs.length ∧ (cs.take i).any (fun p => p.2.by_ x) = false) (fun i => cs.length - i) 0 ⟨Nat.zero_le _, rfl⟩ ⟨rfl, rfl, rfl, trivial⟩ entA ?_
  rintro i e ⟨hi, hno⟩ ih
  by_cases hlt : i < cs.length
  · obtain ⟨⟨m, l, y, u⟩, hz⟩ : ∃ z, cs[i]? = some z := ⟨_, List.getElem?_eq_getElem hlt⟩
    refine XS.sel1 (c := crow a c cs) (XS.rowOpen (by omega) fun g hg => ?_)
    subst hg
    cases u
    · repeat' (first | refine walk ?_ | exact trivial | refine Tw.mk ?_ ?_ | intro hc | fail)
      exact ih (i + 1) _ _ ⟨hlt, by rw [List.take_add_one, hz, List.any_append, hno]; simp [Lk.by_]⟩ (by omega) ⟨rfl, rfl, rfl, trivial⟩ entA
    · repeat' (first | refine walk ?_ | exact trivial | refine Tw.mk ?_ ?_ | intro hc | fail)
      · have hc : y = x := hc
        have e1 : (cs.any fun p => p.2.by_ x) = true := List.any_eq_true.2 ⟨_, List.mem_of_getElem? hz, by simp [Lk.by_, hc]⟩
        rw [e1, Bool.true_or] at h
        exact Out.e h entA
      · have hc : y ≠ x := hc
        exact ih (i + 1) _ _ ⟨hlt, by rw [List.take_add_one, hz, List.any_append, hno]; simp [Lk.by_, hc]⟩ (by omega) ⟨rfl, rfl, rfl, trivial⟩ entA
  · obtain rfl : i = cs.length := by omega
    rw [List.take_length] at hno
    rw [hno, Bool.false_or] at h
    clear ih
    refine walk ?_
    refine ⟨fun _ => ?_, trivial⟩
    refine XS.loopI (ι := Nat) (fun i => [(0, ptr r), (1, kI x), (6, kI i)]) (fun _ => rhead r most pend opened a cs.length c a2 qs.length c2 :: crow a c cs :: qrow a2 c2 qs :: F) (fun i => i ≤ qs.length ∧ (qs.take i).any (fun q => decide (q.1 = x)) = false) (fun i => qs.length - i) 0 ⟨Nat.zero_le _, rfl⟩ ⟨rfl, rfl, rfl, trivial⟩ entA ?_
    rintro i e ⟨hi, hno⟩ ih
    by_cases hlt : i < qs.length
    · obtain ⟨⟨y, z⟩, hz⟩ : ∃ z, qs[i]? = some z := ⟨_, List.getElem?_eq_getElem hlt⟩
      refine XS.sel1 (c := qrow a2 c2 qs) (XS.rowOpen (by omega) fun g hg => ?_)
      subst hg
      repeat' (first | refine walk ?_ | exact trivial | refine Tw.mk ?_ ?_ | intro hc | fail)
      · have hc : y = x := hc
        have e1 : (qs.any fun q => decide (q.1 = x)) = true := List.any_eq_true.2 ⟨_, List.mem_of_getElem? hz, by simp [hc]⟩
        rw [e1] at h
        exact Out.e h entA
      · have hc : y ≠ x := hc
        exact ih (i + 1) _ _ ⟨hlt, by rw [List.take_add_one, hz, List.any_append, hno]; simp [hc]⟩ (by omega) ⟨rfl, rfl, rfl, trivial⟩ entA
    · obtain rfl : i = qs.length := by omega
      rw [List.take_length] at hno
      rw [hno] at h
      repeat' (first | refine walk ?_ | exact trivial | refine Tw.mk ?_ ?_ | intro hc | fail)
end Go.Proofs.Ytpfnhkdhcjclpaa
