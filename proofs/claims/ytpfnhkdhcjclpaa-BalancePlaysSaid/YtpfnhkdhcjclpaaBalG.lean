/- The balancer's laws: BalanceOpen. Conditions: none. -/
import Derived.Test.YtpfnhkdhcjclpaaBalF
import Derived.Test.YtpfnhkdhcjclpaaSxBase
namespace Go.Proofs.Ytpfnhkdhcjclpaa
open Go Go.Sx Go.DiceM Go.BalM
variable {w0 : World} {F H : List HProp} {K : Value → List HProp → Prop}
theorem bools_of {v : Value} {d : DV} (h : (Sh.slice 1 .bool).rd w0 [v] d) : ∃ op : List Bool, op.length ≤ 140737488351232 ∧ Base w0 v 1 op.length (flat benc op) := by
  obtain ⟨xs, h1, _, h3⟩ := Sh.slice_of (enc := benc) (p := fun _ => True) h (fun l x hx => by
    obtain ⟨b, rfl, _⟩ := hx; exact ⟨b, rfl, trivial⟩)
  exact ⟨xs, by simpa [reachBytes] using h1, h3⟩
theorem ints_of {v : Value} {d : DV} (h : (Sh.slice 8 (.int .i64)).rd w0 [v] d) : ∃ xs : List Int, xs.length * 8 ≤ 140737488351232 ∧ (∀ z ∈ xs, -9223372036854775808 ≤ z ∧ z ≤ 9223372036854775807) ∧ Base w0 v 1 xs.length (flat ienc xs) := by
  obtain ⟨xs, h1, h2, h3⟩ := Sh.slice_of (enc := ienc) (p := fun z => -9223372036854775808 ≤ z ∧ z ≤ 9223372036854775807) h (fun l x hx => by
    obtain ⟨b, rfl, _, hw⟩ := hx; exact ⟨b, rfl, wf_i64 hw⟩)
  exact ⟨xs, by simpa [reachBytes] using h1, h2, h3⟩
theorem strs_of {v : Value} {d : DV} (h : (Sh.slice 16 .str).rd w0 [v] d) : ∃ xs : List ByteArray, xs.length * 16 ≤ 140737488351232 ∧ (∀ s ∈ xs, s.size ≤ 140737488351232) ∧ Base w0 v 1 xs.length (flat senc xs) := by
  obtain ⟨xs, h1, h2, h3⟩ := Sh.slice_of (enc := senc) (p := fun s => s.size ≤ 140737488351232) h (fun l x hx => by
    obtain ⟨b, rfl, _, hw⟩ := hx; exact ⟨b, rfl, by simpa [reachBytes] using hw⟩)
  exact ⟨xs, by simpa [reachBytes] using h1, h2, h3⟩
theorem nextOf_mem {xs : List Nat} {last : Int} (h : xs ≠ []) : nextOf xs last ∈ xs := by
  unfold nextOf
  cases hf : xs.find? (fun i : Nat => decide ((i : Int) > last)) with
  | some z => simpa using List.mem_of_find?_eq_some hf
  | none =>
    cases xs with
    | nil => exact absurd rfl h
    | cons a l => simp
/-- Whatever the policy. -/
theorem pick_any {b : Nat} {B : BS} {op : List Bool} {ls : List Int} {v1 v2 : Value} {key : ByteArray} (hn : B.hs.length ≤ 1000) (hd : 0 ≤ B.d ∧ B.d < 9223372036854775807) (hk : key.size ≤ 9223372036854775807) (ho : op.length ≤ 9223372036854775807) (hls : ls.length ≤ 9223372036854775807)
    (h0 : opens B.hs.length op = [] → K (kI (-1)) (bal b B :: view w0 v1 1 op.length (flat benc op) :: view w0 v2 1 ls.length (flat ienc ls) :: F))
    (h1 : ∀ (i : Nat) (B' : BS), opens B.hs.length op ≠ [] → i < B.hs.length → op[i]? = some true → (B.policy = 2 → IsLeast (opens B.hs.length op) (loadOf ls) i) → K (kI i) (bal b B' :: view w0 v1 1 op.length (flat benc op) :: view w0 v2 1 ls.length (flat ienc ls) :: F)) :
    Tri Try.prog 26 #[ptr b, v1, v2, .string key] w0 (bal b B :: view w0 v1 1 op.length (flat benc op) :: view w0 v2 1 ls.length (flat ienc ls) :: F) K :=
  have hm : ∀ (i : Nat) (B' : BS), i ∈ opens B.hs.length op → (B.policy = 2 → IsLeast (opens B.hs.length op) (loadOf ls) i) → K (kI i) (bal b B' :: view w0 v1 1 op.length (flat benc op) :: view w0 v2 1 ls.length (flat ienc ls) :: F) := fun i B' hi hl =>
    h1 i B' (List.ne_nil_of_mem hi) (mem_opens.1 hi).1 (mem_opens.1 hi).2 hl
  pick_spec hn hd hk ho hls h0 (fun _ i hi => hm i B hi.1 (fun _ => hi)) (fun p3 q i _ hi => hm i _ (List.mem_of_getElem? hi) (fun p2 => by omega)) (fun p4 i hi => hm i B hi.1 (fun p2 => by omega))
    (fun p2 _ _ hp => hm _ _ (nextOf_mem (List.length_pos_iff.1 hp)) (fun h => absurd h p2))
theorem bnew_row {a : Option Addr} {c n' : Nat} {l' : List Value} {hs : List ByteArray} {pol seed : Int} (hn : hs.length ≤ 1000) (hz : ∀ s ∈ hs, s.size ≤ 140737488351232) (h1 : n' = hs.length) (h2 : l' = flat senc hs) (h : ∀ b, K (ptr b) (bal b ⟨pol, hs, hs.length - 1, IntKind.u64.wrap seed, 0⟩ :: F)) :
    Tri Try.prog 24 #[kI pol, .slice a n' c, kI seed] w0 (Row a c 9 1 n' l' :: F) K := by
  subst h1 h2
  exact Tri.ent Ent.rowView (Tri.post (bnew_spec hn (fun s hs => by have := hz s hs; omega) (fun b => ⟨_, Ent.cons _ (Ent.drop _ _), h b⟩)))
/-- A question. -/
structure AskV where
  v1 : Value
  op : List Bool
  v2 : Value
  ls : List Int
  key : ByteArray
structure AskV.Ok (w : World) (a : AskV) : Prop where
  b1 : Base w a.v1 1 a.op.length (flat benc a.op)
  b2 : Base w a.v2 1 a.ls.length (flat ienc a.ls)
  l1 : a.op.length ≤ 140737488351232
  l2 : a.ls.length * 8 ≤ 140737488351232
  lk : a.key.size ≤ 140737488351232
  in2 : ∀ z ∈ a.ls, -9223372036854775808 ≤ z ∧ z ≤ 9223372036854775807
def aenc (a : AskV) : List Value := [a.v1, a.v2, .string a.key]
theorem ask_of {cs : List Value} {d : DV} (h : (Sh.agg [.slice 1 .bool, .slice 8 (.int .i64), .str]).rd w0 cs d) : ∃ a : AskV, cs = aenc a ∧ a.Ok w0 := by
  obtain ⟨ds, _, c1, r1, d1, ds1, rfl, _, l1, h1, c2, r2, d2, ds2, rfl, _, l2, h2, c3, r3, d3, ds3, rfl, _, l3, h3, rfl, _⟩ := h
  obtain ⟨v1, rfl⟩ := List.length_eq_one_iff.1 l1
  obtain ⟨v2, rfl⟩ := List.length_eq_one_iff.1 l2
  obtain ⟨op, ho, hb1⟩ := bools_of h1
  obtain ⟨ls, hl, hin, hb2⟩ := ints_of h2
  obtain ⟨key, rfl, _, hk⟩ := h3
  exact ⟨⟨v1, op, v2, ls, key⟩, rfl, ⟨hb1, hb2, ho, hl, by simpa [reachBytes] using hk, hin⟩⟩
set_option maxHeartbeats 4000000 in
theorem balance_open {pol seed : Int} {v : Value} {cs : Array Value} {d1 d3 : DV} (hp : -9223372036854775808 ≤ pol ∧ pol ≤ 9223372036854775807) (h1 : (Sh.slice 16 .str).rd w0 [v] d1) (h3 : (Sh.agg [.slice 1 .bool, .slice 8 (.int .i64), .str]).rd w0 cs.toList d3) :
    Tri Try.prog 7 #[kI pol, v, kI seed, .agg cs] w0 F fun v _ => v = .bool true := by
  obtain ⟨hs, hsl, hss, hsb⟩ := strs_of h1
  obtain ⟨ask, hcs, hask⟩ := ask_of h3
  obtain ⟨cs⟩ := cs
  subst hcs
  obtain ⟨a, c, rfl⟩ := hsb.form
  obtain ⟨b1, b2, l1, l2, lk, in2⟩ := hask
  obtain ⟨v1, op, v2, ls, key⟩ := ask
  simp only at b1 b2 l1 l2 lk in2
  obtain ⟨a1, c1, rfl⟩ := b1.form
  obtain ⟨a2, c2, rfl⟩ := b2.form
  refine Tri.enterF Try.func7 Try.ntmps7 Try.results7 rfl rfl fun fr hfr => ?_
  repeat' (first | refine walk ?_ | exact trivial | refine Tw.mk ?_ ?_ | refine banchor_spec ?_ | exact Out.i rfl | intro (bx : Nat) | intro hc | refine XO.buildSlice0 TT_ok trivial rfl rfl rfl rfl rfl (fun _ => trivial) (fun b3 => ?_) | (refine XO.sel1 (c := Row (some ⟨b3, 0, none⟩) 0 9 1 0 []) ?_; refine XO.appendN (k := 0) (m := hs.length) (N := 1048577) (news := flat senc hs) TT_ok trivial rfl rfl rfl rfl rfl rfl rfl rfl rfl rfl rfl (fun hm => let ⟨ad, e1, e2⟩ := hsb.reads hm; ⟨ad, e1, e2 _⟩) (by rw [flat_length senc_len]) (flat_all (fun _ => rfl) _) (by omega) rfl rfl (fun _ _ => trivial) (fun a' cap' => ?_)) | refine Tri.sel1 (bnew_row (by omega) hss (Nat.zero_add _) (List.nil_append _) (fun b => ?_)) | fail)
  generalize hB : (⟨pol, hs, hs.length - 1, IntKind.u64.wrap seed, 0⟩ : BS) = B
  have hBh : B.hs = hs := by rw [← hB]
  have hBp : B.policy = pol := by rw [← hB]
  have hBd : B.d = 0 := by rw [← hB]
  have hol : ((opens hs.length op).length : Int) ≤ hs.length := by have := opens_len hs.length op; omega
  refine XS.loopI (ι := Nat × Bool) (fun q => [(0, kI pol), (1, .slice a hs.length c), (7, ptr bx), (9, ptr b), (10, .bool q.2), (37, .slice a1 op.length c1), (38, kI op.length), (39, kI q.1)]) (fun _ => bal b B :: cel bx 53 (aenc ⟨.slice a1 op.length c1, op, .slice a2 ls.length c2, ls, key⟩) :: F)
    (fun q => q.1 ≤ op.length ∧ (q.2 = true ↔ ∃ j, j < q.1 ∧ op[j]? = some true ∧ j < hs.length)) (fun q => op.length - q.1) (0, false) ⟨Nat.zero_le _, by simp⟩ ⟨rfl, rfl, rfl, rfl, rfl, rfl, rfl, rfl, trivial⟩ entA ?_
  rintro ⟨k, t⟩ e ⟨hk, ht⟩ ih
  simp only at hk ht
  dsimp only
  by_cases hlt : k < op.length
  · obtain ⟨u, hu⟩ : ∃ u, op[k]? = some u := ⟨_, List.getElem?_eq_getElem hlt⟩
    obtain ⟨g, off, rfl, hrd⟩ := b1.rdF .bool (fun _ => rfl) hu
    have next : ∀ t', (t' = true ↔ t = true ∨ (u = true ∧ k < hs.length)) → k + 1 ≤ op.length ∧ (t' = true ↔ ∃ j, j < k + 1 ∧ op[j]? = some true ∧ j < hs.length) := fun t' h' => ⟨hlt, by
      rw [h', ht]
      constructor
      · rintro (⟨j, h1, h2⟩ | ⟨rfl, h2⟩)
        · exact ⟨j, by omega, h2⟩
        · exact ⟨k, by omega, hu, h2⟩
      · rintro ⟨j, h1, h2, h3⟩
        by_cases e : j = k
        · subst e; rw [hu] at h2; injection h2 with h2; exact .inr ⟨h2, h3⟩
        · exact .inl ⟨j, by omega, h2, h3⟩⟩
    cases t
    · cases u
      · repeat' (first | refine walk ?_ | exact trivial | refine Tw.mk ?_ ?_ | intro hc | fail)
        exact ih (k + 1, false) _ _ (next false (by simp)) (by simp only; omega) ⟨rfl, rfl, rfl, rfl, rfl, rfl, rfl, rfl, trivial⟩ entA
      · repeat' (first | refine walk ?_ | exact trivial | refine Tw.mk ?_ ?_ | intro hc | fail)
        · exact ih (k + 1, true) _ _ (next true (by simp; omega)) (by simp only; omega) ⟨rfl, rfl, rfl, rfl, rfl, rfl, rfl, rfl, trivial⟩ entA
        · exact ih (k + 1, false) _ _ (next false (by simp; omega)) (by simp only; omega) ⟨rfl, rfl, rfl, rfl, rfl, rfl, rfl, rfl, trivial⟩ entA
    · cases u
      · repeat' (first | refine walk ?_ | exact trivial | refine Tw.mk ?_ ?_ | intro hc | fail)
        exact ih (k + 1, true) _ _ (next true (by simp)) (by simp only; omega) ⟨rfl, rfl, rfl, rfl, rfl, rfl, rfl, rfl, trivial⟩ entA
      · repeat' (first | refine walk ?_ | exact trivial | refine Tw.mk ?_ ?_ | intro hc | fail)
        exact ih (k + 1, true) _ _ (next true (by simp)) (by simp only; omega) ⟨rfl, rfl, rfl, rfl, rfl, rfl, rfl, rfl, trivial⟩ entA
  · obtain rfl : k = op.length := by omega
    clear ih
    have pick : ∀ {F' : List HProp} {K' : Value → List HProp → Prop}, (t = false → K' (kI (-1)) (bal b B :: F')) → (∀ (i : Nat) (B' : BS), t = true → i < hs.length → op[i]? = some true → (pol = 2 → IsLeast (opens hs.length op) (loadOf ls) i) → K' (kI i) (bal b B' :: F')) →
        Tri Try.prog 26 #[ptr b, .slice a1 op.length c1, .slice a2 ls.length c2, .string key] w0 (bal b B :: F') K' := fun {F' K'} k0 k1 =>
      Tri.ent (Ent.trans b2.view (Ent.trans b1.view Ent.front2)) (Tri.post (pick_any (F := F') (by rw [hBh]; omega) (by rw [hBd]; omega) (by omega) (by omega) (by omega)
        (fun h0 => ⟨_, Ent.cons _ (Ent.trans (Ent.drop _ _) (Ent.drop _ _)), k0 (by
          cases t with
          | false => rfl
          | true =>
            obtain ⟨j, _, h2, h3⟩ := ht.1 rfl
            have : j ∈ opens B.hs.length op := mem_opens.2 ⟨by rw [hBh]; exact h3, h2⟩
            rw [h0] at this; cases this)⟩)
        (fun i B' _ hi ho hl => ⟨_, Ent.cons _ (Ent.trans (Ent.drop _ _) (Ent.drop _ _)), k1 i B' (ht.2 ⟨i, (List.getElem?_eq_some_iff.1 ho).1, ho, by rw [← hBh]; exact hi⟩) (by rw [← hBh]; exact hi) ho (fun h => by rw [hBh, hBp] at hl; exact hl h)⟩)))
    cases t
    · repeat' (first | refine walk ?_ | exact trivial | refine Tw.mk ?_ ?_ | intro hc | refine Tri.sel1 (pick (fun _ => ?_) (fun i B' hf _ _ _ => by cases hf)) | exact Out.i rfl | fail)
    · refine walk ?_
      refine ⟨fun _ => pick (fun h => by cases h) (fun i B' _ hi ho hl => ?_), trivial⟩
      have hio := (List.getElem?_eq_some_iff.1 ho).1
      obtain ⟨g, off, rfl, hrd⟩ := b1.rdF .bool (fun _ => rfl) ho
      repeat' (first | refine walk ?_ | exact trivial | refine Tw.mk ?_ ?_ | intro hc | fail)
      refine XS.loopI (ι := Nat) (fun k => [(0, kI pol), (7, ptr bx), (13, kI i), (91, kI hs.length), (92, kI k)]) (fun _ => bal b B' :: cel bx 53 (aenc ⟨.slice (some ⟨g, off, none⟩) op.length c1, op, .slice a2 ls.length c2, ls, key⟩) :: F) (fun k => k ≤ hs.length) (fun k => hs.length - k) 0 (Nat.zero_le _) ⟨rfl, rfl, rfl, rfl, rfl, trivial⟩ entA ?_
      intro k e2 hk2 ih2
      by_cases hlt2 : k < hs.length
      · by_cases p2 : pol = 2
        · subst p2
          have hle := (hl rfl).2
          by_cases hkop : k < op.length
          · obtain ⟨u, hu⟩ : ∃ u, op[k]? = some u := ⟨_, List.getElem?_eq_getElem hkop⟩
            obtain ⟨_, _, hq, hrd2⟩ := b1.rdF .bool (fun _ => rfl) hu
            cases hq
            cases u
            · repeat' (first | refine walk ?_ | exact trivial | refine Tw.mk ?_ ?_ | intro hc | fail)
              exact ih2 (k + 1) _ _ hlt2 (by omega) ⟨rfl, rfl, rfl, rfl, rfl, trivial⟩ entA
            · have hk3 := hle k (mem_opens.2 ⟨hlt2, hu⟩)
              by_cases hkl : k < ls.length
              · by_cases hil : i < ls.length
                · obtain ⟨z1, hz1⟩ : ∃ u, ls[k]? = some u := ⟨_, List.getElem?_eq_getElem hkl⟩
                  obtain ⟨z2, hz2⟩ : ∃ u, ls[i]? = some u := ⟨_, List.getElem?_eq_getElem hil⟩
                  obtain ⟨_, _, rfl, hrd3⟩ := b2.rdF kI (fun _ => rfl) hz1
                  obtain ⟨_, _, hq, hrd4⟩ := b2.rdF kI (fun _ => rfl) hz2
                  cases hq
                  simp only [loadOf, hz1, hz2, Option.getD_some] at hk3
                  repeat' (first | refine walk ?_ | exact trivial | refine Tw.mk ?_ ?_ | intro hc | fail)
                  all_goals first | (exfalso; omega) | exact ih2 (k + 1) _ _ hlt2 (by omega) ⟨rfl, rfl, rfl, rfl, rfl, trivial⟩ entA
                · repeat' (first | refine walk ?_ | exact trivial | refine Tw.mk ?_ ?_ | intro hc | fail)
                  exact ih2 (k + 1) _ _ hlt2 (by omega) ⟨rfl, rfl, rfl, rfl, rfl, trivial⟩ entA
              · repeat' (first | refine walk ?_ | exact trivial | refine Tw.mk ?_ ?_ | intro hc | fail)
                exact ih2 (k + 1) _ _ hlt2 (by omega) ⟨rfl, rfl, rfl, rfl, rfl, trivial⟩ entA
          · repeat' (first | refine walk ?_ | exact trivial | refine Tw.mk ?_ ?_ | intro hc | fail)
            exact ih2 (k + 1) _ _ hlt2 (by omega) ⟨rfl, rfl, rfl, rfl, rfl, trivial⟩ entA
        · repeat' (first | refine walk ?_ | exact trivial | refine Tw.mk ?_ ?_ | intro hc | fail)
          exact ih2 (k + 1) _ _ hlt2 (by omega) ⟨rfl, rfl, rfl, rfl, rfl, trivial⟩ entA
      · obtain rfl : k = hs.length := by omega
        repeat' (first | refine walk ?_ | exact trivial | refine Tw.mk ?_ ?_ | intro hc | exact Out.i rfl | fail)
end Go.Proofs.Ytpfnhkdhcjclpaa
