/- What the pool's functions come to: Loads. Conditions: numbers are of their kinds. -/
import Derived.Test.YtpfnhkdhcjclpaaPoolE
namespace Go.Proofs.Ytpfnhkdhcjclpaa
open Go Go.Sx Go.WheelM Go.PoolM
variable {w0 : World} {F H : List HProp} {K : Value → List HProp → Prop}
theorem add_spec {bo g n : Nat} {xs : List Int} {h : Int} (hx : xs.length = n) (hb : ∀ z ∈ xs, z ≤ 1099511627776 ∧ 0 ≤ z) (hk : K (.tuple #[]) (cel bo 32 [.slice (some ⟨g, 0, none⟩) n n] :: RowAt g n 3 1 n (flat ienc (bump xs h)) :: F)) :
    Tri Try.prog 53 #[kI h, ptr bo] w0 (cel bo 32 [.slice (some ⟨g, 0, none⟩) n n] :: RowAt g n 3 1 n (flat ienc xs) :: F) K := by
  subst hx
  refine Tri.enterF Try.func53 Try.ntmps53 Try.results53 rfl rfl fun fr hfr => ?_
  by_cases hin : 0 ≤ h ∧ h < xs.length
  · obtain ⟨i, rfl⟩ := Int.eq_ofNat_of_zero_le hin.1
    have hi : i < xs.length := by omega
    obtain ⟨z, hz⟩ : ∃ z, xs[i]? = some z := ⟨_, List.getElem?_eq_getElem hi⟩
    have hzb := hb z (List.mem_of_getElem? hz)
    rw [bump_in hz] at hk
    repeat' (first | refine walk ?_ | exact trivial | refine Tw.mk ?_ ?_ | intro _ | refine XO.sel1 (XO.storeRowE (xs := xs) (z + 1) ienc_len hi TT_ok trivial rfl rfl rfl rfl rfl rfl rfl rfl trivial ?_) | fail)
    exact Out.s2 hk
  · rw [bump_out hin] at hk
    repeat' (first | refine walk ?_ | exact trivial | refine Tw.mk ?_ ?_ | intro hc | fail)
    all_goals exact Out.i hk
theorem loads_spec {b : Nat} {S : PS} {hosts : Int} (ok : S.Ok) (hh : hosts ≤ 1000) (h : ∀ g, K (.slice (some ⟨g, 0, none⟩) hosts.toNat hosts.toNat) (RowAt g hosts.toNat 3 1 hosts.toNat (flat ienc (tally S.hosts hosts.toNat)) :: pool b S :: F)) :
    Tri Try.prog 28 #[ptr b, kI hosts] w0 (pool b S :: F) K := by
  have hq : S.queue.length ≤ 1048576 := by have := ok.ql; have := ok.pend; omega
  have hc : S.conns.length ≤ 1048576 := by have := ok.cl; have := ok.most; omega
  refine pool_open fun m a c => ?_
  refine Tri.enterF Try.func28 Try.ntmps28 Try.results28 rfl rfl fun fr hfr => ?_
  repeat' (first | refine walk ?_ | exact trivial | refine Tw.mk ?_ ?_ | refine XO.max0 rfl rfl rfl rfl rfl ?_ | refine XO.makeSlice (k := hosts.toNat) TT_ok trivial rfl rfl rfl rfl rfl rfl rfl rfl rfl rfl rfl (N := 1000) (by omega) rfl rfl (fun _ => trivial) (fun g => ?_) | intro bo br | fail)
  generalize hn : hosts.toNat = n at h ⊢
  refine XS.sel1 (c := cel g 3 (zrow n (ienc 0))) (XS.ent (RowAt.of_cel (n := n) (es := 1) (by rw [zrow_length]; rfl) (by simp only [maxLen]; omega)) ?_)
  rw [← flat_zero, ← tally_nil]
  have add : ∀ {D : List Int} {h : Int} {F' : List HProp} {K' : Value → List HProp → Prop}, D.length ≤ 2097152 → K' (.tuple #[]) (cel bo 32 [.slice (some ⟨g, 0, none⟩) n n] :: RowAt g n 3 1 n (flat ienc (tally (h :: D) n)) :: F') →
      Tri Try.prog 53 #[kI h, ptr bo] w0 (cel bo 32 [.slice (some ⟨g, 0, none⟩) n n] :: RowAt g n 3 1 n (flat ienc (tally D n)) :: F') K' := fun hd hk =>
    add_spec (tally_len _ _) (fun z hz => by have := tally_le z hz; omega) (by rw [tally_bump]; exact hk)
  refine XS.loopI (ι := (List (Int × Lk) × Option (Int × Lk)) × List Int) (fun _ => [(0, ptr b), (5, ptr bo), (6, .func (.func 53) #[] #[ptr bo]), (19, ptr br)])
    (fun p => trange m br kI lk S.conns p.1.1 p.1.2 :: cel bo 32 [.slice (some ⟨g, 0, none⟩) n n] :: RowAt g n 3 1 n (flat ienc (tally p.2 n)) :: phead b m S.most S.pend S.opened a S.queue.length c :: Row a c 71 2 S.queue.length (flat wenc S.queue) :: F)
    (fun p => (p.2 ++ busyHosts p.1.1).Perm (busyHosts S.conns) ∧ p.2.length + p.1.1.length ≤ S.conns.length) (fun p => p.1.1.length) ((S.conns, none), []) ⟨List.Perm.refl _, by simp⟩ ⟨rfl, rfl, rfl, rfl, trivial⟩ entA ?_
  rintro ⟨⟨left, cur⟩, D⟩ e ⟨hp, hl⟩ ih
  simp only at hp hl
  refine walk ?_
  refine ⟨fun hl0 => ?_, fun i p b3 hi hu => ?_, fun i p b3 hi hu => ?_, trivial⟩
  · simp only at hl0
    subst hl0
    have hp0 : D.Perm (busyHosts S.conns) := by simpa [busyHosts] using hp
    refine XS.loopI (ι := Nat) (fun k => [(5, ptr bo), (6, .func (.func 53) #[] #[ptr bo]), (33, .slice a S.queue.length c), (34, kI S.queue.length), (35, kI k)])
      (fun k => tmap m kI lk S.conns :: cel bo 32 [.slice (some ⟨g, 0, none⟩) n n] :: RowAt g n 3 1 n (flat ienc (tally (D ++ (S.queue.take k).map (·.2)) n)) :: phead b m S.most S.pend S.opened a S.queue.length c :: Row a c 71 2 S.queue.length (flat wenc S.queue) :: F)
      (fun k => k ≤ S.queue.length) (fun k => S.queue.length - k) 0 (Nat.zero_le _) ⟨rfl, rfl, rfl, rfl, rfl, trivial⟩ (by simp only [List.take_zero, List.map_nil, List.append_nil]; exact entA) ?_
    intro k e2 hk ih2
    have hdl : (D ++ (S.queue.take k).map (·.2)).length ≤ 2097152 := by
      have := hp0.length_eq
      have h2 : (busyHosts S.conns).length ≤ S.conns.length := by unfold busyHosts; rw [List.length_map]; exact List.length_filter_le ..
      rw [List.length_append, List.length_map, List.length_take]; omega
    by_cases hlt : k < S.queue.length
    · obtain ⟨⟨x, y⟩, hz⟩ : ∃ z, S.queue[k]? = some z := ⟨_, List.getElem?_eq_getElem hlt⟩
      refine XS.sel1 (c := Row a c 71 2 S.queue.length (flat wenc S.queue)) (XS.rowOpen (by omega) fun g2 hg2 => ?_)
      subst hg2
      repeat' (first | refine walk ?_ | exact trivial | refine Tw.mk ?_ ?_ | intro b4 hb4 | refine Tri.sel2 (add (D := D ++ (S.queue.take k).map (·.2)) hdl ?_) | fail)
      refine ih2 (k + 1) _ _ hlt (by omega) ⟨rfl, rfl, rfl, rfl, rfl, trivial⟩ ?_
      rw [tally_perm (n := n) (show (y :: (D ++ (S.queue.take k).map (·.2))).Perm (D ++ (S.queue.take (k + 1)).map (·.2)) by
        rw [List.take_add_one, hz, Option.toList_some, List.map_append, ← List.append_assoc]
        exact (List.perm_append_singleton _ _).symm)]
      exact entA
    · obtain rfl : k = S.queue.length := by omega
      refine walk ?_
      refine ⟨fun _ => ?_, trivial⟩
      rw [tally_perm (n := n) (show (D ++ (S.queue.take S.queue.length).map (·.2)).Perm S.hosts by rw [List.take_length]; exact hp0.append_right _)]
      refine Out.under (c := RowAt g n 3 1 n (flat ienc (tally S.hosts n))) ?_
      exact pool_out (S := S) (F := F) (h g)
  · repeat' (first | refine walk ?_ | exact trivial | refine Tw.mk ?_ ?_ | refine Tri.sel2 (add (D := D) (by omega) ?_) | fail)
    exact ih ((left.eraseIdx i, some p), p.2.h :: D) _ _ ⟨by
      refine List.Perm.trans ?_ hp
      refine List.Perm.trans ?_ ((busy_rest hi).symm.append_left D)
      rw [hu, if_pos rfl]
      exact List.perm_middle.symm, by
      have : (left.eraseIdx i).length < left.length := len_rest hi
      simp only [List.length_cons]; omega⟩ (len_rest hi) ⟨rfl, rfl, rfl, rfl, trivial⟩ entA
  · exact ih ((left.eraseIdx i, some p), D) _ _ ⟨by
      refine List.Perm.trans ?_ hp
      refine List.Perm.trans ?_ ((busy_rest hi).symm.append_left D)
      rw [hu, if_neg (by simp)]
      simp, by
      have : (left.eraseIdx i).length < left.length := len_rest hi
      simp only; omega⟩ (len_rest hi) ⟨rfl, rfl, rfl, rfl, trivial⟩ entA
end Go.Proofs.Ytpfnhkdhcjclpaa
