/- The document's pool: Loads, Busy; a step on both pools; PoolPlays. Conditions: none. -/
import Derived.Test.YtpfnhkdhcjclpaaPoolR
import Derived.Test.YtpfnhkdhcjclpaaPoolJ
namespace Go.Proofs.Ytpfnhkdhcjclpaa
open Go Go.Sx Go.WheelM Go.PoolM
variable {w0 : World} {F H : List HProp} {K : Value → List HProp → Prop}
/-- An idle connection has no exchange. -/
def Clean (S : PS) : Prop := ∀ p ∈ S.conns, p.2.u = false → p.2.b = 0
theorem clean_can {S S' : PS} {x h : Int} {g : Int × Int × Int} (hS : Clean S) (hc : S.can x h = some (g, S')) : Clean S' := by
  unfold PS.can at hc
  split at hc
  · injection hc with hc; injection hc with _ hc; subst hc
    intro p hp hu
    rcases mem_aset hp with hp | hp
    · exact hS p hp hu
    · rw [hp] at hu; cases hu
  · split at hc
    · split at hc
      · injection hc with hc; injection hc with _ hc; subst hc
        intro p hp hu
        rcases List.mem_append.1 hp with hp | hp
        · exact hS p (mem_del hp) hu
        · rw [List.mem_singleton] at hp; subst hp; cases hu
      · cases hc
    · injection hc with hc; injection hc with _ hc; subst hc
      intro p hp hu
      rcases List.mem_append.1 hp with hp | hp
      · exact hS p hp hu
      · rw [List.mem_singleton] at hp; subst hp; cases hu
theorem clean_acquire {S : PS} {x h : Int} (hS : Clean S) : Clean (S.acquire x h).2 := by
  unfold PS.acquire
  split
  · exact hS
  · split
    · rename_i hc
      split at hc
      · exact clean_can hS hc
      · cases hc
    · split
      · exact hS
      · exact hS
theorem clean_serve {S : PS} (hS : Clean S) : Clean S.serve.2 := by
  unfold PS.serve
  split
  · exact hS
  · split
    · rename_i hc
      exact fun p hp => clean_can hS hc p hp
    · exact hS
theorem clean_release {S : PS} {n : Int} (hS : Clean S) : Clean (S.release n).2 := by
  unfold PS.release
  split
  · split
    · intro p hp hu
      rcases mem_aset hp with hp | hp
      · exact hS p hp hu
      · rw [hp]
    · exact hS
  · exact hS
theorem clean_remove {S : PS} {n : Int} (hS : Clean S) : Clean (S.remove n).2 := by
  unfold PS.remove
  split
  · exact fun p hp => hS p (mem_del hp)
  · exact hS
theorem clean_cancel {S : PS} {x : Int} (hS : Clean S) : Clean (S.cancel x).2 := hS
theorem clean_holder {S : PS} {n : Int} (hS : Clean S) : (if (S.holder n).2 then S.holder n else (0, false)) = S.holder n := by
  unfold PS.holder
  split
  · rename_i l hl
    by_cases hu : l.u = true
    · simp [hu]
    · have := hS _ (aget_mem' hl) (by simpa using hu)
      simp only at this
      simp [hu, this]
  · rfl
theorem rbusy_spec {r : Nat} {S : PS} (hl : S.conns.length ≤ 1048576) (h : K (kI S.busy) (rpool r S :: F)) : Tri Try.prog 62 #[ptr r] w0 (rpool r S :: F) K := by
  refine rpool_open fun a c a2 c2 => ?_
  refine Tri.enterF Try.func62 Try.ntmps62 Try.results62 rfl rfl fun fr hfr => ?_
  repeat' (first | refine walk ?_ | exact trivial | refine Tw.mk ?_ ?_ | intro hc | fail)
  refine XS.loopI (ι := Nat) (fun i => [(0, ptr r), (3, kI ((S.conns.take i).countP fun p => p.2.u)), (4, kI i)]) (fun _ => rhead r S.most S.pend S.opened a S.conns.length c a2 S.queue.length c2 :: crow a c S.conns :: qrow a2 c2 S.queue :: F) (fun i => i ≤ S.conns.length) (fun i => S.conns.length - i) 0 (Nat.zero_le _) ⟨rfl, rfl, rfl, trivial⟩ entA ?_
  intro i e hi ih
  by_cases hlt : i < S.conns.length
  · obtain ⟨⟨m, hh, y, u⟩, hz⟩ : ∃ z, S.conns[i]? = some z := ⟨_, List.getElem?_eq_getElem hlt⟩
    have hcnt : ((S.conns.take i).countP fun p => p.2.u) ≤ i := Nat.le_trans List.countP_le_length (by rw [List.length_take]; omega)
    refine XS.sel1 (c := crow a c S.conns) (XS.rowOpen (by omega) fun g hg => ?_)
    subst hg
    cases u
    · have e1 : ((S.conns.take (i + 1)).countP fun p => p.2.u) = (S.conns.take i).countP fun p => p.2.u := by rw [List.take_add_one, hz]; simp
      repeat' (first | refine walk ?_ | exact trivial | refine Tw.mk ?_ ?_ | intro hc | fail)
      refine ih (i + 1) _ _ hlt (by omega) ⟨rfl, ?_, rfl, trivial⟩ entA
      rw [e1]; rfl
    · have e1 : ((S.conns.take (i + 1)).countP fun p => p.2.u) = ((S.conns.take i).countP fun p => p.2.u) + 1 := by rw [List.take_add_one, hz]; simp
      repeat' (first | refine walk ?_ | exact trivial | refine Tw.mk ?_ ?_ | intro hc | fail)
      refine ih (i + 1) _ _ hlt (by omega) ⟨rfl, ?_, rfl, trivial⟩ entA
      rw [e1]; rfl
  · obtain rfl : i = S.conns.length := by omega
    rw [List.take_length]
    repeat' (first | refine walk ?_ | exact trivial | refine Tw.mk ?_ ?_ | intro hc | fail)
    exact rpool_out h
theorem busy_next {cs : List (Int × Lk)} {i : Nat} {n hh y : Int} {u : Bool} (hz : cs[i]? = some (n, ⟨hh, y, u⟩)) (h : Int) : (busyHosts (cs.take (i + 1))).count h = (busyHosts (cs.take i)).count h + if u = true ∧ hh = h then 1 else 0 := by
  unfold busyHosts
  rw [List.take_add_one, hz]
  cases u
  · simp
  · by_cases e : hh = h <;> simp [e]
theorem rloads_spec {r : Nat} {S : PS} {hosts : Int} (hl : S.conns.length ≤ 1048576) (hl2 : S.queue.length ≤ 1048576) (hh : hosts ≤ 1000) (h : ∀ a c, K (.slice a hosts.toNat c) (Row a c 3 1 hosts.toNat (flat ienc (tally S.hosts hosts.toNat)) :: rpool r S :: F)) : Tri Try.prog 61 #[ptr r, kI hosts] w0 (rpool r S :: F) K := by
  refine rpool_open fun a c a2 c2 => ?_
  refine Tri.enterF Try.func61 Try.ntmps61 Try.results61 rfl rfl fun fr hfr => ?_
  repeat' (first | refine walk ?_ | exact trivial | refine Tw.mk ?_ ?_ | intro hc | fail)
  refine XS.ent (Row.nil 3 1 _) ?_
  have htake : ∀ k : Nat, k ≤ hosts.toNat → ((tally S.hosts hosts.toNat).take k).length = k := fun k hk => by rw [List.length_take, tally_len]; omega
  refine XS.loopI (ι := Nat × Option Addr × Nat) (fun q => [(0, ptr r), (1, kI hosts), (5, .slice q.2.1 q.1 q.2.2), (6, kI q.1)]) (fun q => Row q.2.1 q.2.2 3 1 q.1 (flat ienc ((tally S.hosts hosts.toNat).take q.1)) :: rhead r S.most S.pend S.opened a S.conns.length c a2 S.queue.length c2 :: crow a c S.conns :: qrow a2 c2 S.queue :: F)
    (fun q => q.1 ≤ hosts.toNat) (fun q => hosts.toNat - q.1) (0, none, 0) (Nat.zero_le _) ⟨rfl, rfl, rfl, rfl, trivial⟩ entA ?_
  rintro ⟨k, a3, c3⟩ e hk ih
  simp only at hk
  dsimp only
  by_cases hlt : k < hosts.toNat
  · have hlt' : (k : Int) < hosts := by omega
    refine walk ?_
    refine ⟨fun _ => ?_, trivial⟩
    refine XS.loopI (ι := Nat) (fun i => [(0, ptr r), (1, kI hosts), (5, .slice a3 k c3), (6, kI k), (7, kI ((busyHosts (S.conns.take i)).count (k : Int) : Nat)), (8, kI i)]) (fun _ => Row a3 c3 3 1 k (flat ienc ((tally S.hosts hosts.toNat).take k)) :: rhead r S.most S.pend S.opened a S.conns.length c a2 S.queue.length c2 :: crow a c S.conns :: qrow a2 c2 S.queue :: F)
      (fun i => i ≤ S.conns.length) (fun i => S.conns.length - i) 0 (Nat.zero_le _) ⟨rfl, rfl, rfl, rfl, rfl, rfl, trivial⟩ entA ?_
    intro i e2 hi ih2
    by_cases hlt2 : i < S.conns.length
    · obtain ⟨⟨m, hh, y, u⟩, hz⟩ : ∃ z, S.conns[i]? = some z := ⟨_, List.getElem?_eq_getElem hlt2⟩
      have hcnt : (busyHosts (S.conns.take i)).count (k : Int) ≤ i := Nat.le_trans List.count_le_length (by unfold busyHosts; rw [List.length_map]; refine Nat.le_trans (List.length_filter_le ..) ?_; rw [List.length_take]; omega)
      have hnx := busy_next hz (k : Int)
      refine XS.sel1 (c := crow a c S.conns) (XS.rowOpen (by omega) fun g hg => ?_)
      subst hg
      cases u
      · repeat' (first | refine walk ?_ | exact trivial | refine Tw.mk ?_ ?_ | intro hc | fail)
        refine ih2 (i + 1) _ _ hlt2 (by omega) ⟨rfl, rfl, rfl, rfl, ?_, rfl, trivial⟩ entA
        rw [hnx]; rfl
      · repeat' (first | refine walk ?_ | exact trivial | refine Tw.mk ?_ ?_ | intro hc | fail)
        · have hc : hh = (k : Int) := hc
          refine ih2 (i + 1) _ _ hlt2 (by omega) ⟨rfl, rfl, rfl, rfl, ?_, rfl, trivial⟩ entA
          rw [hnx, if_pos ⟨rfl, hc⟩]; rfl
        · have hc : hh ≠ (k : Int) := hc
          refine ih2 (i + 1) _ _ hlt2 (by omega) ⟨rfl, rfl, rfl, rfl, ?_, rfl, trivial⟩ entA
          rw [hnx, if_neg (fun h => hc h.2)]; rfl
    · obtain rfl : i = S.conns.length := by omega
      rw [List.take_length]
      have hcnt0 : (busyHosts S.conns).count (k : Int) ≤ 1048576 := Nat.le_trans List.count_le_length (by unfold busyHosts; rw [List.length_map]; exact Nat.le_trans (List.length_filter_le ..) hl)
      clear ih2
      refine walk ?_
      refine ⟨fun _ => ?_, trivial⟩
      refine XS.loopI (ι := Nat) (fun i => [(0, ptr r), (1, kI hosts), (5, .slice a3 k c3), (6, kI k), (7, kI (((busyHosts S.conns).count (k : Int) + ((S.queue.take i).map (·.2)).count (k : Int) : Nat))), (9, kI i)]) (fun _ => Row a3 c3 3 1 k (flat ienc ((tally S.hosts hosts.toNat).take k)) :: rhead r S.most S.pend S.opened a S.conns.length c a2 S.queue.length c2 :: crow a c S.conns :: qrow a2 c2 S.queue :: F)
        (fun i => i ≤ S.queue.length) (fun i => S.queue.length - i) 0 (Nat.zero_le _) ⟨rfl, rfl, rfl, rfl, rfl, rfl, trivial⟩ entA ?_
      intro i e3 hi ih2
      have hcnt : ((S.queue.take i).map (·.2)).count (k : Int) ≤ i := Nat.le_trans List.count_le_length (by rw [List.length_map, List.length_take]; omega)
      by_cases hlt2 : i < S.queue.length
      · obtain ⟨⟨y, hst⟩, hz⟩ : ∃ z, S.queue[i]? = some z := ⟨_, List.getElem?_eq_getElem hlt2⟩
        have hnx : ((S.queue.take (i + 1)).map (·.2)).count (k : Int) = ((S.queue.take i).map (·.2)).count (k : Int) + if hst = (k : Int) then 1 else 0 := by
          rw [List.take_add_one, hz]
          by_cases e : hst = (k : Int) <;> simp [e]
        refine XS.sel1 (c := qrow a2 c2 S.queue) (XS.rowOpen (by omega) fun g hg => ?_)
        subst hg
        repeat' (first | refine walk ?_ | exact trivial | refine Tw.mk ?_ ?_ | intro hc | fail)
        · have hc : hst = (k : Int) := hc
          refine ih2 (i + 1) _ _ hlt2 (by omega) ⟨rfl, rfl, rfl, rfl, ?_, rfl, trivial⟩ entA
          rw [hnx, if_pos hc]; rfl
        · have hc : hst ≠ (k : Int) := hc
          refine ih2 (i + 1) _ _ hlt2 (by omega) ⟨rfl, rfl, rfl, rfl, ?_, rfl, trivial⟩ entA
          rw [hnx, if_neg hc]; rfl
      · obtain rfl : i = S.queue.length := by omega
        rw [List.take_length]
        have hval : (tally S.hosts hosts.toNat)[k]? = some (((busyHosts S.conns).count (k : Int) + (S.queue.map (·.2)).count (k : Int) : Nat) : Int) := by
          simp only [tally, PS.hosts, List.getElem?_map, List.getElem?_range hlt, Option.map_some, List.count_append]
        have hnxt : flat ienc ((tally S.hosts hosts.toNat).take (k + 1)) = flat ienc ((tally S.hosts hosts.toNat).take k) ++ ienc (((busyHosts S.conns).count (k : Int) + (S.queue.map (·.2)).count (k : Int) : Nat) : Int) := by
          rw [List.take_add_one, hval, Option.toList_some, flat_snoc]
        repeat' (first | refine walk ?_ | exact trivial | refine Tw.mk ?_ ?_ | intro hc | (refine XO.sel1 (c := Row a3 c3 3 1 _ _) ?_; refine XO.append (m := 1) (N := 1048577) TT_ok trivial rfl rfl rfl rfl rfl rfl rfl rfl rfl rfl rfl (ReadsL.skip (ReadsL.here 1)) rfl (by decide) rfl (by omega) rfl rfl (fun _ _ => trivial) (fun a' cap' => ?_)) | fail)
        refine ih (k + 1, a', cap') _ _ hlt (by simp only; omega) ⟨rfl, rfl, rfl, rfl, trivial⟩ ?_
        simp only [hnxt]
        exact entA
  · obtain rfl : k = hosts.toNat := by omega
    rw [List.take_of_length_le (by rw [tally_len]; omega)]
    repeat' (first | refine walk ?_ | exact trivial | refine Tw.mk ?_ ?_ | intro hc | fail)
    refine Out.under (c := Row a3 c3 3 1 hosts.toNat (flat ienc (tally S.hosts hosts.toNat))) ?_
    exact rpool_out (F := F) (h a3 c3)
end Go.Proofs.Ytpfnhkdhcjclpaa
