/- What the pool's functions come to: the keys in their order, idle, grant. Conditions: numbers are of their kinds. -/
import Derived.Test.YtpfnhkdhcjclpaaPoolB
import Derived.Test.YtpfnhkdhcjclpaaSxU
import Derived.Test.YtpfnhkdhcjclpaaLay
namespace Go.Proofs.Ytpfnhkdhcjclpaa
open Go Go.Sx Go.WheelM Go.PoolM
variable {w0 : World} {F H : List HProp} {K : Value → List HProp → Prop}
theorem sorts (m : Nat) : AnyZI.SortsIn Try.prog Try.sortedA_ren Fence.wide m :=
  ⟨fun blk off cap ss W hH hblk hsz => callsIn_wide.2 (AnyM.slices_Sort_int Try.sortA blk off cap ss W hH hblk hsz), fun p cap W => callsIn_wide.2 (AnyM.slices_Sort_int_none Try.sortA p cap W)⟩
theorem keys_spec {m : Nat} (h : ∀ bx, K (.func (.func 99) #[] #[ptr bx]) (cel bx 66 [.map (some m)] :: F)) : Tri Try.prog 85 #[.map (some m)] w0 F K := by
  refine Tri.enterF Try.func85 Try.ntmps85 Try.results85 rfl rfl fun fr hfr => ?_
  refine walk ?_
  exact ⟨fun b => Out.i (h b), trivial⟩
set_option maxHeartbeats 1000000 in
theorem sorted_spec {bx m : Nat} {es : List (Int × Lk)} (hwf : ∀ p ∈ es, (Lit.int .i64 p.1).wf = true) (hs : (es.map (·.1)).Pairwise (· < ·)) (hn : es.length ≤ 1048576) (h : ∀ a cap, K (.slice a es.length cap) (Row a cap 3 1 es.length (flat ienc (es.map (·.1))) :: cel bx 66 [.map (some m)] :: tmap m kI lk es :: F)) :
    Tri Try.prog 84 #[.func (.func 99) #[] #[ptr bx]] w0 (cel bx 66 [.map (some m)] :: tmap m kI lk es :: F) K := by
  refine Tri.of_calls fun w hr => ?_
  obtain ⟨D, hown, hsz, hperm⟩ := (hr.ent Ent.front1).ownsMap Try.underlying3 hwf (by simp only [maxLen]; omega)
  have hbx := hr.get
  have hblt : bx < w.heap.size := (Array.getElem?_eq_some_iff.1 hbx).1
  have hcell : w.cell? ⟨bx, 0, none⟩ = some (.map (some m)) := by simp [World.cell?, hbx]
  have hseq : SeqGives Fence.wide 2 Try.prog 99 #[ptr bx] encZ (fun ss => ss.Perm (intKeys (.map D))) (Maps.size (.map D)) w :=
    AnyZI.keys_gives (ρ := Try.keysA_ren) { Try.keysA with } Fence.wide _ trivial rfl (by omega) bx m es.length (.map D) _ hblt hcell hown
  have cS := AnyZI.sorted_in Try.sortedA Fence.wide 5 trivial trivial trivial trivial rfl (by omega) (sorts _) (enters_of Try.func98 (by kernel_rfl) rfl) 99 #[ptr bx] trivial (enters_of Try.func99 (by kernel_rfl) rfl) _ _ (by rw [Maps.size_eq, hsz]; simp only [maxLen]; omega) (by rw [Maps.size_eq, hsz]; omega) w hseq
  have cS := callsIn_wide.1 cS
  refine cS.mono ?_
  rintro e w' ⟨v, ss, rfl, hS, hrow, _, hb⟩
  have hp : ss.Perm (es.map (·.1)) := hS.trans hperm
  have hms : ss.mergeSort (fun x y => decide (x ≤ y)) = es.map (·.1) := by
    rw [mergeSort_of_perm_i hp]
    exact List.mergeSort_of_pairwise (hs.imp fun h => by simpa using Int.le_of_lt h)
  have hlen : ss.length = es.length := by simpa using hp.length_eq
  rw [hms, hlen] at hrow
  obtain ⟨a, cap, rfl, hr2⟩ := hr.ownsRow hb hrow
  refine ⟨_, _, rfl, hr2, ?_⟩
  have e1 : (es.map (·.1)).map encZ = flat ienc (es.map (·.1)) := by
    generalize es.map (·.1) = l
    induction l with
    | nil => rfl
    | cons x l ih => rw [flat_cons, ← ih]; rfl
  rw [e1]
  exact h a cap
theorem idle_spec {b m c : Nat} {a : Option Addr} {S : PS} {host : Int} {any : Bool} (ok : S.Ok) (h1 : ∀ p, idle S.conns host any = some p → K (.tuple #[kI p.1, .bool true]) (phead b m S.most S.pend S.opened a S.queue.length c :: tmap m kI lk S.conns :: F))
    (h2 : idle S.conns host any = none → K (.tuple #[kI 0, .bool false]) (phead b m S.most S.pend S.opened a S.queue.length c :: tmap m kI lk S.conns :: F)) :
    Tri Try.prog 65 #[ptr b, kI host, .bool any] w0 (phead b m S.most S.pend S.opened a S.queue.length c :: tmap m kI lk S.conns :: F) K := by
  have hwf : ∀ p ∈ S.conns, (Lit.int .i64 p.1).wf = true := fun p hp => by
    have := ok.low p hp
    have := ok.op
    simp [Lit.wf, IntKind.min, IntKind.max, IntKind.signed, IntKind.bits]; omega
  have hlen : S.conns.length ≤ 1048576 := by have := ok.cl; have := ok.most; omega
  refine Tri.enterF Try.func65 Try.ntmps65 Try.results65 rfl rfl fun fr hfr => ?_
  repeat' (first | refine walk ?_ | exact trivial | refine Tw.mk ?_ ?_ | refine Tri.sel1 (keys_spec (fun bx => ?_)) | refine Tri.sel2 (sorted_spec hwf ok.asc hlen (fun a' cap => ?_)) | fail)
  refine XS.loopI (ι := Nat) (fun k => [(0, ptr b), (1, kI host), (2, .bool any), (16, .slice a' S.conns.length cap), (17, kI S.conns.length), (18, kI k)]) (fun _ => Row a' cap 3 1 S.conns.length (flat ienc (S.conns.map (·.1))) :: cel bx 66 [.map (some m)] :: tmap m kI lk S.conns :: phead b m S.most S.pend S.opened a S.queue.length c :: F)
    (fun k => k ≤ S.conns.length ∧ ∀ (j : Nat) p, j < k → S.conns[j]? = some p → p.2.free host any = false) (fun k => S.conns.length - k) 0 ⟨Nat.zero_le _, fun j _ hj => absurd hj (by omega)⟩ ⟨rfl, rfl, rfl, rfl, rfl, rfl, trivial⟩ entA ?_
  rintro k e ⟨g1, g2⟩ ih
  by_cases hlt : k < S.conns.length
  · obtain ⟨p, hp⟩ : ∃ p, S.conns[k]? = some p := ⟨_, List.getElem?_eq_getElem hlt⟩
    have hz : (S.conns.map (·.1))[k]? = some p.1 := by rw [List.getElem?_map, hp]; rfl
    have hget := aget_of_asc ok.asc (List.mem_of_getElem? hp)
    refine XS.rowOpen (by omega) fun g hg => ?_
    subst hg
    have found : p.2.free host any = true → idle S.conns host any = some p := fun hf => find_at hp hf g2
    have next : p.2.free host any = false → k + 1 ≤ S.conns.length ∧ ∀ (j : Nat) q, j < k + 1 → S.conns[j]? = some q → q.2.free host any = false := fun hf => ⟨by omega, fun j q hj hq => by
      by_cases e : j = k
      · subst e; rw [hp] at hq; injection hq with hq; subst hq; exact hf
      · exact g2 j q (by omega) hq⟩
    cases any
    · refine walk ?_
      refine ⟨fun l _ _ hl hu => ?_, fun l _ _ hl hu hh => ?_, fun l _ _ hl hu hh => ?_, fun _ _ hl => ?_, fun _ _ hl => ?_, trivial⟩
      all_goals rw [hget] at hl
      all_goals (try cases hl)
      · exact ih (k + 1) _ _ (next (by simp [Lk.free, hu])) (by omega) ⟨rfl, rfl, rfl, rfl, rfl, rfl, trivial⟩ entA
      · exact Out.s2 (h1 p (found (by simp [Lk.free, hu, hh])))
      · exact ih (k + 1) _ _ (next (by simp [Lk.free, hu, hh])) (by omega) ⟨rfl, rfl, rfl, rfl, rfl, rfl, trivial⟩ entA
    · refine walk ?_
      refine ⟨fun l _ _ hl hu => ?_, fun l _ _ hl hu => ?_, fun _ _ hl => ?_, trivial⟩
      all_goals rw [hget] at hl
      all_goals (try cases hl)
      · exact ih (k + 1) _ _ (next (by simp [Lk.free, hu])) (by omega) ⟨rfl, rfl, rfl, rfl, rfl, rfl, trivial⟩ entA
      · exact Out.s2 (h1 p (found (by simp [Lk.free, hu])))
  · refine walk ?_
    exact ⟨fun _ => Out.s2 (h2 (find_none fun q hq => by
      obtain ⟨j, hj⟩ := List.getElem?_of_mem hq
      exact g2 j q (by have := (List.getElem?_eq_some_iff.1 hj).1; omega) hj)), trivial⟩
def genc (g : Int × Int × Int) : Value := .agg #[kI g.1, kI g.2.1, kI g.2.2]
theorem grant_spec {b : Nat} {S : PS} {x host : Int} (ok : S.Ok) (h1 : ∀ g S', S.can x host = some (g, S') → K (.tuple #[genc g, .bool true]) (pool b S' :: F)) (h2 : S.can x host = none → K (.tuple #[genc (0, 0, 0), .bool false]) (pool b S :: F)) :
    Tri Try.prog 31 #[ptr b, .agg ⟨wenc (x, host)⟩] w0 (pool b S :: F) K := by
  have hlen : S.conns.length ≤ 1048576 := by have := ok.cl; have := ok.most; omega
  have hop := ok.op
  have hnew : aget S.conns (S.opened + 1) = none := aget_above fun p hp => by have := (ok.low p hp).2; omega
  refine pool_open fun m a c => ?_
  refine Tri.enterF Try.func31 Try.ntmps31 Try.results31 rfl rfl fun fr hfr => ?_
  repeat' (first | refine walk ?_ | exact trivial | refine Tw.mk ?_ ?_ | intro bx bg | refine Tri.sel2 (idle_spec ok (fun p hp => ?_) (fun hn => ?_)) | fail)
  · repeat' (first | refine walk ?_ | exact trivial | refine Tw.mk ?_ ?_ | refine XO.sel1 (XO.setT (kv := kI) (ve := lk) (v := ⟨host, x, true⟩) TT_ok rfl trivial rfl rfl rfl rfl rfl keyI64 rfl rfl trivial ?_) | fail)
    exact pool_out (h1 _ _ (can_reuse hp))
  · repeat' (first | refine walk ?_ | exact trivial | refine Tw.mk ?_ ?_ | refine XO.sel1 (XO.setT (kv := kI) (ve := lk) (v := ⟨host, x, true⟩) TT_ok rfl trivial rfl rfl rfl rfl rfl keyI64 rfl rfl trivial ?_) | fail)
    exact pool_out (h1 _ _ (can_close (by assumption) (by assumption) (by assumption))) (h5 := (aset_new (aget_above fun q hq => by have := (ok.low q (mem_del hq)).2; omega)).symm)
  · exact pool_out (h2 (can_none (by assumption) (by assumption) (by assumption)))
  · repeat' (first | refine walk ?_ | exact trivial | refine Tw.mk ?_ ?_ | refine XO.sel1 (XO.setT (kv := kI) (ve := lk) (v := ⟨host, x, true⟩) TT_ok rfl trivial rfl rfl rfl rfl rfl keyI64 rfl rfl trivial ?_) | fail)
    exact pool_out (h1 _ _ (can_dial (by assumption) (by omega))) (h5 := (aset_new hnew).symm)
end Go.Proofs.Ytpfnhkdhcjclpaa
