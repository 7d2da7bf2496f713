/- The document's pool: Acquire, Serve, Release, Remove, Holder, Cancel. Conditions: none. -/
import Derived.Test.YtpfnhkdhcjclpaaPoolQ
import Derived.Test.YtpfnhkdhcjclpaaSxZ
namespace Go.Proofs.Ytpfnhkdhcjclpaa
open Go Go.Sx Go.WheelM Go.PoolM
variable {w0 : World} {F H : List HProp} {K : Value → List HProp → Prop}
theorem rpool_out {R : Value → List HProp → Prop} {v : Value} {r n c n2 c2 : Nat} {a a2 : Option Addr} {l l2 : List Value} {S : PS} {most pend opened : Int} {H1 H2 H3 : List HProp} (h : R v (rpool r S :: F)) (s1 : Sel (rhead r most pend opened a n c a2 n2 c2) H H1 := by exact selA) (s2 : Sel (Row a c 136 4 n l) H1 H2 := by exact selA) (s3 : Sel (Row a2 c2 134 2 n2 l2) H2 H3 := by exact selA) (x : Ent H3 F := by exact dropA)
    (h1 : S.most = most := by rfl) (h2 : S.pend = pend := by rfl) (h3 : S.opened = opened := by rfl) (h4 : S.conns.length = n := by rfl) (h5 : flat cenc S.conns = l := by rfl) (h6 : S.queue.length = n2 := by rfl) (h7 : flat wenc S.queue = l2 := by rfl) : Out R v H := by
  subst h1 h2 h3 h4 h5 h6 h7
  exact Out.e h (Ent.trans s1 (Ent.trans (Ent.cons _ s2) (Ent.trans (Ent.cons _ (Ent.cons _ s3)) (Ent.trans (Ent.cons _ (Ent.cons _ (Ent.cons _ x))) rpool_mk))))
theorem racquire_spec {r : Nat} {S : PS} {x host : Int} (ok : S.Ok) (ho : S.opened < 4611686018427387904) (h : K (.tuple #[genc (S.acquire x host).1.1, kI (S.acquire x host).1.2]) (rpool r (S.acquire x host).2 :: F)) : Tri Try.prog 54 #[ptr r, kI x, kI host] w0 (rpool r S :: F) K := by
  have hl : S.conns.length ≤ 1048576 := by have := ok.cl; have := ok.most; omega
  have hq : S.queue.length ≤ 1048576 := by have := ok.ql; have := ok.pend; omega
  refine rpool_open fun a c a2 c2 => ?_
  refine Tri.enterF Try.func54 Try.ntmps54 Try.results54 rfl rfl fun fr hfr => ?_
  repeat' (first | refine walk ?_ | exact trivial | refine Tw.mk ?_ ?_ | intro hc | refine Tri.sel3 (rknown_spec hl hq ?_) | refine Tri.sel2 (rcan_spec ok ho (fun g S' a' c' n' l' hc hn' hl' => ?_) (fun hcn => ?_)) | refine XO.sel1 (XO.append (m := 1) (N := 1048577) TT_ok trivial rfl rfl rfl rfl rfl rfl rfl rfl rfl rfl rfl (ReadsL.skip (ReadsL.here 2)) rfl (by decide) rfl (by omega) rfl rfl (fun _ _ => trivial) (fun a' cap' => ?_)) | fail)
  · rw [acq_known (by assumption)] at h
    exact rpool_out h
  · have hcn : S.can x host = some (g, S') := by assumption
    rw [acq_got (by assumption) (by assumption) hcn] at h
    exact rpool_out h (h4 := hn'.symm) (h5 := hl'.symm) (h6 := by rw [can_queue hcn]) (h7 := by rw [can_queue hcn])
  · rw [acq_else (by assumption) (fun _ => by assumption), if_neg (by omega)] at h
    exact rpool_out h (h6 := by simp) (h7 := flat_snoc _ _)
  · rw [acq_else (by assumption) (fun _ => by assumption), if_pos (by assumption)] at h
    exact rpool_out h
  · rw [acq_else (by assumption) (fun h0 => absurd h0 (by assumption)), if_neg (by omega)] at h
    exact rpool_out h (h6 := by simp) (h7 := flat_snoc _ _)
  · rw [acq_else (by assumption) (fun h0 => absurd h0 (by assumption)), if_pos (by assumption)] at h
    exact rpool_out h
theorem rserve_spec {r : Nat} {S : PS} (ok : S.Ok) (ho : S.opened < 4611686018427387904) (h : K (.tuple #[kI S.serve.1.1, genc S.serve.1.2.1, .bool S.serve.1.2.2]) (rpool r S.serve.2 :: F)) : Tri Try.prog 56 #[ptr r] w0 (rpool r S :: F) K := by
  have hq : S.queue.length ≤ 1048576 := by have := ok.ql; have := ok.pend; omega
  refine rpool_open fun a c a2 c2 => ?_
  refine Tri.enterF Try.func56 Try.ntmps56 Try.results56 rfl rfl fun fr hfr => ?_
  refine walk ?_
  refine ⟨fun _ hq0 => ?_, fun b1 h0 => ?_, trivial⟩
  · have e : S.queue = [] := List.length_eq_zero_iff.1 (by omega)
    simp only [PS.serve, e] at h
    exact rpool_out h (h6 := by simp [e]) (h7 := by simp [e])
  · have h0' : 0 < S.queue.length := by omega
    obtain ⟨⟨x, hst⟩, l, hql⟩ : ∃ w l, S.queue = w :: l := by
      cases hql : S.queue with
      | nil => rw [hql] at h0'; simp at h0'
      | cons w l => exact ⟨w, l, rfl⟩
    have hz : S.queue[0]? = some (x, hst) := by rw [hql]; rfl
    refine XO.sel1 (c := qrow a2 c2 S.queue) (XO.rowOpen h0' fun g hg => ?_)
    subst hg
    repeat' (first | refine walk ?_ | exact trivial | refine Tw.mk ?_ ?_ | intro b2 | refine Tri.sel2 (rcan_spec (x := x) (host := hst) ok ho (fun g2 S' a' c' n' l' hc hn' hl' => ?_) (fun hcn => ?_)) | refine XO.buildSlice0 TT_ok trivial rfl rfl rfl rfl rfl (fun _ => trivial) (fun b3 => ?_) | (refine XO.sel1 (c := RowAt g c2 _ 2 S.queue.length (flat wenc S.queue)) ?_; refine XO.rowLe (fun hle => ?_); refine XO.sliceLo (l := 1) TT_ok rfl rfl rfl rfl rfl rfl rfl h0' hle (fun ad had => ?_)) | (refine XO.sel1 (c := Row _ 0 134 2 0 []) ?_; refine XO.appendN (k := 0) (m := S.queue.length - 1) (N := 1048577) (news := flat wenc (S.queue.drop 1)) TT_ok trivial rfl rfl rfl rfl rfl rfl rfl rfl rfl rfl rfl (fun hm => ⟨_, rfl, by rw [had (by omega)]; exact ReadsL.skip (ReadsL.rowDrop 1 wenc_len)⟩) (by rw [flat_length wenc_len, List.length_drop]) (flat_all wenc_all _) (by omega) rfl rfl (fun _ _ => trivial) (fun a' cap' => ?_)) | fail)
    · simp only [PS.serve, hql, hc] at h
      exact rpool_out h (h4 := hn'.symm) (h5 := hl'.symm) (h6 := by rw [hql]; simp) (h7 := by rw [hql]; simp)
    · simp only [PS.serve, hql, hcn] at h
      exact rpool_out h
theorem rholder_spec {r : Nat} {S : PS} {n : Int} (hl : S.conns.length ≤ 1048576) (h : ∀ x u, (x, u) = (if (S.holder n).2 then S.holder n else (0, false)) → K (.tuple #[kI x, .bool u]) (rpool r S :: F)) : Tri Try.prog 60 #[ptr r, kI n] w0 (rpool r S :: F) K := by
  refine rpool_open fun a c a2 c2 => ?_
  refine Tri.enterF Try.func60 Try.ntmps60 Try.results60 rfl rfl fun fr hfr => ?_
  repeat' (first | refine walk ?_ | exact trivial | refine Tw.mk ?_ ?_ | intro hc | refine Tri.sel2 (at_spec hl (fun i l hi hg => ?_) (fun hn => ?_)) | fail)
  · obtain ⟨hh, y, u⟩ := l
    refine XO.sel1 (c := crow a c S.conns) (XO.rowOpen (by have := (List.getElem?_eq_some_iff.1 hi).1; omega) fun g hg => ?_)
    subst hg
    have hlt := (List.getElem?_eq_some_iff.1 hi).1
    cases u
    · repeat' (first | refine walk ?_ | exact trivial | refine Tw.mk ?_ ?_ | intro hc | fail)
      exact rpool_out (h 0 false (by simp [PS.holder, hg]))
    · repeat' (first | refine walk ?_ | exact trivial | refine Tw.mk ?_ ?_ | intro hc | fail)
      exact rpool_out (h y true (by simp [PS.holder, hg]))
  · exact rpool_out (h 0 false (by simp [PS.holder, hn]))
theorem rrelease_spec {r : Nat} {S : PS} {n : Int} (ok : S.Ok) (h : K (kI (S.release n).1) (rpool r (S.release n).2 :: F)) : Tri Try.prog 57 #[ptr r, kI n] w0 (rpool r S :: F) K := by
  have hl : S.conns.length ≤ 1048576 := by have := ok.cl; have := ok.most; omega
  refine rpool_open fun a c a2 c2 => ?_
  refine Tri.enterF Try.func57 Try.ntmps57 Try.results57 rfl rfl fun fr hfr => ?_
  repeat' (first | refine walk ?_ | exact trivial | refine Tw.mk ?_ ?_ | intro hc | refine Tri.sel2 (at_spec hl (fun i l hi hg => ?_) (fun hn => ?_)) | fail)
  · obtain ⟨hh, y, u⟩ := l
    have hlt := (List.getElem?_eq_some_iff.1 hi).1
    refine XO.sel1 (c := crow a c S.conns) (XO.rowOpen (by omega) fun g hg => ?_)
    subst hg
    cases u
    · repeat' (first | refine walk ?_ | exact trivial | refine Tw.mk ?_ ?_ | intro hc | fail)
      simp only [PS.release, hg, Bool.false_eq_true, if_false] at h
      exact rpool_out h
    · have hz1 : (S.conns.set i (n, ⟨hh, y, false⟩))[i]? = some (n, ⟨hh, y, false⟩) := List.getElem?_set_self hlt
      repeat' (first | refine walk ?_ | exact trivial | refine Tw.mk ?_ ?_ | intro hc | refine XO.sel1 (XO.storeRowF (xs := S.conns) (i := i) (p := (n, ⟨hh, y, true⟩)) (n, ⟨hh, y, false⟩) cenc_len hi TT_ok trivial rfl rfl rfl rfl rfl rfl rfl rfl rfl rfl trivial ?_) | refine XO.sel1 (XO.storeRowF (xs := S.conns.set i (n, ⟨hh, y, false⟩)) (i := i) (p := (n, ⟨hh, y, false⟩)) (n, ⟨hh, 0, false⟩) cenc_len hz1 TT_ok trivial rfl rfl rfl rfl rfl rfl rfl rfl rfl rfl trivial ?_) | fail)
      simp only [PS.release, hg, if_true] at h
      have hset := aset_place (v := ⟨hh, 0, false⟩) ok.asc hi
      exact rpool_out h (h4 := by simp only [hset, List.length_set]) (h5 := by simp only [hset, List.set_set])
  · simp only [PS.release, hn] at h
    exact rpool_out h
theorem rremove_spec {r : Nat} {S : PS} {n : Int} (ok : S.Ok) (h : K (kI (S.remove n).1) (rpool r (S.remove n).2 :: F)) : Tri Try.prog 58 #[ptr r, kI n] w0 (rpool r S :: F) K := by
  have hl : S.conns.length ≤ 1048576 := by have := ok.cl; have := ok.most; omega
  refine rpool_open fun a c a2 c2 => ?_
  refine Tri.enterF Try.func58 Try.ntmps58 Try.results58 rfl rfl fun fr hfr => ?_
  repeat' (first | refine walk ?_ | exact trivial | refine Tw.mk ?_ ?_ | intro hc | refine Tri.sel2 (at_spec hl (fun i l hi hg => ?_) (fun hn => ?_)) | refine Tri.sel2 (drop_spec hl (by assumption) (fun a' c' n' l' hn' hl' => ?_)) | fail)
  · simp only [PS.remove, hg] at h
    have hdel := adel_place ok.asc hi
    exact rpool_out h (h4 := by simp only [hdel]; exact Eq.symm (by assumption)) (h5 := by simp only [hdel]; exact Eq.symm (by assumption))
  · have hg : aget S.conns n = none := by assumption
    simp only [PS.remove, hg] at h
    exact rpool_out h
theorem rcancel_spec {r : Nat} {S : PS} {x : Int} (ok : S.Ok) (h : K (.bool (S.cancel x).1) (rpool r (S.cancel x).2 :: F)) : Tri Try.prog 59 #[ptr r, kI x] w0 (rpool r S :: F) K := by
  have hq : S.queue.length ≤ 1048576 := by have := ok.ql; have := ok.pend; omega
  refine rpool_open fun a c a2 c2 => ?_
  refine Tri.enterF Try.func59 Try.ntmps59 Try.results59 rfl rfl fun fr hfr => ?_
  repeat' (first | refine walk ?_ | exact trivial | refine Tw.mk ?_ ?_ | intro hc | fail)
  refine XS.ent (Row.nil 134 2 _) ?_
  refine XS.loopI (ι := Nat × Option Addr × Nat) (fun q => [(0, ptr r), (1, kI x), (5, .slice q.2.1 (no x (S.queue.take q.1)).length q.2.2), (6, kI q.1)]) (fun q => Row q.2.1 q.2.2 134 2 (no x (S.queue.take q.1)).length (flat wenc (no x (S.queue.take q.1))) :: rhead r S.most S.pend S.opened a S.conns.length c a2 S.queue.length c2 :: crow a c S.conns :: qrow a2 c2 S.queue :: F)
    (fun q => q.1 ≤ S.queue.length) (fun q => S.queue.length - q.1) (0, none, 0) (Nat.zero_le _) ⟨rfl, rfl, rfl, rfl, trivial⟩ entA ?_
  rintro ⟨i, a3, c3⟩ e hi ih
  simp only at hi
  dsimp only
  by_cases hlt : i < S.queue.length
  · obtain ⟨⟨y, hst⟩, hz⟩ : ∃ z, S.queue[i]? = some z := ⟨_, List.getElem?_eq_getElem hlt⟩
    refine XS.sel1 (c := qrow a2 c2 S.queue) (XS.rowOpen (by omega) fun g hg => ?_)
    subst hg
    have hnl : (no x (S.queue.take i)).length ≤ 1048576 := by
      have := List.length_filter_le (fun q : Int × Int => decide (q.1 ≠ x)) (S.queue.take i)
      rw [List.length_take] at this
      simp only [no]; omega
    repeat' (first | refine walk ?_ | exact trivial | refine Tw.mk ?_ ?_ | intro hc | (refine XO.sel1 (c := Row a3 c3 134 2 _ _) ?_; refine XO.append (m := 1) (N := 1048577) TT_ok trivial rfl rfl rfl rfl rfl rfl rfl rfl rfl rfl rfl (ReadsL.skip (ReadsL.here 2)) rfl (by decide) rfl (by omega) rfl rfl (fun _ _ => trivial) (fun a' cap' => ?_)) | fail)
    · have hc : y ≠ x := hc
      have e1 : no x (S.queue.take (i + 1)) = no x (S.queue.take i) ++ [(y, hst)] := by rw [List.take_add_one, hz]; simp [no, hc]
      refine ih (i + 1, a', cap') _ _ hlt (by simp only; omega) ⟨rfl, rfl, (show Value.slice a' ((no x (S.queue.take i)).length + 1) cap' = Value.slice a' (no x (S.queue.take (i + 1))).length cap' from by rw [e1]; simp), rfl, trivial⟩ ?_
      simp only [e1, List.length_append, flat_snoc]
      exact entA
    · have hc : y = x := hc
      have e1 : no x (S.queue.take (i + 1)) = no x (S.queue.take i) := by rw [List.take_add_one, hz]; simp [no, hc]
      refine ih (i + 1, a3, c3) _ _ hlt (by simp only; omega) ⟨rfl, rfl, (show Value.slice a3 (no x (S.queue.take i)).length c3 = Value.slice a3 (no x (S.queue.take (i + 1))).length c3 from by rw [e1]), rfl, trivial⟩ ?_
      simp only [e1]
      exact entA
  · obtain rfl : i = S.queue.length := by omega
    rw [List.take_length]
    repeat' (first | refine walk ?_ | exact trivial | refine Tw.mk ?_ ?_ | intro hc | fail)
    · have e1 : (S.cancel x).1 = true := by simp only [PS.cancel]; exact decide_eq_true (by omega)
      rw [e1] at h
      exact rpool_out h
    · have e1 : (S.cancel x).1 = false := by simp only [PS.cancel]; exact decide_eq_false (by omega)
      rw [e1] at h
      exact rpool_out h
end Go.Proofs.Ytpfnhkdhcjclpaa
