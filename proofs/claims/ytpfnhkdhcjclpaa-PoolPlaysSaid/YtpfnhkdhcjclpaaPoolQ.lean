/- The document's pool: what can be had. Conditions: none. -/
import Derived.Test.YtpfnhkdhcjclpaaPoolP
import Derived.Test.YtpfnhkdhcjclpaaPoolS
import Derived.Test.YtpfnhkdhcjclpaaSxY
namespace Go.Proofs.Ytpfnhkdhcjclpaa
open Go Go.Sx Go.WheelM Go.PoolM
variable {w0 : World} {F H : List HProp} {K : Value → List HProp → Prop}
set_option maxHeartbeats 1000000 in
theorem rcan_spec {r c n2 c2 : Nat} {a a2 : Option Addr} {S : PS} {x host : Int} (ok : S.Ok) (ho : S.opened < 4611686018427387904)
    (h1 : ∀ g S' a' c' n' l', S.can x host = some (g, S') → n' = S'.conns.length → l' = flat cenc S'.conns → K (.tuple #[genc g, .bool true]) (rhead r S'.most S'.pend S'.opened a' n' c' a2 n2 c2 :: Row a' c' 136 4 n' l' :: F))
    (h2 : S.can x host = none → K (.tuple #[genc (0, 0, 0), .bool false]) (rhead r S.most S.pend S.opened a S.conns.length c a2 n2 c2 :: crow a c S.conns :: F)) :
    Tri Try.prog 81 #[ptr r, kI x, kI host] w0 (rhead r S.most S.pend S.opened a S.conns.length c a2 n2 c2 :: crow a c S.conns :: F) K := by
  have hl : S.conns.length ≤ 1048576 := by have := ok.cl; have := ok.most; omega
  refine Tri.enterF Try.func81 Try.ntmps81 Try.results81 rfl rfl fun fr hfr => ?_
  repeat' (first | refine walk ?_ | exact trivial | refine Tw.mk ?_ ?_ | intro bg | fail)
  refine XS.loopI (ι := Nat × Int) (fun q => [(0, ptr r), (1, kI x), (2, kI host), (6, ptr bg), (8, kI q.2), (9, kI q.1)]) (fun _ => cel bg 107 [kI 0, kI 0, kI 0] :: rhead r S.most S.pend S.opened a S.conns.length c a2 n2 c2 :: crow a c S.conns :: F)
    (fun q => q.1 ≤ S.conns.length ∧ idle (S.conns.take q.1) host false = none ∧ ((q.2 = -1 ∧ idle (S.conns.take q.1) 0 true = none) ∨ ∃ (k : Nat) (p : Int × Lk), q.2 = k ∧ k < q.1 ∧ S.conns[k]? = some p ∧ idle (S.conns.take q.1) 0 true = some p)) (fun q => S.conns.length - q.1) (0, -1) ⟨Nat.zero_le _, rfl, .inl ⟨rfl, rfl⟩⟩ ⟨rfl, rfl, rfl, rfl, rfl, rfl, trivial⟩ entA ?_
  rintro ⟨i, sp⟩ e ⟨hi, hno, hsp⟩ ih
  simp only at hi hno hsp
  dsimp only
  by_cases hlt : i < S.conns.length
  · obtain ⟨⟨m, hh, y, u⟩, hz⟩ : ∃ z, S.conns[i]? = some z := ⟨_, List.getElem?_eq_getElem hlt⟩
    refine XS.sel1 (c := crow a c S.conns) (XS.rowOpen (by omega) fun g hg => ?_)
    subst hg
    cases u
    · have hz1 : (S.conns.set i (m, ⟨hh, y, true⟩))[i]? = some (m, ⟨hh, y, true⟩) := List.getElem?_set_self hlt
      have hz2 : ((S.conns.set i (m, ⟨hh, y, true⟩)).set i (m, ⟨hh, x, true⟩))[i]? = some (m, ⟨hh, x, true⟩) := List.getElem?_set_self (by simpa using hlt)
      repeat' (first | refine walk ?_ | exact trivial | refine Tw.mk ?_ ?_ | intro hc | refine XO.sel1 (XO.storeRowF (xs := S.conns) (i := i) (p := (m, ⟨hh, y, false⟩)) (m, ⟨hh, y, true⟩) cenc_len hz TT_ok trivial rfl rfl rfl rfl rfl rfl rfl rfl rfl rfl trivial ?_) | refine XO.sel1 (XO.storeRowF (xs := S.conns.set i (m, ⟨hh, y, true⟩)) (i := i) (p := (m, ⟨hh, y, true⟩)) (m, ⟨hh, x, true⟩) cenc_len hz1 TT_ok trivial rfl rfl rfl rfl rfl rfl rfl rfl rfl rfl trivial ?_) | fail)
      · obtain rfl : hh = host := hc
        have hid : idle S.conns hh false = some (m, ⟨hh, y, false⟩) := idle_stay (i := i + 1) (by rw [idle_next hz, hno]; simp [Lk.free])
        have hset := aset_place (v := ⟨hh, x, true⟩) ok.asc hz
        exact Out.e (h1 (1, m, 0) { S with conns := aset S.conns m ⟨hh, x, true⟩ } (some ⟨g, 0, none⟩) c S.conns.length (flat cenc ((S.conns.set i (m, ⟨hh, y, true⟩)).set i (m, ⟨hh, x, true⟩))) (can_reuse hid) (by simp only [hset, List.length_set]) (by simp only [hset, List.set_set])) entA
      · have hne : ¬ hh = host := by assumption
        have hsp' : sp = -1 ∧ idle (S.conns.take i) 0 true = none := hsp.resolve_right (fun ⟨k, p, hk, _⟩ => by omega)
        exact ih (i + 1, i) _ _ ⟨hlt, by rw [idle_next hz, hno]; simp [Lk.free, hne], .inr ⟨i, _, rfl, by simp, hz, by rw [idle_next hz, hsp'.2]; simp [Lk.free]⟩⟩ (by simp only; omega) ⟨rfl, rfl, rfl, rfl, rfl, rfl, trivial⟩ entA
      · have hne : ¬ hh = host := by assumption
        obtain ⟨k, p, hk, hki, hkz, hkp⟩ := hsp.resolve_left (fun h => by omega)
        exact ih (i + 1, sp) _ _ ⟨hlt, by rw [idle_next hz, hno]; simp [Lk.free, hne], .inr ⟨k, p, hk, by simp only; omega, hkz, by rw [idle_next hz, hkp]; rfl⟩⟩ (by simp only; omega) ⟨rfl, rfl, rfl, rfl, rfl, rfl, trivial⟩ entA
    · repeat' (first | refine walk ?_ | exact trivial | refine Tw.mk ?_ ?_ | intro hc | fail)
      exact ih (i + 1, sp) _ _ ⟨hlt, by rw [idle_next hz, hno]; simp [Lk.free], hsp.imp (fun h => ⟨h.1, by rw [idle_next hz, h.2]; simp [Lk.free]⟩) (fun ⟨k, p, h1, h2, h3, h4⟩ => ⟨k, p, h1, by simp only; omega, h3, by rw [idle_next hz, h4]; rfl⟩)⟩ (by simp only; omega) ⟨rfl, rfl, rfl, rfl, rfl, rfl, trivial⟩ entA
  · obtain rfl : i = S.conns.length := by omega
    rw [List.take_length] at hno hsp
    clear ih
    have hop := ok.op
    by_cases hm : S.most ≤ S.conns.length
    · rcases hsp with ⟨rfl, hn⟩ | ⟨k, p, rfl, hk, hkz, hkp⟩
      · repeat' (first | refine walk ?_ | exact trivial | refine Tw.mk ?_ ?_ | intro hc | fail)
        exact Out.e (h2 (can_none hno hm hn)) entA
      · obtain ⟨m, hh, y, u⟩ := p
        refine XS.sel1 (c := crow a c S.conns) (XS.rowOpen (by omega) fun g hg => ?_)
        subst hg
        repeat' (first | refine walk ?_ | exact trivial | refine Tw.mk ?_ ?_ | intro hc | refine Tri.sel2 (drop_spec hl hkz (fun a' c' n' l' hn' hl' => ?_)) | refine XO.sel1 (XO.append (m := 1) (N := 1048577) TT_ok trivial rfl rfl rfl rfl rfl rfl rfl rfl rfl rfl rfl (ReadsL.skip (ReadsL.here 4)) rfl (by decide) rfl (by have := List.length_eraseIdx_le S.conns k; omega) rfl rfl (fun _ _ => trivial) (fun a' cap' => ?_)) | fail)
        subst hn' hl'
        have hdel := adel_place ok.asc hkz
        exact Out.e (h1 (2, S.opened + 1, m) { S with opened := S.opened + 1, conns := adel S.conns m ++ [(S.opened + 1, ⟨host, x, true⟩)] } a' cap' ((S.conns.eraseIdx k).length + 1) (flat cenc (S.conns.eraseIdx k) ++ cenc (S.opened + 1, ⟨host, x, true⟩)) (can_close hno hm hkp) (by simp [hdel]) (by simp only [hdel, flat_snoc])) entA
    · repeat' (first | refine walk ?_ | exact trivial | refine Tw.mk ?_ ?_ | intro hc | refine XO.sel1 (XO.append (m := 1) (N := 1048577) TT_ok trivial rfl rfl rfl rfl rfl rfl rfl rfl rfl rfl rfl (ReadsL.skip (ReadsL.here 4)) rfl (by decide) rfl (by omega) rfl rfl (fun _ _ => trivial) (fun a' cap' => ?_)) | fail)
      exact Out.e (h1 (2, S.opened + 1, 0) { S with opened := S.opened + 1, conns := S.conns ++ [(S.opened + 1, ⟨host, x, true⟩)] } a' cap' (S.conns.length + 1) (flat cenc S.conns ++ cenc (S.opened + 1, ⟨host, x, true⟩)) (can_dial hno hm) (by simp) (by simp only [flat_snoc])) entA
end Go.Proofs.Ytpfnhkdhcjclpaa
