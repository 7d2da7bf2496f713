/- The statements on chunked bodies: ChunkDressed. Conditions: none. -/
import Derived.Test.YtngicmoadobgpaaDoorChunkJ
namespace Go.Proofs.YtngicmoadobgpaaDoor
open Go Go.Sx Go.ChunkM Go.StrM
variable {w0 : World} {F H : List HProp} {K : Value → List HProp → Prop}
theorem dress_le {z : Nat} {e t : List UInt8} (hz : z ≤ 4) (he : e.length ≤ 40) (h0 : t ≠ []) (ht : t.length ≤ 4095) : (dress z e t).length ≤ 60 * t.length := by
  have := hexE_len 3 t.length (by omega)
  have := List.length_pos_iff.2 h0
  simp only [dress, List.length_append, List.length_replicate, List.length_cons, List.length_nil]
  omega
theorem dresses_le {z : Nat} {e : List UInt8} (hz : z ≤ 4) (he : e.length ≤ 40) : ∀ {ts : List (List UInt8)}, (∀ t ∈ ts, t ≠ [] ∧ t.length ≤ 4095) → (ts.map (dress z e)).flatten.length ≤ 60 * ts.flatten.length
  | [], _ => by simp
  | t :: ts, h => by
    have h1 := h t List.mem_cons_self
    have h2 := dress_le (z := z) (e := e) hz he h1.1 h1.2
    have h3 := dresses_le hz he fun x hx => h x (List.mem_cons_of_mem t hx)
    simp only [List.map_cons, List.flatten_cons, List.length_append]
    omega
theorem noughts_take : ∀ z : Nat, z ≤ 4 → ([48, 48, 48, 48] : List UInt8).take z = List.replicate z 48 := by decide
theorem encT_take {t : List UInt8} (h0 : t ≠ []) : (encT t).take (hexE t.length).length = hexE t.length := by
  unfold encT; rw [if_neg h0, List.take_left]
set_option maxHeartbeats 2000000 in
set_option maxRecDepth 20000 in
theorem chunk_dressed {v : Value} {d : DV} {nz kz : Int} {ext : List UInt8} (h1 : (Sh.slice 16 .str).rd w0 [v] d) (hnz : -9223372036854775808 ≤ nz ∧ nz ≤ 9223372036854775807) (hx : ext.length ≤ 140737488351232) (hkz : -9223372036854775808 ≤ kz ∧ kz ≤ 9223372036854775807) :
    Tri Tryd.prog 5 #[v, kI nz, kS ext, kI kz] w0 F fun v _ => v = .bool true := by
  obtain ⟨ts, hal, hao, hab⟩ := texts_of h1
  obtain ⟨a, c, rfl⟩ := hab.form
  refine Tri.enterF Tryd.func5 Tryd.ntmps5 Tryd.results5 rfl rfl fun fr hfr => ?_
  repeat' (first | refine walk ?_ | exact trivial | refine Tw.mk ?_ ?_ | intro hy | refine canchor_spec ?_ | (exfalso; omega) | fail)
  refine XS.loopI (ι := Nat) (fun i => [(0, .slice a ts.length c), (1, kI nz), (2, kS ext), (3, kI kz), (24, kI ext.length), (25, kI i)]) (fun _ => F) (fun i => i ≤ ext.length ∧ ∀ (j : Nat) x, j < i → ext[j]? = some x → extB x = true) (fun i => ext.length - i) 0
    ⟨Nat.zero_le _, fun j _ hj => absurd hj (by omega)⟩ ⟨rfl, rfl, rfl, rfl, rfl, rfl, trivial⟩ entA ?_
  rintro i e ⟨hi, he⟩ ih
  by_cases hlt : i < ext.length
  · obtain ⟨x, hc⟩ : ∃ c, ext[i]? = some c := ⟨_, List.getElem?_eq_getElem hlt⟩
    repeat' (first | refine walk ?_ | exact trivial | refine Tw.mk ?_ ?_ | intro hy | (exfalso; omega) | exact Out.i rfl | exact ih (i + 1) _ _ ⟨hlt, all_step he hc (extB_yes (by omega))⟩ (by omega) ⟨rfl, rfl, rfl, rfl, rfl, rfl, trivial⟩ entA | fail)
  obtain rfl : i = ext.length := by omega
  clear ih
  have he := all_done he
  by_cases hbad : nz < 0 ∨ nz > 4 ∨ (ext.length : Int) > 40 ∨ kz < 0 ∨ kz > 32
  · repeat' (first | refine walk ?_ | exact trivial | refine Tw.mk ?_ ?_ | intro hy | (exfalso; omega) | exact Out.i rfl | fail)
  obtain ⟨z, rfl⟩ : ∃ z : Nat, nz = z := ⟨nz.toNat, by omega⟩
  obtain ⟨k, rfl⟩ : ∃ k : Nat, kz = k := ⟨kz.toNat, by omega⟩
  have hz4 : z ≤ 4 := by omega
  have hk32 : k ≤ 32 := by omega
  have hx40 : ext.length ≤ 40 := by omega
  have htl := trim_le ext
  repeat' (first | refine walk ?_ | exact trivial | refine Tw.mk ?_ ?_ | intro hy | (exfalso; omega) | fail)
  refine XS.loopI (ι := Nat × List (List UInt8)) (fun q => [(1, kI z), (2, kS ext), (3, kI k), (10, kS (q.2.map (dress z ext)).flatten), (11, kS q.2.flatten), (64, .slice a ts.length c), (65, kI ts.length), (66, kI q.1)]) (fun _ => F) (fun q => q.1 ≤ ts.length ∧ (∀ t ∈ q.2, t ≠ [] ∧ t.length ≤ 4095) ∧ q.2.flatten.length ≤ 24095) (fun q => ts.length - q.1) (0, [])
    ⟨Nat.zero_le _, by simp, by simp⟩ ⟨rfl, rfl, rfl, rfl, rfl, rfl, rfl, rfl, trivial⟩ entA ?_
  rintro ⟨i, us⟩ e ⟨hi, hu, hb⟩ ih
  simp only at hi hu hb
  dsimp only
  have hdl := dresses_le (z := z) (e := ext) hz4 hx40 hu
  by_cases hlt : i < ts.length
  · obtain ⟨t, hp⟩ : ∃ c, ts[i]? = some c := ⟨_, List.getElem?_eq_getElem hlt⟩
    have hpl := hao t (List.mem_of_getElem? hp)
    obtain ⟨g, off, rfl, hrd⟩ := hab.rdF kS (fun _ => rfl) hp
    by_cases hsk : t = [] ∨ (t.length : Int) > 4095 ∨ (us.flatten.length : Int) > 20000
    · repeat' (first | refine walk ?_ | exact trivial | refine Tw.mk ?_ ?_ | intro hy | (exfalso; omega) | (exfalso; rcases hsk with h | h | h; exact absurd h (by assumption); omega; omega) | exact ih (i + 1, us) _ _ ⟨hlt, hu, hb⟩ (by simp only; omega) ⟨rfl, rfl, rfl, rfl, rfl, rfl, rfl, rfl, trivial⟩ entA | fail)
    · have h0 : t ≠ [] := fun h => hsk (.inl h)
      have hrl : (List.replicate z (48 : UInt8)).length = z := List.length_replicate ..
      have hxl := hexE_len 3 t.length (by omega)
      have hel : (encT t).length = (hexE t.length).length + t.length + 4 := by simp only [encT, h0, if_false, List.length_append, List.length_cons, List.length_nil]; omega
      have htk : (([48, 48, 48, 48] : List UInt8).take z).length = z := by rw [noughts_take z hz4]; exact hrl
      have hu2 : ∀ x ∈ us ++ [t], x ≠ [] ∧ x.length ≤ 4095 := by
        intro x hx
        rcases List.mem_append.1 hx with hx | hx
        · exact hu x hx
        · simp only [List.mem_cons, List.not_mem_nil, or_false] at hx; subst hx; exact ⟨h0, by omega⟩
      repeat' (first | refine walk ?_ | exact trivial | refine Tw.mk ?_ ?_ | intro hy | (exfalso; omega) | (exfalso; exact h0 (by assumption)) | refine renc_spec (by omega) (fun a' c' => ?_) | (refine XO.sel1 (c := bRow _ _ (encT t)) ?_; refine XO.strOfRow TT_ok trivial rfl rfl rfl rfl rfl rfl rfl ?_) | refine XO.subHiE z (noughts_take z hz4) TT_ok rfl rfl rfl rfl rfl rfl rfl hz4 ?_ | refine XO.subHiE (hexE t.length).length (encT_take h0) TT_ok rfl rfl rfl rfl rfl rfl (by omega) (by omega) ?_ | (refine ih (i + 1, us ++ [t]) _ _ ⟨hlt, hu2, ?_⟩ (by simp only; omega) ⟨rfl, rfl, rfl, congrArg kS (by simp [dress, noughts_take z hz4]), congrArg kS (by simp), rfl, rfl, rfl, trivial⟩ (Ent.drop _ _); simp only [List.flatten_append, List.flatten_cons, List.flatten_nil, List.length_append, List.length_nil]; omega) | fail)
  · obtain rfl : i = ts.length := by omega
    clear ih
    obtain ⟨lf, hf⟩ := dressed_feed hz4 he hx40 hk32 us hu
    obtain ⟨tl, htl2⟩ : ∃ tl, tl = ([84, 58, 32] ++ trim ext ++ [13, 10] : List UInt8) := ⟨_, rfl⟩
    have htll : tl.length ≤ 45 := by rw [htl2]; simp only [List.length_append, List.length_cons, List.length_nil]; omega
    have hrep : ∀ j, (List.replicate j tl).flatten.length = j * tl.length := fun j => by simp
    have hrep2 : ∀ j, j ≤ 32 → (List.replicate j tl).flatten.length ≤ 1440 := fun j hj => by rw [hrep]; exact Nat.le_trans (Nat.mul_le_mul hj htll) (by decide)
    rw [← htl2] at hf
    repeat' (first | refine walk ?_ | exact trivial | refine Tw.mk ?_ ?_ | intro hy | (exfalso; omega) | fail)
    refine XS.loopI (ι := Nat) (fun j => [(2, kS ext), (3, kI k), (10, kS ((us.map (dress z ext)).flatten ++ [48, 13, 10] ++ (List.replicate j tl).flatten)), (11, kS us.flatten), (15, kI j)]) (fun _ => F) (fun j => j ≤ k) (fun j => k - j) 0
      (Nat.zero_le _) ⟨rfl, rfl, congrArg kS (by simp), rfl, rfl, trivial⟩ entA ?_
    rintro j e hj ih
    have hr := hrep2 j (by omega)
    by_cases hlt : j < k
    · repeat' (first | refine walk ?_ | exact trivial | refine Tw.mk ?_ ?_ | intro hy | (exfalso; omega) | refine rtrim_spec (by omega) ?_ | exact ih (j + 1) _ _ hlt (by omega) ⟨rfl, rfl, congrArg kS (by rw [List.replicate_succ', htl2]; simp), rfl, rfl, trivial⟩ entA | fail)
    · obtain rfl : j = k := by omega
      clear ih
      repeat' (first | refine walk ?_ | exact trivial | refine Tw.mk ?_ ?_ | intro hy | (exfalso; omega) | refine dnew_spec (fun b => ?_) | refine feed_at hf (by simp only [List.length_append, List.length_cons, List.length_nil]; omega) rdy_ok ⟨by show _ ≤ (us.flatten.length : Int); omega, by show (us.flatten.length : Int) ≤ _; omega⟩ ?_ | refine dsize2_spec ?_ | exact Out.i rfl | (exfalso; exact hy rfl) | (exfalso; refine hy ?_; simp only [List.length_append, List.length_cons, List.length_nil]; omega) | fail)
end Go.Proofs.YtngicmoadobgpaaDoor
