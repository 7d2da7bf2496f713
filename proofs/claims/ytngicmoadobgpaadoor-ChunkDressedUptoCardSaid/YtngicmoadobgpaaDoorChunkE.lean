/- The statements on chunked bodies: ChunkBound. Conditions: none. -/
import Derived.Test.YtngicmoadobgpaaDoorChunkD
import Derived.Test.YtngicmoadobgpaaDoorSxBase
namespace Go.Proofs.YtngicmoadobgpaaDoor
open Go Go.Sx Go.ChunkM Go.StrM
variable {w0 : World} {F H : List HProp} {K : Value → List HProp → Prop}
def lenc (l : List UInt8) : List Value := [kS l]
theorem lenc_len : ∀ l, (lenc l).length = 1 := fun _ => rfl
theorem texts_of {v : Value} {d : DV} (h : (Sh.slice 16 .str).rd w0 [v] d) : ∃ xs : List (List UInt8), xs.length * 16 ≤ 140737488351232 ∧ (∀ s ∈ xs, s.length ≤ 140737488351232) ∧ Base w0 v 1 xs.length (flat lenc xs) := by
  obtain ⟨xs, h1, h2, h3⟩ := Sh.slice_of (enc := lenc) (p := fun s => s.length ≤ 140737488351232) h (fun l x hx => by
    obtain ⟨b, rfl, _, hw⟩ := hx; exact ⟨b.data.toList, rfl, by have : b.size ≤ reachBytes := hw; simpa [reachBytes] using this⟩)
  exact ⟨xs, by simpa [reachBytes] using h1, h2, h3⟩
set_option maxHeartbeats 1000000 in
set_option maxRecDepth 20000 in
theorem chunk_bound {m : Int} {v : Value} {d : DV} (hm : -9223372036854775808 ≤ m ∧ m ≤ 9223372036854775807) (h1 : (Sh.slice 16 .str).rd w0 [v] d) : Tri Tryd.prog 4 #[kI m, v] w0 F fun v _ => v = .bool true := by
  obtain ⟨ps, hal, hao, hab⟩ := texts_of h1
  obtain ⟨a, c, rfl⟩ := hab.form
  have hlim : lim (rdy m 0 0) := hm
  refine Tri.enterF Tryd.func4 Tryd.ntmps4 Tryd.results4 rfl rfl fun fr hfr => ?_
  repeat' (first | refine walk ?_ | exact trivial | refine Tw.mk ?_ ?_ | intro hy | (intro (b : Nat)) | refine canchor_spec ?_ | (exfalso; omega) | refine dnew_spec (fun b => ?_) | fail)
  refine XS.loopI (ι := Nat × DS × Int) (fun q => [(0, kI m), (5, ptr b), (6, kI q.2.2), (19, .slice a ps.length c), (20, kI ps.length), (21, kI q.1)]) (fun q => dec b q.2.1 :: F) (fun q => q.1 ≤ ps.length ∧ Ok q.2.1 ∧ q.2.1.most = m ∧ 0 ≤ q.2.2 ∧ q.2.2 ≤ q.2.1.size) (fun q => ps.length - q.1) (0, rdy m 0 0, 0)
    ⟨Nat.zero_le _, rdy_ok, rfl, Int.le_refl _, Int.le_refl _⟩ ⟨rfl, rfl, rfl, rfl, rfl, rfl, trivial⟩ entA ?_
  rintro ⟨i, D, n⟩ e ⟨hi, hD, hmo, hn0, hn⟩ ih
  simp only at hi hD hmo hn0 hn
  dsimp only
  by_cases hlt : i < ps.length
  · obtain ⟨p, hp⟩ : ∃ c, ps[i]? = some c := ⟨_, List.getElem?_eq_getElem hlt⟩
    have hpl := hao p (List.mem_of_getElem? hp)
    obtain ⟨g, off, rfl, hrd⟩ := hab.rdF kS (fun _ => rfl) hp
    have hf := feed_facts (fld := fieldOk) hD p
    generalize hB : feed fieldOk D p = B at hf
    obtain ⟨D1, o, k, t, er⟩ := B
    dsimp only at hf
    obtain ⟨f1, f2, f3, f4, f5, f6⟩ := hf
    have s0 := f1.s0
    have s1 := f1.s1
    rw [f2, hmo] at s1
    repeat' (first | refine walk ?_ | exact trivial | refine Tw.mk ?_ ?_ | intro hy | (exfalso; omega) | refine feed_at hB hpl hD (by unfold lim; rw [hmo]; exact hm) ?_ | (exfalso; exact absurd (f6 (by assumption)) (by assumption)) | exact ih (i + 1, D1, n + o.length) _ _ ⟨hlt, f1, f2.trans hmo, by simp only; omega, by simp only; omega⟩ (by simp only; omega) ⟨rfl, rfl, rfl, rfl, rfl, rfl, trivial⟩ entA | fail)
  · obtain rfl : i = ps.length := by omega
    repeat' (first | refine walk ?_ | exact trivial | refine Tw.mk ?_ ?_ | intro hy | (exfalso; omega) | exact Out.i rfl | fail)
end Go.Proofs.YtngicmoadobgpaaDoor
