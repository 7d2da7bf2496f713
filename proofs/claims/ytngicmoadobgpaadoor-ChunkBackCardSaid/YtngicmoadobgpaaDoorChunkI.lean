/- The statements on chunked bodies: ChunkBack. Conditions: the listed table's one cell that is read. -/
import Derived.Test.YtngicmoadobgpaaDoorChunkE
import Derived.Test.YtngicmoadobgpaaDoorChunkH
namespace Go.Proofs.YtngicmoadobgpaaDoor
open Go Go.Sx Go.ChunkM Go.StrM
variable {w0 : World} {F H : List HProp} {K : Value → List HProp → Prop}
theorem take_snoc {α : Type} {l : List α} {i : Nat} {x : α} (h : l[i]? = some x) : l.take (i + 1) = l.take i ++ [x] := by
  rw [List.take_add_one, h]; rfl
set_option maxHeartbeats 2000000 in
set_option maxRecDepth 200000 in
theorem chunk_back {v : Value} {d : DV} {tail : List UInt8} (hz : TZ w0) (h1 : (Sh.slice 16 .str).rd w0 [v] d) (ht : tail.length ≤ 140737488351232) : Tri Tryd.prog 6 #[v, kS tail] w0 F fun v _ => v = .bool true := by
  obtain ⟨ts, hal, hao, hab⟩ := texts_of h1
  obtain ⟨a, c, rfl⟩ := hab.form
  refine Tri.enterF Tryd.func6 Tryd.ntmps6 Tryd.results6 rfl rfl fun fr hfr => ?_
  repeat' (first | refine walk ?_ | exact trivial | refine Tw.mk ?_ ?_ | intro hy | refine canchor_spec ?_ | (exfalso; omega) | fail)
  refine XS.loopI (ι := Nat) (fun i => [(1, kS tail), (5, kS ((ts.take i).map encT).flatten), (6, kS (ts.take i).flatten), (22, .slice a ts.length c), (23, kI ts.length), (24, kI i)]) (fun _ => F) (fun i => i ≤ ts.length ∧ (∀ t ∈ ts.take i, t.length < 16 ^ 7) ∧ (ts.take i).flatten.length ≤ 268535456) (fun i => ts.length - i) 0
    ⟨Nat.zero_le _, by simp, by simp⟩ ⟨rfl, rfl, rfl, rfl, rfl, rfl, trivial⟩ entA ?_
  rintro i e ⟨hi, hsm, hbo⟩ ih
  have hsl := encs_le hsm
  by_cases hlt : i < ts.length
  · obtain ⟨t, hp⟩ : ∃ c, ts[i]? = some c := ⟨_, List.getElem?_eq_getElem hlt⟩
    have hpl := hao t (List.mem_of_getElem? hp)
    obtain ⟨g, off, rfl, hrd⟩ := hab.rdF kS (fun _ => rfl) hp
    by_cases hbig : ((ts.take i).flatten.length : Int) > 100000 ∨ (t.length : Int) ≥ 268435456
    · repeat' (first | refine walk ?_ | exact trivial | refine Tw.mk ?_ ?_ | intro hy | (exfalso; omega) | refine enc_spec hz hpl ?_ | exact Out.i rfl | fail)
    · have hts := take_snoc hp
      have hel := encT_le (t := t) (by omega)
      have hs2 : ∀ x ∈ ts.take (i + 1), x.length < 16 ^ 7 := by
        rw [hts]; intro x hx
        rcases List.mem_append.1 hx with hx | hx
        · exact hsm x hx
        · simp only [List.mem_cons, List.not_mem_nil, or_false] at hx; subst hx; omega
      repeat' (first | refine walk ?_ | exact trivial | refine Tw.mk ?_ ?_ | intro hy | (exfalso; omega) | (exfalso; exact absurd rfl hy) | refine enc_spec hz hpl ?_ | refine renc_spec (by omega) (fun a' c' => ?_) | (refine XO.sel1 (c := bRow _ _ (encT t)) ?_; refine XO.strOfRow TT_ok trivial rfl rfl rfl rfl rfl rfl rfl ?_) | fail)
      all_goals exact ih (i + 1) _ _ ⟨hlt, hs2, by rw [hts, List.flatten_append, List.length_append]; simp only [List.flatten_cons, List.flatten_nil, List.append_nil]; omega⟩ (by omega) ⟨rfl, congrArg kS (by rw [hts]; simp), congrArg kS (by rw [hts]; simp), rfl, rfl, rfl, trivial⟩ (Ent.drop _ _)
  · obtain rfl : i = ts.length := by omega
    clear ih
    rw [List.take_length] at *
    obtain ⟨D1, hf1⟩ := back_feed (fld := fieldOk) ts tail hsm
    repeat' (first | refine walk ?_ | exact trivial | refine Tw.mk ?_ ?_ | intro hy | (intro (b : Nat)) | (exfalso; omega) | (exfalso; exact absurd rfl hy) | refine last_spec ?_ | refine dnew_spec (fun b => ?_) | refine feed_big hf1 (by simp only [List.length_append, List.length_cons, List.length_nil]; omega) (by show (ts.flatten.length : Int) ≤ _; omega) rdy_ok ⟨by show _ ≤ (ts.flatten.length : Int); omega, by show (ts.flatten.length : Int) ≤ _; omega⟩ ?_ | fail)
    · obtain ⟨D2, hf2⟩ := over_feed (fld := fieldOk) ts hsm (by omega)
      repeat' (first | refine walk ?_ | exact trivial | refine Tw.mk ?_ ?_ | intro hy | (exfalso; exact absurd rfl hy) | refine feed_big hf2 (by simp only [List.length_append, List.length_cons, List.length_nil]; omega) (by show (ts.flatten.length : Int) - 1 ≤ _; omega) rdy_ok ⟨by show _ ≤ (ts.flatten.length : Int) - 1; omega, by show (ts.flatten.length : Int) - 1 ≤ _; omega⟩ ?_ | exact Out.i rfl | fail)
    · exact Out.i rfl
end Go.Proofs.YtngicmoadobgpaaDoor
