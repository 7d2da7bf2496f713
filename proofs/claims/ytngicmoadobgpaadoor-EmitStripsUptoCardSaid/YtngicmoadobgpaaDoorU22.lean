/- Some texts put together: lemmas and contracts for the law. Conditions: as each text says. -/
import Derived.Test.YtngicmoadobgpaaDoorU21
import Derived.Test.YtngicmoadobgpaaDoorRows
import Derived.Test.YtngicmoadobgpaaDoorU14
import Derived.ProofKit
import Derived.LaidMore
import Derived.OpenShut
import Derived.Lib.LaidTab
/- The law on what is left out, with an upgrade. Conditions: the texts are small. -/
namespace Go.Proofs.YtngicmoadobgpaaDoor
open Go Go.Sx Go.ChunkM Go.StrM Go.EmitM
variable {w0 : World} {F H : List HProp} {K : Value → List HProp → Prop}
set_option maxHeartbeats 2000000 in
theorem strips_true {fs : List Fld} {a : Option Addr} {c : Nat} (ht : T10 w0) (hS : FsS fs) : Tri Tryd.prog 9 #[.slice a fs.length c, .bool true] w0 (fView w0 (.slice a fs.length c) fs :: F) (fun v _ => v = .bool true) := by
  have hS1 := hS.1
  have hS2 := hS.2
  refine Tri.enterF Tryd.func9 Tryd.ntmps9 Tryd.results9 rfl rfl fun fr hfr => ?_
  repeat' (first | refine walk ?_ | exact trivial | refine Tw.mk ?_ ?_ | intro hy | refine eanchor_spec ht ?_ | refine rcheck_spec hS (fun hok => ?_) (fun z hz => ?_) | (exfalso; omega) | exact Out.i rfl | fail)
  refine XS.loopI (ι := Nat) (fun i => [(0, .slice a fs.length c), (1, .bool true), (5, kI (fbytes (fs.take i))), (41, .slice a fs.length c), (42, kI fs.length), (43, kI i)]) (fun _ => fView w0 (.slice a fs.length c) fs :: F) (fun i => i ≤ fs.length) (fun i => fs.length - i) 0 (Nat.zero_le _) ⟨rfl, rfl, rfl, rfl, rfl, rfl, trivial⟩ (Ent.refl _) ?_
  rintro i e hi ih
  have hle := take_fb_le fs i
  by_cases hlt : i < fs.length
  · obtain ⟨⟨n1, v1⟩, hf⟩ : ∃ f, fs[i]? = some f := ⟨_, List.getElem?_eq_getElem hlt⟩
    have hfb := fbytes_mem (List.mem_of_getElem? hf)
    have htk := take_fb hf
    simp only at hfb htk
    refine XS.viewOpen (by omega) fun g off c3 hv hc3 => ?_
    injection hv with hv1 _ hv3
    subst hv1 hv3
    have hE : ∀ X : List HProp, Ent (Sx.viewAt w0 g off 2 fs.length (flat fenc fs) :: X) (fView w0 (.slice (some ⟨g, off, none⟩) fs.length c) fs :: X) := fun X => Ent.viewAt hc3
    repeat' (first | refine walk ?_ | exact trivial | refine Tw.mk ?_ ?_ | (intro (bx : Nat)) | intro hy | (exfalso; omega) | refine XO.loadN TT_ok rfl rfl rfl rfl rfl rfl rfl (ReadsN.viewFlat fenc_len hf) ?_ | fail)
    exact ih (i + 1) _ _ hlt (by omega) ⟨rfl, rfl, congrArg (Value.int .i64) (by rw [htk]; omega), rfl, rfl, rfl, trivial⟩ (Ent.trans (Ent.drop _ _) (hE _))
  · obtain rfl : i = fs.length := by omega
    clear ih
    rw [List.take_length] at *
    have hu : ([119, 115] : List UInt8) = [] ∨ ([119, 115] : List UInt8) = [119, 115] := by simp
    by_cases h300 : fbytes fs ≤ 300
    · have hl20 : fs.length ≤ 20 := by omega
      obtain ⟨r1, r2⟩ := req_read hok.1 hl20 h300 hu
      obtain ⟨r3, r4⟩ := hd_read hok.1 hl20 h300 hu
      have s1 := fls_small r1
      have s2 := fls_small r3
      have s1' : (fls (reqFs fs [119, 115])).length ≤ 1000000 := by omega
      have s2' : (fls (hdFs fs [119, 115])).length ≤ 1000000 := by omega
      repeat' (first | refine walk ?_ | exact trivial | refine Tw.mk ?_ ?_ | (intro (bz : Nat)) | intro hy | (exfalso; omega) | (exfalso; apply hy; simp only [List.length_append, List.length_cons, List.length_nil]; done) | refine XO.buildArr TT_ok rfl rfl rfl rfl rfl rfl rfl rfl ?_ | refine Tri.sel1 (copied_spec hS (fun a2 c2 => ?_)) | (refine Tri.sel1 (request_w (up := [119, 115]) ht hS (by simp) ?_)) | (refine Tri.sel1 (head_w (up := [119, 115]) ht hS (by simp) ?_)) | refine readQ_spec r1 r2 s1' (fun aq cq => ?_) | refine readS_spec r3 r4 s2' (fun ah ch => ?_) | fail)
      rename_i a1 c1 b11 q1 q2 q3
      have G1 : FsS (reqFs fs [119, 115]) := ⟨by omega, by have := fb_read r1; omega⟩
      have G2 : FsS (hdFs fs [119, 115]) := ⟨by omega, by have := fb_read r3; omega⟩
      refine XS.ent (Ent.trans (selA (c := fRow ah ch (hdFs fs [119, 115]))) (Ent.rowView (w0 := w0))) ?_
      refine XS.ent (Ent.trans (selA (c := fRow aq cq (reqFs fs [119, 115]))) (Ent.rowView (w0 := w0))) ?_
      refine XS.loopI (ι := Nat) (fun i => [(0, .slice a fs.length c), (1, .bool true), (11, ptr b11), (102, .agg ⟨reqHead (.slice aq (reqFs fs [119, 115]).length cq) ++ stHead (.slice ah (hdFs fs [119, 115]).length ch)⟩), (103, kI i)]) (fun _ => cel b11 61 (reqHead (.slice aq (reqFs fs [119, 115]).length cq)) :: fView w0 (.slice aq (reqFs fs [119, 115]).length cq) (reqFs fs [119, 115]) :: fView w0 (.slice ah (hdFs fs [119, 115]).length ch) (hdFs fs [119, 115]) :: fView w0 (.slice a fs.length c) fs :: F) (fun i => i ≤ 2) (fun i => 2 - i) 0 (Nat.zero_le _) ⟨rfl, rfl, rfl, rfl, rfl, trivial⟩ entA ?_
      rintro i e2 hi2 ih
      have hcase : i = 0 ∨ i = 1 ∨ i = 2 := by omega
      rcases hcase with rfl | rfl | rfl
      · repeat' (first | refine walk ?_ | exact trivial | refine Tw.mk ?_ ?_ | (intro (b18 : Nat)) | intro hy | (exfalso; omega) | refine XO.indexV (i := 0) (v := .agg ⟨reqHead (.slice aq (reqFs fs [119, 115]).length cq)⟩) rfl TT_ok rfl rfl rfl rfl rfl rfl rfl (by decide) rfl ?_ | fail)
        refine XS.loopI (ι := Nat) (fun j => [(0, .slice a fs.length c), (1, .bool true), (11, ptr b11), (18, ptr b18), (102, .agg ⟨reqHead (.slice aq (reqFs fs [119, 115]).length cq) ++ stHead (.slice ah (hdFs fs [119, 115]).length ch)⟩), (103, kI 0), (106, .slice a fs.length c), (107, kI fs.length), (108, kI j)]) (fun _ => cel b18 61 (reqHead (.slice aq (reqFs fs [119, 115]).length cq)) :: cel b11 61 (reqHead (.slice aq (reqFs fs [119, 115]).length cq)) :: fView w0 (.slice aq (reqFs fs [119, 115]).length cq) (reqFs fs [119, 115]) :: fView w0 (.slice ah (hdFs fs [119, 115]).length ch) (hdFs fs [119, 115]) :: fView w0 (.slice a fs.length c) fs :: F) (fun j => j ≤ fs.length) (fun j => fs.length - j) 0 (Nat.zero_le _) ⟨rfl, rfl, rfl, rfl, rfl, rfl, rfl, rfl, rfl, trivial⟩ (Ent.refl _) ?_
        rintro j e3 hj ih3
        by_cases hlt : j < fs.length
        · obtain ⟨⟨n1, v1⟩, hf⟩ : ∃ f, fs[j]? = some f := ⟨_, List.getElem?_eq_getElem hlt⟩
          have hk1 := hok.1 _ (List.mem_of_getElem? hf)
          have hn512 : n1.length ≤ 512 := by have := hk1.2.2; simp only at this; omega
          have hcnt : oneP fs n1 = true → ownB n1 true = false → (values (reqFs fs [119, 115]) n1).length = 0 := fun h1 h2 => req_none hk1.1 h1 h2
          refine XS.sel1 (c := fView w0 (.slice a fs.length c) fs) (XS.viewOpen (by omega) fun g off c3 hv hc3 => ?_)
          injection hv with hv1 _ hv3
          subst hv1 hv3
          have hE : ∀ X : List HProp, Ent (Sx.viewAt w0 g off 2 fs.length (flat fenc fs) :: X) (fView w0 (.slice (some ⟨g, off, none⟩) fs.length c) fs :: X) := fun X => Ent.viewAt hc3
          cases ho : oneP fs n1
          · repeat' (first | refine walk ?_ | exact trivial | refine Tw.mk ?_ ?_ | (intro (bx : Nat)) | intro hy | (exfalso; omega) | refine XO.loadN TT_ok rfl rfl rfl rfl rfl rfl rfl (ReadsN.viewFlat fenc_len hf) ?_ | (refine Tri.sel1 (rget_spec (fs := reqFs fs [119, 115]) (a := aq) (c := cq) (nm := n1) G1 (by omega) (fun v => ?_))) | (refine Tri.ent (Ent.trans (selA (c := Sx.viewAt w0 g off 2 fs.length (flat fenc fs))) (hE _)) (rone_spec hS (by omega) ?_); rw [ho]) | fail)
            exact ih3 (j + 1) _ _ hlt (by omega) ⟨rfl, rfl, rfl, rfl, rfl, rfl, rfl, rfl, rfl, trivial⟩ entA
          · cases hw : ownB n1 true
            · have hz := hcnt ho hw
              repeat' (first | refine walk ?_ | exact trivial | refine Tw.mk ?_ ?_ | (intro (bx : Nat)) | intro hy | (exfalso; omega) | refine XO.loadN TT_ok rfl rfl rfl rfl rfl rfl rfl (ReadsN.viewFlat fenc_len hf) ?_ | (refine Tri.sel1 (rget_spec (fs := reqFs fs [119, 115]) (a := aq) (c := cq) (nm := n1) G1 (by omega) (fun v => ?_))) | (refine Tri.ent (Ent.trans (selA (c := Sx.viewAt w0 g off 2 fs.length (flat fenc fs))) (hE _)) (rone_spec hS (by omega) ?_); rw [ho]) | fail)
              exact ih3 (j + 1) _ _ hlt (by omega) ⟨rfl, rfl, rfl, rfl, rfl, rfl, rfl, rfl, rfl, trivial⟩ entA
            · repeat' (first | refine walk ?_ | exact trivial | refine Tw.mk ?_ ?_ | (intro (bx : Nat)) | intro hy | (exfalso; omega) | refine XO.loadN TT_ok rfl rfl rfl rfl rfl rfl rfl (ReadsN.viewFlat fenc_len hf) ?_ | (refine Tri.sel1 (rget_spec (fs := reqFs fs [119, 115]) (a := aq) (c := cq) (nm := n1) G1 (by omega) (fun v => ?_))) | (refine Tri.ent (Ent.trans (selA (c := Sx.viewAt w0 g off 2 fs.length (flat fenc fs))) (hE _)) (rone_spec hS (by omega) ?_); rw [ho]) | (refine own_spec (by omega) ?_; rw [hw]) | exact ih3 (j + 1) _ _ hlt (by omega) ⟨rfl, rfl, rfl, rfl, rfl, rfl, rfl, rfl, rfl, trivial⟩ entA | fail)
        · obtain rfl : j = fs.length := by omega
          clear ih3
          have k1 : (values (reqFs fs [119, 115]) conn).length = 1 := req_conn fs [119, 115]
          have k2 : (values (reqFs fs [119, 115]) lCL).length = 0 := req_cl fs [119, 115]
          have k3 : (values (reqFs fs [119, 115]) lVia).length = 1 := req_via fs [119, 115]
          repeat' (first | refine walk ?_ | exact trivial | refine Tw.mk ?_ ?_ | intro hy | (exfalso; omega) | (refine Tri.sel1 (rget_spec (fs := reqFs fs [119, 115]) (a := aq) (c := cq) (nm := conn) G1 (by decide) (fun v => ?_)); rw [k1]) | (refine Tri.sel1 (rget_spec (fs := reqFs fs [119, 115]) (a := aq) (c := cq) (nm := lCL) G1 (by decide) (fun v => ?_)); rw [k2]) | (refine Tri.sel1 (rget_spec (fs := reqFs fs [119, 115]) (a := aq) (c := cq) (nm := lVia) G1 (by decide) (fun v => ?_)); rw [k3]) | (exfalso; exact hy rfl) | exact ih 1 _ _ (by omega) (by omega) ⟨rfl, rfl, rfl, rfl, rfl, trivial⟩ entA | fail)
      · repeat' (first | refine walk ?_ | exact trivial | refine Tw.mk ?_ ?_ | (intro (b18 : Nat)) | intro hy | (exfalso; omega) | refine XO.indexV (i := 1) (v := .agg ⟨stHead (.slice ah (hdFs fs [119, 115]).length ch)⟩) rfl TT_ok rfl rfl rfl rfl rfl rfl rfl (by decide) rfl ?_ | fail)
        refine XS.loopI (ι := Nat) (fun j => [(0, .slice a fs.length c), (1, .bool true), (11, ptr b11), (18, ptr b18), (102, .agg ⟨reqHead (.slice aq (reqFs fs [119, 115]).length cq) ++ stHead (.slice ah (hdFs fs [119, 115]).length ch)⟩), (103, kI 1), (106, .slice a fs.length c), (107, kI fs.length), (108, kI j)]) (fun _ => cel b18 61 (stHead (.slice ah (hdFs fs [119, 115]).length ch)) :: cel b11 61 (reqHead (.slice aq (reqFs fs [119, 115]).length cq)) :: fView w0 (.slice aq (reqFs fs [119, 115]).length cq) (reqFs fs [119, 115]) :: fView w0 (.slice ah (hdFs fs [119, 115]).length ch) (hdFs fs [119, 115]) :: fView w0 (.slice a fs.length c) fs :: F) (fun j => j ≤ fs.length) (fun j => fs.length - j) 0 (Nat.zero_le _) ⟨rfl, rfl, rfl, rfl, rfl, rfl, rfl, rfl, rfl, trivial⟩ (Ent.refl _) ?_
        rintro j e3 hj ih3
        by_cases hlt : j < fs.length
        · obtain ⟨⟨n1, v1⟩, hf⟩ : ∃ f, fs[j]? = some f := ⟨_, List.getElem?_eq_getElem hlt⟩
          have hk1 := hok.1 _ (List.mem_of_getElem? hf)
          have hn512 : n1.length ≤ 512 := by have := hk1.2.2; simp only at this; omega
          have hcnt : oneP fs n1 = true → ownB n1 true = false → (values (hdFs fs [119, 115]) n1).length = 0 := fun h1 h2 => hd_none hk1.1 h1 h2
          refine XS.sel1 (c := fView w0 (.slice a fs.length c) fs) (XS.viewOpen (by omega) fun g off c3 hv hc3 => ?_)
          injection hv with hv1 _ hv3
          subst hv1 hv3
          have hE : ∀ X : List HProp, Ent (Sx.viewAt w0 g off 2 fs.length (flat fenc fs) :: X) (fView w0 (.slice (some ⟨g, off, none⟩) fs.length c) fs :: X) := fun X => Ent.viewAt hc3
          cases ho : oneP fs n1
          · repeat' (first | refine walk ?_ | exact trivial | refine Tw.mk ?_ ?_ | (intro (bx : Nat)) | intro hy | (exfalso; omega) | refine XO.loadN TT_ok rfl rfl rfl rfl rfl rfl rfl (ReadsN.viewFlat fenc_len hf) ?_ | (refine Tri.sel1 (rget_spec (fs := hdFs fs [119, 115]) (a := ah) (c := ch) (nm := n1) G2 (by omega) (fun v => ?_))) | (refine Tri.ent (Ent.trans (selA (c := Sx.viewAt w0 g off 2 fs.length (flat fenc fs))) (hE _)) (rone_spec hS (by omega) ?_); rw [ho]) | fail)
            exact ih3 (j + 1) _ _ hlt (by omega) ⟨rfl, rfl, rfl, rfl, rfl, rfl, rfl, rfl, rfl, trivial⟩ entA
          · cases hw : ownB n1 true
            · have hz := hcnt ho hw
              repeat' (first | refine walk ?_ | exact trivial | refine Tw.mk ?_ ?_ | (intro (bx : Nat)) | intro hy | (exfalso; omega) | refine XO.loadN TT_ok rfl rfl rfl rfl rfl rfl rfl (ReadsN.viewFlat fenc_len hf) ?_ | (refine Tri.sel1 (rget_spec (fs := hdFs fs [119, 115]) (a := ah) (c := ch) (nm := n1) G2 (by omega) (fun v => ?_))) | (refine Tri.ent (Ent.trans (selA (c := Sx.viewAt w0 g off 2 fs.length (flat fenc fs))) (hE _)) (rone_spec hS (by omega) ?_); rw [ho]) | fail)
              exact ih3 (j + 1) _ _ hlt (by omega) ⟨rfl, rfl, rfl, rfl, rfl, rfl, rfl, rfl, rfl, trivial⟩ entA
            · repeat' (first | refine walk ?_ | exact trivial | refine Tw.mk ?_ ?_ | (intro (bx : Nat)) | intro hy | (exfalso; omega) | refine XO.loadN TT_ok rfl rfl rfl rfl rfl rfl rfl (ReadsN.viewFlat fenc_len hf) ?_ | (refine Tri.sel1 (rget_spec (fs := hdFs fs [119, 115]) (a := ah) (c := ch) (nm := n1) G2 (by omega) (fun v => ?_))) | (refine Tri.ent (Ent.trans (selA (c := Sx.viewAt w0 g off 2 fs.length (flat fenc fs))) (hE _)) (rone_spec hS (by omega) ?_); rw [ho]) | (refine own_spec (by omega) ?_; rw [hw]) | exact ih3 (j + 1) _ _ hlt (by omega) ⟨rfl, rfl, rfl, rfl, rfl, rfl, rfl, rfl, rfl, trivial⟩ entA | fail)
        · obtain rfl : j = fs.length := by omega
          clear ih3
          have k1 : (values (hdFs fs [119, 115]) conn).length = 1 := hd_conn fs [119, 115]
          have k2 : (values (hdFs fs [119, 115]) lCL).length = 0 := hd_cl fs [119, 115]
          have k3 : (values (hdFs fs [119, 115]) lVia).length = 1 := hd_via fs [119, 115]
          repeat' (first | refine walk ?_ | exact trivial | refine Tw.mk ?_ ?_ | intro hy | (exfalso; omega) | (refine Tri.sel1 (rget_spec (fs := hdFs fs [119, 115]) (a := ah) (c := ch) (nm := conn) G2 (by decide) (fun v => ?_)); rw [k1]) | (refine Tri.sel1 (rget_spec (fs := hdFs fs [119, 115]) (a := ah) (c := ch) (nm := lCL) G2 (by decide) (fun v => ?_)); rw [k2]) | (refine Tri.sel1 (rget_spec (fs := hdFs fs [119, 115]) (a := ah) (c := ch) (nm := lVia) G2 (by decide) (fun v => ?_)); rw [k3]) | (exfalso; exact hy rfl) | exact ih 2 _ _ (by omega) (by omega) ⟨rfl, rfl, rfl, rfl, rfl, trivial⟩ entA | fail)
      · clear ih
        have k1 : (values (reqFs fs [119, 115]) lHost).length = 1 := req_host fs [119, 115]
        repeat' (first | refine walk ?_ | exact trivial | refine Tw.mk ?_ ?_ | intro hy | (exfalso; omega) | (refine Tri.sel1 (rget_spec (fs := reqFs fs [119, 115]) (a := aq) (c := cq) (nm := lHost) G1 (by decide) (fun v => ?_)); rw [k1]) | exact Out.i rfl | fail)
    · repeat' (first | refine walk ?_ | exact trivial | refine Tw.mk ?_ ?_ | intro hy | (exfalso; omega) | exact Out.i rfl | fail)
end Go.Proofs.YtngicmoadobgpaaDoor

/- The laws on heads and on requests, of whatever came in. Conditions: the data are small. -/
namespace Go.Proofs.YtngicmoadobgpaaDoor
open Go Go.Sx Go.ChunkM Go.StrM Go.EmitM
variable {w0 : World} {F H : List HProp} {K : Value → List HProp → Prop}
def shFlds : Sh := .slice 32 (.agg [.str, .str])
def shReply : Sh := .agg [.int .i64, .str, shFlds, .int .i64, .int .i64, .bool, .str]
def shAsk : Sh := .agg [.str, .str, .str, .int .i64, shFlds, .str, .bool, .str, .str]
theorem kS_of (s : ByteArray) : Value.string s = kS s.data.toList := rfl
theorem toList_size (s : ByteArray) : s.data.toList.length = s.size := Array.length_toList
theorem i64_of {z : Int} (h : (Lit.int .i64 z).wf = true) : i64 z := by
  have := wf_i64 h
  exact ⟨this.1, by have := this.2; omega⟩
theorem flds_of {v : Value} {d : DV} (h : shFlds.rd w0 [v] d) : ∃ fs : List Fld, fs.length + fbytes fs ≤ d.bulk ∧ Base w0 v 2 fs.length (flat fenc fs) := by
  obtain ⟨xs, h1, h2⟩ := Sh.slice_ofB (enc := fenc) (m := fun f : Fld => f.1.length + f.2.length) h (fun l x hx => by
    obtain ⟨ds, rfl, c1, c2, d1, ds1, rfl, rfl, hc1, ⟨s1, rfl, rfl, _⟩, c3, c4, d2, ds2, rfl, rfl, hc3, ⟨s2, rfl, rfl, _⟩, rfl, rfl⟩ := hx
    refine ⟨(s1.data.toList, s2.data.toList), rfl, ?_⟩
    simp only [DV.bulk, DV.bulkL, toList_size]; omega)
  refine ⟨xs, ?_, h2⟩
  have : ∀ l : List Fld, sumL (fun f : Fld => f.1.length + f.2.length) l = fbytes l := fun l => by
    induction l with
    | nil => rfl
    | cons f l ih => rw [fbytes_cons, sumL, ih]
  rw [this] at h1
  exact h1
theorem emit_heads {cs : List Value} {dv : DV} {body : ByteArray} {bl : Bool} (ht : T10 w0) (h : shReply.rd w0 cs dv) (hk : dv.bulk ≤ 1048576) (hb : body.size ≤ 1048576) :
    Tri Tryd.prog 7 #[.agg ⟨cs⟩, .string body, .bool bl] w0 F (fun v _ => v = .bool true) := by
  obtain ⟨ds, rfl, c1, r1, d1, e1, rfl, rfl, q1, ⟨st, rfl, rfl, w1⟩, c2, r2, d2, e2, rfl, rfl, q2, ⟨s2, rfl, rfl, _⟩, c3, r3, d3, e3, rfl, rfl, q3, h3, c4, r4, d4, e4, rfl, rfl, q4, ⟨fm, rfl, rfl, w4⟩, c5, r5, d5, e5, rfl, rfl, q5, ⟨ln, rfl, rfl, w5⟩, c6, r6, d6, e6, rfl, rfl, q6, ⟨keep, rfl, rfl⟩, c7, r7, d7, e7, rfl, rfl, q7, ⟨s7, rfl, rfl, _⟩, rfl, rfl⟩ := h
  obtain ⟨v3, rfl⟩ : ∃ v, c3 = [v] := List.length_eq_one_iff.1 q3
  obtain ⟨fs, hf1, hf2⟩ := flds_of h3
  obtain ⟨a, c, rfl⟩ := hf2.form
  simp only [DV.bulk, DV.bulkL] at hk
  refine Tri.ent hf2.view ?_
  have l2 := toList_size s2
  have l7 := toList_size s7
  have lb := toList_size body
  exact heads_ok (st := st) (rs := s2.data.toList) (body := body.data.toList) (fs := fs) (a := a) (c := c) (fm := fm) (ln := ln) (keep := keep) (bl := bl) (up := s7.data.toList) ht ⟨by omega, by omega⟩ (i64_of w1) (i64_of w5) (by omega) (by omega) (by omega)
theorem emit_requests {cs : List Value} {dv : DV} (ht : T10 w0) (h : shAsk.rd w0 cs dv) (hk : dv.bulk ≤ 1048576) :
    Tri Tryd.prog 8 #[.agg ⟨cs⟩] w0 F (fun v _ => v = .bool true) := by
  obtain ⟨ds, rfl, c1, r1, d1, e1, rfl, rfl, q1, ⟨s1, rfl, rfl, _⟩, c2, r2, d2, e2, rfl, rfl, q2, ⟨s2, rfl, rfl, _⟩, c0, r0, d0, e0, rfl, rfl, q0, ⟨s0, rfl, rfl, _⟩, c4, r4, d4, e4, rfl, rfl, q4, ⟨port, rfl, rfl, w4⟩, c3, r3, d3, e3, rfl, rfl, q3, h3, c5, r5, d5, e5, rfl, rfl, q5, ⟨s5, rfl, rfl, _⟩, c6, r6, d6, e6, rfl, rfl, q6, ⟨sized, rfl, rfl⟩, c7, r7, d7, e7, rfl, rfl, q7, ⟨s7, rfl, rfl, _⟩, c8, r8, d8, e8, rfl, rfl, q8, ⟨s8, rfl, rfl, _⟩, rfl, rfl⟩ := h
  obtain ⟨v3, rfl⟩ : ∃ v, c3 = [v] := List.length_eq_one_iff.1 q3
  obtain ⟨fs, hf1, hf2⟩ := flds_of h3
  obtain ⟨a, c, rfl⟩ := hf2.form
  simp only [DV.bulk, DV.bulkL] at hk
  refine Tri.ent hf2.view ?_
  have l1 := toList_size s1
  have l2 := toList_size s2
  have l0 := toList_size s0
  have l5 := toList_size s5
  have l7 := toList_size s7
  have l8 := toList_size s8
  exact requests_ok (m := s1.data.toList) (t := s2.data.toList) (hs := s0.data.toList) (port := port) (fs := fs) (a := a) (c := c) (body := s5.data.toList) (sized := sized) (frm := s7.data.toList) (up := s8.data.toList) ht ⟨by omega, by omega⟩ (i64_of w4) (by omega) (by omega) (by omega) (by omega) (by omega) (by omega)
end Go.Proofs.YtngicmoadobgpaaDoor

/- The law on what is left out, of whatever came in. Conditions: the data are small. -/
namespace Go.Proofs.YtngicmoadobgpaaDoor
open Go Go.Sx Go.ChunkM Go.StrM Go.EmitM
variable {w0 : World} {F H : List HProp} {K : Value → List HProp → Prop}
theorem emit_strips {v : Value} {dv : DV} {b : Bool} (ht : T10 w0) (h : shFlds.rd w0 [v] dv) (hk : dv.bulk ≤ 1048576) :
    Tri Tryd.prog 9 #[v, .bool b] w0 F (fun v _ => v = .bool true) := by
  obtain ⟨fs, hf1, hf2⟩ := flds_of h
  obtain ⟨a, c, rfl⟩ := hf2.form
  refine Tri.ent hf2.view ?_
  cases b
  · exact strips_false ht ⟨by omega, by omega⟩
  · exact strips_true ht ⟨by omega, by omega⟩
end Go.Proofs.YtngicmoadobgpaaDoor

/- What the listed tables give the walks. Conditions: the tables read as the row lists them. -/
namespace Go.Proofs.YtngicmoadobgpaaDoor
open Go Go.Sx Go.ChangeShapes Go.WideShapes Go.ChangeAt Go.RowKit
def laidB : List (String × DataW Unit) := [("math/bits.deBruijn32tab", Rows.laid_math_bits_deBruijn32tab), ("math/bits.deBruijn64tab", Rows.laid_math_bits_deBruijn64tab), ("internal/strconv.uint64pow10", Rows.laid_internal_strconv_uint64pow10), ("unicode/utf8.acceptRanges", Rows.laid_unicode_utf8_acceptRanges), ("unicode/utf8.first", Rows.laid_unicode_utf8_first)]
def tabOf : DataW Unit → List (DataW Unit)
  | .agg l => l
  | _ => []
set_option maxRecDepth 20000 in
theorem tz_of {W : World} (h : laidMetH Tryd.prog laidB W) : TZ W := by
  rw [MakeChecks.laidMetH_plain _ _ _ (by kernel_rfl)] at h
  obtain ⟨ps, ⟨_, _, _, _, _, _, _, _, _, _, ⟨g0, t0, cs0, f0, p0, q0, hg0, ht0, hv0, hd0, _, _⟩, _⟩, _, _⟩ := h
  obtain rfl := Option.some.inj ((show Tryd.prog.globalNamed "math/bits.deBruijn64tab" = some 2 by kernel_rfl).symm.trans hg0)
  obtain rfl := Option.some.inj ((show (Tryd.prog.globals[2]?).map (·.type) = some 154 by kernel_rfl).symm.trans ht0)
  obtain ⟨xs, m1, rfl, hx1, hlen, hn, hel⟩ := DataW.trod_array Tryd.underlying154 hd0
  simp only [Prod.mk.injEq] at hx1
  have hx := congrArg tabOf hx1.1
  have c5 : Tryd.prog.cellsOf 5 = 1 := by kernel_rfl
  have h0 := hel 15 (by decide)
  obtain ⟨y, hy⟩ : ∃ y, xs[15]? = some y := ⟨_, List.getElem?_eq_getElem (by omega)⟩
  rw [hy, c5, Nat.mul_one] at h0
  obtain ⟨k, e1, e2, _⟩ := DataW.trod_int Tryd.underlying5 h0
  have h2 : (tabOf (Rows.laid_math_bits_deBruijn64tab : DataW Unit))[15]? = some (.lit (.int .u8 4)) := by kernel_rfl
  have h1 := h2.symm.trans (congrArg (fun l : List (DataW Unit) => l[15]?) hx)
  clear h2 hx hx1
  simp only [tabOf, List.getElem?_map, hy, Option.map_some] at h1
  rw [e2] at h1
  injection h1 with h1
  injection h1 with h1
  injection h1 with _ h1
  subst h1
  have hc : W.cell? ⟨2, 15, none⟩ = some (.int .u8 4) := by
    rw [World.var?_cell hg0 hv0 15]
    have h2 := congrArg (fun l => l[0]?) e1
    simpa using h2
  exact ⟨fun _ => Reads.base hc⟩
end Go.Proofs.YtngicmoadobgpaaDoor

/- What the listed tables give the walks: the powers of ten; the row's measure of data. Conditions: the tables read as the row lists them. -/
namespace Go.Proofs.YtngicmoadobgpaaDoor
open Go Go.Sx Go.ChangeShapes Go.WideShapes Go.ChangeAt Go.RowKit
set_option maxRecDepth 20000 in
theorem t10_of {W : World} (h : laidMetH Tryd.prog laidB W) : T10 W := by
  rw [MakeChecks.laidMetH_plain _ _ _ (by kernel_rfl)] at h
  obtain ⟨ps, ⟨_, _, _, _, _, _, _, _, _, _, ⟨_, _, _, _, _, _, _, _, _, _, ⟨g0, t0, cs0, f0, p0, q0, hg0, ht0, hv0, hd0, _, _⟩, _⟩, _⟩, _, _⟩ := h
  obtain rfl := Option.some.inj ((show Tryd.prog.globalNamed "internal/strconv.uint64pow10" = some 0 by kernel_rfl).symm.trans hg0)
  obtain rfl := Option.some.inj ((show (Tryd.prog.globals[0]?).map (·.type) = some 132 by kernel_rfl).symm.trans ht0)
  have e1 : (Rows.laid_internal_strconv_uint64pow10 : DataW Unit) = Lib.tabData .u64 Lib.pow10Tab := by kernel_rfl
  rw [e1] at hd0
  have hc := Lib.cells_of_tab Tryd.underlying132 Tryd.underlying119 (by kernel_rfl) (by kernel_rfl) hd0
  refine ⟨?_, 0, hg0, ?_⟩
  · unfold Lib.TabIs
    rw [hv0, ← hc]
  · have h1 := hv0
    unfold World.var? at h1
    rw [hg0] at h1
    simp only [Option.bind_some] at h1
    rcases Nat.lt_or_ge 0 W.heap.size with h2 | h2
    · exact h2
    · rw [Array.getElem?_eq_none h2] at h1; cases h1
theorem one_bulk {H : Type} (d : DataW H) : 1 ≤ Rows.uptoBulk d := by
  cases d with
  | lit l => cases l <;> simp [Rows.uptoBulk]
  | nil => simp [Rows.uptoBulk]
  | ptr d => simp [Rows.uptoBulk]
  | slice elems spare => simp [Rows.uptoBulk]
  | agg parts => simp [Rows.uptoBulk]
  | iface t d => simp [Rows.uptoBulk]
  | map entries => simp [Rows.uptoBulk]
  | held h => simp [Rows.uptoBulk]
theorem sum_len {H : Type} : ∀ es : List (DataW H), es.length + sumL (fun d => Rows.uptoBulk d - 1) es = Rows.uptoBulkAll es
  | [] => by simp [sumL, Rows.uptoBulkAll]
  | e :: es => by
    have ih := sum_len es
    have := one_bulk e
    rw [sumL, Rows.uptoBulkAll, List.length_cons]; omega
/-- The row's measure counts the bytes and the elements. -/
theorem bulkR {H : Type} : Bulk (fun d : DataW H => Rows.uptoBulk d - 1) where
  str b := by simp [Rows.uptoBulk]
  slice es sp := by
    rw [sum_len]
    simp only [Rows.uptoBulk]; omega
  agg ps := by
    have := sum_len ps
    simp only [Rows.uptoBulk]; omega
end Go.Proofs.YtngicmoadobgpaaDoor
