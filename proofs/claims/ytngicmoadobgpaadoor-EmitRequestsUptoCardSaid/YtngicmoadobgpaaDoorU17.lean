/- Some texts put together: lemmas and contracts for the law. Conditions: as each text says. -/
import Derived.Test.YtngicmoadobgpaaDoorU16
/- Contracts: what the document tells on, what it joins. Conditions: the fields are small. -/
namespace Go.EmitM
open Go.ChunkM Go.StrM
def nCL : List UInt8 := [67, 111, 110, 116, 101, 110, 116, 45, 76, 101, 110, 103, 116, 104]
def nVia : List UInt8 := [86, 105, 97]
def nHost : List UInt8 := [72, 111, 115, 116]
def nExp : List UInt8 := [69, 120, 112, 101, 99, 116]
def nXff : List UInt8 := [88, 45, 70, 111, 114, 119, 97, 114, 100, 101, 100, 45, 70, 111, 114]
def butH : List (List UInt8) := [nCL, nVia]
def butR : List (List UInt8) := [nCL, nVia, nHost, nExp, nXff]
theorem low_CL : low nCL = [99, 111, 110, 116, 101, 110, 116, 45, 108, 101, 110, 103, 116, 104] := by decide
theorem low_Via : low nVia = [118, 105, 97] := by decide
theorem low_Host : low nHost = [104, 111, 115, 116] := by decide
theorem low_Exp : low nExp = [101, 120, 112, 101, 99, 116] := by decide
theorem low_Xff : low nXff = [120, 45, 102, 111, 114, 119, 97, 114, 100, 101, 100, 45, 102, 111, 114] := by decide
theorem onP_low {but : List (List UInt8)} {n1 v1 m : List UInt8} (h : low n1 = low m) (hm : m ∈ but) : onP but (n1, v1) = [] := by
  unfold onP
  rw [if_pos (List.any_eq_true.2 ⟨m, hm, alike_iff.2 h⟩)]
theorem onP_none {but : List (List UInt8)} {n1 v1 : List UInt8} (h : ∀ m ∈ but, low n1 ≠ low m) : onP but (n1, v1) = fieldL n1 v1 := by
  unfold onP
  rw [if_neg]
  intro hc
  obtain ⟨m, hm, ha⟩ := List.any_eq_true.1 hc
  exact h m hm (alike_iff.1 ha)
def vjoin (vs : List (List UInt8)) : List UInt8 := vs.flatMap (· ++ [44, 32])
theorem vjoin_len (vs : List (List UInt8)) : (vjoin vs).length = vs.flatten.length + 2 * vs.length := by
  have := joinV_len vs []
  unfold joinV at this
  rw [List.append_nil, List.length_nil, Nat.add_zero] at this
  exact this
end Go.EmitM
namespace Go.Proofs.YtngicmoadobgpaaDoor
open Go Go.Sx Go.ChunkM Go.StrM Go.EmitM
variable {w0 : World} {F H : List HProp} {K : Value → List HProp → Prop}
theorem rjoined_spec {nm more : List UInt8} {fs : List Fld} {a : Option Addr} {c : Nat} (hS : FsS fs) (hn : nm.length ≤ 1000) (hm : more.length ≤ 35184372088832) (h : K (kS (joinL fs nm more)) (fView w0 (.slice a fs.length c) fs :: F)) : Tri Tryd.prog 49 #[.slice a fs.length c, kS nm, kS more] w0 (fView w0 (.slice a fs.length c) fs :: F) K := by
  have hS1 := hS.1
  have hS2 := hS.2
  have hj : joinL fs nm more = nm ++ [58, 32] ++ vjoin (values fs nm) ++ more ++ [13, 10] := by simp [joinL, fieldL, joinV, vjoin, crlf]
  rw [hj] at h
  refine Tri.enterF Tryd.func49 Tryd.ntmps49 Tryd.results49 rfl rfl fun fr hfr => ?_
  repeat' (first | refine walk ?_ | exact trivial | refine Tw.mk ?_ ?_ | fail)
  refine XS.loopI (ι := Nat) (fun i => [(0, .slice a fs.length c), (1, kS nm), (2, kS more), (7, kS (nm ++ [58, 32] ++ vjoin (values (fs.take i) nm))), (8, kI i)]) (fun _ => fView w0 (.slice a fs.length c) fs :: F)
    (fun i => i ≤ fs.length) (fun i => fs.length - i) 0 (Nat.zero_le _) ⟨rfl, rfl, rfl, congrArg kS (by simp [values, vjoin]), rfl, trivial⟩ (Ent.refl _) ?_
  rintro i e hi ih
  have hvl := values_len nm (fs.take i)
  have hvb := values_bytes nm (fs.take i)
  have hvj := vjoin_len (values (fs.take i) nm)
  rw [List.length_take] at hvl
  have hfb : fbytes (fs.take i) ≤ fbytes fs := by
    have h := congrArg fbytes (List.take_append_drop i fs)
    rw [fbytes_app] at h; omega
  by_cases hlt : i < fs.length
  · obtain ⟨⟨n1, v1⟩, hf⟩ : ∃ f, fs[i]? = some f := ⟨_, List.getElem?_eq_getElem hlt⟩
    obtain ⟨hn1, hv1⟩ := (fsS_ok hS).2 _ (List.mem_of_getElem? hf)
    have hnv := fbytes_mem (List.mem_of_getElem? hf)
    simp only at hn1 hv1 hnv
    have htk : values (fs.take (i + 1)) nm = values (fs.take i) nm ++ values [(n1, v1)] nm := by rw [List.take_add_one, hf]; exact values_app _ _ _
    refine XS.sel1 (c := fView w0 (.slice a fs.length c) fs) (XS.viewOpen (by omega) fun g off c3 hv hc3 => ?_)
    injection hv with hv1 _ hv3
    subst hv1 hv3
    have hE : ∀ X : List HProp, Ent (Sx.viewAt w0 g off 2 fs.length (flat fenc fs) :: X) (fView w0 (.slice (some ⟨g, off, none⟩) fs.length c) fs :: X) := fun X => Ent.viewAt hc3
    have hr0 : ∀ X : List HProp, Reads w0 (Sx.viewAt w0 g off 2 fs.length (flat fenc fs) :: X) ⟨g, off + i * 2, none⟩ (kS n1) := fun X => Reads.view (k := i * 2) (flat_get (j := 0) fenc_len hf rfl)
    have hr1 : ∀ X : List HProp, Reads w0 (Sx.viewAt w0 g off 2 fs.length (flat fenc fs) :: X) ⟨g, off + i * 2 + 1, none⟩ (kS v1) := fun X => by rw [Nat.add_assoc]; exact Reads.view (k := i * 2 + 1) (flat_get (j := 1) fenc_len hf rfl)
    by_cases hal : low n1 = low nm
    · have h1 : values [(n1, v1)] nm = [v1] := by simp [values, alike, hal]
      rw [h1] at htk
      have hvt : nm ++ [58, 32] ++ vjoin (values (fs.take i) nm) ++ v1 ++ [44, 32] = nm ++ [58, 32] ++ vjoin (values (fs.take (i + 1)) nm) := by rw [htk]; simp [vjoin]
      repeat' (first | refine walk ?_ | exact trivial | refine Tw.mk ?_ ?_ | intro hy | (exfalso; omega) | (exfalso; exact absurd hal (by assumption)) | refine XO.load TT_ok rfl rfl rfl rfl rfl rfl (hr0 _) ?_ | refine XO.load TT_ok rfl rfl rfl rfl rfl rfl (hr1 _) ?_ | refine rlower_spec hn1 ?_ | refine rlower_spec (l := nm) (by omega) ?_ | fail)
      exact ih (i + 1) _ _ hlt (by omega) ⟨rfl, rfl, rfl, congrArg kS hvt, rfl, trivial⟩ (hE _)
    · have h1 : values [(n1, v1)] nm = [] := by simp [values, alike, hal]
      rw [h1, List.append_nil] at htk
      repeat' (first | refine walk ?_ | exact trivial | refine Tw.mk ?_ ?_ | intro hy | (exfalso; omega) | (exfalso; exact absurd (by assumption) hal) | refine XO.load TT_ok rfl rfl rfl rfl rfl rfl (hr0 _) ?_ | refine XO.load TT_ok rfl rfl rfl rfl rfl rfl (hr1 _) ?_ | refine rlower_spec hn1 ?_ | refine rlower_spec (l := nm) (by omega) ?_ | fail)
      exact ih (i + 1) _ _ hlt (by omega) ⟨rfl, rfl, rfl, by rw [htk]; rfl, rfl, trivial⟩ (hE _)
  · obtain rfl : i = fs.length := by omega
    clear ih
    rw [List.take_length] at *
    repeat' (first | refine walk ?_ | exact trivial | refine Tw.mk ?_ ?_ | intro hy | (exfalso; omega) | exact Out.i h | fail)
theorem ronH_spec {fs : List Fld} {a : Option Addr} {c : Nat} (hS : FsS fs) (h : K (kS (onL butH fs)) (fView w0 (.slice a fs.length c) fs :: F)) : Tri Tryd.prog 48 #[.slice a fs.length c, .bool false] w0 (fView w0 (.slice a fs.length c) fs :: F) K := by
  obtain ⟨gs, hgs⟩ : ∃ gs, gs = strip fs := ⟨_, rfl⟩
  have hG := fsS_strip hS
  rw [← hgs] at hG
  have hG1 := hG.1
  have hG2 := hG.2
  have hL : onL butH fs = gs.flatMap (onP butH) := by rw [hgs]; rfl
  rw [hL] at h
  refine Tri.enterF Tryd.func48 Tryd.ntmps48 Tryd.results48 rfl rfl fun fr hfr => ?_
  repeat' (first | refine walk ?_ | exact trivial | refine Tw.mk ?_ ?_ | refine rstrip_spec hS hgs (fun a3 c3 => ?_) | fail)
  refine XS.loopI (ι := Nat) (fun i => [(1, .bool false), (5, .slice a3 gs.length c3), (6, kS ((gs.take i).flatMap (onP butH))), (7, kI i)]) (fun _ => fView w0 (.slice a3 gs.length c3) gs :: fView w0 (.slice a fs.length c) fs :: F)
    (fun i => i ≤ gs.length) (fun i => gs.length - i) 0 (Nat.zero_le _) ⟨rfl, rfl, rfl, rfl, trivial⟩ Ent.rowView ?_
  rintro i e hi ih
  have hfl := take_onP_le gs butH i
  by_cases hlt : i < gs.length
  · obtain ⟨⟨n1, v1⟩, hf⟩ : ∃ f, gs[i]? = some f := ⟨_, List.getElem?_eq_getElem hlt⟩
    obtain ⟨hn1, hv1⟩ := (fsS_ok hG).2 _ (List.mem_of_getElem? hf)
    have hnv := fbytes_mem (List.mem_of_getElem? hf)
    simp only at hn1 hv1 hnv
    have htk := take_onP (but := butH) hf
    refine XS.sel1 (c := fView w0 (.slice a3 gs.length c3) gs) (XS.viewOpen (by omega) fun g off c4 hv hc4 => ?_)
    injection hv with hv1 _ hv3
    subst hv1 hv3
    have hE : ∀ X : List HProp, Ent (Sx.viewAt w0 g off 2 gs.length (flat fenc gs) :: X) (fView w0 (.slice (some ⟨g, off, none⟩) gs.length c3) gs :: X) := fun X => Ent.viewAt hc4
    have hr0 : ∀ X : List HProp, Reads w0 (Sx.viewAt w0 g off 2 gs.length (flat fenc gs) :: X) ⟨g, off + i * 2, none⟩ (kS n1) := fun X => Reads.view (k := i * 2) (flat_get (j := 0) fenc_len hf rfl)
    have hr1 : ∀ X : List HProp, Reads w0 (Sx.viewAt w0 g off 2 gs.length (flat fenc gs) :: X) ⟨g, off + i * 2 + 1, none⟩ (kS v1) := fun X => by rw [Nat.add_assoc]; exact Reads.view (k := i * 2 + 1) (flat_get (j := 1) fenc_len hf rfl)
    by_cases cCL : low n1 = [99, 111, 110, 116, 101, 110, 116, 45, 108, 101, 110, 103, 116, 104]
    · rw [onP_low (m := nCL) (by rw [cCL, low_CL]) (by simp [butH]), List.append_nil] at htk
      repeat' (first | refine walk ?_ | exact trivial | refine Tw.mk ?_ ?_ | intro hy | (exfalso; omega) | refine XO.load TT_ok rfl rfl rfl rfl rfl rfl (hr0 _) ?_ | refine XO.load TT_ok rfl rfl rfl rfl rfl rfl (hr1 _) ?_ | refine rlower_spec hn1 ?_ | fail)
      exact ih (i + 1) _ _ hlt (by omega) ⟨rfl, rfl, by rw [htk]; rfl, rfl, trivial⟩ (hE _)
    by_cases cVia : low n1 = [118, 105, 97]
    · rw [onP_low (m := nVia) (by rw [cVia, low_Via]) (by simp [butH]), List.append_nil] at htk
      repeat' (first | refine walk ?_ | exact trivial | refine Tw.mk ?_ ?_ | intro hy | (exfalso; omega) | refine XO.load TT_ok rfl rfl rfl rfl rfl rfl (hr0 _) ?_ | refine XO.load TT_ok rfl rfl rfl rfl rfl rfl (hr1 _) ?_ | refine rlower_spec hn1 ?_ | fail)
      exact ih (i + 1) _ _ hlt (by omega) ⟨rfl, rfl, by rw [htk]; rfl, rfl, trivial⟩ (hE _)
    rw [onP_none (by simp only [butH, List.forall_mem_cons, low_CL, low_Via]; exact ⟨cCL, cVia, fun _ h => by cases h⟩)] at htk
    have hvt : (gs.take i).flatMap (onP butH) ++ n1 ++ [58, 32] ++ v1 ++ [13, 10] = (gs.take (i + 1)).flatMap (onP butH) := by rw [htk]; simp [fieldL, crlf]
    repeat' (first | refine walk ?_ | exact trivial | refine Tw.mk ?_ ?_ | intro hy | (exfalso; omega) | refine XO.load TT_ok rfl rfl rfl rfl rfl rfl (hr0 _) ?_ | refine XO.load TT_ok rfl rfl rfl rfl rfl rfl (hr1 _) ?_ | refine rlower_spec hn1 ?_ | fail)
    exact ih (i + 1) _ _ hlt (by omega) ⟨rfl, rfl, congrArg kS hvt, rfl, trivial⟩ (hE _)
  · obtain rfl : i = gs.length := by omega
    clear ih
    rw [List.take_length] at *
    repeat' (first | refine walk ?_ | exact trivial | refine Tw.mk ?_ ?_ | intro hy | (exfalso; omega) | exact Out.e h (Ent.drop _ _) | fail)
theorem ronR_spec {fs : List Fld} {a : Option Addr} {c : Nat} (hS : FsS fs) (h : K (kS (onL butR fs)) (fView w0 (.slice a fs.length c) fs :: F)) : Tri Tryd.prog 48 #[.slice a fs.length c, .bool true] w0 (fView w0 (.slice a fs.length c) fs :: F) K := by
  obtain ⟨gs, hgs⟩ : ∃ gs, gs = strip fs := ⟨_, rfl⟩
  have hG := fsS_strip hS
  rw [← hgs] at hG
  have hG1 := hG.1
  have hG2 := hG.2
  have hL : onL butR fs = gs.flatMap (onP butR) := by rw [hgs]; rfl
  rw [hL] at h
  refine Tri.enterF Tryd.func48 Tryd.ntmps48 Tryd.results48 rfl rfl fun fr hfr => ?_
  repeat' (first | refine walk ?_ | exact trivial | refine Tw.mk ?_ ?_ | refine rstrip_spec hS hgs (fun a3 c3 => ?_) | fail)
  refine XS.loopI (ι := Nat) (fun i => [(1, .bool true), (5, .slice a3 gs.length c3), (6, kS ((gs.take i).flatMap (onP butR))), (7, kI i)]) (fun _ => fView w0 (.slice a3 gs.length c3) gs :: fView w0 (.slice a fs.length c) fs :: F)
    (fun i => i ≤ gs.length) (fun i => gs.length - i) 0 (Nat.zero_le _) ⟨rfl, rfl, rfl, rfl, trivial⟩ Ent.rowView ?_
  rintro i e hi ih
  have hfl := take_onP_le gs butR i
  by_cases hlt : i < gs.length
  · obtain ⟨⟨n1, v1⟩, hf⟩ : ∃ f, gs[i]? = some f := ⟨_, List.getElem?_eq_getElem hlt⟩
    obtain ⟨hn1, hv1⟩ := (fsS_ok hG).2 _ (List.mem_of_getElem? hf)
    have hnv := fbytes_mem (List.mem_of_getElem? hf)
    simp only at hn1 hv1 hnv
    have htk := take_onP (but := butR) hf
    refine XS.sel1 (c := fView w0 (.slice a3 gs.length c3) gs) (XS.viewOpen (by omega) fun g off c4 hv hc4 => ?_)
    injection hv with hv1 _ hv3
    subst hv1 hv3
    have hE : ∀ X : List HProp, Ent (Sx.viewAt w0 g off 2 gs.length (flat fenc gs) :: X) (fView w0 (.slice (some ⟨g, off, none⟩) gs.length c3) gs :: X) := fun X => Ent.viewAt hc4
    have hr0 : ∀ X : List HProp, Reads w0 (Sx.viewAt w0 g off 2 gs.length (flat fenc gs) :: X) ⟨g, off + i * 2, none⟩ (kS n1) := fun X => Reads.view (k := i * 2) (flat_get (j := 0) fenc_len hf rfl)
    have hr1 : ∀ X : List HProp, Reads w0 (Sx.viewAt w0 g off 2 gs.length (flat fenc gs) :: X) ⟨g, off + i * 2 + 1, none⟩ (kS v1) := fun X => by rw [Nat.add_assoc]; exact Reads.view (k := i * 2 + 1) (flat_get (j := 1) fenc_len hf rfl)
    by_cases cCL : low n1 = [99, 111, 110, 116, 101, 110, 116, 45, 108, 101, 110, 103, 116, 104]
    · rw [onP_low (m := nCL) (by rw [cCL, low_CL]) (by simp [butR]), List.append_nil] at htk
      repeat' (first | refine walk ?_ | exact trivial | refine Tw.mk ?_ ?_ | intro hy | (exfalso; omega) | refine XO.load TT_ok rfl rfl rfl rfl rfl rfl (hr0 _) ?_ | refine XO.load TT_ok rfl rfl rfl rfl rfl rfl (hr1 _) ?_ | refine rlower_spec hn1 ?_ | fail)
      exact ih (i + 1) _ _ hlt (by omega) ⟨rfl, rfl, by rw [htk]; rfl, rfl, trivial⟩ (hE _)
    by_cases cVia : low n1 = [118, 105, 97]
    · rw [onP_low (m := nVia) (by rw [cVia, low_Via]) (by simp [butR]), List.append_nil] at htk
      repeat' (first | refine walk ?_ | exact trivial | refine Tw.mk ?_ ?_ | intro hy | (exfalso; omega) | refine XO.load TT_ok rfl rfl rfl rfl rfl rfl (hr0 _) ?_ | refine XO.load TT_ok rfl rfl rfl rfl rfl rfl (hr1 _) ?_ | refine rlower_spec hn1 ?_ | fail)
      exact ih (i + 1) _ _ hlt (by omega) ⟨rfl, rfl, by rw [htk]; rfl, rfl, trivial⟩ (hE _)
    by_cases cHost : low n1 = [104, 111, 115, 116]
    · rw [onP_low (m := nHost) (by rw [cHost, low_Host]) (by simp [butR]), List.append_nil] at htk
      repeat' (first | refine walk ?_ | exact trivial | refine Tw.mk ?_ ?_ | intro hy | (exfalso; omega) | refine XO.load TT_ok rfl rfl rfl rfl rfl rfl (hr0 _) ?_ | refine XO.load TT_ok rfl rfl rfl rfl rfl rfl (hr1 _) ?_ | refine rlower_spec hn1 ?_ | fail)
      exact ih (i + 1) _ _ hlt (by omega) ⟨rfl, rfl, by rw [htk]; rfl, rfl, trivial⟩ (hE _)
    by_cases cExp : low n1 = [101, 120, 112, 101, 99, 116]
    · rw [onP_low (m := nExp) (by rw [cExp, low_Exp]) (by simp [butR]), List.append_nil] at htk
      repeat' (first | refine walk ?_ | exact trivial | refine Tw.mk ?_ ?_ | intro hy | (exfalso; omega) | refine XO.load TT_ok rfl rfl rfl rfl rfl rfl (hr0 _) ?_ | refine XO.load TT_ok rfl rfl rfl rfl rfl rfl (hr1 _) ?_ | refine rlower_spec hn1 ?_ | fail)
      exact ih (i + 1) _ _ hlt (by omega) ⟨rfl, rfl, by rw [htk]; rfl, rfl, trivial⟩ (hE _)
    by_cases cXff : low n1 = [120, 45, 102, 111, 114, 119, 97, 114, 100, 101, 100, 45, 102, 111, 114]
    · rw [onP_low (m := nXff) (by rw [cXff, low_Xff]) (by simp [butR]), List.append_nil] at htk
      repeat' (first | refine walk ?_ | exact trivial | refine Tw.mk ?_ ?_ | intro hy | (exfalso; omega) | refine XO.load TT_ok rfl rfl rfl rfl rfl rfl (hr0 _) ?_ | refine XO.load TT_ok rfl rfl rfl rfl rfl rfl (hr1 _) ?_ | refine rlower_spec hn1 ?_ | fail)
      exact ih (i + 1) _ _ hlt (by omega) ⟨rfl, rfl, by rw [htk]; rfl, rfl, trivial⟩ (hE _)
    rw [onP_none (by simp only [butR, List.forall_mem_cons, low_CL, low_Via, low_Host, low_Exp, low_Xff]; exact ⟨cCL, cVia, cHost, cExp, cXff, fun _ h => by cases h⟩)] at htk
    have hvt : (gs.take i).flatMap (onP butR) ++ n1 ++ [58, 32] ++ v1 ++ [13, 10] = (gs.take (i + 1)).flatMap (onP butR) := by rw [htk]; simp [fieldL, crlf]
    repeat' (first | refine walk ?_ | exact trivial | refine Tw.mk ?_ ?_ | intro hy | (exfalso; omega) | refine XO.load TT_ok rfl rfl rfl rfl rfl rfl (hr0 _) ?_ | refine XO.load TT_ok rfl rfl rfl rfl rfl rfl (hr1 _) ?_ | refine rlower_spec hn1 ?_ | fail)
    exact ih (i + 1) _ _ hlt (by omega) ⟨rfl, rfl, congrArg kS hvt, rfl, trivial⟩ (hE _)
  · obtain rfl : i = gs.length := by omega
    clear ih
    rw [List.take_length] at *
    repeat' (first | refine walk ?_ | exact trivial | refine Tw.mk ?_ ?_ | intro hy | (exfalso; omega) | exact Out.e h (Ent.drop _ _) | fail)
end Go.Proofs.YtngicmoadobgpaaDoor

/- Contracts: requests, heads and replies, the program's. Conditions: the texts are small. -/
namespace Go.EmitM
open Go.ChunkM Go.StrM
def nConn : List UInt8 := [67, 111, 110, 110, 101, 99, 116, 105, 111, 110]
def nUpg : List UInt8 := [85, 112, 103, 114, 97, 100, 101]
def nTE : List UInt8 := [84, 114, 97, 110, 115, 102, 101, 114, 45, 69, 110, 99, 111, 100, 105, 110, 103]
def vUpg : List UInt8 := [117, 112, 103, 114, 97, 100, 101]
def vClose : List UInt8 := [99, 108, 111, 115, 101]
def vChunked : List UInt8 := [99, 104, 117, 110, 107, 101, 100]
def vVia : List UInt8 := [49, 46, 49, 32, 98, 97, 114, 98, 105, 99, 97, 110]
def vHttp : List UInt8 := [72, 84, 84, 80, 47, 49, 46, 49]
def reasonL (st : Int) (rs : List UInt8) : List UInt8 := if rs = [] then reason st else rs
def frameL (fr ln : Int) : List UInt8 := if fr = 2 then fieldL nCL (Lib.itoa ln) else if fr = 3 then fieldL nTE vChunked else []
def endL (keep : Bool) (up : List UInt8) : List UInt8 := if up = [] then (if keep then [] else fieldL nConn vClose) else fieldL nConn vUpg ++ fieldL nUpg up
/-- A response's head. -/
def headL (st : Int) (rs : List UInt8) (fs : List Fld) (fr ln : Int) (keep : Bool) (up : List UInt8) : List UInt8 :=
  vHttp ++ ([32] ++ (Lib.itoa st ++ ([32] ++ (reasonL st rs ++ crlf)))) ++ onL butH fs ++ joinL fs nVia vVia ++ frameL fr ln ++ endL keep up ++ crlf
def hostL (h : List UInt8) (port : Int) : List UInt8 := if 0 < port then h ++ (58 :: Lib.itoa port) else h
/-- A request. -/
def reqL (m t h : List UInt8) (port : Int) (fs : List Fld) (body : List UInt8) (sized : Bool) (frm up : List UInt8) : List UInt8 :=
  m ++ ([32] ++ (t ++ ([32] ++ vHttp ++ crlf))) ++ fieldL nHost (hostL h port) ++ onL butR fs ++ joinL fs nXff frm ++ joinL fs nVia vVia ++ (if sized then fieldL nCL (Lib.itoa body.length) else []) ++ (if up = [] then [] else fieldL nConn vUpg ++ fieldL nUpg up) ++ crlf ++ body
end Go.EmitM
namespace Go.Proofs.YtngicmoadobgpaaDoor
open Go Go.Sx Go.ChunkM Go.StrM Go.EmitM
variable {w0 : World} {F H : List HProp} {K : Value → List HProp → Prop}
theorem on_cel {b bn n c2 : Nat} {l : List UInt8} {fs : List Fld} {vs : List Value} {a : Option Addr} {c : Nat} (but : List (List UInt8)) (hv : vs = flat lenc but) (hn : n = but.length) (hc : c2 = but.length) (hS : FsS fs) (hb : but.length ≤ 16) (hN : l.length ≤ 70368744177664) (h : K (.tuple #[]) (txt b (l ++ onL but fs) :: fView w0 (.slice a fs.length c) fs :: F)) : Tri Tryd.prog 43 #[ptr b, .slice a fs.length c, .slice (some ⟨bn, 0, none⟩) n c2] w0 (txt b l :: fView w0 (.slice a fs.length c) fs :: cel bn 9 vs :: F) K := by
  subst hv hn hc
  exact Tri.ent (Ent.cons _ (Ent.cons _ (Ent.celView (n := but.length) (es := 1) (flat_length lenc_len _) (by simp only [maxLen]; omega)))) (on_spec hS hb hN h)
theorem upgrade2 {b : Nat} {l v : List UInt8} (hN : l.length + v.length + 64 ≤ 140737488355328) (h : K (.tuple #[]) (txt b (l ++ (fieldL nConn vUpg ++ fieldL nUpg v)) :: F)) : Tri Tryd.prog 46 #[ptr b, kS v] w0 (txt b l :: F) K :=
  upgrade_spec hN (by rw [List.append_assoc]; exact h)
theorem itoa_len {z : Int} (h0 : -9223372036854775808 ≤ z) (h1 : z ≤ 9223372036854775807) : (Lib.itoa z).length ≤ 21 := Lib.itoa_length_le z h0 h1
def repV (st : Int) (rs : List UInt8) (a : Option Addr) (n c : Nat) (fr ln : Int) (keep : Bool) (up : List UInt8) : Value := .agg #[.int .i64 st, kS rs, .slice a n c, .int .i64 fr, .int .i64 ln, .bool keep, kS up]
theorem crlf_len : crlf.length = 2 := rfl
attribute [local simp] crlf_len fieldL_len
def i64 (z : Int) : Prop := -9223372036854775808 ≤ z ∧ z ≤ 9223372036854775807
set_option maxHeartbeats 2000000 in
theorem head_spec {st : Int} {rs : List UInt8} {fs : List Fld} {a : Option Addr} {c : Nat} {fm ln : Int} {keep : Bool} {up : List UInt8} (ht : T10 w0) (hS : FsS fs) (hst : i64 st) (hln : i64 ln) (hrs : rs.length ≤ 2097152) (hup : up.length ≤ 2097152)
    (h : K (kS (headL st rs fs fm ln keep up)) (fView w0 (.slice a fs.length c) fs :: F)) : Tri Tryd.prog 20 #[repV st rs a fs.length c fm ln keep up] w0 (fView w0 (.slice a fs.length c) fs :: F) K := by
  have hK : ∀ l, headL st rs fs fm ln keep up = l → K (kS l) (fView w0 (.slice a fs.length c) fs :: F) := fun l e => e ▸ h
  have l1 := itoa_len hst.1 hst.2
  have l2 := itoa_len hln.1 hln.2
  have l3 := reason_len st
  have l4 := onL_len butH fs
  have l5 := joinL_len fs nVia vVia
  have l6 := hS.1
  have l7 := hS.2
  have l8 : nVia.length = 3 := rfl
  have l9 : vVia.length = 12 := rfl
  have l10 : nCL.length = 14 := rfl
  have l11 : nTE.length = 17 := rfl
  have l12 : vChunked.length = 7 := rfl
  have l13 : nConn.length = 10 := rfl
  have l14 : vClose.length = 5 := rfl
  have f1 : fm = 2 → frameL fm ln = fieldL nCL (Lib.itoa ln) := fun e => by rw [frameL, if_pos e]
  have f2 : ¬ fm = 2 → fm = 3 → frameL fm ln = fieldL nTE vChunked := fun e e' => by rw [frameL, if_neg e, if_pos e']
  have f3 : ¬ fm = 2 → ¬ fm = 3 → frameL fm ln = [] := fun e e' => by rw [frameL, if_neg e, if_neg e']
  have g1 : ¬ up = [] → endL keep up = fieldL nConn vUpg ++ fieldL nUpg up := fun e => by rw [endL, if_neg e]
  have g2 : up = [] → keep = false → endL keep up = fieldL nConn vClose := fun e e' => by rw [endL, if_pos e, e']; rfl
  have g3 : up = [] → keep = true → endL keep up = [] := fun e e' => by rw [endL, if_pos e, e']; rfl
  have l15 : (frameL fm ln).length ≤ 100 := by
    unfold frameL
    split
    · rw [fieldL_len]; omega
    · split
      · rw [fieldL_len]; omega
      · simp
  have l16 : (endL keep up).length ≤ 2097252 := by
    unfold endL
    split
    · split
      · simp
      · rw [fieldL_len]; omega
    · rw [List.length_append, fieldL_len, fieldL_len]
      have : vUpg.length = 7 := rfl
      have : nUpg.length = 7 := rfl
      omega
  unfold repV
  by_cases hr : rs = []
  · subst hr
    refine Tri.enterF Tryd.func20 Tryd.ntmps20 Tryd.results20 rfl rfl fun fr hfr => ?_
    repeat' (first | refine walkn ?_ | exact trivial | refine Tw.mk ?_ ?_ | (intro (bt : Nat)) | intro hy | refine reason_spec ?_ | refine itoa_spec ht hst.1 hst.2 ?_ | (refine Tri.ent (Ent.trans (selA (c := cel _ 84 [.pointer none, .slice none 0 0])) bld_new) (Tri.sel2 (line_cel [[72, 84, 84, 80, 47, 49, 46, 49, 32], Lib.itoa st, [32], reason st] rfl rfl rfl (by simp) ?_ ?_)); focus (first | omega | (simp <;> omega))) | (refine Tri.sel3 (on_cel butH rfl rfl rfl hS (by decide) ?_ ?_); focus (first | omega | (simp <;> omega))) | (refine Tri.sel2 (joined_spec (nm := nVia) (more := vVia) hS (by decide) (by decide) ?_ ?_); focus (first | omega | (simp <;> omega))) | fail)
    rename_i b1 b2 bn1
    refine XS.joinM (ι := List UInt8) (fun _ => [(1, ptr b1), (3, ptr b2)]) (fun p => txt b2 (([] ++ ([[72, 84, 84, 80, 47, 49, 46, 49, 32], Lib.itoa st, [32], reason st].flatten ++ crlf) ++ onL butH fs ++ joinL fs nVia vVia ++ p)) :: cel b1 40 [.int .i64 st, kS [], .slice a fs.length c, .int .i64 fm, .int .i64 ln, .bool keep, kS up] :: fView w0 (.slice a fs.length c) fs :: F) (fun p => p = frameL fm ln) ?_ (fun hj => ?_)
    rotate_left
    · repeat' (first | refine walk ?_ | exact trivial | refine Tw.mk ?_ ?_ | intro hy | refine itoa_spec ht hln.1 hln.2 ?_ | (refine Tri.sel1 (tfield_spec (n := nCL) (v := Lib.itoa ln) ?_ ?_); focus (first | omega | (simp <;> omega))) | (refine Tri.sel1 (tfield_spec (n := nTE) (v := vChunked) ?_ ?_); focus (first | omega | (simp <;> omega))) | exact ⟨_, (f1 (by assumption)).symm, ⟨rfl, rfl, trivial⟩, entA⟩ | exact ⟨_, (f2 (by assumption) (by assumption)).symm, ⟨rfl, rfl, trivial⟩, entA⟩ | exact ⟨[], (f3 (by assumption) (by assumption)).symm, ⟨rfl, rfl, trivial⟩, by dsimp only; rw [List.append_nil]; exact entA⟩ | fail)
    rintro p e1 rfl
    repeat' (first | refine walkn ?_ | exact trivial | refine Tw.mk ?_ ?_ | fail)
    refine XS.joinM (ι := List UInt8) (fun _ => [(3, ptr b2)]) (fun q => txt b2 (([] ++ ([[72, 84, 84, 80, 47, 49, 46, 49, 32], Lib.itoa st, [32], reason st].flatten ++ crlf) ++ onL butH fs ++ joinL fs nVia vVia ++ frameL fm ln ++ q)) :: fView w0 (.slice a fs.length c) fs :: F) (fun q => q = endL keep up) ?_ (fun hj => ?_)
    rotate_left
    · repeat' (first | refine walk ?_ | exact trivial | refine Tw.mk ?_ ?_ | intro hy | (refine Tri.sel1 (tfield_spec (n := nConn) (v := vClose) ?_ ?_); focus (first | omega | (simp <;> omega))) | (refine Tri.sel1 (upgrade2 (v := up) ?_ ?_); focus (first | omega | (simp <;> omega))) | exact ⟨_, (g1 (by assumption)).symm, ⟨rfl, trivial⟩, entA⟩ | exact ⟨_, (g2 (by assumption) (by assumption)).symm, ⟨rfl, trivial⟩, entA⟩ | exact ⟨[], (g3 (by assumption) (by assumption)).symm, ⟨rfl, trivial⟩, by dsimp only; rw [List.append_nil]; exact entA⟩ | fail)
    rintro q e2 rfl
    repeat' (first | refine walk ?_ | exact trivial | refine Tw.mk ?_ ?_ | (refine Tri.sel1 (line_nil ?_ ?_); focus (first | omega | (simp <;> omega))) | refine Tri.sel1 (bstr_spec ?_) | refine Out.e (hK _ ?_) entA | fail)
    simp [headL, reasonL, vHttp]
  ·
    refine Tri.enterF Tryd.func20 Tryd.ntmps20 Tryd.results20 rfl rfl fun fr hfr => ?_
    repeat' (first | refine walkn ?_ | exact trivial | refine Tw.mk ?_ ?_ | (intro (bt : Nat)) | intro hy | refine itoa_spec ht hst.1 hst.2 ?_ | (refine Tri.ent (Ent.trans (selA (c := cel _ 84 [.pointer none, .slice none 0 0])) bld_new) (Tri.sel2 (line_cel [[72, 84, 84, 80, 47, 49, 46, 49, 32], Lib.itoa st, [32], rs] rfl rfl rfl (by simp) ?_ ?_)); focus (first | omega | (simp <;> omega))) | (refine Tri.sel3 (on_cel butH rfl rfl rfl hS (by decide) ?_ ?_); focus (first | omega | (simp <;> omega))) | (refine Tri.sel2 (joined_spec (nm := nVia) (more := vVia) hS (by decide) (by decide) ?_ ?_); focus (first | omega | (simp <;> omega))) | fail)
    rename_i b1 b2 bn1
    refine XS.joinM (ι := List UInt8) (fun _ => [(1, ptr b1), (3, ptr b2)]) (fun p => txt b2 (([] ++ ([[72, 84, 84, 80, 47, 49, 46, 49, 32], Lib.itoa st, [32], rs].flatten ++ crlf) ++ onL butH fs ++ joinL fs nVia vVia ++ p)) :: cel b1 40 [.int .i64 st, kS rs, .slice a fs.length c, .int .i64 fm, .int .i64 ln, .bool keep, kS up] :: fView w0 (.slice a fs.length c) fs :: F) (fun p => p = frameL fm ln) ?_ (fun hj => ?_)
    rotate_left
    · repeat' (first | refine walk ?_ | exact trivial | refine Tw.mk ?_ ?_ | intro hy | refine itoa_spec ht hln.1 hln.2 ?_ | (refine Tri.sel1 (tfield_spec (n := nCL) (v := Lib.itoa ln) ?_ ?_); focus (first | omega | (simp <;> omega))) | (refine Tri.sel1 (tfield_spec (n := nTE) (v := vChunked) ?_ ?_); focus (first | omega | (simp <;> omega))) | exact ⟨_, (f1 (by assumption)).symm, ⟨rfl, rfl, trivial⟩, entA⟩ | exact ⟨_, (f2 (by assumption) (by assumption)).symm, ⟨rfl, rfl, trivial⟩, entA⟩ | exact ⟨[], (f3 (by assumption) (by assumption)).symm, ⟨rfl, rfl, trivial⟩, by dsimp only; rw [List.append_nil]; exact entA⟩ | fail)
    rintro p e1 rfl
    repeat' (first | refine walkn ?_ | exact trivial | refine Tw.mk ?_ ?_ | fail)
    refine XS.joinM (ι := List UInt8) (fun _ => [(3, ptr b2)]) (fun q => txt b2 (([] ++ ([[72, 84, 84, 80, 47, 49, 46, 49, 32], Lib.itoa st, [32], rs].flatten ++ crlf) ++ onL butH fs ++ joinL fs nVia vVia ++ frameL fm ln ++ q)) :: fView w0 (.slice a fs.length c) fs :: F) (fun q => q = endL keep up) ?_ (fun hj => ?_)
    rotate_left
    · repeat' (first | refine walk ?_ | exact trivial | refine Tw.mk ?_ ?_ | intro hy | (refine Tri.sel1 (tfield_spec (n := nConn) (v := vClose) ?_ ?_); focus (first | omega | (simp <;> omega))) | (refine Tri.sel1 (upgrade2 (v := up) ?_ ?_); focus (first | omega | (simp <;> omega))) | exact ⟨_, (g1 (by assumption)).symm, ⟨rfl, trivial⟩, entA⟩ | exact ⟨_, (g2 (by assumption) (by assumption)).symm, ⟨rfl, trivial⟩, entA⟩ | exact ⟨[], (g3 (by assumption) (by assumption)).symm, ⟨rfl, trivial⟩, by dsimp only; rw [List.append_nil]; exact entA⟩ | fail)
    rintro q e2 rfl
    repeat' (first | refine walk ?_ | exact trivial | refine Tw.mk ?_ ?_ | (refine Tri.sel1 (line_nil ?_ ?_); focus (first | omega | (simp <;> omega))) | refine Tri.sel1 (bstr_spec ?_) | refine Out.e (hK _ ?_) entA | fail)
    simp [headL, reasonL, vHttp, hr]
end Go.Proofs.YtngicmoadobgpaaDoor

/- Contracts: requests and replies of the gateway's own, the program's. Conditions: the texts are small. -/
namespace Go.Sx
open Go Go.RowKit
section
variable {P : Program} {T : Tbl} {w0 : World} {b : Frame} {n : Nat} {R : Value → List HProp → Prop} {k : List Item} {e : Env} {H : List HProp}
/-- A region that draws its order; a cell of a piece of memory is held. -/
theorem XS.drawO {b0 : Nat} {t0 : TypeId} {vs : List Value} {id : Nat} {l : List Oper} (HL : Nat → Held) (sk : List (Nat × List Nat)) (hsk : ∀ b, skel (HL b) = sk) (hm : P.follows .mixedOrders = true) (hB : regionOk T sk l.toArray = true) (h : XO P T w0 n (HL b0) l.toArray (XS P w0 b n R k) 0 l e (cel b0 t0 vs :: H)) : XS P w0 b n R (.code (.region id l.toArray true) :: k) e (cel b0 t0 vs :: H) :=
  XS.drawH (HL b0) sk (hsk b0) hm hB h
end
end Go.Sx
namespace Go.EmitM
open Go.ChunkM Go.StrM
theorem frameL_len {fr ln : Int} (h : (Lib.itoa ln).length ≤ 21) : (frameL fr ln).length ≤ 100 := by
  have l10 : nCL.length = 14 := rfl
  have l11 : nTE.length = 17 := rfl
  have l12 : vChunked.length = 7 := rfl
  unfold frameL
  split
  · rw [fieldL_len]; omega
  · split
    · rw [fieldL_len]; omega
    · simp
theorem endL_len (keep : Bool) (up : List UInt8) : (endL keep up).length ≤ up.length + 100 := by
  have l13 : nConn.length = 10 := rfl
  have l14 : vClose.length = 5 := rfl
  have : vUpg.length = 7 := rfl
  have : nUpg.length = 7 := rfl
  unfold endL
  split
  · split
    · simp
    · rw [fieldL_len]; omega
  · rw [List.length_append, fieldL_len, fieldL_len]; omega
theorem headL_len {st : Int} {rs : List UInt8} {fs : List Fld} {fr ln : Int} {keep : Bool} {up : List UInt8} (hS : FsS fs) (h1 : (Lib.itoa st).length ≤ 21) (h2 : (Lib.itoa ln).length ≤ 21) (hrs : rs.length ≤ 2097152) (hup : up.length ≤ 2097152) : (headL st rs fs fr ln keep up).length ≤ 67108864 := by
  have l3 := reason_len st
  have l4 := onL_len butH fs
  have l5 := joinL_len fs nVia vVia
  have l6 := hS.1
  have l7 := hS.2
  have l8 : nVia.length = 3 := rfl
  have l9 : vVia.length = 12 := rfl
  have l15 := frameL_len (fr := fr) h2
  have l16 := endL_len keep up
  have l17 : (reasonL st rs).length ≤ 2097152 := by unfold reasonL; split <;> omega
  have l18 : vHttp.length = 8 := rfl
  have l19 : crlf.length = 2 := rfl
  unfold headL
  simp only [List.length_append, List.length_cons, List.length_nil]
  omega
/-- A reply of the gateway's own. -/
def localL (st : Int) (fs : List Fld) (body : List UInt8) (keep bodiless : Bool) : List UInt8 := if bodiless then headL st [] fs 2 body.length keep [] else headL st [] fs 2 body.length keep [] ++ body
end Go.EmitM
namespace Go.Proofs.YtngicmoadobgpaaDoor
open Go Go.Sx Go.ChunkM Go.StrM Go.EmitM
variable {w0 : World} {F H : List HProp} {K : Value → List HProp → Prop}
attribute [local simp] crlf_len fieldL_len
theorem local_spec {st : Int} {body : List UInt8} {fs : List Fld} {a : Option Addr} {c : Nat} {keep bodiless : Bool} (ht : T10 w0) (hS : FsS fs) (hst : i64 st) (hb : body.length ≤ 2097152)
    (h : K (kS (localL st fs body keep bodiless)) (fView w0 (.slice a fs.length c) fs :: F)) : Tri Tryd.prog 25 #[.int .i64 st, .slice a fs.length c, kS body, .bool keep, .bool bodiless] w0 (fView w0 (.slice a fs.length c) fs :: F) K := by
  have hln : i64 (body.length : Int) := ⟨by omega, by omega⟩
  have hl := headL_len (rs := []) (fr := 2) (keep := keep) (up := []) hS (itoa_len hst.1 hst.2) (itoa_len hln.1 hln.2) (by simp) (by simp)
  have hh := fun {F K} => head_spec (F := F) (K := K) (rs := []) (fm := 2) (up := []) (keep := keep) (a := a) (c := c) ht hS hst hln (by simp) (by simp)
  cases bodiless
  · have e1 : localL st fs body keep false = headL st [] fs 2 body.length keep [] ++ body := rfl
    rw [e1] at h
    refine Tri.enterF Tryd.func25 Tryd.ntmps25 Tryd.results25 rfl rfl fun fr hfr => ?_
    repeat' (first | refine walk ?_ | exact trivial | refine Tw.mk ?_ ?_ | refine hh ?_ | exact Out.i h | fail)
  · have e1 : localL st fs body keep true = headL st [] fs 2 body.length keep [] := rfl
    rw [e1] at h
    refine Tri.enterF Tryd.func25 Tryd.ntmps25 Tryd.results25 rfl rfl fun fr hfr => ?_
    repeat' (first | refine walk ?_ | exact trivial | refine Tw.mk ?_ ?_ | refine hh ?_ | exact Out.i h | fail)
def askV (m t hs : List UInt8) (port : Int) (a : Option Addr) (n c : Nat) (body : List UInt8) (sized : Bool) (frm up : List UInt8) : Value := .agg #[kS m, kS t, kS hs, .int .i64 port, .slice a n c, kS body, .bool sized, kS frm, kS up]
set_option maxHeartbeats 2000000 in
theorem request_spec {m t hs body frm up : List UInt8} {port : Int} {sized : Bool} {fs : List Fld} {a : Option Addr} {c : Nat} (ht : T10 w0) (hS : FsS fs) (hpt : i64 port) (hm : m.length ≤ 2097152) (htt : t.length ≤ 2097152) (hhs : hs.length ≤ 2097152) (hbd : body.length ≤ 2097152) (hfr : frm.length ≤ 2097152) (hup : up.length ≤ 2097152)
    (h : K (kS (reqL m t hs port fs body sized frm up)) (fView w0 (.slice a fs.length c) fs :: F)) : Tri Tryd.prog 28 #[askV m t hs port a fs.length c body sized frm up] w0 (fView w0 (.slice a fs.length c) fs :: F) K := by
  have hln : i64 (body.length : Int) := ⟨by omega, by omega⟩
  have l1 := itoa_len hpt.1 hpt.2
  have l2 := itoa_len hln.1 hln.2
  have l4 := onL_len butR fs
  have l5 := joinL_len fs nVia vVia
  have l5b := joinL_len fs nXff frm
  have l6 := hS.1
  have l7 := hS.2
  have l8 : nVia.length = 3 := rfl
  have l9 : vVia.length = 12 := rfl
  have l10 : nCL.length = 14 := rfl
  have l11 : nHost.length = 4 := rfl
  have l12 : nXff.length = 15 := rfl
  have l13 : nConn.length = 10 := rfl
  have l14 : nUpg.length = 7 := rfl
  have l15 : vUpg.length = 7 := rfl
  unfold askV
  by_cases hp : 0 < port
  ·
    cases sized
    ·
      by_cases hu : up = []
      ·
        subst hu
        have e1 : reqL m t hs port fs body false frm [] = [] ++ ([m, [32], t, [32, 72, 84, 84, 80, 47, 49, 46, 49]].flatten ++ crlf) ++ fieldL nHost (hs ++ ([58] ++ Lib.itoa port)) ++ onL butR fs ++ joinL fs nXff frm ++ joinL fs nVia vVia ++ crlf ++ body := by
          rw [reqL, hostL, if_pos hp, if_pos rfl]
          simp [vHttp]
        rw [e1] at h
        refine Tri.enterF Tryd.func28 Tryd.ntmps28 Tryd.results28 rfl rfl fun fr hfr => ?_
        repeat' (first | refine walk ?_ | exact trivial | refine Tw.mk ?_ ?_ | (intro (bt : Nat)) | intro hy | (exfalso; omega) | (exfalso; exact absurd rfl hy) | refine itoa_spec ht hpt.1 hpt.2 ?_ | refine itoa_spec ht hln.1 hln.2 ?_ | (refine Tri.ent (Ent.trans (selA (c := cel _ 84 [.pointer none, .slice none 0 0])) bld_new) (Tri.sel2 (line_cel [m, [32], t, [32, 72, 84, 84, 80, 47, 49, 46, 49]] rfl rfl rfl (by simp) ?_ ?_)); focus (first | omega | (simp <;> omega))) | (refine Tri.sel1 (tfield_spec (n := nHost) (v := hs ++ ([58] ++ Lib.itoa port)) ?_ ?_); focus (first | omega | (simp <;> omega))) | (refine Tri.sel3 (on_cel butR rfl rfl rfl hS (by decide) ?_ ?_); focus (first | omega | (simp <;> omega))) | (refine Tri.sel2 (joined_spec (nm := nXff) (more := frm) hS (by decide) (by omega) ?_ ?_); focus (first | omega | (simp <;> omega))) | (refine Tri.sel2 (joined_spec (nm := nVia) (more := vVia) hS (by decide) (by decide) ?_ ?_); focus (first | omega | (simp <;> omega))) | (refine Tri.sel1 (line_nil ?_ ?_); focus (first | omega | (simp <;> omega))) | (refine XS.sel1 (c := cel _ 51 _) ?_; refine XS.drawO (T := TT) (fun b => [(5, [3], heldC ⟨b, 5, none⟩ (kS body))]) [(5, [3])] (fun _ => rfl) follows_ok (by decide +kernel) ?_) | refine Tri.sel1 (bstr_spec ?_) | (refine XO.catL rfl rfl rfl rfl rfl ?_ ?_; focus (simp <;> omega)) | exact Out.e h entA | refine XO.callH (by repeat' (first | exact trivial | exact readA | exact heldM_0 | exact heldM_1 | exact heldM_2 | exact heldM_3 | exact heldM_4 | refine And.intro ?_ ?_ | exact Reads.here rfl | refine Reads.skip ?_)) rfl rfl rfl (by kernel_rfl) rfl ?_ | refine And.intro (by repeat' (first | exact trivial | exact readA | exact heldM_0 | exact heldM_1 | exact heldM_2 | exact heldM_3 | exact heldM_4 | refine And.intro ?_ ?_ | exact Reads.here rfl | refine Reads.skip ?_)) ?_ | refine XO.loadH TT_ok rfl rfl rfl rfl rfl rfl (by repeat' (first | exact trivial | exact readA | exact heldM_0 | exact heldM_1 | exact heldM_2 | exact heldM_3 | exact heldM_4 | refine And.intro ?_ ?_ | exact Reads.here rfl | refine Reads.skip ?_)) ?_ | refine XO.buildSlice TT_ok (by repeat' (first | exact trivial | exact readA | exact heldM_0 | exact heldM_1 | exact heldM_2 | exact heldM_3 | exact heldM_4 | refine And.intro ?_ ?_ | exact Reads.here rfl | refine Reads.skip ?_)) rfl rfl rfl rfl rfl rfl rfl rfl rfl rfl rfl rfl (fun _ => (by repeat' (first | exact trivial | exact readA | exact heldM_0 | exact heldM_1 | exact heldM_2 | exact heldM_3 | exact heldM_4 | refine And.intro ?_ ?_ | exact Reads.here rfl | refine Reads.skip ?_))) (fun b1 => ?_) | fail)
      ·
        have e1 : reqL m t hs port fs body false frm up = [] ++ ([m, [32], t, [32, 72, 84, 84, 80, 47, 49, 46, 49]].flatten ++ crlf) ++ fieldL nHost (hs ++ ([58] ++ Lib.itoa port)) ++ onL butR fs ++ joinL fs nXff frm ++ joinL fs nVia vVia ++ (fieldL nConn vUpg ++ fieldL nUpg up) ++ crlf ++ body := by
          rw [reqL, hostL, if_pos hp, if_neg hu]
          simp [vHttp]
        rw [e1] at h
        refine Tri.enterF Tryd.func28 Tryd.ntmps28 Tryd.results28 rfl rfl fun fr hfr => ?_
        repeat' (first | refine walk ?_ | exact trivial | refine Tw.mk ?_ ?_ | (intro (bt : Nat)) | intro hy | (exfalso; omega) | (exfalso; exact absurd rfl hy) | refine itoa_spec ht hpt.1 hpt.2 ?_ | refine itoa_spec ht hln.1 hln.2 ?_ | (refine Tri.ent (Ent.trans (selA (c := cel _ 84 [.pointer none, .slice none 0 0])) bld_new) (Tri.sel2 (line_cel [m, [32], t, [32, 72, 84, 84, 80, 47, 49, 46, 49]] rfl rfl rfl (by simp) ?_ ?_)); focus (first | omega | (simp <;> omega))) | (refine Tri.sel1 (tfield_spec (n := nHost) (v := hs ++ ([58] ++ Lib.itoa port)) ?_ ?_); focus (first | omega | (simp <;> omega))) | (refine Tri.sel3 (on_cel butR rfl rfl rfl hS (by decide) ?_ ?_); focus (first | omega | (simp <;> omega))) | (refine Tri.sel2 (joined_spec (nm := nXff) (more := frm) hS (by decide) (by omega) ?_ ?_); focus (first | omega | (simp <;> omega))) | (refine Tri.sel2 (joined_spec (nm := nVia) (more := vVia) hS (by decide) (by decide) ?_ ?_); focus (first | omega | (simp <;> omega))) | (refine Tri.sel1 (upgrade2 (v := up) ?_ ?_); focus (first | omega | (simp <;> omega))) | (refine Tri.sel1 (line_nil ?_ ?_); focus (first | omega | (simp <;> omega))) | (refine XS.sel1 (c := cel _ 51 _) ?_; refine XS.drawO (T := TT) (fun b => [(5, [3], heldC ⟨b, 5, none⟩ (kS body))]) [(5, [3])] (fun _ => rfl) follows_ok (by decide +kernel) ?_) | refine Tri.sel1 (bstr_spec ?_) | (refine XO.catL rfl rfl rfl rfl rfl ?_ ?_; focus (simp <;> omega)) | exact Out.e h entA | refine XO.callH (by repeat' (first | exact trivial | exact readA | exact heldM_0 | exact heldM_1 | exact heldM_2 | exact heldM_3 | exact heldM_4 | refine And.intro ?_ ?_ | exact Reads.here rfl | refine Reads.skip ?_)) rfl rfl rfl (by kernel_rfl) rfl ?_ | refine And.intro (by repeat' (first | exact trivial | exact readA | exact heldM_0 | exact heldM_1 | exact heldM_2 | exact heldM_3 | exact heldM_4 | refine And.intro ?_ ?_ | exact Reads.here rfl | refine Reads.skip ?_)) ?_ | refine XO.loadH TT_ok rfl rfl rfl rfl rfl rfl (by repeat' (first | exact trivial | exact readA | exact heldM_0 | exact heldM_1 | exact heldM_2 | exact heldM_3 | exact heldM_4 | refine And.intro ?_ ?_ | exact Reads.here rfl | refine Reads.skip ?_)) ?_ | refine XO.buildSlice TT_ok (by repeat' (first | exact trivial | exact readA | exact heldM_0 | exact heldM_1 | exact heldM_2 | exact heldM_3 | exact heldM_4 | refine And.intro ?_ ?_ | exact Reads.here rfl | refine Reads.skip ?_)) rfl rfl rfl rfl rfl rfl rfl rfl rfl rfl rfl rfl (fun _ => (by repeat' (first | exact trivial | exact readA | exact heldM_0 | exact heldM_1 | exact heldM_2 | exact heldM_3 | exact heldM_4 | refine And.intro ?_ ?_ | exact Reads.here rfl | refine Reads.skip ?_))) (fun b1 => ?_) | fail)
    ·
      by_cases hu : up = []
      ·
        subst hu
        have e1 : reqL m t hs port fs body true frm [] = [] ++ ([m, [32], t, [32, 72, 84, 84, 80, 47, 49, 46, 49]].flatten ++ crlf) ++ fieldL nHost (hs ++ ([58] ++ Lib.itoa port)) ++ onL butR fs ++ joinL fs nXff frm ++ joinL fs nVia vVia ++ fieldL nCL (Lib.itoa body.length) ++ crlf ++ body := by
          rw [reqL, hostL, if_pos hp, if_pos rfl]
          simp [vHttp]
        rw [e1] at h
        refine Tri.enterF Tryd.func28 Tryd.ntmps28 Tryd.results28 rfl rfl fun fr hfr => ?_
        repeat' (first | refine walk ?_ | exact trivial | refine Tw.mk ?_ ?_ | (intro (bt : Nat)) | intro hy | (exfalso; omega) | (exfalso; exact absurd rfl hy) | refine itoa_spec ht hpt.1 hpt.2 ?_ | refine itoa_spec ht hln.1 hln.2 ?_ | (refine Tri.ent (Ent.trans (selA (c := cel _ 84 [.pointer none, .slice none 0 0])) bld_new) (Tri.sel2 (line_cel [m, [32], t, [32, 72, 84, 84, 80, 47, 49, 46, 49]] rfl rfl rfl (by simp) ?_ ?_)); focus (first | omega | (simp <;> omega))) | (refine Tri.sel1 (tfield_spec (n := nHost) (v := hs ++ ([58] ++ Lib.itoa port)) ?_ ?_); focus (first | omega | (simp <;> omega))) | (refine Tri.sel3 (on_cel butR rfl rfl rfl hS (by decide) ?_ ?_); focus (first | omega | (simp <;> omega))) | (refine Tri.sel2 (joined_spec (nm := nXff) (more := frm) hS (by decide) (by omega) ?_ ?_); focus (first | omega | (simp <;> omega))) | (refine Tri.sel2 (joined_spec (nm := nVia) (more := vVia) hS (by decide) (by decide) ?_ ?_); focus (first | omega | (simp <;> omega))) | (refine Tri.sel1 (tfield_spec (n := nCL) (v := Lib.itoa body.length) ?_ ?_); focus (first | omega | (simp <;> omega))) | (refine Tri.sel1 (line_nil ?_ ?_); focus (first | omega | (simp <;> omega))) | (refine XS.sel1 (c := cel _ 51 _) ?_; refine XS.drawO (T := TT) (fun b => [(5, [3], heldC ⟨b, 5, none⟩ (kS body))]) [(5, [3])] (fun _ => rfl) follows_ok (by decide +kernel) ?_) | refine Tri.sel1 (bstr_spec ?_) | (refine XO.catL rfl rfl rfl rfl rfl ?_ ?_; focus (simp <;> omega)) | exact Out.e h entA | refine XO.callH (by repeat' (first | exact trivial | exact readA | exact heldM_0 | exact heldM_1 | exact heldM_2 | exact heldM_3 | exact heldM_4 | refine And.intro ?_ ?_ | exact Reads.here rfl | refine Reads.skip ?_)) rfl rfl rfl (by kernel_rfl) rfl ?_ | refine And.intro (by repeat' (first | exact trivial | exact readA | exact heldM_0 | exact heldM_1 | exact heldM_2 | exact heldM_3 | exact heldM_4 | refine And.intro ?_ ?_ | exact Reads.here rfl | refine Reads.skip ?_)) ?_ | refine XO.loadH TT_ok rfl rfl rfl rfl rfl rfl (by repeat' (first | exact trivial | exact readA | exact heldM_0 | exact heldM_1 | exact heldM_2 | exact heldM_3 | exact heldM_4 | refine And.intro ?_ ?_ | exact Reads.here rfl | refine Reads.skip ?_)) ?_ | refine XO.buildSlice TT_ok (by repeat' (first | exact trivial | exact readA | exact heldM_0 | exact heldM_1 | exact heldM_2 | exact heldM_3 | exact heldM_4 | refine And.intro ?_ ?_ | exact Reads.here rfl | refine Reads.skip ?_)) rfl rfl rfl rfl rfl rfl rfl rfl rfl rfl rfl rfl (fun _ => (by repeat' (first | exact trivial | exact readA | exact heldM_0 | exact heldM_1 | exact heldM_2 | exact heldM_3 | exact heldM_4 | refine And.intro ?_ ?_ | exact Reads.here rfl | refine Reads.skip ?_))) (fun b1 => ?_) | fail)
      ·
        have e1 : reqL m t hs port fs body true frm up = [] ++ ([m, [32], t, [32, 72, 84, 84, 80, 47, 49, 46, 49]].flatten ++ crlf) ++ fieldL nHost (hs ++ ([58] ++ Lib.itoa port)) ++ onL butR fs ++ joinL fs nXff frm ++ joinL fs nVia vVia ++ fieldL nCL (Lib.itoa body.length) ++ (fieldL nConn vUpg ++ fieldL nUpg up) ++ crlf ++ body := by
          rw [reqL, hostL, if_pos hp, if_neg hu]
          simp [vHttp]
        rw [e1] at h
        refine Tri.enterF Tryd.func28 Tryd.ntmps28 Tryd.results28 rfl rfl fun fr hfr => ?_
        repeat' (first | refine walk ?_ | exact trivial | refine Tw.mk ?_ ?_ | (intro (bt : Nat)) | intro hy | (exfalso; omega) | (exfalso; exact absurd rfl hy) | refine itoa_spec ht hpt.1 hpt.2 ?_ | refine itoa_spec ht hln.1 hln.2 ?_ | (refine Tri.ent (Ent.trans (selA (c := cel _ 84 [.pointer none, .slice none 0 0])) bld_new) (Tri.sel2 (line_cel [m, [32], t, [32, 72, 84, 84, 80, 47, 49, 46, 49]] rfl rfl rfl (by simp) ?_ ?_)); focus (first | omega | (simp <;> omega))) | (refine Tri.sel1 (tfield_spec (n := nHost) (v := hs ++ ([58] ++ Lib.itoa port)) ?_ ?_); focus (first | omega | (simp <;> omega))) | (refine Tri.sel3 (on_cel butR rfl rfl rfl hS (by decide) ?_ ?_); focus (first | omega | (simp <;> omega))) | (refine Tri.sel2 (joined_spec (nm := nXff) (more := frm) hS (by decide) (by omega) ?_ ?_); focus (first | omega | (simp <;> omega))) | (refine Tri.sel2 (joined_spec (nm := nVia) (more := vVia) hS (by decide) (by decide) ?_ ?_); focus (first | omega | (simp <;> omega))) | (refine Tri.sel1 (tfield_spec (n := nCL) (v := Lib.itoa body.length) ?_ ?_); focus (first | omega | (simp <;> omega))) | (refine Tri.sel1 (upgrade2 (v := up) ?_ ?_); focus (first | omega | (simp <;> omega))) | (refine Tri.sel1 (line_nil ?_ ?_); focus (first | omega | (simp <;> omega))) | (refine XS.sel1 (c := cel _ 51 _) ?_; refine XS.drawO (T := TT) (fun b => [(5, [3], heldC ⟨b, 5, none⟩ (kS body))]) [(5, [3])] (fun _ => rfl) follows_ok (by decide +kernel) ?_) | refine Tri.sel1 (bstr_spec ?_) | (refine XO.catL rfl rfl rfl rfl rfl ?_ ?_; focus (simp <;> omega)) | exact Out.e h entA | refine XO.callH (by repeat' (first | exact trivial | exact readA | exact heldM_0 | exact heldM_1 | exact heldM_2 | exact heldM_3 | exact heldM_4 | refine And.intro ?_ ?_ | exact Reads.here rfl | refine Reads.skip ?_)) rfl rfl rfl (by kernel_rfl) rfl ?_ | refine And.intro (by repeat' (first | exact trivial | exact readA | exact heldM_0 | exact heldM_1 | exact heldM_2 | exact heldM_3 | exact heldM_4 | refine And.intro ?_ ?_ | exact Reads.here rfl | refine Reads.skip ?_)) ?_ | refine XO.loadH TT_ok rfl rfl rfl rfl rfl rfl (by repeat' (first | exact trivial | exact readA | exact heldM_0 | exact heldM_1 | exact heldM_2 | exact heldM_3 | exact heldM_4 | refine And.intro ?_ ?_ | exact Reads.here rfl | refine Reads.skip ?_)) ?_ | refine XO.buildSlice TT_ok (by repeat' (first | exact trivial | exact readA | exact heldM_0 | exact heldM_1 | exact heldM_2 | exact heldM_3 | exact heldM_4 | refine And.intro ?_ ?_ | exact Reads.here rfl | refine Reads.skip ?_)) rfl rfl rfl rfl rfl rfl rfl rfl rfl rfl rfl rfl (fun _ => (by repeat' (first | exact trivial | exact readA | exact heldM_0 | exact heldM_1 | exact heldM_2 | exact heldM_3 | exact heldM_4 | refine And.intro ?_ ?_ | exact Reads.here rfl | refine Reads.skip ?_))) (fun b1 => ?_) | fail)
  ·
    cases sized
    ·
      by_cases hu : up = []
      ·
        subst hu
        have e1 : reqL m t hs port fs body false frm [] = [] ++ ([m, [32], t, [32, 72, 84, 84, 80, 47, 49, 46, 49]].flatten ++ crlf) ++ fieldL nHost (hs) ++ onL butR fs ++ joinL fs nXff frm ++ joinL fs nVia vVia ++ crlf ++ body := by
          rw [reqL, hostL, if_neg hp, if_pos rfl]
          simp [vHttp]
        rw [e1] at h
        refine Tri.enterF Tryd.func28 Tryd.ntmps28 Tryd.results28 rfl rfl fun fr hfr => ?_
        repeat' (first | refine walk ?_ | exact trivial | refine Tw.mk ?_ ?_ | (intro (bt : Nat)) | intro hy | (exfalso; omega) | (exfalso; exact absurd rfl hy) | refine itoa_spec ht hpt.1 hpt.2 ?_ | refine itoa_spec ht hln.1 hln.2 ?_ | (refine Tri.ent (Ent.trans (selA (c := cel _ 84 [.pointer none, .slice none 0 0])) bld_new) (Tri.sel2 (line_cel [m, [32], t, [32, 72, 84, 84, 80, 47, 49, 46, 49]] rfl rfl rfl (by simp) ?_ ?_)); focus (first | omega | (simp <;> omega))) | (refine Tri.sel1 (tfield_spec (n := nHost) (v := hs) ?_ ?_); focus (first | omega | (simp <;> omega))) | (refine Tri.sel3 (on_cel butR rfl rfl rfl hS (by decide) ?_ ?_); focus (first | omega | (simp <;> omega))) | (refine Tri.sel2 (joined_spec (nm := nXff) (more := frm) hS (by decide) (by omega) ?_ ?_); focus (first | omega | (simp <;> omega))) | (refine Tri.sel2 (joined_spec (nm := nVia) (more := vVia) hS (by decide) (by decide) ?_ ?_); focus (first | omega | (simp <;> omega))) | (refine Tri.sel1 (line_nil ?_ ?_); focus (first | omega | (simp <;> omega))) | (refine XS.sel1 (c := cel _ 51 _) ?_; refine XS.drawO (T := TT) (fun b => [(5, [3], heldC ⟨b, 5, none⟩ (kS body))]) [(5, [3])] (fun _ => rfl) follows_ok (by decide +kernel) ?_) | refine Tri.sel1 (bstr_spec ?_) | (refine XO.catL rfl rfl rfl rfl rfl ?_ ?_; focus (simp <;> omega)) | exact Out.e h entA | refine XO.callH (by repeat' (first | exact trivial | exact readA | exact heldM_0 | exact heldM_1 | exact heldM_2 | exact heldM_3 | exact heldM_4 | refine And.intro ?_ ?_ | exact Reads.here rfl | refine Reads.skip ?_)) rfl rfl rfl (by kernel_rfl) rfl ?_ | refine And.intro (by repeat' (first | exact trivial | exact readA | exact heldM_0 | exact heldM_1 | exact heldM_2 | exact heldM_3 | exact heldM_4 | refine And.intro ?_ ?_ | exact Reads.here rfl | refine Reads.skip ?_)) ?_ | refine XO.loadH TT_ok rfl rfl rfl rfl rfl rfl (by repeat' (first | exact trivial | exact readA | exact heldM_0 | exact heldM_1 | exact heldM_2 | exact heldM_3 | exact heldM_4 | refine And.intro ?_ ?_ | exact Reads.here rfl | refine Reads.skip ?_)) ?_ | refine XO.buildSlice TT_ok (by repeat' (first | exact trivial | exact readA | exact heldM_0 | exact heldM_1 | exact heldM_2 | exact heldM_3 | exact heldM_4 | refine And.intro ?_ ?_ | exact Reads.here rfl | refine Reads.skip ?_)) rfl rfl rfl rfl rfl rfl rfl rfl rfl rfl rfl rfl (fun _ => (by repeat' (first | exact trivial | exact readA | exact heldM_0 | exact heldM_1 | exact heldM_2 | exact heldM_3 | exact heldM_4 | refine And.intro ?_ ?_ | exact Reads.here rfl | refine Reads.skip ?_))) (fun b1 => ?_) | fail)
      ·
        have e1 : reqL m t hs port fs body false frm up = [] ++ ([m, [32], t, [32, 72, 84, 84, 80, 47, 49, 46, 49]].flatten ++ crlf) ++ fieldL nHost (hs) ++ onL butR fs ++ joinL fs nXff frm ++ joinL fs nVia vVia ++ (fieldL nConn vUpg ++ fieldL nUpg up) ++ crlf ++ body := by
          rw [reqL, hostL, if_neg hp, if_neg hu]
          simp [vHttp]
        rw [e1] at h
        refine Tri.enterF Tryd.func28 Tryd.ntmps28 Tryd.results28 rfl rfl fun fr hfr => ?_
        repeat' (first | refine walk ?_ | exact trivial | refine Tw.mk ?_ ?_ | (intro (bt : Nat)) | intro hy | (exfalso; omega) | (exfalso; exact absurd rfl hy) | refine itoa_spec ht hpt.1 hpt.2 ?_ | refine itoa_spec ht hln.1 hln.2 ?_ | (refine Tri.ent (Ent.trans (selA (c := cel _ 84 [.pointer none, .slice none 0 0])) bld_new) (Tri.sel2 (line_cel [m, [32], t, [32, 72, 84, 84, 80, 47, 49, 46, 49]] rfl rfl rfl (by simp) ?_ ?_)); focus (first | omega | (simp <;> omega))) | (refine Tri.sel1 (tfield_spec (n := nHost) (v := hs) ?_ ?_); focus (first | omega | (simp <;> omega))) | (refine Tri.sel3 (on_cel butR rfl rfl rfl hS (by decide) ?_ ?_); focus (first | omega | (simp <;> omega))) | (refine Tri.sel2 (joined_spec (nm := nXff) (more := frm) hS (by decide) (by omega) ?_ ?_); focus (first | omega | (simp <;> omega))) | (refine Tri.sel2 (joined_spec (nm := nVia) (more := vVia) hS (by decide) (by decide) ?_ ?_); focus (first | omega | (simp <;> omega))) | (refine Tri.sel1 (upgrade2 (v := up) ?_ ?_); focus (first | omega | (simp <;> omega))) | (refine Tri.sel1 (line_nil ?_ ?_); focus (first | omega | (simp <;> omega))) | (refine XS.sel1 (c := cel _ 51 _) ?_; refine XS.drawO (T := TT) (fun b => [(5, [3], heldC ⟨b, 5, none⟩ (kS body))]) [(5, [3])] (fun _ => rfl) follows_ok (by decide +kernel) ?_) | refine Tri.sel1 (bstr_spec ?_) | (refine XO.catL rfl rfl rfl rfl rfl ?_ ?_; focus (simp <;> omega)) | exact Out.e h entA | refine XO.callH (by repeat' (first | exact trivial | exact readA | exact heldM_0 | exact heldM_1 | exact heldM_2 | exact heldM_3 | exact heldM_4 | refine And.intro ?_ ?_ | exact Reads.here rfl | refine Reads.skip ?_)) rfl rfl rfl (by kernel_rfl) rfl ?_ | refine And.intro (by repeat' (first | exact trivial | exact readA | exact heldM_0 | exact heldM_1 | exact heldM_2 | exact heldM_3 | exact heldM_4 | refine And.intro ?_ ?_ | exact Reads.here rfl | refine Reads.skip ?_)) ?_ | refine XO.loadH TT_ok rfl rfl rfl rfl rfl rfl (by repeat' (first | exact trivial | exact readA | exact heldM_0 | exact heldM_1 | exact heldM_2 | exact heldM_3 | exact heldM_4 | refine And.intro ?_ ?_ | exact Reads.here rfl | refine Reads.skip ?_)) ?_ | refine XO.buildSlice TT_ok (by repeat' (first | exact trivial | exact readA | exact heldM_0 | exact heldM_1 | exact heldM_2 | exact heldM_3 | exact heldM_4 | refine And.intro ?_ ?_ | exact Reads.here rfl | refine Reads.skip ?_)) rfl rfl rfl rfl rfl rfl rfl rfl rfl rfl rfl rfl (fun _ => (by repeat' (first | exact trivial | exact readA | exact heldM_0 | exact heldM_1 | exact heldM_2 | exact heldM_3 | exact heldM_4 | refine And.intro ?_ ?_ | exact Reads.here rfl | refine Reads.skip ?_))) (fun b1 => ?_) | fail)
    ·
      by_cases hu : up = []
      ·
        subst hu
        have e1 : reqL m t hs port fs body true frm [] = [] ++ ([m, [32], t, [32, 72, 84, 84, 80, 47, 49, 46, 49]].flatten ++ crlf) ++ fieldL nHost (hs) ++ onL butR fs ++ joinL fs nXff frm ++ joinL fs nVia vVia ++ fieldL nCL (Lib.itoa body.length) ++ crlf ++ body := by
          rw [reqL, hostL, if_neg hp, if_pos rfl]
          simp [vHttp]
        rw [e1] at h
        refine Tri.enterF Tryd.func28 Tryd.ntmps28 Tryd.results28 rfl rfl fun fr hfr => ?_
        repeat' (first | refine walk ?_ | exact trivial | refine Tw.mk ?_ ?_ | (intro (bt : Nat)) | intro hy | (exfalso; omega) | (exfalso; exact absurd rfl hy) | refine itoa_spec ht hpt.1 hpt.2 ?_ | refine itoa_spec ht hln.1 hln.2 ?_ | (refine Tri.ent (Ent.trans (selA (c := cel _ 84 [.pointer none, .slice none 0 0])) bld_new) (Tri.sel2 (line_cel [m, [32], t, [32, 72, 84, 84, 80, 47, 49, 46, 49]] rfl rfl rfl (by simp) ?_ ?_)); focus (first | omega | (simp <;> omega))) | (refine Tri.sel1 (tfield_spec (n := nHost) (v := hs) ?_ ?_); focus (first | omega | (simp <;> omega))) | (refine Tri.sel3 (on_cel butR rfl rfl rfl hS (by decide) ?_ ?_); focus (first | omega | (simp <;> omega))) | (refine Tri.sel2 (joined_spec (nm := nXff) (more := frm) hS (by decide) (by omega) ?_ ?_); focus (first | omega | (simp <;> omega))) | (refine Tri.sel2 (joined_spec (nm := nVia) (more := vVia) hS (by decide) (by decide) ?_ ?_); focus (first | omega | (simp <;> omega))) | (refine Tri.sel1 (tfield_spec (n := nCL) (v := Lib.itoa body.length) ?_ ?_); focus (first | omega | (simp <;> omega))) | (refine Tri.sel1 (line_nil ?_ ?_); focus (first | omega | (simp <;> omega))) | (refine XS.sel1 (c := cel _ 51 _) ?_; refine XS.drawO (T := TT) (fun b => [(5, [3], heldC ⟨b, 5, none⟩ (kS body))]) [(5, [3])] (fun _ => rfl) follows_ok (by decide +kernel) ?_) | refine Tri.sel1 (bstr_spec ?_) | (refine XO.catL rfl rfl rfl rfl rfl ?_ ?_; focus (simp <;> omega)) | exact Out.e h entA | refine XO.callH (by repeat' (first | exact trivial | exact readA | exact heldM_0 | exact heldM_1 | exact heldM_2 | exact heldM_3 | exact heldM_4 | refine And.intro ?_ ?_ | exact Reads.here rfl | refine Reads.skip ?_)) rfl rfl rfl (by kernel_rfl) rfl ?_ | refine And.intro (by repeat' (first | exact trivial | exact readA | exact heldM_0 | exact heldM_1 | exact heldM_2 | exact heldM_3 | exact heldM_4 | refine And.intro ?_ ?_ | exact Reads.here rfl | refine Reads.skip ?_)) ?_ | refine XO.loadH TT_ok rfl rfl rfl rfl rfl rfl (by repeat' (first | exact trivial | exact readA | exact heldM_0 | exact heldM_1 | exact heldM_2 | exact heldM_3 | exact heldM_4 | refine And.intro ?_ ?_ | exact Reads.here rfl | refine Reads.skip ?_)) ?_ | refine XO.buildSlice TT_ok (by repeat' (first | exact trivial | exact readA | exact heldM_0 | exact heldM_1 | exact heldM_2 | exact heldM_3 | exact heldM_4 | refine And.intro ?_ ?_ | exact Reads.here rfl | refine Reads.skip ?_)) rfl rfl rfl rfl rfl rfl rfl rfl rfl rfl rfl rfl (fun _ => (by repeat' (first | exact trivial | exact readA | exact heldM_0 | exact heldM_1 | exact heldM_2 | exact heldM_3 | exact heldM_4 | refine And.intro ?_ ?_ | exact Reads.here rfl | refine Reads.skip ?_))) (fun b1 => ?_) | fail)
      ·
        have e1 : reqL m t hs port fs body true frm up = [] ++ ([m, [32], t, [32, 72, 84, 84, 80, 47, 49, 46, 49]].flatten ++ crlf) ++ fieldL nHost (hs) ++ onL butR fs ++ joinL fs nXff frm ++ joinL fs nVia vVia ++ fieldL nCL (Lib.itoa body.length) ++ (fieldL nConn vUpg ++ fieldL nUpg up) ++ crlf ++ body := by
          rw [reqL, hostL, if_neg hp, if_neg hu]
          simp [vHttp]
        rw [e1] at h
        refine Tri.enterF Tryd.func28 Tryd.ntmps28 Tryd.results28 rfl rfl fun fr hfr => ?_
        repeat' (first | refine walk ?_ | exact trivial | refine Tw.mk ?_ ?_ | (intro (bt : Nat)) | intro hy | (exfalso; omega) | (exfalso; exact absurd rfl hy) | refine itoa_spec ht hpt.1 hpt.2 ?_ | refine itoa_spec ht hln.1 hln.2 ?_ | (refine Tri.ent (Ent.trans (selA (c := cel _ 84 [.pointer none, .slice none 0 0])) bld_new) (Tri.sel2 (line_cel [m, [32], t, [32, 72, 84, 84, 80, 47, 49, 46, 49]] rfl rfl rfl (by simp) ?_ ?_)); focus (first | omega | (simp <;> omega))) | (refine Tri.sel1 (tfield_spec (n := nHost) (v := hs) ?_ ?_); focus (first | omega | (simp <;> omega))) | (refine Tri.sel3 (on_cel butR rfl rfl rfl hS (by decide) ?_ ?_); focus (first | omega | (simp <;> omega))) | (refine Tri.sel2 (joined_spec (nm := nXff) (more := frm) hS (by decide) (by omega) ?_ ?_); focus (first | omega | (simp <;> omega))) | (refine Tri.sel2 (joined_spec (nm := nVia) (more := vVia) hS (by decide) (by decide) ?_ ?_); focus (first | omega | (simp <;> omega))) | (refine Tri.sel1 (tfield_spec (n := nCL) (v := Lib.itoa body.length) ?_ ?_); focus (first | omega | (simp <;> omega))) | (refine Tri.sel1 (upgrade2 (v := up) ?_ ?_); focus (first | omega | (simp <;> omega))) | (refine Tri.sel1 (line_nil ?_ ?_); focus (first | omega | (simp <;> omega))) | (refine XS.sel1 (c := cel _ 51 _) ?_; refine XS.drawO (T := TT) (fun b => [(5, [3], heldC ⟨b, 5, none⟩ (kS body))]) [(5, [3])] (fun _ => rfl) follows_ok (by decide +kernel) ?_) | refine Tri.sel1 (bstr_spec ?_) | (refine XO.catL rfl rfl rfl rfl rfl ?_ ?_; focus (simp <;> omega)) | exact Out.e h entA | refine XO.callH (by repeat' (first | exact trivial | exact readA | exact heldM_0 | exact heldM_1 | exact heldM_2 | exact heldM_3 | exact heldM_4 | refine And.intro ?_ ?_ | exact Reads.here rfl | refine Reads.skip ?_)) rfl rfl rfl (by kernel_rfl) rfl ?_ | refine And.intro (by repeat' (first | exact trivial | exact readA | exact heldM_0 | exact heldM_1 | exact heldM_2 | exact heldM_3 | exact heldM_4 | refine And.intro ?_ ?_ | exact Reads.here rfl | refine Reads.skip ?_)) ?_ | refine XO.loadH TT_ok rfl rfl rfl rfl rfl rfl (by repeat' (first | exact trivial | exact readA | exact heldM_0 | exact heldM_1 | exact heldM_2 | exact heldM_3 | exact heldM_4 | refine And.intro ?_ ?_ | exact Reads.here rfl | refine Reads.skip ?_)) ?_ | refine XO.buildSlice TT_ok (by repeat' (first | exact trivial | exact readA | exact heldM_0 | exact heldM_1 | exact heldM_2 | exact heldM_3 | exact heldM_4 | refine And.intro ?_ ?_ | exact Reads.here rfl | refine Reads.skip ?_)) rfl rfl rfl rfl rfl rfl rfl rfl rfl rfl rfl rfl (fun _ => (by repeat' (first | exact trivial | exact readA | exact heldM_0 | exact heldM_1 | exact heldM_2 | exact heldM_3 | exact heldM_4 | refine And.intro ?_ ?_ | exact Reads.here rfl | refine Reads.skip ?_))) (fun b1 => ?_) | fail)
end Go.Proofs.YtngicmoadobgpaaDoor
