/- Some texts put together: lemmas and contracts for the law. Conditions: as each text says. -/
import Derived.Test.YtngicmoadobgpaaDoorU18
/- Contracts: requests and replies of the gateway's own, the program's. Conditions: the texts are small. -/
namespace Go.Sx
open Go Go.RowKit
section
variable {P : Program} {T : Tbl} {w0 : World} {b : Frame} {n : Nat} {R : Value → List HProp → Prop} {k : List Item} {e : Env} {H : List HProp}
/-- A region that draws its order; a cell of a piece of memory is held. -/
theorem XS.drawO {b0 : Nat} {t0 : TypeId} {vs : List Value} {id : Nat} {l : List Oper} (HL : Nat → Held) (sk : List (Nat × List Nat)) (hsk : ∀ b, skel (HL b) = sk) (hm : P.follows .mixedOrders = true) (hB : regionOk T sk l.toArray = true) (h : XO P T w0 n (HL b0) l.toArray (XS P w0 b n R k) 0 l e (cel b0 t0 vs :: H)) : XS P w0 b n R (.code (.region id l.toArray true) :: k) e (cel b0 t0 vs :: H) :=
  XS.drawH (HL b0) sk (hsk b0) hm hB h
end
end Go.Sx
namespace Go.EmitM
open Go.ChunkM Go.StrM
theorem frameL_len {fr ln : Int} (h : (Lib.itoa ln).length ≤ 21) : (frameL fr ln).length ≤ 100 := by
  have l10 : nCL.length = 14 := rfl
  have l11 : nTE.length = 17 := rfl
  have l12 : vChunked.length = 7 := rfl
  unfold frameL
  split
  · rw [fieldL_len]; omega
  · split
    · rw [fieldL_len]; omega
    · simp
theorem endL_len (keep : Bool) (up : List UInt8) : (endL keep up).length ≤ up.length + 100 := by
  have l13 : nConn.length = 10 := rfl
  have l14 : vClose.length = 5 := rfl
  have : vUpg.length = 7 := rfl
  have : nUpg.length = 7 := rfl
  unfold endL
  split
  · split
    · simp
    · rw [fieldL_len]; omega
  · rw [List.length_append, fieldL_len, fieldL_len]; omega
theorem headL_len {st : Int} {rs : List UInt8} {fs : List Fld} {fr ln : Int} {keep : Bool} {up : List UInt8} (hS : FsS fs) (h1 : (Lib.itoa st).length ≤ 21) (h2 : (Lib.itoa ln).length ≤ 21) (hrs : rs.length ≤ 2097152) (hup : up.length ≤ 2097152) : (headL st rs fs fr ln keep up).length ≤ 67108864 := by
  have l3 := reason_len st
  have l4 := onL_len butH fs
  have l5 := joinL_len fs nVia vVia
  have l6 := hS.1
  have l7 := hS.2
  have l8 : nVia.length = 3 := rfl
  have l9 : vVia.length = 12 := rfl
  have l15 := frameL_len (fr := fr) h2
  have l16 := endL_len keep up
  have l17 : (reasonL st rs).length ≤ 2097152 := by unfold reasonL; split <;> omega
  have l18 : vHttp.length = 8 := rfl
  have l19 : crlf.length = 2 := rfl
  unfold headL
  simp only [List.length_append, List.length_cons, List.length_nil]
  omega
/-- A reply of the gateway's own. -/
def localL (st : Int) (fs : List Fld) (body : List UInt8) (keep bodiless : Bool) : List UInt8 := if bodiless then headL st [] fs 2 body.length keep [] else headL st [] fs 2 body.length keep [] ++ body
end Go.EmitM
namespace Go.Proofs.YtngicmoadobgpaaDoor
open Go Go.Sx Go.ChunkM Go.StrM Go.EmitM
variable {w0 : World} {F H : List HProp} {K : Value → List HProp → Prop}
attribute [local simp] crlf_len fieldL_len
theorem local_spec {st : Int} {body : List UInt8} {fs : List Fld} {a : Option Addr} {c : Nat} {keep bodiless : Bool} (ht : T10 w0) (hS : FsS fs) (hst : i64 st) (hb : body.length ≤ 2097152)
    (h : K (kS (localL st fs body keep bodiless)) (fView w0 (.slice a fs.length c) fs :: F)) : Tri Tryd.prog 25 #[.int .i64 st, .slice a fs.length c, kS body, .bool keep, .bool bodiless] w0 (fView w0 (.slice a fs.length c) fs :: F) K := by
  have hln : i64 (body.length : Int) := ⟨by omega, by omega⟩
  have hl := headL_len (rs := []) (fr := 2) (keep := keep) (up := []) hS (itoa_len hst.1 hst.2) (itoa_len hln.1 hln.2) (by simp) (by simp)
  have hh := fun {F K} => head_spec (F := F) (K := K) (rs := []) (fm := 2) (up := []) (keep := keep) (a := a) (c := c) ht hS hst hln (by simp) (by simp)
  cases bodiless
  · have e1 : localL st fs body keep false = headL st [] fs 2 body.length keep [] ++ body := rfl
    rw [e1] at h
    refine Tri.enterF Tryd.func25 Tryd.ntmps25 Tryd.results25 rfl rfl fun fr hfr => ?_
    repeat' (first | refine walk ?_ | exact trivial | refine Tw.mk ?_ ?_ | refine hh ?_ | exact Out.i h | fail)
  · have e1 : localL st fs body keep true = headL st [] fs 2 body.length keep [] := rfl
    rw [e1] at h
    refine Tri.enterF Tryd.func25 Tryd.ntmps25 Tryd.results25 rfl rfl fun fr hfr => ?_
    repeat' (first | refine walk ?_ | exact trivial | refine Tw.mk ?_ ?_ | refine hh ?_ | exact Out.i h | fail)
def askV (m t hs : List UInt8) (port : Int) (a : Option Addr) (n c : Nat) (body : List UInt8) (sized : Bool) (frm up : List UInt8) : Value := .agg #[kS m, kS t, kS hs, .int .i64 port, .slice a n c, kS body, .bool sized, kS frm, kS up]
set_option maxHeartbeats 2000000 in
theorem request_spec {m t hs body frm up : List UInt8} {port : Int} {sized : Bool} {fs : List Fld} {a : Option Addr} {c : Nat} (ht : T10 w0) (hS : FsS fs) (hpt : i64 port) (hm : m.length ≤ 2097152) (htt : t.length ≤ 2097152) (hhs : hs.length ≤ 2097152) (hbd : body.length ≤ 2097152) (hfr : frm.length ≤ 2097152) (hup : up.length ≤ 2097152)
    (h : K (kS (reqL m t hs port fs body sized frm up)) (fView w0 (.slice a fs.length c) fs :: F)) : Tri Tryd.prog 28 #[askV m t hs port a fs.length c body sized frm up] w0 (fView w0 (.slice a fs.length c) fs :: F) K := by
  have hln : i64 (body.length : Int) := ⟨by omega, by omega⟩
  have l1 := itoa_len hpt.1 hpt.2
  have l2 := itoa_len hln.1 hln.2
  have l4 := onL_len butR fs
  have l5 := joinL_len fs nVia vVia
  have l5b := joinL_len fs nXff frm
  have l6 := hS.1
  have l7 := hS.2
  have l8 : nVia.length = 3 := rfl
  have l9 : vVia.length = 12 := rfl
  have l10 : nCL.length = 14 := rfl
  have l11 : nHost.length = 4 := rfl
  have l12 : nXff.length = 15 := rfl
  have l13 : nConn.length = 10 := rfl
  have l14 : nUpg.length = 7 := rfl
  have l15 : vUpg.length = 7 := rfl
  unfold askV
  by_cases hp : 0 < port
  ·
    cases sized
    ·
      by_cases hu : up = []
      ·
        subst hu
        have e1 : reqL m t hs port fs body false frm [] = [] ++ ([m, [32], t, [32, 72, 84, 84, 80, 47, 49, 46, 49]].flatten ++ crlf) ++ fieldL nHost (hs ++ ([58] ++ Lib.itoa port)) ++ onL butR fs ++ joinL fs nXff frm ++ joinL fs nVia vVia ++ crlf ++ body := by
          rw [reqL, hostL, if_pos hp, if_pos rfl]
          simp [vHttp]
        rw [e1] at h
        refine Tri.enterF Tryd.func28 Tryd.ntmps28 Tryd.results28 rfl rfl fun fr hfr => ?_
        repeat' (first | refine walk ?_ | exact trivial | refine Tw.mk ?_ ?_ | (intro (bt : Nat)) | intro hy | (exfalso; omega) | (exfalso; exact absurd rfl hy) | refine itoa_spec ht hpt.1 hpt.2 ?_ | refine itoa_spec ht hln.1 hln.2 ?_ | (refine Tri.ent (Ent.trans (selA (c := cel _ 84 [.pointer none, .slice none 0 0])) bld_new) (Tri.sel2 (line_cel [m, [32], t, [32, 72, 84, 84, 80, 47, 49, 46, 49]] rfl rfl rfl (by simp) ?_ ?_)); focus (first | omega | (simp <;> omega))) | (refine Tri.sel1 (tfield_spec (n := nHost) (v := hs ++ ([58] ++ Lib.itoa port)) ?_ ?_); focus (first | omega | (simp <;> omega))) | (refine Tri.sel3 (on_cel butR rfl rfl rfl hS (by decide) ?_ ?_); focus (first | omega | (simp <;> omega))) | (refine Tri.sel2 (joined_spec (nm := nXff) (more := frm) hS (by decide) (by omega) ?_ ?_); focus (first | omega | (simp <;> omega))) | (refine Tri.sel2 (joined_spec (nm := nVia) (more := vVia) hS (by decide) (by decide) ?_ ?_); focus (first | omega | (simp <;> omega))) | (refine Tri.sel1 (line_nil ?_ ?_); focus (first | omega | (simp <;> omega))) | (refine XS.sel1 (c := cel _ 51 _) ?_; refine XS.drawO (T := TT) (fun b => [(5, [3], heldC ⟨b, 5, none⟩ (kS body))]) [(5, [3])] (fun _ => rfl) follows_ok (by decide +kernel) ?_) | refine Tri.sel1 (bstr_spec ?_) | (refine XO.catL rfl rfl rfl rfl rfl ?_ ?_; focus (simp <;> omega)) | exact Out.e h entA | refine XO.callH (by repeat' (first | exact trivial | exact readA | exact heldM_0 | exact heldM_1 | exact heldM_2 | exact heldM_3 | exact heldM_4 | refine And.intro ?_ ?_ | exact Reads.here rfl | refine Reads.skip ?_)) rfl rfl rfl (by kernel_rfl) rfl ?_ | refine And.intro (by repeat' (first | exact trivial | exact readA | exact heldM_0 | exact heldM_1 | exact heldM_2 | exact heldM_3 | exact heldM_4 | refine And.intro ?_ ?_ | exact Reads.here rfl | refine Reads.skip ?_)) ?_ | refine XO.loadH TT_ok rfl rfl rfl rfl rfl rfl (by repeat' (first | exact trivial | exact readA | exact heldM_0 | exact heldM_1 | exact heldM_2 | exact heldM_3 | exact heldM_4 | refine And.intro ?_ ?_ | exact Reads.here rfl | refine Reads.skip ?_)) ?_ | refine XO.buildSlice TT_ok (by repeat' (first | exact trivial | exact readA | exact heldM_0 | exact heldM_1 | exact heldM_2 | exact heldM_3 | exact heldM_4 | refine And.intro ?_ ?_ | exact Reads.here rfl | refine Reads.skip ?_)) rfl rfl rfl rfl rfl rfl rfl rfl rfl rfl rfl rfl (fun _ => (by repeat' (first | exact trivial | exact readA | exact heldM_0 | exact heldM_1 | exact heldM_2 | exact heldM_3 | exact heldM_4 | refine And.intro ?_ ?_ | exact Reads.here rfl | refine Reads.skip ?_))) (fun b1 => ?_) | fail)
      ·
        have e1 : reqL m t hs port fs body false frm up = [] ++ ([m, [32], t, [32, 72, 84, 84, 80, 47, 49, 46, 49]].flatten ++ crlf) ++ fieldL nHost (hs ++ ([58] ++ Lib.itoa port)) ++ onL butR fs ++ joinL fs nXff frm ++ joinL fs nVia vVia ++ (fieldL nConn vUpg ++ fieldL nUpg up) ++ crlf ++ body := by
          rw [reqL, hostL, if_pos hp, if_neg hu]
          simp [vHttp]
        rw [e1] at h
        refine Tri.enterF Tryd.func28 Tryd.ntmps28 Tryd.results28 rfl rfl fun fr hfr => ?_
        repeat' (first | refine walk ?_ | exact trivial | refine Tw.mk ?_ ?_ | (intro (bt : Nat)) | intro hy | (exfalso; omega) | (exfalso; exact absurd rfl hy) | refine itoa_spec ht hpt.1 hpt.2 ?_ | refine itoa_spec ht hln.1 hln.2 ?_ | (refine Tri.ent (Ent.trans (selA (c := cel _ 84 [.pointer none, .slice none 0 0])) bld_new) (Tri.sel2 (line_cel [m, [32], t, [32, 72, 84, 84, 80, 47, 49, 46, 49]] rfl rfl rfl (by simp) ?_ ?_)); focus (first | omega | (simp <;> omega))) | (refine Tri.sel1 (tfield_spec (n := nHost) (v := hs ++ ([58] ++ Lib.itoa port)) ?_ ?_); focus (first | omega | (simp <;> omega))) | (refine Tri.sel3 (on_cel butR rfl rfl rfl hS (by decide) ?_ ?_); focus (first | omega | (simp <;> omega))) | (refine Tri.sel2 (joined_spec (nm := nXff) (more := frm) hS (by decide) (by omega) ?_ ?_); focus (first | omega | (simp <;> omega))) | (refine Tri.sel2 (joined_spec (nm := nVia) (more := vVia) hS (by decide) (by decide) ?_ ?_); focus (first | omega | (simp <;> omega))) | (refine Tri.sel1 (upgrade2 (v := up) ?_ ?_); focus (first | omega | (simp <;> omega))) | (refine Tri.sel1 (line_nil ?_ ?_); focus (first | omega | (simp <;> omega))) | (refine XS.sel1 (c := cel _ 51 _) ?_; refine XS.drawO (T := TT) (fun b => [(5, [3], heldC ⟨b, 5, none⟩ (kS body))]) [(5, [3])] (fun _ => rfl) follows_ok (by decide +kernel) ?_) | refine Tri.sel1 (bstr_spec ?_) | (refine XO.catL rfl rfl rfl rfl rfl ?_ ?_; focus (simp <;> omega)) | exact Out.e h entA | refine XO.callH (by repeat' (first | exact trivial | exact readA | exact heldM_0 | exact heldM_1 | exact heldM_2 | exact heldM_3 | exact heldM_4 | refine And.intro ?_ ?_ | exact Reads.here rfl | refine Reads.skip ?_)) rfl rfl rfl (by kernel_rfl) rfl ?_ | refine And.intro (by repeat' (first | exact trivial | exact readA | exact heldM_0 | exact heldM_1 | exact heldM_2 | exact heldM_3 | exact heldM_4 | refine And.intro ?_ ?_ | exact Reads.here rfl | refine Reads.skip ?_)) ?_ | refine XO.loadH TT_ok rfl rfl rfl rfl rfl rfl (by repeat' (first | exact trivial | exact readA | exact heldM_0 | exact heldM_1 | exact heldM_2 | exact heldM_3 | exact heldM_4 | refine And.intro ?_ ?_ | exact Reads.here rfl | refine Reads.skip ?_)) ?_ | refine XO.buildSlice TT_ok (by repeat' (first | exact trivial | exact readA | exact heldM_0 | exact heldM_1 | exact heldM_2 | exact heldM_3 | exact heldM_4 | refine And.intro ?_ ?_ | exact Reads.here rfl | refine Reads.skip ?_)) rfl rfl rfl rfl rfl rfl rfl rfl rfl rfl rfl rfl (fun _ => (by repeat' (first | exact trivial | exact readA | exact heldM_0 | exact heldM_1 | exact heldM_2 | exact heldM_3 | exact heldM_4 | refine And.intro ?_ ?_ | exact Reads.here rfl | refine Reads.skip ?_))) (fun b1 => ?_) | fail)
    ·
      by_cases hu : up = []
      ·
        subst hu
        have e1 : reqL m t hs port fs body true frm [] = [] ++ ([m, [32], t, [32, 72, 84, 84, 80, 47, 49, 46, 49]].flatten ++ crlf) ++ fieldL nHost (hs ++ ([58] ++ Lib.itoa port)) ++ onL butR fs ++ joinL fs nXff frm ++ joinL fs nVia vVia ++ fieldL nCL (Lib.itoa body.length) ++ crlf ++ body := by
          rw [reqL, hostL, if_pos hp, if_pos rfl]
          simp [vHttp]
        rw [e1] at h
        refine Tri.enterF Tryd.func28 Tryd.ntmps28 Tryd.results28 rfl rfl fun fr hfr => ?_
        repeat' (first | refine walk ?_ | exact trivial | refine Tw.mk ?_ ?_ | (intro (bt : Nat)) | intro hy | (exfalso; omega) | (exfalso; exact absurd rfl hy) | refine itoa_spec ht hpt.1 hpt.2 ?_ | refine itoa_spec ht hln.1 hln.2 ?_ | (refine Tri.ent (Ent.trans (selA (c := cel _ 84 [.pointer none, .slice none 0 0])) bld_new) (Tri.sel2 (line_cel [m, [32], t, [32, 72, 84, 84, 80, 47, 49, 46, 49]] rfl rfl rfl (by simp) ?_ ?_)); focus (first | omega | (simp <;> omega))) | (refine Tri.sel1 (tfield_spec (n := nHost) (v := hs ++ ([58] ++ Lib.itoa port)) ?_ ?_); focus (first | omega | (simp <;> omega))) | (refine Tri.sel3 (on_cel butR rfl rfl rfl hS (by decide) ?_ ?_); focus (first | omega | (simp <;> omega))) | (refine Tri.sel2 (joined_spec (nm := nXff) (more := frm) hS (by decide) (by omega) ?_ ?_); focus (first | omega | (simp <;> omega))) | (refine Tri.sel2 (joined_spec (nm := nVia) (more := vVia) hS (by decide) (by decide) ?_ ?_); focus (first | omega | (simp <;> omega))) | (refine Tri.sel1 (tfield_spec (n := nCL) (v := Lib.itoa body.length) ?_ ?_); focus (first | omega | (simp <;> omega))) | (refine Tri.sel1 (line_nil ?_ ?_); focus (first | omega | (simp <;> omega))) | (refine XS.sel1 (c := cel _ 51 _) ?_; refine XS.drawO (T := TT) (fun b => [(5, [3], heldC ⟨b, 5, none⟩ (kS body))]) [(5, [3])] (fun _ => rfl) follows_ok (by decide +kernel) ?_) | refine Tri.sel1 (bstr_spec ?_) | (refine XO.catL rfl rfl rfl rfl rfl ?_ ?_; focus (simp <;> omega)) | exact Out.e h entA | refine XO.callH (by repeat' (first | exact trivial | exact readA | exact heldM_0 | exact heldM_1 | exact heldM_2 | exact heldM_3 | exact heldM_4 | refine And.intro ?_ ?_ | exact Reads.here rfl | refine Reads.skip ?_)) rfl rfl rfl (by kernel_rfl) rfl ?_ | refine And.intro (by repeat' (first | exact trivial | exact readA | exact heldM_0 | exact heldM_1 | exact heldM_2 | exact heldM_3 | exact heldM_4 | refine And.intro ?_ ?_ | exact Reads.here rfl | refine Reads.skip ?_)) ?_ | refine XO.loadH TT_ok rfl rfl rfl rfl rfl rfl (by repeat' (first | exact trivial | exact readA | exact heldM_0 | exact heldM_1 | exact heldM_2 | exact heldM_3 | exact heldM_4 | refine And.intro ?_ ?_ | exact Reads.here rfl | refine Reads.skip ?_)) ?_ | refine XO.buildSlice TT_ok (by repeat' (first | exact trivial | exact readA | exact heldM_0 | exact heldM_1 | exact heldM_2 | exact heldM_3 | exact heldM_4 | refine And.intro ?_ ?_ | exact Reads.here rfl | refine Reads.skip ?_)) rfl rfl rfl rfl rfl rfl rfl rfl rfl rfl rfl rfl (fun _ => (by repeat' (first | exact trivial | exact readA | exact heldM_0 | exact heldM_1 | exact heldM_2 | exact heldM_3 | exact heldM_4 | refine And.intro ?_ ?_ | exact Reads.here rfl | refine Reads.skip ?_))) (fun b1 => ?_) | fail)
      ·
        have e1 : reqL m t hs port fs body true frm up = [] ++ ([m, [32], t, [32, 72, 84, 84, 80, 47, 49, 46, 49]].flatten ++ crlf) ++ fieldL nHost (hs ++ ([58] ++ Lib.itoa port)) ++ onL butR fs ++ joinL fs nXff frm ++ joinL fs nVia vVia ++ fieldL nCL (Lib.itoa body.length) ++ (fieldL nConn vUpg ++ fieldL nUpg up) ++ crlf ++ body := by
          rw [reqL, hostL, if_pos hp, if_neg hu]
          simp [vHttp]
        rw [e1] at h
        refine Tri.enterF Tryd.func28 Tryd.ntmps28 Tryd.results28 rfl rfl fun fr hfr => ?_
        repeat' (first | refine walk ?_ | exact trivial | refine Tw.mk ?_ ?_ | (intro (bt : Nat)) | intro hy | (exfalso; omega) | (exfalso; exact absurd rfl hy) | refine itoa_spec ht hpt.1 hpt.2 ?_ | refine itoa_spec ht hln.1 hln.2 ?_ | (refine Tri.ent (Ent.trans (selA (c := cel _ 84 [.pointer none, .slice none 0 0])) bld_new) (Tri.sel2 (line_cel [m, [32], t, [32, 72, 84, 84, 80, 47, 49, 46, 49]] rfl rfl rfl (by simp) ?_ ?_)); focus (first | omega | (simp <;> omega))) | (refine Tri.sel1 (tfield_spec (n := nHost) (v := hs ++ ([58] ++ Lib.itoa port)) ?_ ?_); focus (first | omega | (simp <;> omega))) | (refine Tri.sel3 (on_cel butR rfl rfl rfl hS (by decide) ?_ ?_); focus (first | omega | (simp <;> omega))) | (refine Tri.sel2 (joined_spec (nm := nXff) (more := frm) hS (by decide) (by omega) ?_ ?_); focus (first | omega | (simp <;> omega))) | (refine Tri.sel2 (joined_spec (nm := nVia) (more := vVia) hS (by decide) (by decide) ?_ ?_); focus (first | omega | (simp <;> omega))) | (refine Tri.sel1 (tfield_spec (n := nCL) (v := Lib.itoa body.length) ?_ ?_); focus (first | omega | (simp <;> omega))) | (refine Tri.sel1 (upgrade2 (v := up) ?_ ?_); focus (first | omega | (simp <;> omega))) | (refine Tri.sel1 (line_nil ?_ ?_); focus (first | omega | (simp <;> omega))) | (refine XS.sel1 (c := cel _ 51 _) ?_; refine XS.drawO (T := TT) (fun b => [(5, [3], heldC ⟨b, 5, none⟩ (kS body))]) [(5, [3])] (fun _ => rfl) follows_ok (by decide +kernel) ?_) | refine Tri.sel1 (bstr_spec ?_) | (refine XO.catL rfl rfl rfl rfl rfl ?_ ?_; focus (simp <;> omega)) | exact Out.e h entA | refine XO.callH (by repeat' (first | exact trivial | exact readA | exact heldM_0 | exact heldM_1 | exact heldM_2 | exact heldM_3 | exact heldM_4 | refine And.intro ?_ ?_ | exact Reads.here rfl | refine Reads.skip ?_)) rfl rfl rfl (by kernel_rfl) rfl ?_ | refine And.intro (by repeat' (first | exact trivial | exact readA | exact heldM_0 | exact heldM_1 | exact heldM_2 | exact heldM_3 | exact heldM_4 | refine And.intro ?_ ?_ | exact Reads.here rfl | refine Reads.skip ?_)) ?_ | refine XO.loadH TT_ok rfl rfl rfl rfl rfl rfl (by repeat' (first | exact trivial | exact readA | exact heldM_0 | exact heldM_1 | exact heldM_2 | exact heldM_3 | exact heldM_4 | refine And.intro ?_ ?_ | exact Reads.here rfl | refine Reads.skip ?_)) ?_ | refine XO.buildSlice TT_ok (by repeat' (first | exact trivial | exact readA | exact heldM_0 | exact heldM_1 | exact heldM_2 | exact heldM_3 | exact heldM_4 | refine And.intro ?_ ?_ | exact Reads.here rfl | refine Reads.skip ?_)) rfl rfl rfl rfl rfl rfl rfl rfl rfl rfl rfl rfl (fun _ => (by repeat' (first | exact trivial | exact readA | exact heldM_0 | exact heldM_1 | exact heldM_2 | exact heldM_3 | exact heldM_4 | refine And.intro ?_ ?_ | exact Reads.here rfl | refine Reads.skip ?_))) (fun b1 => ?_) | fail)
  ·
    cases sized
    ·
      by_cases hu : up = []
      ·
        subst hu
        have e1 : reqL m t hs port fs body false frm [] = [] ++ ([m, [32], t, [32, 72, 84, 84, 80, 47, 49, 46, 49]].flatten ++ crlf) ++ fieldL nHost (hs) ++ onL butR fs ++ joinL fs nXff frm ++ joinL fs nVia vVia ++ crlf ++ body := by
          rw [reqL, hostL, if_neg hp, if_pos rfl]
          simp [vHttp]
        rw [e1] at h
        refine Tri.enterF Tryd.func28 Tryd.ntmps28 Tryd.results28 rfl rfl fun fr hfr => ?_
        repeat' (first | refine walk ?_ | exact trivial | refine Tw.mk ?_ ?_ | (intro (bt : Nat)) | intro hy | (exfalso; omega) | (exfalso; exact absurd rfl hy) | refine itoa_spec ht hpt.1 hpt.2 ?_ | refine itoa_spec ht hln.1 hln.2 ?_ | (refine Tri.ent (Ent.trans (selA (c := cel _ 84 [.pointer none, .slice none 0 0])) bld_new) (Tri.sel2 (line_cel [m, [32], t, [32, 72, 84, 84, 80, 47, 49, 46, 49]] rfl rfl rfl (by simp) ?_ ?_)); focus (first | omega | (simp <;> omega))) | (refine Tri.sel1 (tfield_spec (n := nHost) (v := hs) ?_ ?_); focus (first | omega | (simp <;> omega))) | (refine Tri.sel3 (on_cel butR rfl rfl rfl hS (by decide) ?_ ?_); focus (first | omega | (simp <;> omega))) | (refine Tri.sel2 (joined_spec (nm := nXff) (more := frm) hS (by decide) (by omega) ?_ ?_); focus (first | omega | (simp <;> omega))) | (refine Tri.sel2 (joined_spec (nm := nVia) (more := vVia) hS (by decide) (by decide) ?_ ?_); focus (first | omega | (simp <;> omega))) | (refine Tri.sel1 (line_nil ?_ ?_); focus (first | omega | (simp <;> omega))) | (refine XS.sel1 (c := cel _ 51 _) ?_; refine XS.drawO (T := TT) (fun b => [(5, [3], heldC ⟨b, 5, none⟩ (kS body))]) [(5, [3])] (fun _ => rfl) follows_ok (by decide +kernel) ?_) | refine Tri.sel1 (bstr_spec ?_) | (refine XO.catL rfl rfl rfl rfl rfl ?_ ?_; focus (simp <;> omega)) | exact Out.e h entA | refine XO.callH (by repeat' (first | exact trivial | exact readA | exact heldM_0 | exact heldM_1 | exact heldM_2 | exact heldM_3 | exact heldM_4 | refine And.intro ?_ ?_ | exact Reads.here rfl | refine Reads.skip ?_)) rfl rfl rfl (by kernel_rfl) rfl ?_ | refine And.intro (by repeat' (first | exact trivial | exact readA | exact heldM_0 | exact heldM_1 | exact heldM_2 | exact heldM_3 | exact heldM_4 | refine And.intro ?_ ?_ | exact Reads.here rfl | refine Reads.skip ?_)) ?_ | refine XO.loadH TT_ok rfl rfl rfl rfl rfl rfl (by repeat' (first | exact trivial | exact readA | exact heldM_0 | exact heldM_1 | exact heldM_2 | exact heldM_3 | exact heldM_4 | refine And.intro ?_ ?_ | exact Reads.here rfl | refine Reads.skip ?_)) ?_ | refine XO.buildSlice TT_ok (by repeat' (first | exact trivial | exact readA | exact heldM_0 | exact heldM_1 | exact heldM_2 | exact heldM_3 | exact heldM_4 | refine And.intro ?_ ?_ | exact Reads.here rfl | refine Reads.skip ?_)) rfl rfl rfl rfl rfl rfl rfl rfl rfl rfl rfl rfl (fun _ => (by repeat' (first | exact trivial | exact readA | exact heldM_0 | exact heldM_1 | exact heldM_2 | exact heldM_3 | exact heldM_4 | refine And.intro ?_ ?_ | exact Reads.here rfl | refine Reads.skip ?_))) (fun b1 => ?_) | fail)
      ·
        have e1 : reqL m t hs port fs body false frm up = [] ++ ([m, [32], t, [32, 72, 84, 84, 80, 47, 49, 46, 49]].flatten ++ crlf) ++ fieldL nHost (hs) ++ onL butR fs ++ joinL fs nXff frm ++ joinL fs nVia vVia ++ (fieldL nConn vUpg ++ fieldL nUpg up) ++ crlf ++ body := by
          rw [reqL, hostL, if_neg hp, if_neg hu]
          simp [vHttp]
        rw [e1] at h
        refine Tri.enterF Tryd.func28 Tryd.ntmps28 Tryd.results28 rfl rfl fun fr hfr => ?_
        repeat' (first | refine walk ?_ | exact trivial | refine Tw.mk ?_ ?_ | (intro (bt : Nat)) | intro hy | (exfalso; omega) | (exfalso; exact absurd rfl hy) | refine itoa_spec ht hpt.1 hpt.2 ?_ | refine itoa_spec ht hln.1 hln.2 ?_ | (refine Tri.ent (Ent.trans (selA (c := cel _ 84 [.pointer none, .slice none 0 0])) bld_new) (Tri.sel2 (line_cel [m, [32], t, [32, 72, 84, 84, 80, 47, 49, 46, 49]] rfl rfl rfl (by simp) ?_ ?_)); focus (first | omega | (simp <;> omega))) | (refine Tri.sel1 (tfield_spec (n := nHost) (v := hs) ?_ ?_); focus (first | omega | (simp <;> omega))) | (refine Tri.sel3 (on_cel butR rfl rfl rfl hS (by decide) ?_ ?_); focus (first | omega | (simp <;> omega))) | (refine Tri.sel2 (joined_spec (nm := nXff) (more := frm) hS (by decide) (by omega) ?_ ?_); focus (first | omega | (simp <;> omega))) | (refine Tri.sel2 (joined_spec (nm := nVia) (more := vVia) hS (by decide) (by decide) ?_ ?_); focus (first | omega | (simp <;> omega))) | (refine Tri.sel1 (upgrade2 (v := up) ?_ ?_); focus (first | omega | (simp <;> omega))) | (refine Tri.sel1 (line_nil ?_ ?_); focus (first | omega | (simp <;> omega))) | (refine XS.sel1 (c := cel _ 51 _) ?_; refine XS.drawO (T := TT) (fun b => [(5, [3], heldC ⟨b, 5, none⟩ (kS body))]) [(5, [3])] (fun _ => rfl) follows_ok (by decide +kernel) ?_) | refine Tri.sel1 (bstr_spec ?_) | (refine XO.catL rfl rfl rfl rfl rfl ?_ ?_; focus (simp <;> omega)) | exact Out.e h entA | refine XO.callH (by repeat' (first | exact trivial | exact readA | exact heldM_0 | exact heldM_1 | exact heldM_2 | exact heldM_3 | exact heldM_4 | refine And.intro ?_ ?_ | exact Reads.here rfl | refine Reads.skip ?_)) rfl rfl rfl (by kernel_rfl) rfl ?_ | refine And.intro (by repeat' (first | exact trivial | exact readA | exact heldM_0 | exact heldM_1 | exact heldM_2 | exact heldM_3 | exact heldM_4 | refine And.intro ?_ ?_ | exact Reads.here rfl | refine Reads.skip ?_)) ?_ | refine XO.loadH TT_ok rfl rfl rfl rfl rfl rfl (by repeat' (first | exact trivial | exact readA | exact heldM_0 | exact heldM_1 | exact heldM_2 | exact heldM_3 | exact heldM_4 | refine And.intro ?_ ?_ | exact Reads.here rfl | refine Reads.skip ?_)) ?_ | refine XO.buildSlice TT_ok (by repeat' (first | exact trivial | exact readA | exact heldM_0 | exact heldM_1 | exact heldM_2 | exact heldM_3 | exact heldM_4 | refine And.intro ?_ ?_ | exact Reads.here rfl | refine Reads.skip ?_)) rfl rfl rfl rfl rfl rfl rfl rfl rfl rfl rfl rfl (fun _ => (by repeat' (first | exact trivial | exact readA | exact heldM_0 | exact heldM_1 | exact heldM_2 | exact heldM_3 | exact heldM_4 | refine And.intro ?_ ?_ | exact Reads.here rfl | refine Reads.skip ?_))) (fun b1 => ?_) | fail)
    ·
      by_cases hu : up = []
      ·
        subst hu
        have e1 : reqL m t hs port fs body true frm [] = [] ++ ([m, [32], t, [32, 72, 84, 84, 80, 47, 49, 46, 49]].flatten ++ crlf) ++ fieldL nHost (hs) ++ onL butR fs ++ joinL fs nXff frm ++ joinL fs nVia vVia ++ fieldL nCL (Lib.itoa body.length) ++ crlf ++ body := by
          rw [reqL, hostL, if_neg hp, if_pos rfl]
          simp [vHttp]
        rw [e1] at h
        refine Tri.enterF Tryd.func28 Tryd.ntmps28 Tryd.results28 rfl rfl fun fr hfr => ?_
        repeat' (first | refine walk ?_ | exact trivial | refine Tw.mk ?_ ?_ | (intro (bt : Nat)) | intro hy | (exfalso; omega) | (exfalso; exact absurd rfl hy) | refine itoa_spec ht hpt.1 hpt.2 ?_ | refine itoa_spec ht hln.1 hln.2 ?_ | (refine Tri.ent (Ent.trans (selA (c := cel _ 84 [.pointer none, .slice none 0 0])) bld_new) (Tri.sel2 (line_cel [m, [32], t, [32, 72, 84, 84, 80, 47, 49, 46, 49]] rfl rfl rfl (by simp) ?_ ?_)); focus (first | omega | (simp <;> omega))) | (refine Tri.sel1 (tfield_spec (n := nHost) (v := hs) ?_ ?_); focus (first | omega | (simp <;> omega))) | (refine Tri.sel3 (on_cel butR rfl rfl rfl hS (by decide) ?_ ?_); focus (first | omega | (simp <;> omega))) | (refine Tri.sel2 (joined_spec (nm := nXff) (more := frm) hS (by decide) (by omega) ?_ ?_); focus (first | omega | (simp <;> omega))) | (refine Tri.sel2 (joined_spec (nm := nVia) (more := vVia) hS (by decide) (by decide) ?_ ?_); focus (first | omega | (simp <;> omega))) | (refine Tri.sel1 (tfield_spec (n := nCL) (v := Lib.itoa body.length) ?_ ?_); focus (first | omega | (simp <;> omega))) | (refine Tri.sel1 (line_nil ?_ ?_); focus (first | omega | (simp <;> omega))) | (refine XS.sel1 (c := cel _ 51 _) ?_; refine XS.drawO (T := TT) (fun b => [(5, [3], heldC ⟨b, 5, none⟩ (kS body))]) [(5, [3])] (fun _ => rfl) follows_ok (by decide +kernel) ?_) | refine Tri.sel1 (bstr_spec ?_) | (refine XO.catL rfl rfl rfl rfl rfl ?_ ?_; focus (simp <;> omega)) | exact Out.e h entA | refine XO.callH (by repeat' (first | exact trivial | exact readA | exact heldM_0 | exact heldM_1 | exact heldM_2 | exact heldM_3 | exact heldM_4 | refine And.intro ?_ ?_ | exact Reads.here rfl | refine Reads.skip ?_)) rfl rfl rfl (by kernel_rfl) rfl ?_ | refine And.intro (by repeat' (first | exact trivial | exact readA | exact heldM_0 | exact heldM_1 | exact heldM_2 | exact heldM_3 | exact heldM_4 | refine And.intro ?_ ?_ | exact Reads.here rfl | refine Reads.skip ?_)) ?_ | refine XO.loadH TT_ok rfl rfl rfl rfl rfl rfl (by repeat' (first | exact trivial | exact readA | exact heldM_0 | exact heldM_1 | exact heldM_2 | exact heldM_3 | exact heldM_4 | refine And.intro ?_ ?_ | exact Reads.here rfl | refine Reads.skip ?_)) ?_ | refine XO.buildSlice TT_ok (by repeat' (first | exact trivial | exact readA | exact heldM_0 | exact heldM_1 | exact heldM_2 | exact heldM_3 | exact heldM_4 | refine And.intro ?_ ?_ | exact Reads.here rfl | refine Reads.skip ?_)) rfl rfl rfl rfl rfl rfl rfl rfl rfl rfl rfl rfl (fun _ => (by repeat' (first | exact trivial | exact readA | exact heldM_0 | exact heldM_1 | exact heldM_2 | exact heldM_3 | exact heldM_4 | refine And.intro ?_ ?_ | exact Reads.here rfl | refine Reads.skip ?_))) (fun b1 => ?_) | fail)
      ·
        have e1 : reqL m t hs port fs body true frm up = [] ++ ([m, [32], t, [32, 72, 84, 84, 80, 47, 49, 46, 49]].flatten ++ crlf) ++ fieldL nHost (hs) ++ onL butR fs ++ joinL fs nXff frm ++ joinL fs nVia vVia ++ fieldL nCL (Lib.itoa body.length) ++ (fieldL nConn vUpg ++ fieldL nUpg up) ++ crlf ++ body := by
          rw [reqL, hostL, if_neg hp, if_neg hu]
          simp [vHttp]
        rw [e1] at h
        refine Tri.enterF Tryd.func28 Tryd.ntmps28 Tryd.results28 rfl rfl fun fr hfr => ?_
        repeat' (first | refine walk ?_ | exact trivial | refine Tw.mk ?_ ?_ | (intro (bt : Nat)) | intro hy | (exfalso; omega) | (exfalso; exact absurd rfl hy) | refine itoa_spec ht hpt.1 hpt.2 ?_ | refine itoa_spec ht hln.1 hln.2 ?_ | (refine Tri.ent (Ent.trans (selA (c := cel _ 84 [.pointer none, .slice none 0 0])) bld_new) (Tri.sel2 (line_cel [m, [32], t, [32, 72, 84, 84, 80, 47, 49, 46, 49]] rfl rfl rfl (by simp) ?_ ?_)); focus (first | omega | (simp <;> omega))) | (refine Tri.sel1 (tfield_spec (n := nHost) (v := hs) ?_ ?_); focus (first | omega | (simp <;> omega))) | (refine Tri.sel3 (on_cel butR rfl rfl rfl hS (by decide) ?_ ?_); focus (first | omega | (simp <;> omega))) | (refine Tri.sel2 (joined_spec (nm := nXff) (more := frm) hS (by decide) (by omega) ?_ ?_); focus (first | omega | (simp <;> omega))) | (refine Tri.sel2 (joined_spec (nm := nVia) (more := vVia) hS (by decide) (by decide) ?_ ?_); focus (first | omega | (simp <;> omega))) | (refine Tri.sel1 (tfield_spec (n := nCL) (v := Lib.itoa body.length) ?_ ?_); focus (first | omega | (simp <;> omega))) | (refine Tri.sel1 (upgrade2 (v := up) ?_ ?_); focus (first | omega | (simp <;> omega))) | (refine Tri.sel1 (line_nil ?_ ?_); focus (first | omega | (simp <;> omega))) | (refine XS.sel1 (c := cel _ 51 _) ?_; refine XS.drawO (T := TT) (fun b => [(5, [3], heldC ⟨b, 5, none⟩ (kS body))]) [(5, [3])] (fun _ => rfl) follows_ok (by decide +kernel) ?_) | refine Tri.sel1 (bstr_spec ?_) | (refine XO.catL rfl rfl rfl rfl rfl ?_ ?_; focus (simp <;> omega)) | exact Out.e h entA | refine XO.callH (by repeat' (first | exact trivial | exact readA | exact heldM_0 | exact heldM_1 | exact heldM_2 | exact heldM_3 | exact heldM_4 | refine And.intro ?_ ?_ | exact Reads.here rfl | refine Reads.skip ?_)) rfl rfl rfl (by kernel_rfl) rfl ?_ | refine And.intro (by repeat' (first | exact trivial | exact readA | exact heldM_0 | exact heldM_1 | exact heldM_2 | exact heldM_3 | exact heldM_4 | refine And.intro ?_ ?_ | exact Reads.here rfl | refine Reads.skip ?_)) ?_ | refine XO.loadH TT_ok rfl rfl rfl rfl rfl rfl (by repeat' (first | exact trivial | exact readA | exact heldM_0 | exact heldM_1 | exact heldM_2 | exact heldM_3 | exact heldM_4 | refine And.intro ?_ ?_ | exact Reads.here rfl | refine Reads.skip ?_)) ?_ | refine XO.buildSlice TT_ok (by repeat' (first | exact trivial | exact readA | exact heldM_0 | exact heldM_1 | exact heldM_2 | exact heldM_3 | exact heldM_4 | refine And.intro ?_ ?_ | exact Reads.here rfl | refine Reads.skip ?_)) rfl rfl rfl rfl rfl rfl rfl rfl rfl rfl rfl rfl (fun _ => (by repeat' (first | exact trivial | exact readA | exact heldM_0 | exact heldM_1 | exact heldM_2 | exact heldM_3 | exact heldM_4 | refine And.intro ?_ ?_ | exact Reads.here rfl | refine Reads.skip ?_))) (fun b1 => ?_) | fail)
end Go.Proofs.YtngicmoadobgpaaDoor

/- Contracts: heads and replies, the document's. Conditions: the texts are small. -/
namespace Go.Proofs.YtngicmoadobgpaaDoor
open Go Go.Sx Go.ChunkM Go.StrM Go.EmitM
variable {w0 : World} {F H : List HProp} {K : Value → List HProp → Prop}
attribute [local simp] crlf_len fieldL_len
set_option maxHeartbeats 2000000 in
theorem rhead_spec {st : Int} {rs : List UInt8} {fs : List Fld} {a : Option Addr} {c : Nat} {fm ln : Int} {keep : Bool} {up : List UInt8} (hS : FsS fs) (hst : i64 st) (hln : i64 ln) (hrs : rs.length ≤ 2097152) (hup : up.length ≤ 2097152)
    (h : K (kS (headL st rs fs fm ln keep up)) (fView w0 (.slice a fs.length c) fs :: F)) : Tri Tryd.prog 21 #[repV st rs a fs.length c fm ln keep up] w0 (fView w0 (.slice a fs.length c) fs :: F) K := by
  have hK : ∀ l, headL st rs fs fm ln keep up = l → K (kS l) (fView w0 (.slice a fs.length c) fs :: F) := fun l e => e ▸ h
  have l1 := itoa_len hst.1 hst.2
  have l2 := itoa_len hln.1 hln.2
  have l3 := reason_len st
  have l4 := onL_len butH fs
  have l5 := joinL_len fs nVia vVia
  have l6 := hS.1
  have l7 := hS.2
  have l8 : nVia.length = 3 := rfl
  have l9 : vVia.length = 12 := rfl
  clear h
  unfold repV
  by_cases hr : rs = []
  ·
    subst hr
    by_cases h2 : fm = 2
    ·
      subst h2
      by_cases hu : up = []
      ·
        subst hu
        cases keep
        ·
          refine Tri.enterF Tryd.func21 Tryd.ntmps21 Tryd.results21 rfl rfl fun fr hfr => ?_
          repeat' (first | refine walk ?_ | exact trivial | refine Tw.mk ?_ ?_ | (intro (bt : Nat)) | intro hy | (exfalso; omega) | (exfalso; exact absurd rfl hy) | refine rreason_spec ?_ | refine rdigits_spec hst.1 hst.2 ?_ | refine rdigits_spec hln.1 hln.2 ?_ | refine Tri.sel1 (ronH_spec hS ?_) | refine Tri.sel1 (rjoined_spec (nm := nVia) (more := vVia) hS (by decide) (by decide) ?_) | (refine XO.catL rfl rfl rfl rfl rfl ?_ ?_; focus (simp <;> omega)) | refine Out.e (hK _ ?_) entA | fail)
          simp [headL, reasonL, frameL, endL, fieldL, vHttp, crlf, nCL, nConn, vClose]
        ·
          refine Tri.enterF Tryd.func21 Tryd.ntmps21 Tryd.results21 rfl rfl fun fr hfr => ?_
          repeat' (first | refine walk ?_ | exact trivial | refine Tw.mk ?_ ?_ | (intro (bt : Nat)) | intro hy | (exfalso; omega) | (exfalso; exact absurd rfl hy) | refine rreason_spec ?_ | refine rdigits_spec hst.1 hst.2 ?_ | refine rdigits_spec hln.1 hln.2 ?_ | refine Tri.sel1 (ronH_spec hS ?_) | refine Tri.sel1 (rjoined_spec (nm := nVia) (more := vVia) hS (by decide) (by decide) ?_) | (refine XO.catL rfl rfl rfl rfl rfl ?_ ?_; focus (simp <;> omega)) | refine Out.e (hK _ ?_) entA | fail)
          simp [headL, reasonL, frameL, endL, fieldL, vHttp, crlf, nCL]
      ·
        refine Tri.enterF Tryd.func21 Tryd.ntmps21 Tryd.results21 rfl rfl fun fr hfr => ?_
        repeat' (first | refine walk ?_ | exact trivial | refine Tw.mk ?_ ?_ | (intro (bt : Nat)) | intro hy | (exfalso; omega) | (exfalso; exact absurd rfl hy) | refine rreason_spec ?_ | refine rdigits_spec hst.1 hst.2 ?_ | refine rdigits_spec hln.1 hln.2 ?_ | refine Tri.sel1 (ronH_spec hS ?_) | refine Tri.sel1 (rjoined_spec (nm := nVia) (more := vVia) hS (by decide) (by decide) ?_) | (refine XO.catL rfl rfl rfl rfl rfl ?_ ?_; focus (simp <;> omega)) | refine Out.e (hK _ ?_) entA | fail)
        simp [headL, reasonL, frameL, endL, fieldL, vHttp, crlf, nCL, nConn, vUpg, nUpg, hu]
    ·
      by_cases h3 : fm = 3
      ·
        subst h3
        by_cases hu : up = []
        ·
          subst hu
          cases keep
          ·
            refine Tri.enterF Tryd.func21 Tryd.ntmps21 Tryd.results21 rfl rfl fun fr hfr => ?_
            repeat' (first | refine walk ?_ | exact trivial | refine Tw.mk ?_ ?_ | (intro (bt : Nat)) | intro hy | (exfalso; omega) | (exfalso; exact absurd rfl hy) | refine rreason_spec ?_ | refine rdigits_spec hst.1 hst.2 ?_ | refine rdigits_spec hln.1 hln.2 ?_ | refine Tri.sel1 (ronH_spec hS ?_) | refine Tri.sel1 (rjoined_spec (nm := nVia) (more := vVia) hS (by decide) (by decide) ?_) | (refine XO.catL rfl rfl rfl rfl rfl ?_ ?_; focus (simp <;> omega)) | refine Out.e (hK _ ?_) entA | fail)
            simp [headL, reasonL, frameL, endL, fieldL, vHttp, crlf, nTE, vChunked, nConn, vClose]
          ·
            refine Tri.enterF Tryd.func21 Tryd.ntmps21 Tryd.results21 rfl rfl fun fr hfr => ?_
            repeat' (first | refine walk ?_ | exact trivial | refine Tw.mk ?_ ?_ | (intro (bt : Nat)) | intro hy | (exfalso; omega) | (exfalso; exact absurd rfl hy) | refine rreason_spec ?_ | refine rdigits_spec hst.1 hst.2 ?_ | refine rdigits_spec hln.1 hln.2 ?_ | refine Tri.sel1 (ronH_spec hS ?_) | refine Tri.sel1 (rjoined_spec (nm := nVia) (more := vVia) hS (by decide) (by decide) ?_) | (refine XO.catL rfl rfl rfl rfl rfl ?_ ?_; focus (simp <;> omega)) | refine Out.e (hK _ ?_) entA | fail)
            simp [headL, reasonL, frameL, endL, fieldL, vHttp, crlf, nTE, vChunked]
        ·
          refine Tri.enterF Tryd.func21 Tryd.ntmps21 Tryd.results21 rfl rfl fun fr hfr => ?_
          repeat' (first | refine walk ?_ | exact trivial | refine Tw.mk ?_ ?_ | (intro (bt : Nat)) | intro hy | (exfalso; omega) | (exfalso; exact absurd rfl hy) | refine rreason_spec ?_ | refine rdigits_spec hst.1 hst.2 ?_ | refine rdigits_spec hln.1 hln.2 ?_ | refine Tri.sel1 (ronH_spec hS ?_) | refine Tri.sel1 (rjoined_spec (nm := nVia) (more := vVia) hS (by decide) (by decide) ?_) | (refine XO.catL rfl rfl rfl rfl rfl ?_ ?_; focus (simp <;> omega)) | refine Out.e (hK _ ?_) entA | fail)
          simp [headL, reasonL, frameL, endL, fieldL, vHttp, crlf, nTE, vChunked, nConn, vUpg, nUpg, hu]
      ·
        by_cases hu : up = []
        ·
          subst hu
          cases keep
          ·
            refine Tri.enterF Tryd.func21 Tryd.ntmps21 Tryd.results21 rfl rfl fun fr hfr => ?_
            repeat' (first | refine walk ?_ | exact trivial | refine Tw.mk ?_ ?_ | (intro (bt : Nat)) | intro hy | (exfalso; omega) | (exfalso; exact absurd rfl hy) | refine rreason_spec ?_ | refine rdigits_spec hst.1 hst.2 ?_ | refine rdigits_spec hln.1 hln.2 ?_ | refine Tri.sel1 (ronH_spec hS ?_) | refine Tri.sel1 (rjoined_spec (nm := nVia) (more := vVia) hS (by decide) (by decide) ?_) | (refine XO.catL rfl rfl rfl rfl rfl ?_ ?_; focus (simp <;> omega)) | refine Out.e (hK _ ?_) entA | fail)
            simp [headL, reasonL, frameL, endL, fieldL, vHttp, crlf, nConn, vClose, h2, h3]
          ·
            refine Tri.enterF Tryd.func21 Tryd.ntmps21 Tryd.results21 rfl rfl fun fr hfr => ?_
            repeat' (first | refine walk ?_ | exact trivial | refine Tw.mk ?_ ?_ | (intro (bt : Nat)) | intro hy | (exfalso; omega) | (exfalso; exact absurd rfl hy) | refine rreason_spec ?_ | refine rdigits_spec hst.1 hst.2 ?_ | refine rdigits_spec hln.1 hln.2 ?_ | refine Tri.sel1 (ronH_spec hS ?_) | refine Tri.sel1 (rjoined_spec (nm := nVia) (more := vVia) hS (by decide) (by decide) ?_) | (refine XO.catL rfl rfl rfl rfl rfl ?_ ?_; focus (simp <;> omega)) | refine Out.e (hK _ ?_) entA | fail)
            simp [headL, reasonL, frameL, endL, vHttp, crlf, h2, h3]
        ·
          refine Tri.enterF Tryd.func21 Tryd.ntmps21 Tryd.results21 rfl rfl fun fr hfr => ?_
          repeat' (first | refine walk ?_ | exact trivial | refine Tw.mk ?_ ?_ | (intro (bt : Nat)) | intro hy | (exfalso; omega) | (exfalso; exact absurd rfl hy) | refine rreason_spec ?_ | refine rdigits_spec hst.1 hst.2 ?_ | refine rdigits_spec hln.1 hln.2 ?_ | refine Tri.sel1 (ronH_spec hS ?_) | refine Tri.sel1 (rjoined_spec (nm := nVia) (more := vVia) hS (by decide) (by decide) ?_) | (refine XO.catL rfl rfl rfl rfl rfl ?_ ?_; focus (simp <;> omega)) | refine Out.e (hK _ ?_) entA | fail)
          simp [headL, reasonL, frameL, endL, fieldL, vHttp, crlf, nConn, vUpg, nUpg, h2, h3, hu]
  ·
    by_cases h2 : fm = 2
    ·
      subst h2
      by_cases hu : up = []
      ·
        subst hu
        cases keep
        ·
          refine Tri.enterF Tryd.func21 Tryd.ntmps21 Tryd.results21 rfl rfl fun fr hfr => ?_
          repeat' (first | refine walk ?_ | exact trivial | refine Tw.mk ?_ ?_ | (intro (bt : Nat)) | intro hy | (exfalso; omega) | (exfalso; exact absurd rfl hy) | refine rdigits_spec hst.1 hst.2 ?_ | refine rdigits_spec hln.1 hln.2 ?_ | refine Tri.sel1 (ronH_spec hS ?_) | refine Tri.sel1 (rjoined_spec (nm := nVia) (more := vVia) hS (by decide) (by decide) ?_) | (refine XO.catL rfl rfl rfl rfl rfl ?_ ?_; focus (simp <;> omega)) | refine Out.e (hK _ ?_) entA | fail)
          simp [headL, reasonL, frameL, endL, fieldL, vHttp, crlf, nCL, nConn, vClose, hr]
        ·
          refine Tri.enterF Tryd.func21 Tryd.ntmps21 Tryd.results21 rfl rfl fun fr hfr => ?_
          repeat' (first | refine walk ?_ | exact trivial | refine Tw.mk ?_ ?_ | (intro (bt : Nat)) | intro hy | (exfalso; omega) | (exfalso; exact absurd rfl hy) | refine rdigits_spec hst.1 hst.2 ?_ | refine rdigits_spec hln.1 hln.2 ?_ | refine Tri.sel1 (ronH_spec hS ?_) | refine Tri.sel1 (rjoined_spec (nm := nVia) (more := vVia) hS (by decide) (by decide) ?_) | (refine XO.catL rfl rfl rfl rfl rfl ?_ ?_; focus (simp <;> omega)) | refine Out.e (hK _ ?_) entA | fail)
          simp [headL, reasonL, frameL, endL, fieldL, vHttp, crlf, nCL, hr]
      ·
        refine Tri.enterF Tryd.func21 Tryd.ntmps21 Tryd.results21 rfl rfl fun fr hfr => ?_
        repeat' (first | refine walk ?_ | exact trivial | refine Tw.mk ?_ ?_ | (intro (bt : Nat)) | intro hy | (exfalso; omega) | (exfalso; exact absurd rfl hy) | refine rdigits_spec hst.1 hst.2 ?_ | refine rdigits_spec hln.1 hln.2 ?_ | refine Tri.sel1 (ronH_spec hS ?_) | refine Tri.sel1 (rjoined_spec (nm := nVia) (more := vVia) hS (by decide) (by decide) ?_) | (refine XO.catL rfl rfl rfl rfl rfl ?_ ?_; focus (simp <;> omega)) | refine Out.e (hK _ ?_) entA | fail)
        simp [headL, reasonL, frameL, endL, fieldL, vHttp, crlf, nCL, nConn, vUpg, nUpg, hr, hu]
    ·
      by_cases h3 : fm = 3
      ·
        subst h3
        by_cases hu : up = []
        ·
          subst hu
          cases keep
          ·
            refine Tri.enterF Tryd.func21 Tryd.ntmps21 Tryd.results21 rfl rfl fun fr hfr => ?_
            repeat' (first | refine walk ?_ | exact trivial | refine Tw.mk ?_ ?_ | (intro (bt : Nat)) | intro hy | (exfalso; omega) | (exfalso; exact absurd rfl hy) | refine rdigits_spec hst.1 hst.2 ?_ | refine rdigits_spec hln.1 hln.2 ?_ | refine Tri.sel1 (ronH_spec hS ?_) | refine Tri.sel1 (rjoined_spec (nm := nVia) (more := vVia) hS (by decide) (by decide) ?_) | (refine XO.catL rfl rfl rfl rfl rfl ?_ ?_; focus (simp <;> omega)) | refine Out.e (hK _ ?_) entA | fail)
            simp [headL, reasonL, frameL, endL, fieldL, vHttp, crlf, nTE, vChunked, nConn, vClose, hr]
          ·
            refine Tri.enterF Tryd.func21 Tryd.ntmps21 Tryd.results21 rfl rfl fun fr hfr => ?_
            repeat' (first | refine walk ?_ | exact trivial | refine Tw.mk ?_ ?_ | (intro (bt : Nat)) | intro hy | (exfalso; omega) | (exfalso; exact absurd rfl hy) | refine rdigits_spec hst.1 hst.2 ?_ | refine rdigits_spec hln.1 hln.2 ?_ | refine Tri.sel1 (ronH_spec hS ?_) | refine Tri.sel1 (rjoined_spec (nm := nVia) (more := vVia) hS (by decide) (by decide) ?_) | (refine XO.catL rfl rfl rfl rfl rfl ?_ ?_; focus (simp <;> omega)) | refine Out.e (hK _ ?_) entA | fail)
            simp [headL, reasonL, frameL, endL, fieldL, vHttp, crlf, nTE, vChunked, hr]
        ·
          refine Tri.enterF Tryd.func21 Tryd.ntmps21 Tryd.results21 rfl rfl fun fr hfr => ?_
          repeat' (first | refine walk ?_ | exact trivial | refine Tw.mk ?_ ?_ | (intro (bt : Nat)) | intro hy | (exfalso; omega) | (exfalso; exact absurd rfl hy) | refine rdigits_spec hst.1 hst.2 ?_ | refine rdigits_spec hln.1 hln.2 ?_ | refine Tri.sel1 (ronH_spec hS ?_) | refine Tri.sel1 (rjoined_spec (nm := nVia) (more := vVia) hS (by decide) (by decide) ?_) | (refine XO.catL rfl rfl rfl rfl rfl ?_ ?_; focus (simp <;> omega)) | refine Out.e (hK _ ?_) entA | fail)
          simp [headL, reasonL, frameL, endL, fieldL, vHttp, crlf, nTE, vChunked, nConn, vUpg, nUpg, hr, hu]
      ·
        by_cases hu : up = []
        ·
          subst hu
          cases keep
          ·
            refine Tri.enterF Tryd.func21 Tryd.ntmps21 Tryd.results21 rfl rfl fun fr hfr => ?_
            repeat' (first | refine walk ?_ | exact trivial | refine Tw.mk ?_ ?_ | (intro (bt : Nat)) | intro hy | (exfalso; omega) | (exfalso; exact absurd rfl hy) | refine rdigits_spec hst.1 hst.2 ?_ | refine rdigits_spec hln.1 hln.2 ?_ | refine Tri.sel1 (ronH_spec hS ?_) | refine Tri.sel1 (rjoined_spec (nm := nVia) (more := vVia) hS (by decide) (by decide) ?_) | (refine XO.catL rfl rfl rfl rfl rfl ?_ ?_; focus (simp <;> omega)) | refine Out.e (hK _ ?_) entA | fail)
            simp [headL, reasonL, frameL, endL, fieldL, vHttp, crlf, nConn, vClose, hr, h2, h3]
          ·
            refine Tri.enterF Tryd.func21 Tryd.ntmps21 Tryd.results21 rfl rfl fun fr hfr => ?_
            repeat' (first | refine walk ?_ | exact trivial | refine Tw.mk ?_ ?_ | (intro (bt : Nat)) | intro hy | (exfalso; omega) | (exfalso; exact absurd rfl hy) | refine rdigits_spec hst.1 hst.2 ?_ | refine rdigits_spec hln.1 hln.2 ?_ | refine Tri.sel1 (ronH_spec hS ?_) | refine Tri.sel1 (rjoined_spec (nm := nVia) (more := vVia) hS (by decide) (by decide) ?_) | (refine XO.catL rfl rfl rfl rfl rfl ?_ ?_; focus (simp <;> omega)) | refine Out.e (hK _ ?_) entA | fail)
            simp [headL, reasonL, frameL, endL, vHttp, crlf, hr, h2, h3]
        ·
          refine Tri.enterF Tryd.func21 Tryd.ntmps21 Tryd.results21 rfl rfl fun fr hfr => ?_
          repeat' (first | refine walk ?_ | exact trivial | refine Tw.mk ?_ ?_ | (intro (bt : Nat)) | intro hy | (exfalso; omega) | (exfalso; exact absurd rfl hy) | refine rdigits_spec hst.1 hst.2 ?_ | refine rdigits_spec hln.1 hln.2 ?_ | refine Tri.sel1 (ronH_spec hS ?_) | refine Tri.sel1 (rjoined_spec (nm := nVia) (more := vVia) hS (by decide) (by decide) ?_) | (refine XO.catL rfl rfl rfl rfl rfl ?_ ?_; focus (simp <;> omega)) | refine Out.e (hK _ ?_) entA | fail)
          simp [headL, reasonL, frameL, endL, fieldL, vHttp, crlf, nConn, vUpg, nUpg, hr, h2, h3, hu]
theorem rlocal_spec {st : Int} {body : List UInt8} {fs : List Fld} {a : Option Addr} {c : Nat} {keep bodiless : Bool} (hS : FsS fs) (hst : i64 st) (hb : body.length ≤ 2097152)
    (h : K (kS (localL st fs body keep bodiless)) (fView w0 (.slice a fs.length c) fs :: F)) : Tri Tryd.prog 26 #[.int .i64 st, .slice a fs.length c, kS body, .bool keep, .bool bodiless] w0 (fView w0 (.slice a fs.length c) fs :: F) K := by
  have hln : i64 (body.length : Int) := ⟨by omega, by omega⟩
  have hl := headL_len (rs := []) (fr := 2) (keep := keep) (up := []) hS (itoa_len hst.1 hst.2) (itoa_len hln.1 hln.2) (by simp) (by simp)
  have hh := fun {F K} => rhead_spec (w0 := w0) (F := F) (K := K) (rs := []) (fm := 2) (up := []) (keep := keep) (a := a) (c := c) hS hst hln (by simp) (by simp)
  cases bodiless
  · have e1 : localL st fs body keep false = headL st [] fs 2 body.length keep [] ++ body := rfl
    rw [e1] at h
    refine Tri.enterF Tryd.func26 Tryd.ntmps26 Tryd.results26 rfl rfl fun fr hfr => ?_
    repeat' (first | refine walk ?_ | exact trivial | refine Tw.mk ?_ ?_ | refine hh ?_ | exact Out.i h | fail)
  · have e1 : localL st fs body keep true = headL st [] fs 2 body.length keep [] := rfl
    rw [e1] at h
    refine Tri.enterF Tryd.func26 Tryd.ntmps26 Tryd.results26 rfl rfl fun fr hfr => ?_
    repeat' (first | refine walk ?_ | exact trivial | refine Tw.mk ?_ ?_ | refine hh ?_ | exact Out.i h | fail)
end Go.Proofs.YtngicmoadobgpaaDoor

/- Contracts: requests, the document's. Conditions: the texts are small. -/
namespace Go.Proofs.YtngicmoadobgpaaDoor
open Go Go.Sx Go.ChunkM Go.StrM Go.EmitM
variable {w0 : World} {F H : List HProp} {K : Value → List HProp → Prop}
attribute [local simp] crlf_len fieldL_len
set_option maxHeartbeats 2000000 in
theorem rrequest_spec {m t hs body frm up : List UInt8} {port : Int} {sized : Bool} {fs : List Fld} {a : Option Addr} {c : Nat} (hS : FsS fs) (hpt : i64 port) (hm : m.length ≤ 2097152) (htt : t.length ≤ 2097152) (hhs : hs.length ≤ 2097152) (hbd : body.length ≤ 2097152) (hfr : frm.length ≤ 2097152) (hup : up.length ≤ 2097152)
    (h : K (kS (reqL m t hs port fs body sized frm up)) (fView w0 (.slice a fs.length c) fs :: F)) : Tri Tryd.prog 29 #[askV m t hs port a fs.length c body sized frm up] w0 (fView w0 (.slice a fs.length c) fs :: F) K := by
  have hK : ∀ l, reqL m t hs port fs body sized frm up = l → K (kS l) (fView w0 (.slice a fs.length c) fs :: F) := fun l e => e ▸ h
  have hln : i64 (body.length : Int) := ⟨by omega, by omega⟩
  have l1 := itoa_len hpt.1 hpt.2
  have l2 := itoa_len hln.1 hln.2
  have l4 := onL_len butR fs
  have l5 := joinL_len fs nVia vVia
  have l5b := joinL_len fs nXff frm
  have l6 := hS.1
  have l7 := hS.2
  have l8 : nVia.length = 3 := rfl
  have l9 : vVia.length = 12 := rfl
  have l12 : nXff.length = 15 := rfl
  clear h
  unfold askV
  by_cases hp : 0 < port
  ·
    cases sized
    ·
      by_cases hu : up = []
      ·
        subst hu
        refine Tri.enterF Tryd.func29 Tryd.ntmps29 Tryd.results29 rfl rfl fun fr hfr => ?_
        repeat' (first | refine walk ?_ | exact trivial | refine Tw.mk ?_ ?_ | (intro (bt : Nat)) | intro hy | (exfalso; omega) | (exfalso; exact absurd rfl hy) | refine rdigits_spec hpt.1 hpt.2 ?_ | refine rdigits_spec hln.1 hln.2 ?_ | refine Tri.sel1 (ronR_spec hS ?_) | refine Tri.sel1 (rjoined_spec (nm := nVia) (more := vVia) hS (by decide) (by decide) ?_) | refine Tri.sel1 (rjoined_spec (nm := nXff) (more := frm) hS (by decide) (by omega) ?_) | (refine XO.catL rfl rfl rfl rfl rfl ?_ ?_; focus (simp <;> omega)) | refine Out.e (hK _ ?_) entA | fail)
        simp [reqL, hostL, fieldL, vHttp, crlf, nHost, hp]
      ·
        refine Tri.enterF Tryd.func29 Tryd.ntmps29 Tryd.results29 rfl rfl fun fr hfr => ?_
        repeat' (first | refine walk ?_ | exact trivial | refine Tw.mk ?_ ?_ | (intro (bt : Nat)) | intro hy | (exfalso; omega) | (exfalso; exact absurd rfl hy) | refine rdigits_spec hpt.1 hpt.2 ?_ | refine rdigits_spec hln.1 hln.2 ?_ | refine Tri.sel1 (ronR_spec hS ?_) | refine Tri.sel1 (rjoined_spec (nm := nVia) (more := vVia) hS (by decide) (by decide) ?_) | refine Tri.sel1 (rjoined_spec (nm := nXff) (more := frm) hS (by decide) (by omega) ?_) | (refine XO.catL rfl rfl rfl rfl rfl ?_ ?_; focus (simp <;> omega)) | refine Out.e (hK _ ?_) entA | fail)
        simp [reqL, hostL, fieldL, vHttp, crlf, nHost, hp, nConn, vUpg, nUpg, hu]
    ·
      by_cases hu : up = []
      ·
        subst hu
        refine Tri.enterF Tryd.func29 Tryd.ntmps29 Tryd.results29 rfl rfl fun fr hfr => ?_
        repeat' (first | refine walk ?_ | exact trivial | refine Tw.mk ?_ ?_ | (intro (bt : Nat)) | intro hy | (exfalso; omega) | (exfalso; exact absurd rfl hy) | refine rdigits_spec hpt.1 hpt.2 ?_ | refine rdigits_spec hln.1 hln.2 ?_ | refine Tri.sel1 (ronR_spec hS ?_) | refine Tri.sel1 (rjoined_spec (nm := nVia) (more := vVia) hS (by decide) (by decide) ?_) | refine Tri.sel1 (rjoined_spec (nm := nXff) (more := frm) hS (by decide) (by omega) ?_) | (refine XO.catL rfl rfl rfl rfl rfl ?_ ?_; focus (simp <;> omega)) | refine Out.e (hK _ ?_) entA | fail)
        simp [reqL, hostL, fieldL, vHttp, crlf, nHost, hp, nCL]
      ·
        refine Tri.enterF Tryd.func29 Tryd.ntmps29 Tryd.results29 rfl rfl fun fr hfr => ?_
        repeat' (first | refine walk ?_ | exact trivial | refine Tw.mk ?_ ?_ | (intro (bt : Nat)) | intro hy | (exfalso; omega) | (exfalso; exact absurd rfl hy) | refine rdigits_spec hpt.1 hpt.2 ?_ | refine rdigits_spec hln.1 hln.2 ?_ | refine Tri.sel1 (ronR_spec hS ?_) | refine Tri.sel1 (rjoined_spec (nm := nVia) (more := vVia) hS (by decide) (by decide) ?_) | refine Tri.sel1 (rjoined_spec (nm := nXff) (more := frm) hS (by decide) (by omega) ?_) | (refine XO.catL rfl rfl rfl rfl rfl ?_ ?_; focus (simp <;> omega)) | refine Out.e (hK _ ?_) entA | fail)
        simp [reqL, hostL, fieldL, vHttp, crlf, nHost, hp, nCL, nConn, vUpg, nUpg, hu]
  ·
    cases sized
    ·
      by_cases hu : up = []
      ·
        subst hu
        refine Tri.enterF Tryd.func29 Tryd.ntmps29 Tryd.results29 rfl rfl fun fr hfr => ?_
        repeat' (first | refine walk ?_ | exact trivial | refine Tw.mk ?_ ?_ | (intro (bt : Nat)) | intro hy | (exfalso; omega) | (exfalso; exact absurd rfl hy) | refine rdigits_spec hpt.1 hpt.2 ?_ | refine rdigits_spec hln.1 hln.2 ?_ | refine Tri.sel1 (ronR_spec hS ?_) | refine Tri.sel1 (rjoined_spec (nm := nVia) (more := vVia) hS (by decide) (by decide) ?_) | refine Tri.sel1 (rjoined_spec (nm := nXff) (more := frm) hS (by decide) (by omega) ?_) | (refine XO.catL rfl rfl rfl rfl rfl ?_ ?_; focus (simp <;> omega)) | refine Out.e (hK _ ?_) entA | fail)
        simp [reqL, hostL, fieldL, vHttp, crlf, nHost, hp]
      ·
        refine Tri.enterF Tryd.func29 Tryd.ntmps29 Tryd.results29 rfl rfl fun fr hfr => ?_
        repeat' (first | refine walk ?_ | exact trivial | refine Tw.mk ?_ ?_ | (intro (bt : Nat)) | intro hy | (exfalso; omega) | (exfalso; exact absurd rfl hy) | refine rdigits_spec hpt.1 hpt.2 ?_ | refine rdigits_spec hln.1 hln.2 ?_ | refine Tri.sel1 (ronR_spec hS ?_) | refine Tri.sel1 (rjoined_spec (nm := nVia) (more := vVia) hS (by decide) (by decide) ?_) | refine Tri.sel1 (rjoined_spec (nm := nXff) (more := frm) hS (by decide) (by omega) ?_) | (refine XO.catL rfl rfl rfl rfl rfl ?_ ?_; focus (simp <;> omega)) | refine Out.e (hK _ ?_) entA | fail)
        simp [reqL, hostL, fieldL, vHttp, crlf, nHost, hp, nConn, vUpg, nUpg, hu]
    ·
      by_cases hu : up = []
      ·
        subst hu
        refine Tri.enterF Tryd.func29 Tryd.ntmps29 Tryd.results29 rfl rfl fun fr hfr => ?_
        repeat' (first | refine walk ?_ | exact trivial | refine Tw.mk ?_ ?_ | (intro (bt : Nat)) | intro hy | (exfalso; omega) | (exfalso; exact absurd rfl hy) | refine rdigits_spec hpt.1 hpt.2 ?_ | refine rdigits_spec hln.1 hln.2 ?_ | refine Tri.sel1 (ronR_spec hS ?_) | refine Tri.sel1 (rjoined_spec (nm := nVia) (more := vVia) hS (by decide) (by decide) ?_) | refine Tri.sel1 (rjoined_spec (nm := nXff) (more := frm) hS (by decide) (by omega) ?_) | (refine XO.catL rfl rfl rfl rfl rfl ?_ ?_; focus (simp <;> omega)) | refine Out.e (hK _ ?_) entA | fail)
        simp [reqL, hostL, fieldL, vHttp, crlf, nHost, hp, nCL]
      ·
        refine Tri.enterF Tryd.func29 Tryd.ntmps29 Tryd.results29 rfl rfl fun fr hfr => ?_
        repeat' (first | refine walk ?_ | exact trivial | refine Tw.mk ?_ ?_ | (intro (bt : Nat)) | intro hy | (exfalso; omega) | (exfalso; exact absurd rfl hy) | refine rdigits_spec hpt.1 hpt.2 ?_ | refine rdigits_spec hln.1 hln.2 ?_ | refine Tri.sel1 (ronR_spec hS ?_) | refine Tri.sel1 (rjoined_spec (nm := nVia) (more := vVia) hS (by decide) (by decide) ?_) | refine Tri.sel1 (rjoined_spec (nm := nXff) (more := frm) hS (by decide) (by omega) ?_) | (refine XO.catL rfl rfl rfl rfl rfl ?_ ?_; focus (simp <;> omega)) | refine Out.e (hK _ ?_) entA | fail)
        simp [reqL, hostL, fieldL, vHttp, crlf, nHost, hp, nCL, nConn, vUpg, nUpg, hu]
end Go.Proofs.YtngicmoadobgpaaDoor
