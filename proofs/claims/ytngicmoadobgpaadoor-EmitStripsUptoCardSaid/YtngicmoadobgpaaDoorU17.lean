/- Some texts put together: lemmas and contracts for the law. Conditions: as each text says. -/
import Derived.Test.YtngicmoadobgpaaDoorU16
import Derived.Test.YtngicmoadobgpaaDoorU8
import Derived.OrdersHeld
/- Contracts: the document's elements of a name, what concerns one connection alone, what is left. Conditions: the fields are small. -/
namespace Go.Sx
open Go Go.RowKit
section
variable {P : Program} {T : Tbl} {w0 : World} {n : Nat} {HL : Held} {ops : Array Oper} {J : Env → List HProp → Prop} {ix : Nat} {rest : List Oper} {o : Oper} {e : Env} {H : List HProp}
/-- An array written out. -/
theorem XO.buildArr {t u : TypeId} {len s : Nat} {z : Value} {ps : Array (Nat × Operand)} {parts : List (Nat × Value)} {cs : List Value} (hT : T.Ok P) {d : Nat} (hg : wantedE ops e n o = true) (hd : o.dst = some d) (hop : o.op = .build t ps) (hu : T.und t = some (.array len u)) (hs : T.size u = some s) (hz : T.zero t = some z) (hp : evP (e.ev n) ps.toList = some parts)
    (hb : fillG (fun i => some (i * s, s)) (cellsL z) parts = some cs) (h : XO P T w0 n HL ops J (ix + 1) rest (e.upd d (.agg ⟨cs⟩)) H) : XO P T w0 n HL ops J ix (o :: rest) e H := by
  refine .pureOp hg (by rw [hop]; rfl) (fun w => ?_) (by rw [hd]; exact h)
  have hparts : (ps.map fun p => (p.1, e.ev n p.2)).toList = parts := by simpa using evP_eq hp
  have hfill := fillG_eq _ _ _ hb
  rw [← cellsL_eq] at hfill
  simp only [execOp, hop, Instr.build, Sem.run_bind, run_zero hT hz, Result.andThen_ok, run_und hT hu, run_size hT hs]
  rw [hparts, hfill]
  rfl
end
end Go.Sx
namespace Go.EmitM
open Go.ChunkM Go.StrM
def conn : List UInt8 := [99, 111, 110, 110, 101, 99, 116, 105, 111, 110]
def fixedL : List (List UInt8) := [[99, 111, 110, 110, 101, 99, 116, 105, 111, 110], [107, 101, 101, 112, 45, 97, 108, 105, 118, 101], [112, 114, 111, 120, 121, 45, 99, 111, 110, 110, 101, 99, 116, 105, 111, 110], [116, 101], [116, 114, 97, 105, 108, 101, 114], [116, 114, 97, 110, 115, 102, 101, 114, 45, 101, 110, 99, 111, 100, 105, 110, 103], [117, 112, 103, 114, 97, 100, 101]]
theorem alike_low {a b : List UInt8} (h : low a = low b) (n : List UInt8) : alike a n = alike b n := by simp only [alike, h]
theorem alike_lowR {a b : List UInt8} (h : low a = low b) (n : List UInt8) : alike n a = alike n b := by simp only [alike, h]
theorem values_low {a b : List UInt8} (h : low a = low b) (fs : List Fld) : values fs a = values fs b := by
  unfold values
  simp only [alike, h]
theorem oneP_low (fs : List Fld) (n : List UInt8) : oneP fs n = (fixedL.any (fun x => alike x n) || has fs conn n) := by
  have h1 : has fs [67, 111, 110, 110, 101, 99, 116, 105, 111, 110] n = has fs conn n := by
    unfold has elemsF
    rw [values_low (a := [67, 111, 110, 110, 101, 99, 116, 105, 111, 110]) (b := conn) (by decide)]
  unfold oneP
  rw [h1]
  congr 1
end Go.EmitM
namespace Go.Proofs.YtngicmoadobgpaaDoor
open Go Go.Sx Go.ChunkM Go.StrM Go.EmitM
variable {w0 : World} {F H : List HProp} {K : Value → List HProp → Prop}
theorem elemsF_app (a b : List Fld) (n : List UInt8) : elemsF (a ++ b) n = elemsF a n ++ elemsF b n := by unfold elemsF; rw [values_app, List.flatMap_append]
theorem elemsF_one (n1 v1 nm : List UInt8) : elemsF [(n1, v1)] nm = if alike n1 nm then elems v1 else [] := by
  unfold elemsF values
  cases h : alike n1 nm <;> simp [h]
theorem elemsF_take (fs : List Fld) (i : Nat) (nm : List UInt8) : (elemsF (fs.take i) nm).length ≤ (elemsF fs nm).length := by
  have h := congrArg (fun l => (elemsF l nm).length) (List.take_append_drop i fs)
  simp only [elemsF_app, List.length_append] at h
  omega
theorem relF_spec {fs : List Fld} {nm : List UInt8} {a : Option Addr} {c : Nat} (hS : FsS fs) (hn : nm.length ≤ 1000) (h : ∀ a2 c2, K (.slice a2 (elemsF fs nm).length c2) (tRow a2 c2 (elemsF fs nm) :: fView w0 (.slice a fs.length c) fs :: F)) : Tri Tryd.prog 74 #[.slice a fs.length c, kS nm] w0 (fView w0 (.slice a fs.length c) fs :: F) K := by
  have hS1 := hS.1
  have hS2 := hS.2
  have hel := elemsF_len nm fs
  refine Tri.enterF Tryd.func74 Tryd.ntmps74 Tryd.results74 rfl rfl fun fr hfr => ?_
  repeat' (first | refine walk ?_ | exact trivial | refine Tw.mk ?_ ?_ | fail)
  refine XS.loopI (ι := Nat × Option Addr × Nat) (fun q => [(0, .slice a fs.length c), (1, kS nm), (5, .slice q.2.1 (elemsF (fs.take q.1) nm).length q.2.2), (6, kI q.1)]) (fun q => tRow q.2.1 q.2.2 (elemsF (fs.take q.1) nm) :: fView w0 (.slice a fs.length c) fs :: F)
    (fun q => q.1 ≤ fs.length) (fun q => fs.length - q.1) (0, none, 0) (Nat.zero_le _) ⟨rfl, rfl, rfl, rfl, trivial⟩ (Row.nil _ _ _) ?_
  rintro ⟨i, a2, c2⟩ e hi ih
  simp only at hi
  dsimp only
  have hml := elemsF_take fs i nm
  by_cases hlt : i < fs.length
  · obtain ⟨⟨n1, v1⟩, hf⟩ : ∃ f, fs[i]? = some f := ⟨_, List.getElem?_eq_getElem hlt⟩
    obtain ⟨hn1, hv1⟩ := (fsS_ok hS).2 _ (List.mem_of_getElem? hf)
    have hv8 := fsS_val hS _ (List.mem_of_getElem? hf)
    simp only at hn1 hv1 hv8
    have htk : elemsF (fs.take (i + 1)) nm = elemsF (fs.take i) nm ++ elemsF [(n1, v1)] nm := by rw [List.take_add_one, hf]; exact elemsF_app _ _ _
    have hml2 := elemsF_take fs (i + 1) nm
    rw [htk, List.length_append] at hml2
    rw [elemsF_one] at htk hml2
    refine XS.sel1 (c := fView w0 (.slice a fs.length c) fs) (XS.viewOpen (by omega) fun g off c3 hv hc3 => ?_)
    injection hv with hv1 _ hv3
    subst hv1 hv3
    have hE : ∀ X : List HProp, Ent (Sx.viewAt w0 g off 2 fs.length (flat fenc fs) :: X) (fView w0 (.slice (some ⟨g, off, none⟩) fs.length c) fs :: X) := fun X => Ent.viewAt hc3
    have hr0 : ∀ X : List HProp, Reads w0 (Sx.viewAt w0 g off 2 fs.length (flat fenc fs) :: X) ⟨g, off + i * 2, none⟩ (kS n1) := fun X => Reads.view (k := i * 2) (flat_get (j := 0) fenc_len hf rfl)
    have hr1 : ∀ X : List HProp, Reads w0 (Sx.viewAt w0 g off 2 fs.length (flat fenc fs) :: X) ⟨g, off + i * 2 + 1, none⟩ (kS v1) := fun X => by rw [Nat.add_assoc]; exact Reads.view (k := i * 2 + 1) (flat_get (j := 1) fenc_len hf rfl)
    cases hal : alike n1 nm
    · rw [hal] at htk
      simp only [Bool.false_eq_true, if_false, List.append_nil] at htk
      repeat' (first | refine walk ?_ | exact trivial | refine Tw.mk ?_ ?_ | intro hy | (exfalso; omega) | refine XO.load TT_ok rfl rfl rfl rfl rfl rfl (hr0 _) ?_ | (refine ralike_spec hn1 (by omega) ?_; rw [hal]) | fail)
      refine ih (i + 1, a2, c2) _ _ hlt (by simp only; omega) ⟨rfl, rfl, by dsimp only; rw [htk]; rfl, rfl, trivial⟩ ?_
      dsimp only; rw [htk]
      exact Ent.trans (Ent.trans (selA (c := Sx.viewAt w0 g off 2 fs.length (flat fenc fs))) (hE _)) entA
    · rw [hal] at htk hml2
      simp only [if_true] at htk hml2
      have hfl : flat lenc (elemsF (fs.take (i + 1)) nm) = flat lenc (elemsF (fs.take i) nm) ++ flat lenc (elems v1) := by rw [htk, flat_append]
      have hsn : (elemsF (fs.take (i + 1)) nm).length = (elemsF (fs.take i) nm).length + (elems v1).length := by rw [htk, List.length_append]
      repeat' (first | refine walk ?_ | exact trivial | refine Tw.mk ?_ ?_ | intro hy | (exfalso; omega) | refine XO.load TT_ok rfl rfl rfl rfl rfl rfl (hr0 _) ?_ | refine XO.load TT_ok rfl rfl rfl rfl rfl rfl (hr1 _) ?_ | (refine ralike_spec hn1 (by omega) ?_; rw [hal]) | refine relements_spec hv8 (fun a3 c3 => ?_) | (refine XO.sel1 (c := tRow _ _ (elemsF (fs.take i) nm)) ?_; refine XO.ent (Ent.cons _ selA) ?_; refine XO.appendR (N := 8796093022208) TT_ok (fun _ => trivial) rfl rfl rfl rfl rfl rfl rfl rfl rfl rfl rfl (by rw [flat_length lenc_len]) (flat_all (fun _ => rfl) _) (by omega) rfl rfl (fun a' cap' => ?_)) | fail)
      refine ih (i + 1, _, _) _ _ hlt (by simp only; omega) ⟨rfl, rfl, by dsimp only; rw [hsn]; rfl, rfl, trivial⟩ ?_
      dsimp only; rw [← hsn, ← hfl]
      refine Ent.cons _ ?_
      exact Ent.trans (Ent.trans (selA (c := Sx.viewAt w0 g off 2 fs.length (flat fenc fs))) (hE _)) entA
  · obtain rfl : i = fs.length := by omega
    clear ih
    rw [List.take_length]
    repeat' (first | refine walk ?_ | exact trivial | refine Tw.mk ?_ ?_ | intro hy | (exfalso; omega) | exact Out.i (h _ _) | fail)
theorem rhas_spec {fs : List Fld} {nm el : List UInt8} {a : Option Addr} {c : Nat} (hS : FsS fs) (hn : nm.length ≤ 1000) (he : el.length ≤ 140737488351232) (h : K (.bool (has fs nm el)) (fView w0 (.slice a fs.length c) fs :: F)) : Tri Tryd.prog 59 #[.slice a fs.length c, kS nm, kS el] w0 (fView w0 (.slice a fs.length c) fs :: F) K := by
  have hS1 := hS.1
  have hS2 := hS.2
  have hel := elemsF_len nm fs
  have heb := elemsF_bytes nm fs
  have hex : ∀ x ∈ elemsF fs nm, x.length ≤ 140737488351232 := fun x hx => by
    have := (List.sublist_flatten_of_mem hx).length_le
    omega
  have hdef : has fs nm el = (elemsF fs nm).any fun x => alike x el := rfl
  refine Tri.enterF Tryd.func59 Tryd.ntmps59 Tryd.results59 rfl rfl fun fr hfr => ?_
  repeat' (first | refine walk ?_ | exact trivial | refine Tw.mk ?_ ?_ | refine relF_spec hS hn (fun a3 c3 => ?_) | fail)
  refine XS.loopI (ι := Nat) (fun i => [(2, kS el), (7, .slice a3 (elemsF fs nm).length c3), (8, kI i)]) (fun _ => tRow a3 c3 (elemsF fs nm) :: fView w0 (.slice a fs.length c) fs :: F)
    (fun i => i ≤ (elemsF fs nm).length ∧ ∀ (k : Nat) x, k < i → (elemsF fs nm)[k]? = some x → alike x el = false) (fun i => (elemsF fs nm).length - i) 0 ⟨Nat.zero_le _, fun k _ hk => absurd hk (Nat.not_lt_zero k)⟩ ⟨rfl, rfl, rfl, trivial⟩ (Ent.refl _) ?_
  rintro i e ⟨hi, hno⟩ ih
  by_cases hlt : i < (elemsF fs nm).length
  · obtain ⟨x, hx⟩ : ∃ f, (elemsF fs nm)[i]? = some f := ⟨_, List.getElem?_eq_getElem hlt⟩
    have hxl := hex x (List.mem_of_getElem? hx)
    refine XS.rowOpen (by omega) fun g hg => ?_
    subst hg
    cases hal : alike x el
    · repeat' (first | refine walk ?_ | exact trivial | refine Tw.mk ?_ ?_ | intro hy | (exfalso; omega) | (refine ralike_spec hxl he ?_; rw [hal]) | fail)
      refine ih (i + 1) _ _ ⟨hlt, fun k m2 hk hkm => ?_⟩ (by omega) ⟨rfl, rfl, rfl, trivial⟩ (Ent.trans Row.of_at entA)
      rcases Nat.lt_or_ge k i with h4 | h4
      · exact hno k m2 h4 hkm
      · obtain rfl : k = i := by omega
        rw [hx] at hkm; injection hkm with hkm; subst hkm; exact hal
    · have htrue : has fs nm el = true := by rw [hdef]; exact List.any_eq_true.2 ⟨x, List.mem_of_getElem? hx, hal⟩
      rw [htrue] at h
      repeat' (first | refine walk ?_ | exact trivial | refine Tw.mk ?_ ?_ | intro hy | (exfalso; omega) | (refine ralike_spec hxl he ?_; rw [hal]) | exact Out.e h entA | fail)
  · obtain rfl : i = (elemsF fs nm).length := by omega
    clear ih
    have hfalse : has fs nm el = false := by
      rw [hdef, List.any_eq_false]
      intro x hx
      obtain ⟨k, hk⟩ := List.getElem?_of_mem hx
      rw [hno k x (List.getElem?_eq_some_iff.1 hk).1 hk]; exact Bool.false_ne_true
    rw [hfalse] at h
    repeat' (first | refine walk ?_ | exact trivial | refine Tw.mk ?_ ?_ | intro hy | (exfalso; omega) | exact Out.e h entA | fail)
theorem rone_spec {fs : List Fld} {nm : List UInt8} {a : Option Addr} {c : Nat} (hS : FsS fs) (hn : nm.length ≤ 140737488351232) (h : K (.bool (oneP fs nm)) (fView w0 (.slice a fs.length c) fs :: F)) : Tri Tryd.prog 34 #[.slice a fs.length c, kS nm] w0 (fView w0 (.slice a fs.length c) fs :: F) K := by
  rw [oneP_low] at h
  refine Tri.enterF Tryd.func34 Tryd.ntmps34 Tryd.results34 rfl rfl fun fr hfr => ?_
  repeat' (first | refine walk ?_ | exact trivial | refine Tw.mk ?_ ?_ | intro (b5 : Nat) | refine XO.buildArr TT_ok rfl rfl rfl rfl rfl rfl rfl rfl ?_ | fail)
  refine XS.loopI (ι := Nat) (fun i => [(0, .slice a fs.length c), (1, kS nm), (5, ptr b5), (6, kI i)]) (fun _ => cel b5 103 (flat lenc fixedL) :: fView w0 (.slice a fs.length c) fs :: F)
    (fun i => i ≤ 7 ∧ ∀ (k : Nat) x, k < i → fixedL[k]? = some x → alike x nm = false) (fun i => 7 - i) 0 ⟨Nat.zero_le _, fun k _ hk => absurd hk (Nat.not_lt_zero k)⟩ ⟨rfl, rfl, rfl, rfl, trivial⟩ (Ent.refl _) ?_
  rintro i e ⟨hi, hno⟩ ih
  by_cases hlt : i < 7
  · obtain ⟨x, hx⟩ : ∃ f, fixedL[i]? = some f := ⟨_, List.getElem?_eq_getElem hlt⟩
    have hxl : x.length ≤ 1000 := (show ∀ x ∈ fixedL, x.length ≤ 1000 by decide) x (List.mem_of_getElem? hx)
    have hr0 : ∀ X : List HProp, Reads w0 (cel b5 103 (flat lenc fixedL) :: X) ⟨b5, 0 + i * 1, none⟩ (kS x) := fun X => by
      rw [Nat.zero_add]; exact Reads.flat (j := 0) lenc_len hx rfl
    cases hal : alike x nm
    · repeat' (first | refine walk ?_ | exact trivial | refine Tw.mk ?_ ?_ | intro hy | (exfalso; omega) | refine XO.indexArrN TT_ok rfl rfl rfl rfl rfl rfl rfl hlt ?_ | refine XO.load TT_ok rfl rfl rfl rfl rfl rfl (hr0 _) ?_ | (refine ralike_spec (by omega) hn ?_; rw [hal]) | fail)
      refine ih (i + 1) _ _ ⟨hlt, fun k m2 hk hkm => ?_⟩ (by omega) ⟨rfl, rfl, rfl, rfl, trivial⟩ (Ent.refl _)
      rcases Nat.lt_or_ge k i with h4 | h4
      · exact hno k m2 h4 hkm
      · obtain rfl : k = i := by omega
        rw [hx] at hkm; injection hkm with hkm; subst hkm; exact hal
    · rw [show (fixedL.any fun x => alike x nm) = true from List.any_eq_true.2 ⟨x, List.mem_of_getElem? hx, hal⟩, Bool.true_or] at h
      repeat' (first | refine walk ?_ | exact trivial | refine Tw.mk ?_ ?_ | intro hy | (exfalso; omega) | refine XO.indexArrN TT_ok rfl rfl rfl rfl rfl rfl rfl hlt ?_ | refine XO.load TT_ok rfl rfl rfl rfl rfl rfl (hr0 _) ?_ | (refine ralike_spec (by omega) hn ?_; rw [hal]) | exact Out.e h entA | fail)
  · obtain rfl : i = 7 := by omega
    clear ih
    have hfalse : (fixedL.any fun x => alike x nm) = false := by
      rw [List.any_eq_false]
      intro x hx
      obtain ⟨k, hk⟩ := List.getElem?_of_mem hx
      rw [hno k x (List.getElem?_eq_some_iff.1 hk).1 hk]; exact Bool.false_ne_true
    rw [hfalse, Bool.false_or] at h
    repeat' (first | refine walk ?_ | exact trivial | refine Tw.mk ?_ ?_ | intro hy | (exfalso; omega) | (refine Tri.sel1 (c := fView w0 (.slice a fs.length c) fs) (rhas_spec (nm := conn) hS (by decide) hn ?_)) | exact Out.e h entA | fail)
theorem rstrip_spec {fs gs : List Fld} {a : Option Addr} {c : Nat} (hS : FsS fs) (hgs : gs = strip fs) (h : ∀ a2 c2, K (.slice a2 gs.length c2) (fRow a2 c2 gs :: fView w0 (.slice a fs.length c) fs :: F)) : Tri Tryd.prog 68 #[.slice a fs.length c] w0 (fView w0 (.slice a fs.length c) fs :: F) K := by
  subst hgs
  have hS1 := hS.1
  have hS2 := hS.2
  obtain ⟨q, hq⟩ : ∃ q : List Fld → List Fld, q = fun l => l.filter fun f => !oneP fs f.1 := ⟨_, rfl⟩
  have hqs : strip fs = q fs := by rw [hq]; rfl
  have hqa : ∀ x y, q (x ++ y) = q x ++ q y := fun x y => by rw [hq]; exact List.filter_append ..
  have hq0 : q [] = [] := by rw [hq]; rfl
  have hql : ∀ l, (q l).length ≤ l.length := fun l => by rw [hq]; exact List.length_filter_le _ _
  have hq1 : ∀ n1 v1, q [(n1, v1)] = if oneP fs n1 then [] else [(n1, v1)] := fun n1 v1 => by rw [hq]; cases h1 : oneP fs n1 <;> simp [h1]
  rw [hqs] at h
  refine Tri.enterF Tryd.func68 Tryd.ntmps68 Tryd.results68 rfl rfl fun fr hfr => ?_
  repeat' (first | refine walk ?_ | exact trivial | refine Tw.mk ?_ ?_ | fail)
  refine XS.loopI (ι := Nat × Option Addr × Nat) (fun w => [(0, .slice a fs.length c), (3, .slice w.2.1 (q (fs.take w.1)).length w.2.2), (4, kI w.1)]) (fun w => fRow w.2.1 w.2.2 (q (fs.take w.1)) :: fView w0 (.slice a fs.length c) fs :: F)
    (fun w => w.1 ≤ fs.length) (fun w => fs.length - w.1) (0, none, 0) (Nat.zero_le _) ⟨rfl, by dsimp only; rw [List.take_zero, hq0]; rfl, rfl, trivial⟩ (by dsimp only; rw [List.take_zero, hq0]; exact Row.nil _ _ _) ?_
  rintro ⟨i, a2, c2⟩ e hi ih
  simp only at hi
  dsimp only
  have hml := hql (fs.take i)
  rw [List.length_take] at hml
  by_cases hlt : i < fs.length
  · obtain ⟨⟨n1, v1⟩, hf⟩ : ∃ f, fs[i]? = some f := ⟨_, List.getElem?_eq_getElem hlt⟩
    obtain ⟨hn1, hv1⟩ := (fsS_ok hS).2 _ (List.mem_of_getElem? hf)
    simp only at hn1 hv1
    have htk : q (fs.take (i + 1)) = q (fs.take i) ++ q [(n1, v1)] := by rw [List.take_add_one, hf]; exact hqa _ _
    rw [hq1] at htk
    refine XS.sel1 (c := fView w0 (.slice a fs.length c) fs) (XS.viewOpen (by omega) fun g off c3 hv hc3 => ?_)
    injection hv with hv1 _ hv3
    subst hv1 hv3
    have hE : ∀ X : List HProp, Ent (Sx.viewAt w0 g off 2 fs.length (flat fenc fs) :: X) (fView w0 (.slice (some ⟨g, off, none⟩) fs.length c) fs :: X) := fun X => Ent.viewAt hc3
    have hr0 : ∀ X : List HProp, Reads w0 (Sx.viewAt w0 g off 2 fs.length (flat fenc fs) :: X) ⟨g, off + i * 2, none⟩ (kS n1) := fun X => Reads.view (k := i * 2) (flat_get (j := 0) fenc_len hf rfl)
    cases hal : oneP fs n1
    · rw [hal] at htk
      simp only [Bool.false_eq_true, if_false] at htk
      have hfl : flat fenc (q (fs.take i)) ++ [kS n1, kS v1] = flat fenc (q (fs.take (i + 1))) := by rw [htk, flat_snoc]; rfl
      have hsn : (q (fs.take (i + 1))).length = (q (fs.take i)).length + 1 := by rw [htk, List.length_append]; rfl
      repeat' (first | refine walk ?_ | exact trivial | refine Tw.mk ?_ ?_ | intro hy | (exfalso; omega) | refine XO.load TT_ok rfl rfl rfl rfl rfl rfl (hr0 _) ?_ | (refine Tri.ent (Ent.trans (selA (c := Sx.viewAt w0 g off 2 fs.length (flat fenc fs))) (hE _)) (rone_spec hS hn1 ?_); rw [hal]) | (refine XO.ent (Ent.refl _) (XO.viewOpen (by omega) fun g2 off2 c4 hv4 hc4 => ?_); injection hv4 with hv5 _ hv6; injection hv5 with hv5; injection hv5 with hv7 hv8; subst hv6 hv7 hv8; refine XO.loadN TT_ok rfl rfl rfl rfl rfl rfl rfl (ReadsN.viewFlat fenc_len hf) ?_) | (refine XO.sel1 (c := fRow _ _ (q (fs.take i))) ?_; refine XO.appendG (N := 4398046511104) (flat fenc (q (fs.take (i + 1)))) TT_ok trivial rfl rfl rfl rfl rfl rfl rfl rfl rfl rfl rfl rfl rfl (by omega) rfl rfl hfl (fun _ _ => trivial) (fun a' cap' => ?_)) | fail)
      refine ih (i + 1, _, _) _ _ hlt (by simp only; omega) ⟨rfl, by dsimp only; rw [hsn]; rfl, rfl, trivial⟩ ?_
      dsimp only; rw [← hsn]
      refine Ent.cons _ ?_
      exact Ent.trans (Ent.trans (selA (c := Sx.viewAt w0 g off 2 fs.length (flat fenc fs))) (hE _)) entA
    · rw [hal] at htk
      simp only [if_true, List.append_nil] at htk
      repeat' (first | refine walk ?_ | exact trivial | refine Tw.mk ?_ ?_ | intro hy | (exfalso; omega) | refine XO.load TT_ok rfl rfl rfl rfl rfl rfl (hr0 _) ?_ | (refine Tri.ent (Ent.trans (selA (c := Sx.viewAt w0 g off 2 fs.length (flat fenc fs))) (hE _)) (rone_spec hS hn1 ?_); rw [hal]) | fail)
      refine ih (i + 1, a2, c2) _ _ hlt (by simp only; omega) ⟨rfl, by dsimp only; rw [htk]; rfl, rfl, trivial⟩ ?_
      dsimp only; rw [htk]
      exact entA
  · obtain rfl : i = fs.length := by omega
    clear ih
    rw [List.take_length]
    repeat' (first | refine walk ?_ | exact trivial | refine Tw.mk ?_ ?_ | intro hy | (exfalso; omega) | exact Out.i (h _ _) | fail)
end Go.Proofs.YtngicmoadobgpaaDoor

/- Contracts: a status's phrase, numbers in digits. Conditions: none. -/
namespace Go.Sx
open Go Go.RowKit Go.WheelM
section
variable {P : Program} {T : Tbl} {w0 : World} {n : Nat} {HL : Held} {ops : Array Oper} {J : Env → List HProp → Prop} {ix : Nat} {rest : List Oper} {o : Oper} {e : Env} {H F : List HProp} {κ : Type} [DecidableEq κ] {D : TypeDesc} {kv : κ → Value}
/-- An entry of a map that is written out. -/
theorem XO.mapIns {t kt vt : TypeId} {x y z : Operand} {b : Nat} {k : κ} {v : Value} {es : List (κ × Value)} (hK : KeyOk D kv) (hT : T.Ok P) (hk0 : Keeps w0 (mapc b kv es :: F) (keptBy HL ix)) (hg : wantedE ops e n o = true) (hd : o.dst = none) (hop : o.op = .insert t x y z) (hu : T.und t = some (.map kt vt)) (hkd : T.und kt = some D)
    (hx : e.ev n x = .map (some b)) (hy : e.ev n y = kv k) (hz : Hd (e.ev n z) = some v) (hk : Keeps w0 (mapc b kv (mset es k v) :: F) (keptBy HL ix)) (h : XO P T w0 n HL ops J (ix + 1) rest e (mapc b kv (mset es k v) :: F)) : XO P T w0 n HL ops J ix (o :: rest) e (mapc b kv es :: F) := by
  rw [Hd_eq] at hz
  injection hz with hz
  refine .effOp hk0 hg (by rw [hop]; rfl) (fun w hrel => ?_)
  obtain ⟨arr, clock, hb, he, hrel2, hst⟩ := hrel.map_get
  cases hm : mget es k with
  | none =>
    have hf := findNow_none hK 0 he hm
    refine ⟨undef, _, _, .inr ⟨?_, rfl⟩, hrel2.map_set (arr' := arr.push { key := kv k, val := v, born := clock }) (clock' := clock + 1) (es := mset es k v) ?_ (MapKept.stamped_push hst (keys_other hK he hm)), hk, by rw [hd]; exact h⟩
    · simp only [execOp, hop, hx, hy, hz, Instr.mapUpdate, Sem.run_bind, run_und hT hu, Result.andThen_ok, MapKept.run_getObj_map hb, MapKept.run_checkKey (hT.und _ _ hkd) (hK.key k), MapKept.run_findKey (hT.und _ _ hkd) hf, MapKept.run_setObj_map _ hb, Sem.run_pure]
    · rw [mset_new hm]; simp [he]
  | some v0 =>
    obtain ⟨j, e', hf, hj, hkey, hmod, _⟩ := findNow_some hK 0 he hm
    have hj' : arr[j]? = some e' := by simpa using hj
    refine ⟨undef, _, _, .inr ⟨?_, rfl⟩, hrel2.map_set (arr' := arr.modify j fun e => { e with key := kv k, val := v }) (clock' := clock) (es := mset es k v) ?_ (MapKept.stamped_modify hst j _ (fun _ _ => rfl) (fun e _ hej => by rw [hj'] at hej; injection hej with hej; subst hej; exact hkey.symm)), hk, by rw [hd]; exact h⟩
    · simp only [execOp, hop, hx, hy, hz, Instr.mapUpdate, Sem.run_bind, run_und hT hu, Result.andThen_ok, MapKept.run_getObj_map hb, MapKept.run_checkKey (hT.und _ _ hkd) (hK.key k), MapKept.run_findKey (hT.und _ _ hkd) hf, Nat.zero_add, hj', Option.map_some, Option.getD_some, hkey, Instr.keyThatStays, hK.bits, if_true, Sem.run_pure, MapKept.run_setObj_map _ hb]
    · have := hmod v
      simpa using this
theorem XO.insT {β : Type} {ve : β → Value} {t kt vt : TypeId} {x y z : Operand} {b : Nat} {es : List (κ × β)} {k : κ} {v : β} (hT : T.Ok P) (hop : o.op = .insert t x y z) (hk0 : Keeps w0 (tmap b kv ve es :: F) (keptBy HL ix)) (hg : wantedE ops e n o = true) (hd : o.dst = none) (hu : T.und t = some (.map kt vt)) (hkd : T.und kt = some D)
    (hx : e.ev n x = .map (some b)) (hK : KeyOk D kv) (hy : e.ev n y = kv k) (hz : e.ev n z = ve v) (hk : Keeps w0 (tmap b kv ve (aset es k v) :: F) (keptBy HL ix)) (h : XO P T w0 n HL ops J (ix + 1) rest e (tmap b kv ve (aset es k v) :: F)) : XO P T w0 n HL ops J ix (o :: rest) e (tmap b kv ve es :: F) :=
  .mapIns (es := menc ve es) (v := ve v) hK hT hk0 hg hd hop hu hkd hx hy (by rw [hz, Hd_eq]) (by rw [mset_menc]; exact hk) (by rw [mset_menc]; exact h)
end
end Go.Sx
namespace Go.EmitM
open Go.WheelM Go.ChunkM Go.StrM
theorem phrase_eq (z : Int) : ∀ l : List (Int × List UInt8), phrase z l = (match aget l z with | some p => p | none => other)
  | [] => rfl
  | p :: l => by
    unfold phrase aget
    split
    · rfl
    · exact phrase_eq z l
end Go.EmitM
namespace Go.Proofs.YtngicmoadobgpaaDoor
open Go Go.Sx Go.ChunkM Go.StrM Go.EmitM
variable {w0 : World} {F H : List HProp} {K : Value → List HProp → Prop}
def strV (l : List UInt8) : Value := .string ⟨⟨l⟩⟩
abbrev phrMap (b : Nat) : HProp := tmap b (fun z : Int => Value.int .i64 z) strV phr
set_option maxRecDepth 20000 in
theorem phrases_spec (h : ∀ b : Nat, K (.map (some b)) (phrMap b :: F)) : Tri Tryd.prog 50 #[] w0 F K := by
  refine Tri.enterF Tryd.func50 Tryd.ntmps50 Tryd.results50 rfl rfl fun fr hfr => ?_
  repeat' (first | refine walk ?_ | exact trivial | refine Tw.mk ?_ ?_ | refine XO.makeMap (fun z : Int => Value.int .i64 z) trivial rfl rfl rfl (fun _ => trivial) (fun bb => XO.ent (H' := tmap bb (fun z : Int => Value.int .i64 z) strV [] :: F) (Ent.refl _) ?_) | refine XO.insT TT_ok rfl trivial rfl rfl rfl rfl rfl keyI64 rfl (by unfold strV; rfl) trivial ?_ | exact Out.i (h _) | fail)
theorem reason_spec {z : Int} (h : K (kS (reason z)) F) : Tri Tryd.prog 23 #[.int .i64 z] w0 F K := by
  have h1 : ∀ v, WheelM.aget phr z = some v → K (strV v) F := fun v hv => by
    have : reason z = v := by unfold reason; rw [phrase_eq, hv]
    rw [this] at h; exact h
  have h2 : WheelM.aget phr z = none → K (strV other) F := fun hv => by
    have : reason z = other := by unfold reason; rw [phrase_eq, hv]
    rw [this] at h; exact h
  refine Tri.enterF Tryd.func23 Tryd.ntmps23 Tryd.results23 rfl rfl fun fr hfr => ?_
  repeat' (first | refine walk ?_ | exact trivial | refine Tw.mk ?_ ?_ | intro (v : List UInt8) hv | intro hv | refine phrases_spec (fun b => ?_) | exact Out.e (h1 _ (by assumption)) (Ent.drop _ _) | exact Out.e (h2 (by assumption)) (Ent.drop _ _) | fail)
theorem rmore_spec {z : Int} (h : K (kS (phrase z (phr.drop 12))) F) : Tri Tryd.prog 51 #[.int .i64 z] w0 F K := by
  have h2 : (¬ z = 413) → (¬ z = 414) → (¬ z = 417) → (¬ z = 429) → (¬ z = 431) → (¬ z = 500) → (¬ z = 501) → (¬ z = 502) → (¬ z = 503) → (¬ z = 504) → (¬ z = 505) → K (kS other) F := fun a1 a2 a3 a4 a5 a6 a7 a8 a9 a10 a11 => by
    have : phrase z (phr.drop 12) = other := by simp [phr, phrase, a1, a2, a3, a4, a5, a6, a7, a8, a9, a10, a11]
    rw [this] at h; exact h
  refine Tri.enterF Tryd.func51 Tryd.ntmps51 Tryd.results51 rfl rfl fun fr hfr => ?_
  repeat' (first | refine walk ?_ | exact trivial | refine Tw.mk ?_ ?_ | intro hy | (subst_vars; exact Out.i h) | (refine Out.i (h2 ?_ ?_ ?_ ?_ ?_ ?_ ?_ ?_ ?_ ?_ ?_) <;> assumption) | fail)
theorem rreason_spec {z : Int} (h : K (kS (reason z)) F) : Tri Tryd.prog 24 #[.int .i64 z] w0 F K := by
  have h2 : (¬ z = 101) → (¬ z = 200) → (¬ z = 204) → (¬ z = 301) → (¬ z = 302) → (¬ z = 307) → (¬ z = 308) → (¬ z = 400) → (¬ z = 401) → (¬ z = 403) → (¬ z = 404) → (¬ z = 408) → K (kS (phrase z (phr.drop 12))) F := fun a1 a2 a3 a4 a5 a6 a7 a8 a9 a10 a11 a12 => by
    have : reason z = phrase z (phr.drop 12) := by unfold reason; simp [phr, phrase, a1, a2, a3, a4, a5, a6, a7, a8, a9, a10, a11, a12]
    rw [this] at h; exact h
  refine Tri.enterF Tryd.func24 Tryd.ntmps24 Tryd.results24 rfl rfl fun fr hfr => ?_
  repeat' (first | refine walk ?_ | exact trivial | refine Tw.mk ?_ ?_ | intro hy | refine rmore_spec ?_ | (subst_vars; exact Out.i h) | (refine Out.i (h2 ?_ ?_ ?_ ?_ ?_ ?_ ?_ ?_ ?_ ?_ ?_ ?_) <;> assumption) | fail)
end Go.Proofs.YtngicmoadobgpaaDoor

/- A region that draws its order and holds operations that do not commute (blocks that are laid, rows that grow): every order is walked, what only reads goes first. Conditions: the table 'T' fits the program. -/
namespace Go.Sx
open Go Go.RowKit
/-- Cells that stay as they are through the region. -/
def Still (S : List (Addr × Value)) (w : World) : Prop := ∀ p ∈ S, w.cell? p.1 = some p.2
def Stills (w0 : World) (S : List (Addr × Value)) (H : List HProp) : Prop := ∀ p ∈ S, Reads w0 H p.1 p.2
theorem Stills.still {w0 w : World} {S : List (Addr × Value)} {H : List HProp} (h : Stills w0 S H) (hr : Rel w0 H w) : Still S w := fun p hp => h p hp w hr
theorem Stills.nil {w0 : World} {H : List HProp} : Stills w0 [] H := fun _ h => by cases h
theorem Stills.cons {w0 : World} {S : List (Addr × Value)} {H : List HProp} {a : Addr} {v : Value} (h : Reads w0 H a v) (hs : Stills w0 S H) : Stills w0 ((a, v) :: S) H := fun p hp => by
  rcases List.mem_cons.1 hp with rfl | hp
  · exact h
  · exact hs p hp
def JX (w0 : World) (n : Nat) (J : Env → List HProp → Prop) : Exit → Act → World → Prop := fun x a w' => match x with | .normal => ∃ e' H', a = Env.act e' n ∧ Rel w0 H' w' ∧ J e' H' | _ => False
structure XA (P : Program) (T : Tbl) (w0 : World) (n : Nat) (ops : Array Oper) (J : Env → List HProp → Prop) (S : List (Addr × Value)) (fuel : Nat) (bs : List Bool) (e : Env) (H : List HProp) : Prop where
  run : ∀ w, Rel w0 H w → wpAnyH P .any ops (JX w0 n J) (Still S) fuel ⟨bs⟩ (e.act n) w
section
variable {P : Program} {T : Tbl} {w0 : World} {n : Nat} {ops : Array Oper} {J : Env → List HProp → Prop} {S : List (Addr × Value)} {fuel : Nat} {bs : List Bool} {e : Env} {H : List HProp}
theorem XS.drawA {b : Frame} {R : Value → List HProp → Prop} {k : List Item} {id : Nat} {l : List Oper} (S : List (Addr × Value)) (hm : P.follows .mixedOrders = true) (h : XA P T w0 n l.toArray (XS P w0 b n R k) S l.length (List.replicate l.length false) e H) : XS P w0 b n R (.code (.region id l.toArray true) :: k) e H := by
  refine .of_wp fun w hr => ?_
  refine wp_region_held (S := Still S) hm ?_
  have := h.run _ hr.drew
  have e1 : (⟨List.replicate l.length false⟩ : Array Bool) = Array.replicate l.toArray.size false := by apply Array.ext'; simp
  rw [e1] at this
  exact this
theorem XA.ent {H' : List HProp} (x : Ent H H') (h : XA P T w0 n ops J S fuel bs e H') : XA P T w0 n ops J S fuel bs e H := ⟨fun w hr => h.run w (hr.ent x)⟩
theorem XA.take (i : Nat) {o : Oper} {v : Value} {d : Nat} (hi : ops[i]? = some o) (hd : o.dst = some d) (hc : (Region.noSelect ops && Region.free .any ops ⟨bs⟩ i && (Region.ready .any ops ⟨bs⟩).contains i) = true) (hy : YieldsIf P ops (Still S) o v (e.act n)) (hS : Stills w0 S H)
    (h : XA P T w0 n ops J S fuel (bs.set i true) (e.upd d v) H) : XA P T w0 n ops J S (fuel + 1) bs e H := by
  simp only [Bool.and_eq_true] at hc
  refine ⟨fun w hr => wpAnyH_take hi hc.1.1 hc.1.2 hc.2 (fun c a w hq => hq) hy (hS.still hr) ?_⟩
  have := h.run w hr
  have e1 : (⟨bs⟩ : Array Bool).setIfInBounds i true = ⟨bs.set i true⟩ := by apply Array.ext'; simp
  have e2 : (e.act n).put o.dst v = (e.upd d v).act n := by rw [Env.act_put, hd]; rfl
  rw [e1, e2]
  exact this
/-- One that hangs on no memory. -/
theorem XA.p (i : Nat) {o : Oper} {v : Value} {d : Nat} (hT : T.Ok P) (hi : ops[i]? = some o) (hd : o.dst = some d) (hc : (Region.noSelect ops && Region.free .any ops ⟨bs⟩ i && (Region.ready .any ops ⟨bs⟩).contains i) = true) (hg : wantedE ops e n o = true) (hv : pev T (e.ev n) o.op = some v) (hS : Stills w0 S H)
    (h : XA P T w0 n ops J S fuel (bs.set i true) (e.upd d v) H) : XA P T w0 n ops J S (fuel + 1) bs e H :=
  .take i hi hd hc (.inl ⟨by rw [wantedE_eq]; exact hg, fun w _ => by rw [Env.act_eval]; exact pev_sound hT hv w⟩) hS h
theorem XA.lenS (i : Nat) {o : Oper} {d : Nat} {x : Operand} {t u : TypeId} {a : Option Addr} {k c : Nat} (hT : T.Ok P) (hi : ops[i]? = some o) (hd : o.dst = some d) (hc : (Region.noSelect ops && Region.free .any ops ⟨bs⟩ i && (Region.ready .any ops ⟨bs⟩).contains i) = true) (hg : wantedE ops e n o = true)
    (hop : o.op = .call { callee := .builtin .len, args := #[x], argTypes := #[t] }) (hu : T.und t = some (.slice u)) (hx : e.ev n x = .slice a k c) (hS : Stills w0 S H)
    (h : XA P T w0 n ops J S fuel (bs.set i true) (e.upd d (.int .i64 k)) H) : XA P T w0 n ops J S (fuel + 1) bs e H :=
  .take i hi hd hc (.inl ⟨by rw [wantedE_eq]; exact hg, fun w _ => by
    rw [Env.act_eval]
    simp [execOp, hop, resolve, invoke, builtin, Builtin.len_, run_und hT hu, hx, goInt]⟩) hS h
/-- One that is not carried out. -/
theorem XA.no (i : Nat) {o : Oper} {d : Nat} (hi : ops[i]? = some o) (hd : o.dst = some d) (hc : (Region.noSelect ops && Region.free .any ops ⟨bs⟩ i && (Region.ready .any ops ⟨bs⟩).contains i) = true) (hg : wantedE ops e n o = false) (hS : Stills w0 S H)
    (h : XA P T w0 n ops J S fuel (bs.set i true) (e.upd d undef) H) : XA P T w0 n ops J S (fuel + 1) bs e H :=
  .take i hi hd hc (.inr ⟨by rw [wantedE_eq]; exact hg, rfl⟩) hS h
/-- A cell that stays is read. -/
theorem XA.load (i : Nat) {o : Oper} {v : Value} {d : Nat} {t : TypeId} {x : Operand} {a : Addr} (hT : T.Ok P) (hi : ops[i]? = some o) (hd : o.dst = some d) (hc : (Region.noSelect ops && Region.free .any ops ⟨bs⟩ i && (Region.ready .any ops ⟨bs⟩).contains i) = true) (hg : wantedE ops e n o = true) (hop : o.op = .load t x) (hx : e.ev n x = .pointer (some a)) (ha : aggT T t = some false) (hm : (a, v) ∈ S) (hS : Stills w0 S H)
    (h : XA P T w0 n ops J S fuel (bs.set i true) (e.upd d v) H) : XA P T w0 n ops J S (fuel + 1) bs e H :=
  .take i hi hd hc (.inl ⟨by rw [wantedE_eq]; exact hg, fun w hw => by
    rw [Env.act_eval]
    have := hw _ hm
    simp only at this
    simp only [execOp, hop, hx, Instr.loadAt, Instr.sureAddr, loadVar, Sem.run_bind, Sem.run_pure, Result.andThen_ok, run_isAgg hT ha, Bool.false_eq_true, if_false, run_load, this]⟩) hS h
/-- What stands behind one operation that was carried out. -/
def JA (P : Program) (T : Tbl) (w0 : World) (n : Nat) (ops : Array Oper) (J : Env → List HProp → Prop) (S : List (Addr × Value)) (fuel : Nat) (bs : List Bool) (e : Env) (H : List HProp) : Prop := Stills w0 S H ∧ XA P T w0 n ops J S fuel bs e H
theorem XA.eff {i : Nat} {o : Oper} (hi : ops[i]? = some o) (h : XO P T w0 n [] ops (JA P T w0 n ops J S fuel (bs.set i true)) i [o] e H) {w : World} (hr : Rel w0 H w) :
    wpOp P ops (JX w0 n J) i (fun a' w' => Still S w' ∧ wpAnyH P .any ops (JX w0 n J) (Still S) fuel ((⟨bs⟩ : Array Bool).setIfInBounds i true) a' w') (e.act n) w := by
  have h1 := h.run w hr
  have e1 : (⟨bs⟩ : Array Bool).setIfInBounds i true = ⟨bs.set i true⟩ := by apply Array.ext'; simp
  rw [e1]
  refine tI_wpOp (T := T) (HL := []) (K := fun a w' => ∃ e' H', a = Env.act e' n ∧ Rel w0 H' w' ∧ JA P T w0 n ops J S fuel (bs.set i true) e' H') (fun a w' => ?_) ?_
  · rintro ⟨e', H', rfl, hr', hs, hx⟩
    exact ⟨hs.still hr', hx.run w' hr'⟩
  · unfold tI
    simp only [hi]
    exact h1
/-- One alone may come up. -/
theorem XA.one {i : Nat} {o : Oper} (hr : Region.ready .any ops ⟨bs⟩ = [i]) (hi : ops[i]? = some o) (h : XO P T w0 n [] ops (JA P T w0 n ops J S fuel (bs.set i true)) i [o] e H) : XA P T w0 n ops J S (fuel + 1) bs e H :=
  ⟨fun _ hrel => wpAnyH_all hr (by simp) fun j hj => by
    rw [List.mem_singleton] at hj; subst hj
    exact XA.eff hi h hrel⟩
/-- One of two may come up. -/
theorem XA.two {i j : Nat} {o o' : Oper} (hr : Region.ready .any ops ⟨bs⟩ = [i, j]) (hi : ops[i]? = some o) (hj : ops[j]? = some o') (h : XO P T w0 n [] ops (JA P T w0 n ops J S fuel (bs.set i true)) i [o] e H) (h' : XO P T w0 n [] ops (JA P T w0 n ops J S fuel (bs.set j true)) j [o'] e H) : XA P T w0 n ops J S (fuel + 1) bs e H :=
  ⟨fun _ hrel => wpAnyH_all hr (by simp) fun k hk => by
    simp only [List.mem_cons, List.not_mem_nil, or_false] at hk
    rcases hk with rfl | rfl
    · exact XA.eff hi h hrel
    · exact XA.eff hj h' hrel⟩
theorem XA.done (hr : Region.ready .any ops ⟨bs⟩ = []) (h : J e H) : XA P T w0 n ops J S fuel bs e H :=
  ⟨fun _ hrel => wpAnyH_done hr ⟨e, H, rfl, hrel, h⟩ fuel⟩
theorem JA.mk (hS : Stills w0 S H) (h : XA P T w0 n ops J S fuel bs e H) : JA P T w0 n ops J S fuel bs e H := ⟨hS, h⟩
end
end Go.Sx

/- Contracts: the document's numbers in digits, what it tells on, what it joins. Conditions: the fields are small. -/
namespace Go.Sx
open Go Go.RowKit
section
variable {P : Program} {T : Tbl} {w0 : World} {n : Nat} {ops : Array Oper} {J : Env → List HProp → Prop} {S : List (Addr × Value)} {fuel : Nat} {bs : List Bool} {e : Env} {H : List HProp}
/-- One that hangs on no memory, by what it yields. -/
theorem XA.run_ (i : Nat) {o : Oper} {v : Value} {d : Nat} (hi : ops[i]? = some o) (hd : o.dst = some d) (hc : (Region.noSelect ops && Region.free .any ops ⟨bs⟩ i && (Region.ready .any ops ⟨bs⟩).contains i) = true) (hg : wantedE ops e n o = true) (hv : ∀ w, (execOp (e.ev n) o).run P w = .ok (.value v) w) (hS : Stills w0 S H)
    (h : XA P T w0 n ops J S fuel (bs.set i true) (e.upd d v) H) : XA P T w0 n ops J S (fuel + 1) bs e H :=
  .take i hi hd hc (.inl ⟨by rw [wantedE_eq]; exact hg, fun w _ => by rw [Env.act_eval]; exact hv w⟩) hS h
theorem XA.quoT (i : Nat) {o : Oper} {x y : Operand} {t t' : TypeId} {a b q : Int} {d : Nat} (hq : a.tdiv b = q) (hb : b ≠ 0) (h1 : -9223372036854775808 ≤ q) (h2 : q ≤ 9223372036854775807) (hi : ops[i]? = some o) (hd : o.dst = some d) (hop : o.op = .binOp .quo t x y t') (hc : (Region.noSelect ops && Region.free .any ops ⟨bs⟩ i && (Region.ready .any ops ⟨bs⟩).contains i) = true) (hg : wantedE ops e n o = true) (hx : e.ev n x = .int .i64 a) (hy : e.ev n y = .int .i64 b) (hS : Stills w0 S H)
    (h : XA P T w0 n ops J S fuel (bs.set i true) (e.upd d (.int .i64 q)) H) : XA P T w0 n ops J S (fuel + 1) bs e H :=
  .run_ i hi hd hc hg (fun w => by
    have hw : IntKind.i64.wrap q = q := wrap64_id h1 h2
    simp only [execOp, hop, hx, hy, Sem.run_bind, eqGuard_plain BinOp.quo t x y (.int .i64 a) (.int .i64 b) (by simp) (by simp), Result.andThen_ok]
    simp [binOp, Op.intDiv, hb, hq, hw]) hS h
theorem XA.remT (i : Nat) {o : Oper} {x y : Operand} {t t' : TypeId} {a b q : Int} {d : Nat} (hq : a.tmod b = q) (hb : b ≠ 0) (hi : ops[i]? = some o) (hd : o.dst = some d) (hop : o.op = .binOp .rem t x y t') (hc : (Region.noSelect ops && Region.free .any ops ⟨bs⟩ i && (Region.ready .any ops ⟨bs⟩).contains i) = true) (hg : wantedE ops e n o = true) (hx : e.ev n x = .int .i64 a) (hy : e.ev n y = .int .i64 b) (hS : Stills w0 S H)
    (h : XA P T w0 n ops J S fuel (bs.set i true) (e.upd d (.int .i64 q)) H) : XA P T w0 n ops J S (fuel + 1) bs e H :=
  .run_ i hi hd hc hg (fun w => by
    simp only [execOp, hop, hx, hy, Sem.run_bind, eqGuard_plain BinOp.rem t x y (.int .i64 a) (.int .i64 b) (by simp) (by simp), Result.andThen_ok]
    simp [binOp, Op.intDiv, hb, hq]) hS h
/-- One that 'pev' tells, the value put otherwise. -/
theorem XA.pE (i : Nat) {o : Oper} {v v' : Value} {d : Nat} (hT : T.Ok P) (hi : ops[i]? = some o) (hd : o.dst = some d) (hc : (Region.noSelect ops && Region.free .any ops ⟨bs⟩ i && (Region.ready .any ops ⟨bs⟩).contains i) = true) (hg : wantedE ops e n o = true) (hv : pev T (e.ev n) o.op = some v') (he : v' = v) (hS : Stills w0 S H)
    (h : XA P T w0 n ops J S fuel (bs.set i true) (e.upd d v) H) : XA P T w0 n ops J S (fuel + 1) bs e H := by subst he; exact .p i hT hi hd hc hg hv hS h
end
end Go.Sx
namespace Go.Proofs.YtngicmoadobgpaaDoor
open Go Go.Sx Go.ChunkM Go.StrM Go.EmitM
variable {w0 : World} {F H : List HProp} {K : Value → List HProp → Prop}
theorem dec_one {n : Nat} (h : n < 10) : Lib.decDigits n = [UInt8.ofNat (48 + n)] := by rw [Lib.decDigits, dif_pos h]
theorem dec_more {n : Nat} (h : ¬ n < 10) : Lib.decDigits n = Lib.decDigits (n / 10) ++ [UInt8.ofNat (48 + n % 10)] := by rw [Lib.decDigits, dif_neg h]
theorem u8_48 {d : Nat} (h : d < 10) : (48 : Int) + (d : Int) = (UInt8.ofNat (48 + d)).toNat := by
  rw [UInt8.toNat_ofNat', Nat.mod_eq_of_lt (by omega)]; omega
theorem u8_48n {d : Nat} (h : d < 10) : (48 : Int) - (-(d : Int)) = (UInt8.ofNat (48 + d)).toNat := by
  rw [UInt8.toNat_ofNat', Nat.mod_eq_of_lt (by omega)]; omega
theorem dec_len {n : Nat} (h : n ≤ 9223372036854775807) : (Lib.decDigits n).length ≤ 21 := by
  have := Lib.itoa_length_le (n : Int) (by omega) (by omega)
  rwa [Lib.itoa_nonneg] at this
set_option maxHeartbeats 2000000 in
theorem digits_spec : ∀ (n : Nat) {F : List HProp} {K : Value → List HProp → Prop}, n ≤ 9223372036854775807 → K (kS (Lib.decDigits n)) F → Tri Tryd.prog 47 #[.int .i64 n] w0 F K := by
  intro n
  induction n using Nat.strongRecOn with
  | _ n ih =>
  intro F K hn h
  by_cases h10 : n < 10
  · have e1 := u8_48 h10
    rw [dec_one h10] at h
    refine Tri.enterF Tryd.func47 Tryd.ntmps47 Tryd.results47 rfl rfl fun fr hfr => ?_
    repeat' (first | refine walk ?_ | exact trivial | refine Tw.mk ?_ ?_ | (intro (bx : Nat)) | intro hy | refine XO.convU8 _ TT_ok rfl rfl rfl rfl rfl rfl rfl e1 ?_ | refine XO.strAt (l := [UInt8.ofNat (48 + n)]) TT_ok trivial rfl rfl rfl rfl rfl rfl rfl rfl (ReadsL.here 1) ?_ | exact Out.e h (Ent.drop _ _) | fail)
  · have e1 := u8_48 (d := n % 10) (by omega)
    rw [dec_more h10] at h
    have q1 : Int.tdiv (n : Int) 10 = ((n / 10 : Nat) : Int) := by rw [Int.tdiv_eq_ediv_of_nonneg (by omega)]; rfl
    have q2 : Int.tmod (n : Int) 10 = ((n % 10 : Nat) : Int) := by rw [Int.tmod_eq_emod_of_nonneg (by omega)]; rfl
    have q3 : Value.int .i64 (IntKind.i64.wrap (48 + ((n % 10 : Nat) : Int))) = .int .i64 ((UInt8.ofNat (48 + n % 10)).toNat : Int) := by rw [wrap64_id (by omega) (by omega), e1]
    have q4 : Value.int .u8 (IntKind.u8.wrap ((UInt8.ofNat (48 + n % 10)).toNat : Int)) = kB (UInt8.ofNat (48 + n % 10)) := congrArg (Value.int .u8) (by have := (UInt8.ofNat (48 + n % 10)).toNat_lt; rw [IntKind.wrap_u8]; omega)
    have hdl := dec_len (n := n / 10) (by omega)
    have ihc := fun {F K} => ih (n / 10) (by omega) (F := F) (K := K) (by omega)
    refine Tri.enterF Tryd.func47 Tryd.ntmps47 Tryd.results47 rfl rfl fun fr hfr => ?_
    repeat' (first | refine walk ?_ | exact trivial | refine Tw.mk ?_ ?_ | intro hy | refine XS.drawA (T := TT) [] follows_ok ?_ | refine XA.quoT 1 q1 (by decide) (by omega) (by omega) rfl rfl rfl (by decide +kernel) rfl rfl rfl Stills.nil ?_ | refine XA.remT 4 q2 (by decide) rfl rfl rfl (by decide +kernel) rfl rfl rfl Stills.nil ?_ | refine XA.pE 5 (v := .int .i64 ((UInt8.ofNat (48 + n % 10)).toNat : Int)) TT_ok rfl rfl (by decide +kernel) rfl rfl q3 Stills.nil ?_ | refine XA.pE 6 (v := kB (UInt8.ofNat (48 + n % 10))) TT_ok rfl rfl (by decide +kernel) rfl rfl q4 Stills.nil ?_ | refine XA.p 0 TT_ok rfl rfl (by decide +kernel) rfl rfl (Stills.nil) ?_ | refine XA.lenS 0 TT_ok rfl rfl (by decide +kernel) rfl rfl rfl rfl (Stills.nil) ?_ | refine XA.no 0 rfl rfl (by decide +kernel) rfl (Stills.nil) ?_ | refine XA.p 1 TT_ok rfl rfl (by decide +kernel) rfl rfl (Stills.nil) ?_ | refine XA.lenS 1 TT_ok rfl rfl (by decide +kernel) rfl rfl rfl rfl (Stills.nil) ?_ | refine XA.no 1 rfl rfl (by decide +kernel) rfl (Stills.nil) ?_ | refine XA.p 2 TT_ok rfl rfl (by decide +kernel) rfl rfl (Stills.nil) ?_ | refine XA.lenS 2 TT_ok rfl rfl (by decide +kernel) rfl rfl rfl rfl (Stills.nil) ?_ | refine XA.no 2 rfl rfl (by decide +kernel) rfl (Stills.nil) ?_ | refine XA.p 3 TT_ok rfl rfl (by decide +kernel) rfl rfl (Stills.nil) ?_ | refine XA.lenS 3 TT_ok rfl rfl (by decide +kernel) rfl rfl rfl rfl (Stills.nil) ?_ | refine XA.no 3 rfl rfl (by decide +kernel) rfl (Stills.nil) ?_ | refine XA.p 4 TT_ok rfl rfl (by decide +kernel) rfl rfl (Stills.nil) ?_ | refine XA.lenS 4 TT_ok rfl rfl (by decide +kernel) rfl rfl rfl rfl (Stills.nil) ?_ | refine XA.no 4 rfl rfl (by decide +kernel) rfl (Stills.nil) ?_ | refine XA.p 5 TT_ok rfl rfl (by decide +kernel) rfl rfl (Stills.nil) ?_ | refine XA.lenS 5 TT_ok rfl rfl (by decide +kernel) rfl rfl rfl rfl (Stills.nil) ?_ | refine XA.no 5 rfl rfl (by decide +kernel) rfl (Stills.nil) ?_ | refine XA.p 6 TT_ok rfl rfl (by decide +kernel) rfl rfl (Stills.nil) ?_ | refine XA.lenS 6 TT_ok rfl rfl (by decide +kernel) rfl rfl rfl rfl (Stills.nil) ?_ | refine XA.no 6 rfl rfl (by decide +kernel) rfl (Stills.nil) ?_ | refine XA.p 7 TT_ok rfl rfl (by decide +kernel) rfl rfl (Stills.nil) ?_ | refine XA.lenS 7 TT_ok rfl rfl (by decide +kernel) rfl rfl rfl rfl (Stills.nil) ?_ | refine XA.no 7 rfl rfl (by decide +kernel) rfl (Stills.nil) ?_ | refine XA.p 8 TT_ok rfl rfl (by decide +kernel) rfl rfl (Stills.nil) ?_ | refine XA.lenS 8 TT_ok rfl rfl (by decide +kernel) rfl rfl rfl rfl (Stills.nil) ?_ | refine XA.no 8 rfl rfl (by decide +kernel) rfl (Stills.nil) ?_ | refine XA.p 9 TT_ok rfl rfl (by decide +kernel) rfl rfl (Stills.nil) ?_ | refine XA.lenS 9 TT_ok rfl rfl (by decide +kernel) rfl rfl rfl rfl (Stills.nil) ?_ | refine XA.no 9 rfl rfl (by decide +kernel) rfl (Stills.nil) ?_ | refine XA.p 10 TT_ok rfl rfl (by decide +kernel) rfl rfl (Stills.nil) ?_ | refine XA.lenS 10 TT_ok rfl rfl (by decide +kernel) rfl rfl rfl rfl (Stills.nil) ?_ | refine XA.no 10 rfl rfl (by decide +kernel) rfl (Stills.nil) ?_ | refine JA.mk (Stills.nil) ?_ | refine XA.one (i := 0) (by decide +kernel) rfl ?_ | refine XA.one (i := 1) (by decide +kernel) rfl ?_ | refine XA.one (i := 2) (by decide +kernel) rfl ?_ | refine XA.one (i := 3) (by decide +kernel) rfl ?_ | refine XA.one (i := 4) (by decide +kernel) rfl ?_ | refine XA.one (i := 5) (by decide +kernel) rfl ?_ | refine XA.one (i := 6) (by decide +kernel) rfl ?_ | refine XA.one (i := 7) (by decide +kernel) rfl ?_ | refine XA.one (i := 8) (by decide +kernel) rfl ?_ | refine XA.one (i := 9) (by decide +kernel) rfl ?_ | refine XA.one (i := 10) (by decide +kernel) rfl ?_ | refine XA.done (by decide +kernel) ?_ | refine XA.two (i := 2) (j := 7) (by decide +kernel) rfl rfl ?_ ?_ | refine XA.two (i := 2) (j := 8) (by decide +kernel) rfl rfl ?_ ?_ | refine ihc ?_ | refine XO.strAt (l := [UInt8.ofNat (48 + n % 10)]) TT_ok trivial rfl rfl rfl rfl rfl rfl rfl rfl (ReadsL.here 1) ?_ | intro (bx : Nat) | exact Out.i h | exact Out.e h (Ent.drop _ _) | fail)
set_option maxHeartbeats 2000000 in
theorem digitsN_spec : ∀ (n : Nat) {F : List HProp} {K : Value → List HProp → Prop}, 1 ≤ n → n ≤ 9223372036854775808 → K (kS (45 :: Lib.decDigits n)) F → Tri Tryd.prog 47 #[.int .i64 (-(n : Int))] w0 F K := by
  intro n
  induction n using Nat.strongRecOn with
  | _ n ih =>
  intro F K hn1 hn h
  by_cases h10 : n < 10
  · have e1 := u8_48n h10
    rw [dec_one h10] at h
    refine Tri.enterF Tryd.func47 Tryd.ntmps47 Tryd.results47 rfl rfl fun fr hfr => ?_
    repeat' (first | refine walk ?_ | exact trivial | refine Tw.mk ?_ ?_ | (intro (bx : Nat)) | intro hy | (exfalso; omega) | refine XO.convU8 _ TT_ok rfl rfl rfl rfl rfl rfl rfl e1 ?_ | refine XO.strAt (l := [UInt8.ofNat (48 + n)]) TT_ok trivial rfl rfl rfl rfl rfl rfl rfl rfl (ReadsL.here 1) ?_ | exact Out.e h (Ent.drop _ _) | fail)
  · have e1 := u8_48n (d := n % 10) (by omega)
    rw [dec_more h10] at h
    have q1 : Int.tdiv (-(n : Int)) 10 = -((n / 10 : Nat) : Int) := by rw [Int.neg_tdiv, Int.tdiv_eq_ediv_of_nonneg (by omega)]; rfl
    have q2 : Int.tmod (-(n : Int)) 10 = -((n % 10 : Nat) : Int) := by rw [Int.neg_tmod, Int.tmod_eq_emod_of_nonneg (by omega)]; rfl
    have q3 : Value.int .i64 (IntKind.i64.wrap (48 - (-((n % 10 : Nat) : Int)))) = .int .i64 ((UInt8.ofNat (48 + n % 10)).toNat : Int) := by rw [wrap64_id (by omega) (by omega), e1]
    have q4 : Value.int .u8 (IntKind.u8.wrap ((UInt8.ofNat (48 + n % 10)).toNat : Int)) = kB (UInt8.ofNat (48 + n % 10)) := congrArg (Value.int .u8) (by have := (UInt8.ofNat (48 + n % 10)).toNat_lt; rw [IntKind.wrap_u8]; omega)
    have hdl := dec_len (n := n / 10) (by omega)
    have ihc := fun {F K} => ih (n / 10) (by omega) (F := F) (K := K) (by omega) (by omega)
    refine Tri.enterF Tryd.func47 Tryd.ntmps47 Tryd.results47 rfl rfl fun fr hfr => ?_
    repeat' (first | refine walk ?_ | exact trivial | refine Tw.mk ?_ ?_ | intro hy | (exfalso; omega) | refine XS.drawA (T := TT) [] follows_ok ?_ | refine XA.quoT 1 q1 (by decide) (by omega) (by omega) rfl rfl rfl (by decide +kernel) rfl rfl rfl Stills.nil ?_ | refine XA.remT 4 q2 (by decide) rfl rfl rfl (by decide +kernel) rfl rfl rfl Stills.nil ?_ | refine XA.pE 5 (v := .int .i64 ((UInt8.ofNat (48 + n % 10)).toNat : Int)) TT_ok rfl rfl (by decide +kernel) rfl rfl q3 Stills.nil ?_ | refine XA.pE 6 (v := kB (UInt8.ofNat (48 + n % 10))) TT_ok rfl rfl (by decide +kernel) rfl rfl q4 Stills.nil ?_ | refine XA.p 0 TT_ok rfl rfl (by decide +kernel) rfl rfl (Stills.nil) ?_ | refine XA.lenS 0 TT_ok rfl rfl (by decide +kernel) rfl rfl rfl rfl (Stills.nil) ?_ | refine XA.no 0 rfl rfl (by decide +kernel) rfl (Stills.nil) ?_ | refine XA.p 1 TT_ok rfl rfl (by decide +kernel) rfl rfl (Stills.nil) ?_ | refine XA.lenS 1 TT_ok rfl rfl (by decide +kernel) rfl rfl rfl rfl (Stills.nil) ?_ | refine XA.no 1 rfl rfl (by decide +kernel) rfl (Stills.nil) ?_ | refine XA.p 2 TT_ok rfl rfl (by decide +kernel) rfl rfl (Stills.nil) ?_ | refine XA.lenS 2 TT_ok rfl rfl (by decide +kernel) rfl rfl rfl rfl (Stills.nil) ?_ | refine XA.no 2 rfl rfl (by decide +kernel) rfl (Stills.nil) ?_ | refine XA.p 3 TT_ok rfl rfl (by decide +kernel) rfl rfl (Stills.nil) ?_ | refine XA.lenS 3 TT_ok rfl rfl (by decide +kernel) rfl rfl rfl rfl (Stills.nil) ?_ | refine XA.no 3 rfl rfl (by decide +kernel) rfl (Stills.nil) ?_ | refine XA.p 4 TT_ok rfl rfl (by decide +kernel) rfl rfl (Stills.nil) ?_ | refine XA.lenS 4 TT_ok rfl rfl (by decide +kernel) rfl rfl rfl rfl (Stills.nil) ?_ | refine XA.no 4 rfl rfl (by decide +kernel) rfl (Stills.nil) ?_ | refine XA.p 5 TT_ok rfl rfl (by decide +kernel) rfl rfl (Stills.nil) ?_ | refine XA.lenS 5 TT_ok rfl rfl (by decide +kernel) rfl rfl rfl rfl (Stills.nil) ?_ | refine XA.no 5 rfl rfl (by decide +kernel) rfl (Stills.nil) ?_ | refine XA.p 6 TT_ok rfl rfl (by decide +kernel) rfl rfl (Stills.nil) ?_ | refine XA.lenS 6 TT_ok rfl rfl (by decide +kernel) rfl rfl rfl rfl (Stills.nil) ?_ | refine XA.no 6 rfl rfl (by decide +kernel) rfl (Stills.nil) ?_ | refine XA.p 7 TT_ok rfl rfl (by decide +kernel) rfl rfl (Stills.nil) ?_ | refine XA.lenS 7 TT_ok rfl rfl (by decide +kernel) rfl rfl rfl rfl (Stills.nil) ?_ | refine XA.no 7 rfl rfl (by decide +kernel) rfl (Stills.nil) ?_ | refine XA.p 8 TT_ok rfl rfl (by decide +kernel) rfl rfl (Stills.nil) ?_ | refine XA.lenS 8 TT_ok rfl rfl (by decide +kernel) rfl rfl rfl rfl (Stills.nil) ?_ | refine XA.no 8 rfl rfl (by decide +kernel) rfl (Stills.nil) ?_ | refine XA.p 9 TT_ok rfl rfl (by decide +kernel) rfl rfl (Stills.nil) ?_ | refine XA.lenS 9 TT_ok rfl rfl (by decide +kernel) rfl rfl rfl rfl (Stills.nil) ?_ | refine XA.no 9 rfl rfl (by decide +kernel) rfl (Stills.nil) ?_ | refine XA.p 10 TT_ok rfl rfl (by decide +kernel) rfl rfl (Stills.nil) ?_ | refine XA.lenS 10 TT_ok rfl rfl (by decide +kernel) rfl rfl rfl rfl (Stills.nil) ?_ | refine XA.no 10 rfl rfl (by decide +kernel) rfl (Stills.nil) ?_ | refine JA.mk (Stills.nil) ?_ | refine XA.one (i := 0) (by decide +kernel) rfl ?_ | refine XA.one (i := 1) (by decide +kernel) rfl ?_ | refine XA.one (i := 2) (by decide +kernel) rfl ?_ | refine XA.one (i := 3) (by decide +kernel) rfl ?_ | refine XA.one (i := 4) (by decide +kernel) rfl ?_ | refine XA.one (i := 5) (by decide +kernel) rfl ?_ | refine XA.one (i := 6) (by decide +kernel) rfl ?_ | refine XA.one (i := 7) (by decide +kernel) rfl ?_ | refine XA.one (i := 8) (by decide +kernel) rfl ?_ | refine XA.one (i := 9) (by decide +kernel) rfl ?_ | refine XA.one (i := 10) (by decide +kernel) rfl ?_ | refine XA.done (by decide +kernel) ?_ | refine XA.two (i := 2) (j := 7) (by decide +kernel) rfl rfl ?_ ?_ | refine XA.two (i := 2) (j := 8) (by decide +kernel) rfl rfl ?_ ?_ | refine ihc ?_ | refine XO.strAt (l := [UInt8.ofNat (48 + n % 10)]) TT_ok trivial rfl rfl rfl rfl rfl rfl rfl rfl (ReadsL.here 1) ?_ | intro (bx : Nat) | exact Out.i h | exact Out.e h (Ent.drop _ _) | fail)
theorem rdigits_spec {z : Int} (h0 : -9223372036854775808 ≤ z) (h1 : z ≤ 9223372036854775807) (h : K (kS (Lib.itoa z)) F) : Tri Tryd.prog 47 #[.int .i64 z] w0 F K := by
  by_cases hz : z < 0
  · obtain ⟨n, rfl⟩ : ∃ n : Nat, z = -(n : Int) := ⟨z.natAbs, by omega⟩
    rw [Lib.itoa_neg n (by omega)] at h
    exact digitsN_spec n (by omega) (by omega) h
  · obtain ⟨n, rfl⟩ : ∃ n : Nat, z = (n : Int) := ⟨z.toNat, by omega⟩
    rw [Lib.itoa_nonneg] at h
    exact digits_spec n (by omega) h
end Go.Proofs.YtngicmoadobgpaaDoor
