/- Some texts put together: lemmas and contracts for the law. Conditions: as each text says. -/
import Derived.Test.YtngicmoadobgpaaDoorU14
import Derived.Test.YtngicmoadobgpaaDoorU20
import Derived.Test.YtngicmoadobgpaaDoorU19
/- What a value that came in looks like, and that its data are no more than its bulk. Conditions: none. -/
namespace Go.Sx
open Go Go.RowKit Go.WideShapes Go.Deep
mutual
/-- How many bytes and elements data have. -/
def DV.bulk : DV → Nat
  | .int _ => 0
  | .bool _ => 0
  | .str s => s.size
  | .arr l => l.length + DV.bulkL l
  | .agg l => DV.bulkL l
def DV.bulkL : List DV → Nat
  | [] => 0
  | d :: l => d.bulk + DV.bulkL l
end
def sumL {α : Type} (f : α → Nat) : List α → Nat
  | [] => 0
  | x :: l => f x + sumL f l
/-- A measure of data that counts at least their bytes and elements. -/
structure Bulk {H : Type} (bk : DataW H → Nat) : Prop where
  str : ∀ b : List UInt8, b.length ≤ bk (.lit (.string b))
  slice : ∀ es sp : List (DataW H), es.length + sumL bk es ≤ bk (.slice es sp)
  agg : ∀ ps : List (DataW H), sumL bk ps ≤ bk (.agg ps)
section
variable {H : Type} {enc : TypeId × Value → H} {P : Program} {w : World} {spare : Nat → Bool} {held : Bool}
theorem bulkL_le {bk : DataW H → Nat} : ∀ {ds : List DV} {es : List (DataW H)}, ds.length = es.length → (∀ (i : Nat) x y, ds[i]? = some x → es[i]? = some y → x.bulk ≤ bk y) → DV.bulkL ds ≤ sumL bk es
  | [], _, _, _ => Nat.zero_le _
  | _ :: _, [], h, _ => by simp at h
  | d :: ds, e :: es, hl, h => by
    have h1 := h 0 d e rfl rfl
    have h2 := bulkL_le (bk := bk) (ds := ds) (es := es) (by simpa using hl) fun i x y hx hy => h (i + 1) x y (by simpa using hx) (by simpa using hy)
    simp only [DV.bulkL, sumL]; omega
mutual
theorem Sh.rdB_of {bk : DataW H → Nat} (B : Bulk bk) : ∀ (s : Sh) {t : TypeId} {fuel : Nat} {cs : List Value} {x : DataW H × List MemPlace}, s.fits P t = true → DataW.trod enc P w 0 spare held fuel t cs = some x → (∀ y ∈ x.1.weights P t, y ≤ reachBytes) → ∃ dv, s.rd w cs dv ∧ dv.bulk ≤ bk x.1
  | .int k, t, fuel, cs, x, hf, h, _ => by
    simp only [Sh.fits] at hf
    split at hf
    · rename_i k' ht
      obtain rfl := sameKind_eq hf
      obtain ⟨n, hc, _, hw⟩ := DataW.trod_int ht h
      exact ⟨.int n, ⟨n, hc, rfl, hw⟩, Nat.zero_le _⟩
    · cases hf
  | .bool, t, fuel, cs, x, hf, h, _ => by
    simp only [Sh.fits] at hf
    split at hf
    · rename_i ht
      obtain ⟨n, hc, _⟩ := DataW.trod_bool ht h
      exact ⟨.bool n, ⟨n, hc, rfl⟩, Nat.zero_le _⟩
    · cases hf
  | .str, t, fuel, cs, x, hf, h, hw => by
    simp only [Sh.fits] at hf
    split at hf
    · rename_i ht
      obtain ⟨n, hc, hx, _⟩ := DataW.trod_string ht h
      subst hx
      refine ⟨.str n, ⟨n, hc, rfl, ?_⟩, B.str n.data.toList⟩
      exact hw n.data.toList.length (by simp [DataW.weights])
    · cases hf
  | .slice bs s, t, fuel, cs, x, hf, h, hw => by
    simp only [Sh.fits] at hf
    split at hf
    · rename_i e ht
      simp only [Bool.and_eq_true] at hf
      obtain ⟨⟨⟨h1, h2⟩, h3⟩, h4⟩ := hf
      have h1 := Nat.eq_of_beq_eq_true h1
      have h2 : 0 < s.size := Nat.le_of_ble_eq_true h2
      have h3 := Nat.eq_of_beq_eq_true h3
      rcases open_slice ht h with ⟨hcs, _⟩ | ⟨a, len, cap, m, n, D, Pl, hcs, hb, hl, hm, hmm, hx, hi⟩
      · exact ⟨.arr [], ⟨_, [], hcs, rfl, by simp, .inl ⟨rfl, _, _, rfl⟩⟩, Nat.zero_le _⟩
      · subst hx
        have hw' : (len + (m - len)) * P.bytesOf e ≤ reachBytes := hw _ (by simp [DataW.weights, ht])
        have hlm : len ≤ m := by rw [hmm]; split <;> omega
        rw [h1] at hi
        have each : ∀ i, i < len → ∃ xd, ∃ l : List Value, l.length = s.size ∧ (∀ j u, l[j]? = some u → w.cell? (a.add (i * s.size + j)) = some u) ∧ s.rd w l xd ∧ xd.bulk ≤ bk (D i) := fun i hil => by
          obtain ⟨cs', hc, ht'⟩ := hi i (by omega)
          obtain ⟨_, hcl, hat⟩ := World.cells?_some hc
          obtain ⟨dv, hdv, hbk⟩ := Sh.rdB_of B s h4 ht' (fun y hy => hw y (by
            simp only [DataW.weights, ht, List.mem_cons, List.mem_append]
            exact .inr (.inl (weightsAll_mem (List.mem_map.2 ⟨i, List.mem_range.2 hil, rfl⟩) y hy))))
          refine ⟨dv, cs', hcl, fun j u hu => ?_, hdv, hbk⟩
          have hjl : j < s.size := by have := (List.getElem?_eq_some_iff.1 hu).1; omega
          rw [← Go.Deep.add_add, hat j hjl]; exact hu
        obtain ⟨ds, hlen, hds⟩ := dvs_exist each
        have hsum : DV.bulkL ds ≤ sumL bk ((List.range len).map D) := bulkL_le (by simp [hlen]) fun i x y hx hy => by
          obtain ⟨_, _, _, _, h5⟩ := hds i x hx
          rw [List.getElem?_map] at hy
          have hi2 := (List.getElem?_eq_some_iff.1 hx).1
          rw [List.getElem?_range (by omega)] at hy
          injection hy with hy
          rw [← hy]; exact h5
        refine ⟨.arr ds, ⟨_, ds, hcs, rfl, ?_, ?_⟩, by
          refine Nat.le_trans ?_ (B.slice _ _)
          simp only [DV.bulk, List.length_map, List.length_range, hlen]; omega⟩
        · rw [hlen, ← h3]
          exact Nat.le_trans (Nat.mul_le_mul_right _ (by omega)) hw'
        · by_cases h0 : len = 0
          · subst h0
            exact .inl ⟨List.length_eq_zero_iff.1 hlen, _, _, rfl⟩
          · obtain ⟨b, off, spot⟩ := a
            obtain ⟨l0, hl0, hc0, _, _⟩ := hds 0 _ (List.getElem?_eq_getElem (by omega))
            have hu0 : l0[0]? = some (l0[0]'(by omega)) := List.getElem?_eq_getElem (by omega)
            have hcell := hc0 0 _ hu0
            have hspot : spot = none := by simpa [Addr.add] using World.cell?_spot hcell
            subst hspot
            refine .inr ⟨b, off, cap, by rw [hlen], by omega, fun i xd hxd => ?_⟩
            obtain ⟨l, hl1, hl2, hl3, _⟩ := hds i xd hxd
            refine ⟨l, hl1, fun j u hu => ?_, hl3⟩
            have := hl2 j u hu
            rw [Addr.add_mk] at this
            exact this
    · cases hf
  | .agg ss, t, fuel, cs, x, hf, h, hw => by
    simp only [Sh.fits] at hf
    split at hf
    · rename_i fs ht
      simp only [Bool.and_eq_true] at hf
      obtain ⟨h1, h2⟩ := hf
      have h1 := Nat.eq_of_beq_eq_true h1
      obtain ⟨xs, n, _, hx, hcl, hxl, hfl⟩ := DataW.trod_struct ht h
      subst hx
      obtain ⟨ds, hds, hbk⟩ := Sh.rdLB_of B ss fs.toList 0 h2 (n := n) (cs := cs) (xs := xs) (by omega) (by simpa using hxl) (fun i f hf => hfl i f (by simpa using hf)) (fun y hy => hw y (by simpa [DataW.weights, ht] using hy))
      exact ⟨.agg ds, ⟨ds, rfl, by simpa using hds⟩, Nat.le_trans hbk (B.agg _)⟩
    · cases hf
theorem Sh.rdLB_of {bk : DataW H → Nat} (B : Bulk bk) : ∀ (ss : List Sh) (fs : List Field) (off : Nat), Sh.fitsL P ss fs off = true → ∀ {n : Nat} {cs : List Value} {xs : List (DataW H × List MemPlace)}, cs.length = off + Sh.sizeL ss → xs.length = fs.length →
    (∀ (i : Nat) (f : Field), fs[i]? = some f → DataW.trod enc P w 0 spare held n f.type ((cs.drop f.offset).take (P.cellsOf f.type)) = xs[i]?) → (∀ y ∈ DataW.weightsEach P (fs.map (·.type)) (xs.map (·.1)), y ≤ reachBytes) → ∃ ds, Sh.rdL w ss (cs.drop off) ds ∧ DV.bulkL ds ≤ sumL bk (xs.map (·.1))
  | [], [], off, _, n, cs, xs, hl, _, _, _ => ⟨[], ⟨by simp [Sh.sizeL] at hl; simp [hl], rfl⟩, Nat.zero_le _⟩
  | [], _ :: _, off, hf, n, cs, xs, _, _, _, _ => by cases hf
  | _ :: _, [], off, hf, n, cs, xs, _, _, _, _ => by cases hf
  | s :: ss, f :: fs, off, hf, n, cs, xs, hl, hxl, hfl, hw => by
    simp only [Sh.fitsL, Bool.and_eq_true] at hf
    obtain ⟨⟨⟨h1, h2⟩, h3⟩, h4⟩ := hf
    have h1 := Nat.eq_of_beq_eq_true h1
    have h2 := Nat.eq_of_beq_eq_true h2
    cases xs with
    | nil => simp at hxl
    | cons x xs =>
      simp only [Sh.sizeL] at hl
      have hx := hfl 0 f rfl
      simp only [List.getElem?_cons_zero] at hx
      rw [h1, h2] at hx
      obtain ⟨dv, hdv, hb1⟩ := Sh.rdB_of B s h3 hx (fun y hy => hw y (by simp [DataW.weightsEach, hy]))
      obtain ⟨ds, hds, hb2⟩ := Sh.rdLB_of B ss fs (off + s.size) h4 (n := n) (cs := cs) (xs := xs) (by omega) (by simpa using hxl) (fun i f hf => by simpa using hfl (i + 1) f (by simpa using hf)) (fun y hy => hw y (by simp [DataW.weightsEach, hy]))
      refine ⟨dv :: ds, ⟨(cs.drop off).take s.size, cs.drop (off + s.size), dv, ds, ?_, rfl, ?_, hdv, hds⟩, by simp only [DV.bulkL, List.map_cons, sumL]; omega⟩
      · rw [← List.drop_drop, List.take_append_drop]
      · rw [List.length_take, List.length_drop]; omega
end
end
/-- A slice, its elements of a type of one's own. -/
theorem Sh.slice_ofB {α : Type} {w : World} {bs : Nat} {s : Sh} {v : Value} {d : DV} {enc : α → List Value} {m : α → Nat} (h : (Sh.slice bs s).rd w [v] d) (dec : ∀ l x, s.rd w l x → ∃ a, l = enc a ∧ m a ≤ x.bulk) : ∃ xs : List α, xs.length + sumL m xs ≤ d.bulk ∧ Base w v s.size xs.length (flat enc xs) := by
  obtain ⟨v', ds, hv, rfl, hbs, hr⟩ := h
  injection hv with hv _
  subst hv
  rcases hr with ⟨rfl, a, c, rfl⟩ | ⟨b, off, c, rfl, hc, hr⟩
  · exact ⟨[], Nat.zero_le _, by simp [flat], .inl ⟨rfl, a, c, rfl⟩⟩
  · have key : ∀ (ds : List DV) (k : Nat), (∀ i x, ds[i]? = some x → ∃ l : List Value, l.length = s.size ∧ (∀ j u, l[j]? = some u → w.cell? ⟨b, off + ((k + i) * s.size + j), none⟩ = some u) ∧ Sh.rd w s l x) → ∃ xs : List α, xs.length = ds.length ∧ sumL m xs ≤ DV.bulkL ds ∧ (∀ a ∈ xs, (enc a).length = s.size) ∧ ∀ j u, (flat enc xs)[j]? = some u → w.cell? ⟨b, off + (k * s.size + j), none⟩ = some u := by
      intro ds
      induction ds with
      | nil => exact fun k _ => ⟨[], rfl, Nat.zero_le _, (fun _ h => by cases h), fun j u hj => by simp [flat] at hj⟩
      | cons x ds ih =>
        intro k hk
        obtain ⟨l, hl1, hl2, hl3⟩ := hk 0 x rfl
        obtain ⟨a, rfl, pa⟩ := dec l x hl3
        obtain ⟨xs, hx1, hxm, hx2, hx3⟩ := ih (k + 1) (fun i y hy => by
          obtain ⟨l', h1, h2, h3⟩ := hk (i + 1) y (by simpa using hy)
          exact ⟨l', h1, fun j u hu => by have := h2 j u hu; rwa [show k + 1 + i = k + (i + 1) by omega], h3⟩)
        refine ⟨a :: xs, by simp [hx1], by simp only [sumL, DV.bulkL]; omega, fun y hy => ?_, fun j u hu => ?_⟩
        · rcases List.mem_cons.1 hy with rfl | hy
          · exact hl1
          · exact hx2 y hy
        · rw [flat_cons, List.getElem?_append] at hu
          split at hu
          · have := hl2 j u hu; rwa [Nat.add_zero] at this
          · rename_i hge
            have := hx3 _ u hu
            rw [hl1] at hge this
            rw [show k * s.size + j = (k + 1) * s.size + (j - s.size) by rw [Nat.add_mul]; omega]
            exact this
    obtain ⟨xs, h1, hm, h2, h3⟩ := key ds 0 (fun i x hx => by simpa using hr i x hx)
    refine ⟨xs, by simp only [DV.bulk]; omega, ?_, .inr ⟨b, off, c, by rw [h1], by rw [h1]; exact hc, fun k x hx => by have := h3 k x hx; simpa using this⟩⟩
    have : ∀ xs : List α, (∀ a ∈ xs, (enc a).length = s.size) → (flat enc xs).length = xs.length * s.size := by
      intro xs
      induction xs with
      | nil => intro _; simp [flat]
      | cons a xs ih =>
        intro h
        rw [flat_cons, List.length_append, h a (List.mem_cons_self ..), ih (fun b hb => h b (List.mem_cons_of_mem _ hb)), List.length_cons, Nat.add_mul]; omega
    exact this xs h2
end Go.Sx

/- Contracts: copies, two lists alike, the anchor of the laws on what is written. Conditions: the texts are small. -/
namespace Go.Sx
open Go Go.RowKit
/-- Cells that are held together. -/
def heldR (a : Addr) (l : List Value) : Fact := fun w => ∀ (j : Nat) v, l[j]? = some v → w.cell? (a.add j) = some v
section
variable {w0 : World} {F : List HProp} {b : Nat} {t : TypeId} {l : List Value}
theorem heldR_0 : ∀ w, Rel w0 (cel b t l :: F) w → heldR ⟨b, 0, none⟩ l w := fun w h j v hj => by
  rw [Addr.add_mk, Nat.zero_add]; exact Reads.here hj w h
theorem heldR_s {c : HProp} {p : World → Prop} (h : ∀ w, Rel w0 F w → p w) : ∀ w, Rel w0 (c :: F) w → p w := fun w hr => h w (hr.ent (Ent.drop _ _))
end
section
variable {P : Program} {T : Tbl} {w0 : World} {n : Nat} {HL : Held} {ops : Array Oper} {J : Env → List HProp → Prop} {ix : Nat} {rest : List Oper} {o : Oper} {e : Env} {H : List HProp}
theorem XO.loadRH {t : TypeId} {x : Operand} {a : Addr} {l : List Value} {d : Nat} (hT : T.Ok P) (hh : heldAt HL ix = some (heldR a l)) (hg : wantedE ops e n o = true) (hd : o.dst = some d) (hop : o.op = .load t x) (hx : e.ev n x = .pointer (some a)) (ha : aggT T t = some true)
    (hs : T.size t = some l.length) (hr : ∀ w, Rel w0 H w → heldR a l w) (h : XO P T w0 n HL ops J (ix + 1) rest (e.upd d (.agg ⟨l⟩)) H) : XO P T w0 n HL ops J ix (o :: rest) e H := by
  refine .holdOp (v := .agg ⟨l⟩) hh hg (by rw [hop]; rfl) (fun w hw => ?_) hr (by rw [hd]; exact h)
  simp only [execOp, hop, hx, Instr.loadAt, Instr.sureAddr, loadVar, Sem.run_bind, Sem.run_pure, Result.andThen_ok, run_isAgg hT ha, if_true, run_size hT hs, run_loadCells_list w a l (fun j v hj => hw j v hj)]
end
end Go.Sx
namespace Go.Proofs.YtngicmoadobgpaaDoor
open Go Go.Sx Go.ChunkM Go.StrM Go.EmitM
variable {w0 : World} {F H : List HProp} {K : Value → List HProp → Prop}
theorem copied_spec {fs : List Fld} {a : Option Addr} {c : Nat} (hS : FsS fs) (h : ∀ a2 c2, K (.slice a2 fs.length c2) (fView w0 (.slice a2 fs.length c2) fs :: fView w0 (.slice a fs.length c) fs :: F)) : Tri Tryd.prog 19 #[.slice a fs.length c] w0 (fView w0 (.slice a fs.length c) fs :: F) K := by
  have hl1 := hS.1
  have e0 : 0 + fs.length = fs.length := Nat.zero_add _
  have hK : ∀ a2 c2, K (.slice a2 (0 + fs.length) c2) (fView w0 (.slice a2 fs.length c2) fs :: fView w0 (.slice a fs.length c) fs :: F) := fun a2 c2 => by rw [e0]; exact h a2 c2
  refine Tri.enterF Tryd.func19 Tryd.ntmps19 Tryd.results19 rfl rfl fun fr hfr => ?_
  repeat' (first | refine walk ?_ | exact trivial | refine Tw.mk ?_ ?_ | refine XO.buildSlice0 TT_ok trivial rfl rfl rfl rfl rfl (fun _ => trivial) (fun b3 => ?_) | (refine XO.appendV (k := 0) (N := 4398046511104) TT_ok (fun _ => trivial) rfl rfl rfl rfl rfl rfl rfl rfl rfl rfl rfl (by rw [flat_length fenc_len]) (flat_all fenc_all _) (by omega) rfl rfl (fun a5 cap5 => ?_)) | (refine Out.e (hK _ _) ?_; rw [e0]; exact Ent.rowView) | fail)
theorem same_self (a : List UInt8) : (S a == S a) = true := by
  show (a.toArray == a.toArray) = true
  simp
theorem same_no {a b : List UInt8} (h : ((S a == S a) && ((S b == S b) && true)) = false) : False := by rw [same_self, same_self] at h; cases h
theorem same_spec {fs : List Fld} {a a2 : Option Addr} {c c2 : Nat} (hS : FsS fs) (h : K (.bool true) (fView w0 (.slice a2 fs.length c2) fs :: fView w0 (.slice a fs.length c) fs :: F)) : Tri Tryd.prog 27 #[.slice a2 fs.length c2, .slice a fs.length c] w0 (fView w0 (.slice a2 fs.length c2) fs :: fView w0 (.slice a fs.length c) fs :: F) K := by
  have hS1 := hS.1
  refine Tri.enterF Tryd.func27 Tryd.ntmps27 Tryd.results27 rfl rfl fun fr hfr => ?_
  repeat' (first | refine walk ?_ | exact trivial | refine Tw.mk ?_ ?_ | intro hy | (exfalso; omega) | fail)
  refine XS.loopI (ι := Nat) (fun i => [(0, .slice a2 fs.length c2), (1, .slice a fs.length c), (5, kI i)]) (fun _ => fView w0 (.slice a2 fs.length c2) fs :: fView w0 (.slice a fs.length c) fs :: F)
    (fun i => i ≤ fs.length) (fun i => fs.length - i) 0 (Nat.zero_le _) ⟨rfl, rfl, rfl, trivial⟩ (Ent.refl _) ?_
  rintro i e hi ih
  by_cases hlt : i < fs.length
  · obtain ⟨⟨n1, v1⟩, hf⟩ : ∃ f, fs[i]? = some f := ⟨_, List.getElem?_eq_getElem hlt⟩
    refine XS.viewOpen (by omega) fun g off c3 hv hc3 => ?_
    injection hv with hv1 _ hv3
    subst hv1 hv3
    refine XS.sel1 (c := fView w0 (.slice a fs.length c) fs) (XS.viewOpen (by omega) fun g2 off2 c4 hv hc4 => ?_)
    injection hv with hv1 _ hv3
    subst hv1 hv3
    repeat' (first | refine walk ?_ | exact trivial | refine Tw.mk ?_ ?_ | intro hy | (exfalso; omega) | (exfalso; exact same_no (by assumption)) | refine XO.loadN TT_ok rfl rfl rfl rfl rfl rfl rfl (ReadsN.viewFlat fenc_len hf) ?_ | refine XO.loadN TT_ok rfl rfl rfl rfl rfl rfl rfl (ReadsN.skip (ReadsN.viewFlat fenc_len hf)) ?_ | refine XO.neS TT_ok rfl rfl (by kernel_rfl) (by kernel_rfl) rfl rfl rfl rfl rfl rfl (fun hz => ?_) (fun hz => ?_) | fail)
    exact ih (i + 1) _ _ hlt (by omega) ⟨rfl, rfl, rfl, trivial⟩ (Ent.trans (Ent.viewAt hc4) (Ent.trans (Ent.swap _ _ _) (Ent.viewAt hc3)))
  · obtain rfl : i = fs.length := by omega
    clear ih
    repeat' (first | refine walk ?_ | exact trivial | refine Tw.mk ?_ ?_ | intro hy | (exfalso; omega) | exact Out.i h | fail)
theorem i404 : Lib.itoa 404 = [52, 48, 52] := by
  rw [show (404 : Int) = ((404 : Nat) : Int) from rfl, Lib.itoa_nonneg, dec_more (by decide), dec_more (by decide), dec_one (by decide)]; rfl
theorem i2 : Lib.itoa ((([110, 111] : List UInt8)).length : Int) = [50] := by
  rw [Lib.itoa_nonneg, dec_one (by decide)]; rfl
theorem anc : localL 404 [] [110, 111] false false = [72, 84, 84, 80, 47, 49, 46, 49, 32, 52, 48, 52, 32, 78, 111, 116, 32, 70, 111, 117, 110, 100, 13, 10, 86, 105, 97, 58, 32, 49, 46, 49, 32, 98, 97, 114, 98, 105, 99, 97, 110, 13, 10, 67, 111, 110, 116, 101, 110, 116, 45, 76, 101, 110, 103, 116, 104, 58, 32, 50, 13, 10, 67, 111, 110, 110, 101, 99, 116, 105, 111, 110, 58, 32, 99, 108, 111, 115, 101, 13, 10, 13, 10, 110, 111] := by
  unfold localL headL frameL
  rw [i404, i2]
  rfl
theorem eanchor_spec (ht : T10 w0) (h : K (.bool true) F) : Tri Tryd.prog 18 #[] w0 F K := by
  have e1 := anc
  have hl := fun {K : Value → List HProp → Prop} (h : K (kS (localL 404 [] [110, 111] false false)) (fView w0 (.slice none 0 0) [] :: F)) => local_spec (F := F) (K := K) (fs := []) (a := none) (c := 0) (st := 404) (body := [110, 111]) (keep := false) (bodiless := false) ht ⟨by simp, by simp [fbytes]⟩ ⟨by omega, by omega⟩ (by simp) h
  refine Tri.enterF Tryd.func18 Tryd.ntmps18 Tryd.results18 rfl rfl fun fr hfr => ?_
  repeat' (first | refine walk ?_ | exact trivial | refine Tw.mk ?_ ?_ | refine Tri.ent (Ent.nilView 2 none 0) (hl ?_) | exact Out.e h (Ent.drop _ _) | fail)
end Go.Proofs.YtngicmoadobgpaaDoor

/- The laws on heads and on requests. Conditions: the texts are small. -/
namespace Go.Proofs.YtngicmoadobgpaaDoor
open Go Go.Sx Go.ChunkM Go.StrM Go.EmitM
variable {w0 : World} {F H : List HProp} {K : Value → List HProp → Prop}
theorem plainReply_spec {st : Int} {rs : List UInt8} {a : Option Addr} {n c : Nat} {fm ln : Int} {keep : Bool} {up : List UInt8} (h : K (repV st rs a n c fm ln keep up) F) : Tri Tryd.prog 22 #[repV st rs a n c fm ln keep up] w0 F K := by
  unfold repV at h ⊢
  cases keep
  ·
    refine Tri.enterF Tryd.func22 Tryd.ntmps22 Tryd.results22 rfl rfl fun fr hfr => ?_
    repeat' (first | refine walk ?_ | exact trivial | refine Tw.mk ?_ ?_ | (intro (bt : Nat)) | exact Out.e h (Ent.trans (Ent.drop _ _) (Ent.drop _ _)) | fail)
  ·
    refine Tri.enterF Tryd.func22 Tryd.ntmps22 Tryd.results22 rfl rfl fun fr hfr => ?_
    repeat' (first | refine walk ?_ | exact trivial | refine Tw.mk ?_ ?_ | (intro (bt : Nat)) | exact Out.e h (Ent.trans (Ent.drop _ _) (Ent.drop _ _)) | fail)
theorem plainAsk_spec {m t hs body frm up : List UInt8} {port : Int} {sized : Bool} {a : Option Addr} {n c : Nat} (h : K (askV m t hs port a n c body sized frm up) F) : Tri Tryd.prog 30 #[askV m t hs port a n c body sized frm up] w0 F K := by
  unfold askV at h ⊢
  cases sized
  ·
    refine Tri.enterF Tryd.func30 Tryd.ntmps30 Tryd.results30 rfl rfl fun fr hfr => ?_
    repeat' (first | refine walk ?_ | exact trivial | refine Tw.mk ?_ ?_ | (intro (bt : Nat)) | exact Out.e h (Ent.trans (Ent.drop _ _) (Ent.drop _ _)) | fail)
  ·
    refine Tri.enterF Tryd.func30 Tryd.ntmps30 Tryd.results30 rfl rfl fun fr hfr => ?_
    repeat' (first | refine walk ?_ | exact trivial | refine Tw.mk ?_ ?_ | (intro (bt : Nat)) | exact Out.e h (Ent.trans (Ent.drop _ _) (Ent.drop _ _)) | fail)
theorem heads_ok {st : Int} {rs body : List UInt8} {fs : List Fld} {a : Option Addr} {c : Nat} {fm ln : Int} {keep bl : Bool} {up : List UInt8} (ht : T10 w0) (hS : FsS fs) (hst : i64 st) (hln : i64 ln) (hrs : rs.length ≤ 2097152) (hup : up.length ≤ 2097152) (hb : body.length ≤ 2097152) :
    Tri Tryd.prog 7 #[repV st rs a fs.length c fm ln keep up, kS body, .bool bl] w0 (fView w0 (.slice a fs.length c) fs :: F) (fun v _ => v = .bool true) := by
  unfold repV
  refine Tri.enterF Tryd.func7 Tryd.ntmps7 Tryd.results7 rfl rfl fun fr hfr => ?_
  repeat' (first | refine walk ?_ | exact trivial | refine Tw.mk ?_ ?_ | (intro (bt : Nat)) | refine eanchor_spec ht ?_ | refine Tri.sel1 (copied_spec hS (fun a2 c2 => ?_)) | (exfalso; assumption) | fail)
  rename_i b1
  refine XS.drawH (T := TT) [(2, [1], heldR ⟨b1, 0, none⟩ [.int .i64 st, kS rs, .slice a fs.length c, .int .i64 fm, .int .i64 ln, .bool keep, kS up]), (11, [9], heldC ⟨b1, 0, none⟩ (.int .i64 st))] [(2, [1]), (11, [9])] rfl follows_ok (by decide +kernel) ?_
  repeat' (first | refine walk ?_ | exact trivial | refine Tw.mk ?_ ?_ | intro hy | (refine Tri.sel1 (head_spec (st := st) (rs := rs) (fs := fs) (a := a2) (c := c2) (fm := fm) (ln := ln) (keep := keep) (up := up) ht hS hst hln hrs hup ?_)) | (refine plainReply_spec (st := st) (rs := rs) (a := a) (n := fs.length) (c := c) (fm := fm) (ln := ln) (keep := keep) (up := up) ?_) | (refine Tri.sel1 (rhead_spec (st := st) (rs := rs) (fs := fs) (a := a) (c := c) (fm := fm) (ln := ln) (keep := keep) (up := up) hS hst hln hrs hup ?_)) | refine reason_spec ?_ | refine rreason_spec ?_ | (exfalso; exact absurd rfl (by assumption)) | refine XO.callH (by repeat' (first | exact trivial | exact readA | exact heldR_0 | exact heldR_s heldR_0 | exact heldR_s (heldR_s heldR_0) | exact heldR_s (heldR_s (heldR_s heldR_0)) | exact heldR_s (heldR_s (heldR_s (heldR_s heldR_0))) | exact heldR_s (heldR_s (heldR_s (heldR_s (heldR_s heldR_0)))) | refine And.intro ?_ ?_)) rfl rfl rfl (by kernel_rfl) rfl ?_ | refine And.intro (by repeat' (first | exact trivial | exact readA | exact heldR_0 | exact heldR_s heldR_0 | exact heldR_s (heldR_s heldR_0) | exact heldR_s (heldR_s (heldR_s heldR_0)) | exact heldR_s (heldR_s (heldR_s (heldR_s heldR_0))) | exact heldR_s (heldR_s (heldR_s (heldR_s (heldR_s heldR_0)))) | refine And.intro ?_ ?_)) ?_ | refine XO.loadH TT_ok rfl rfl rfl rfl rfl rfl readA ?_ | refine XO.loadRH TT_ok rfl rfl rfl rfl rfl rfl rfl (by first | exact heldR_0 | exact heldR_s heldR_0 | exact heldR_s (heldR_s heldR_0) | exact heldR_s (heldR_s (heldR_s heldR_0)) | exact heldR_s (heldR_s (heldR_s (heldR_s heldR_0))) | exact heldR_s (heldR_s (heldR_s (heldR_s (heldR_s heldR_0))))) ?_ | fail)
  cases keep
  ·
    refine XS.drawH (T := TT) [(10, [8], heldC ⟨b1, 0, none⟩ (.int .i64 st)), (12, [8], heldC ⟨b1, 2, none⟩ (.slice a fs.length c)), (15, [8], heldC ⟨b1, 5, none⟩ (.bool false))] [(10, [8]), (12, [8]), (15, [8])] rfl follows_ok (by decide +kernel) ?_
    repeat' (first | refine walk ?_ | exact trivial | refine Tw.mk ?_ ?_ | intro hy | (refine Tri.sel1 (local_spec (st := st) (fs := fs) (a := a2) (c := c2) (body := body) (keep := false) (bodiless := bl) ht hS hst hb ?_)) | (refine Tri.sel1 (rlocal_spec (st := st) (fs := fs) (a := a) (c := c) (body := body) (keep := false) (bodiless := bl) hS hst hb ?_)) | (refine Tri.sel2 (same_spec (a2 := a2) (a := a) (c2 := c2) (c := c) hS ?_)) | exact Out.i rfl | refine XO.callH (by repeat' (first | exact trivial | exact readA | exact heldR_0 | exact heldR_s heldR_0 | exact heldR_s (heldR_s heldR_0) | exact heldR_s (heldR_s (heldR_s heldR_0)) | exact heldR_s (heldR_s (heldR_s (heldR_s heldR_0))) | exact heldR_s (heldR_s (heldR_s (heldR_s (heldR_s heldR_0)))) | refine And.intro ?_ ?_)) rfl rfl rfl (by kernel_rfl) rfl ?_ | refine And.intro (by repeat' (first | exact trivial | exact readA | exact heldR_0 | exact heldR_s heldR_0 | exact heldR_s (heldR_s heldR_0) | exact heldR_s (heldR_s (heldR_s heldR_0)) | exact heldR_s (heldR_s (heldR_s (heldR_s heldR_0))) | exact heldR_s (heldR_s (heldR_s (heldR_s (heldR_s heldR_0)))) | refine And.intro ?_ ?_)) ?_ | refine XO.loadH TT_ok rfl rfl rfl rfl rfl rfl readA ?_ | refine XO.loadRH TT_ok rfl rfl rfl rfl rfl rfl rfl (by first | exact heldR_0 | exact heldR_s heldR_0 | exact heldR_s (heldR_s heldR_0) | exact heldR_s (heldR_s (heldR_s heldR_0)) | exact heldR_s (heldR_s (heldR_s (heldR_s heldR_0))) | exact heldR_s (heldR_s (heldR_s (heldR_s (heldR_s heldR_0))))) ?_ | fail)
  ·
    refine XS.drawH (T := TT) [(10, [8], heldC ⟨b1, 0, none⟩ (.int .i64 st)), (12, [8], heldC ⟨b1, 2, none⟩ (.slice a fs.length c)), (15, [8], heldC ⟨b1, 5, none⟩ (.bool true))] [(10, [8]), (12, [8]), (15, [8])] rfl follows_ok (by decide +kernel) ?_
    repeat' (first | refine walk ?_ | exact trivial | refine Tw.mk ?_ ?_ | intro hy | (refine Tri.sel1 (local_spec (st := st) (fs := fs) (a := a2) (c := c2) (body := body) (keep := true) (bodiless := bl) ht hS hst hb ?_)) | (refine Tri.sel1 (rlocal_spec (st := st) (fs := fs) (a := a) (c := c) (body := body) (keep := true) (bodiless := bl) hS hst hb ?_)) | (refine Tri.sel2 (same_spec (a2 := a2) (a := a) (c2 := c2) (c := c) hS ?_)) | exact Out.i rfl | refine XO.callH (by repeat' (first | exact trivial | exact readA | exact heldR_0 | exact heldR_s heldR_0 | exact heldR_s (heldR_s heldR_0) | exact heldR_s (heldR_s (heldR_s heldR_0)) | exact heldR_s (heldR_s (heldR_s (heldR_s heldR_0))) | exact heldR_s (heldR_s (heldR_s (heldR_s (heldR_s heldR_0)))) | refine And.intro ?_ ?_)) rfl rfl rfl (by kernel_rfl) rfl ?_ | refine And.intro (by repeat' (first | exact trivial | exact readA | exact heldR_0 | exact heldR_s heldR_0 | exact heldR_s (heldR_s heldR_0) | exact heldR_s (heldR_s (heldR_s heldR_0)) | exact heldR_s (heldR_s (heldR_s (heldR_s heldR_0))) | exact heldR_s (heldR_s (heldR_s (heldR_s (heldR_s heldR_0)))) | refine And.intro ?_ ?_)) ?_ | refine XO.loadH TT_ok rfl rfl rfl rfl rfl rfl readA ?_ | refine XO.loadRH TT_ok rfl rfl rfl rfl rfl rfl rfl (by first | exact heldR_0 | exact heldR_s heldR_0 | exact heldR_s (heldR_s heldR_0) | exact heldR_s (heldR_s (heldR_s heldR_0)) | exact heldR_s (heldR_s (heldR_s (heldR_s heldR_0))) | exact heldR_s (heldR_s (heldR_s (heldR_s (heldR_s heldR_0))))) ?_ | fail)
theorem requests_ok {m t hs body frm up : List UInt8} {port : Int} {sized : Bool} {fs : List Fld} {a : Option Addr} {c : Nat} (ht : T10 w0) (hS : FsS fs) (hpt : i64 port) (hm : m.length ≤ 2097152) (htt : t.length ≤ 2097152) (hhs : hs.length ≤ 2097152) (hbd : body.length ≤ 2097152) (hfm : frm.length ≤ 2097152) (hup : up.length ≤ 2097152) :
    Tri Tryd.prog 8 #[askV m t hs port a fs.length c body sized frm up] w0 (fView w0 (.slice a fs.length c) fs :: F) (fun v _ => v = .bool true) := by
  unfold askV
  refine Tri.enterF Tryd.func8 Tryd.ntmps8 Tryd.results8 rfl rfl fun fr hfr => ?_
  repeat' (first | refine walk ?_ | exact trivial | refine Tw.mk ?_ ?_ | (intro (bt : Nat)) | refine eanchor_spec ht ?_ | refine Tri.sel1 (copied_spec hS (fun a2 c2 => ?_)) | fail)
  rename_i b1
  refine XS.drawH (T := TT) [(2, [1], heldR ⟨b1, 0, none⟩ [kS m, kS t, kS hs, .int .i64 port, .slice a fs.length c, kS body, .bool sized, kS frm, kS up])] [(2, [1])] rfl follows_ok (by decide +kernel) ?_
  repeat' (first | refine walk ?_ | exact trivial | refine Tw.mk ?_ ?_ | intro hy | (refine Tri.sel1 (request_spec (m := m) (t := t) (hs := hs) (port := port) (fs := fs) (a := a2) (c := c2) (body := body) (sized := sized) (frm := frm) (up := up) ht hS hpt hm htt hhs hbd hfm hup ?_)) | (refine plainAsk_spec (m := m) (t := t) (hs := hs) (port := port) (a := a) (n := fs.length) (c := c) (body := body) (sized := sized) (frm := frm) (up := up) ?_) | (refine Tri.sel1 (rrequest_spec (m := m) (t := t) (hs := hs) (port := port) (fs := fs) (a := a) (c := c) (body := body) (sized := sized) (frm := frm) (up := up) hS hpt hm htt hhs hbd hfm hup ?_)) | (refine Tri.sel2 (same_spec (a2 := a2) (a := a) (c2 := c2) (c := c) hS ?_)) | exact Out.i rfl | refine XO.callH (by repeat' (first | exact trivial | exact readA | exact heldR_0 | exact heldR_s heldR_0 | exact heldR_s (heldR_s heldR_0) | exact heldR_s (heldR_s (heldR_s heldR_0)) | exact heldR_s (heldR_s (heldR_s (heldR_s heldR_0))) | exact heldR_s (heldR_s (heldR_s (heldR_s (heldR_s heldR_0)))) | refine And.intro ?_ ?_)) rfl rfl rfl (by kernel_rfl) rfl ?_ | refine And.intro (by repeat' (first | exact trivial | exact readA | exact heldR_0 | exact heldR_s heldR_0 | exact heldR_s (heldR_s heldR_0) | exact heldR_s (heldR_s (heldR_s heldR_0)) | exact heldR_s (heldR_s (heldR_s (heldR_s heldR_0))) | exact heldR_s (heldR_s (heldR_s (heldR_s (heldR_s heldR_0)))) | refine And.intro ?_ ?_)) ?_ | refine XO.loadH TT_ok rfl rfl rfl rfl rfl rfl readA ?_ | refine XO.loadRH TT_ok rfl rfl rfl rfl rfl rfl rfl (by first | exact heldR_0 | exact heldR_s heldR_0 | exact heldR_s (heldR_s heldR_0) | exact heldR_s (heldR_s (heldR_s heldR_0)) | exact heldR_s (heldR_s (heldR_s (heldR_s heldR_0))) | exact heldR_s (heldR_s (heldR_s (heldR_s (heldR_s heldR_0))))) ?_ | fail)
end Go.Proofs.YtngicmoadobgpaaDoor

/- The law on what is left out. Conditions: the texts are small. -/
namespace Go.Proofs.YtngicmoadobgpaaDoor
open Go Go.Sx Go.ChunkM Go.StrM Go.EmitM
variable {w0 : World} {F H : List HProp} {K : Value → List HProp → Prop}
theorem i200 : Lib.itoa 200 = [50, 48, 48] := by
  rw [show (200 : Int) = ((200 : Nat) : Int) from rfl, Lib.itoa_nonneg, dec_more (by decide), dec_more (by decide), dec_one (by decide)]; rfl
theorem request_w {fs : List Fld} {a : Option Addr} {c : Nat} {up : List UInt8} (ht : T10 w0) (hS : FsS fs) (hup : up.length ≤ 2097152) (h : K (kS (reqLine ++ 13 :: 10 :: (fls (reqFs fs up) ++ [13, 10]))) (fView w0 (.slice a fs.length c) fs :: F)) :
    Tri Tryd.prog 28 #[.agg #[kS [71, 69, 84], kS [47], kS [104], .int .i64 0, .slice a fs.length c, kS [], .bool false, kS [49], kS up]] w0 (fView w0 (.slice a fs.length c) fs :: F) K :=
  request_spec (m := [71, 69, 84]) (t := [47]) (hs := [104]) (port := 0) (body := []) (sized := false) (frm := [49]) ht hS ⟨by omega, by omega⟩ (by simp) (by simp) (by simp) (by simp) (by simp) hup (by rw [req_eq]; exact h)
theorem head_w {fs : List Fld} {a : Option Addr} {c : Nat} {up : List UInt8} (ht : T10 w0) (hS : FsS fs) (hup : up.length ≤ 2097152) (h : K (kS (stLine ++ 13 :: 10 :: (fls (hdFs fs up) ++ [13, 10]))) (fView w0 (.slice a fs.length c) fs :: F)) :
    Tri Tryd.prog 20 #[.agg #[.int .i64 200, kS [], .slice a fs.length c, .int .i64 1, .int .i64 0, .bool true, kS up]] w0 (fView w0 (.slice a fs.length c) fs :: F) K :=
  head_spec (st := 200) (rs := []) (fm := 1) (ln := 0) (keep := true) ht hS ⟨by omega, by omega⟩ ⟨by omega, by omega⟩ (by simp) hup (by rw [hd_eq fs up i200]; exact h)
theorem fb_read : ∀ {fs : List Fld}, (∀ f ∈ fs, fRead f) → fbytes fs ≤ 508 * fs.length
  | [], _ => Nat.zero_le _
  | f :: fs, h => by
    have h1 := (h f List.mem_cons_self).2.2
    have ih := fb_read (fs := fs) fun g hg => h g (List.mem_cons_of_mem _ hg)
    rw [fbytes_cons, List.length_cons]; omega
theorem take_fb {fs : List Fld} {i : Nat} {f : Fld} (h : fs[i]? = some f) : fbytes (fs.take (i + 1)) = fbytes (fs.take i) + (f.1.length + f.2.length) := by
  rw [List.take_add_one, h, fbytes_app]; simp [fbytes]
theorem take_fb_le (fs : List Fld) (i : Nat) : fbytes (fs.take i) ≤ fbytes fs := by
  have h := congrArg fbytes (List.take_append_drop i fs)
  rw [fbytes_app] at h; omega
set_option maxHeartbeats 2000000 in
theorem strips_false {fs : List Fld} {a : Option Addr} {c : Nat} (ht : T10 w0) (hS : FsS fs) : Tri Tryd.prog 9 #[.slice a fs.length c, .bool false] w0 (fView w0 (.slice a fs.length c) fs :: F) (fun v _ => v = .bool true) := by
  have hS1 := hS.1
  have hS2 := hS.2
  refine Tri.enterF Tryd.func9 Tryd.ntmps9 Tryd.results9 rfl rfl fun fr hfr => ?_
  repeat' (first | refine walk ?_ | exact trivial | refine Tw.mk ?_ ?_ | intro hy | refine eanchor_spec ht ?_ | refine rcheck_spec hS (fun hok => ?_) (fun z hz => ?_) | (exfalso; omega) | exact Out.i rfl | fail)
  refine XS.loopI (ι := Nat) (fun i => [(0, .slice a fs.length c), (1, .bool false), (5, kI (fbytes (fs.take i))), (41, .slice a fs.length c), (42, kI fs.length), (43, kI i)]) (fun _ => fView w0 (.slice a fs.length c) fs :: F) (fun i => i ≤ fs.length) (fun i => fs.length - i) 0 (Nat.zero_le _) ⟨rfl, rfl, rfl, rfl, rfl, rfl, trivial⟩ (Ent.refl _) ?_
  rintro i e hi ih
  have hle := take_fb_le fs i
  by_cases hlt : i < fs.length
  · obtain ⟨⟨n1, v1⟩, hf⟩ : ∃ f, fs[i]? = some f := ⟨_, List.getElem?_eq_getElem hlt⟩
    have hfb := fbytes_mem (List.mem_of_getElem? hf)
    have htk := take_fb hf
    simp only at hfb htk
    refine XS.viewOpen (by omega) fun g off c3 hv hc3 => ?_
    injection hv with hv1 _ hv3
    subst hv1 hv3
    have hE : ∀ X : List HProp, Ent (Sx.viewAt w0 g off 2 fs.length (flat fenc fs) :: X) (fView w0 (.slice (some ⟨g, off, none⟩) fs.length c) fs :: X) := fun X => Ent.viewAt hc3
    repeat' (first | refine walk ?_ | exact trivial | refine Tw.mk ?_ ?_ | (intro (bx : Nat)) | intro hy | (exfalso; omega) | refine XO.loadN TT_ok rfl rfl rfl rfl rfl rfl rfl (ReadsN.viewFlat fenc_len hf) ?_ | fail)
    exact ih (i + 1) _ _ hlt (by omega) ⟨rfl, rfl, congrArg (Value.int .i64) (by rw [htk]; omega), rfl, rfl, rfl, trivial⟩ (Ent.trans (Ent.drop _ _) (hE _))
  · obtain rfl : i = fs.length := by omega
    clear ih
    rw [List.take_length] at *
    have hu : ([] : List UInt8) = [] ∨ ([] : List UInt8) = [119, 115] := by simp
    by_cases h300 : fbytes fs ≤ 300
    · have hl20 : fs.length ≤ 20 := by omega
      obtain ⟨r1, r2⟩ := req_read hok.1 hl20 h300 hu
      obtain ⟨r3, r4⟩ := hd_read hok.1 hl20 h300 hu
      have s1 := fls_small r1
      have s2 := fls_small r3
      have s1' : (fls (reqFs fs [])).length ≤ 1000000 := by omega
      have s2' : (fls (hdFs fs [])).length ≤ 1000000 := by omega
      repeat' (first | refine walk ?_ | exact trivial | refine Tw.mk ?_ ?_ | (intro (bz : Nat)) | intro hy | (exfalso; omega) | (exfalso; apply hy; simp only [List.length_append, List.length_cons, List.length_nil]; done) | refine XO.buildArr TT_ok rfl rfl rfl rfl rfl rfl rfl rfl ?_ | refine Tri.sel1 (copied_spec hS (fun a2 c2 => ?_)) | (refine Tri.sel1 (request_w (up := []) ht hS (by simp) ?_)) | (refine Tri.sel1 (head_w (up := []) ht hS (by simp) ?_)) | refine readQ_spec r1 r2 s1' (fun aq cq => ?_) | refine readS_spec r3 r4 s2' (fun ah ch => ?_) | fail)
      rename_i a1 c1 b11 q1 q2 q3
      have G1 : FsS (reqFs fs []) := ⟨by omega, by have := fb_read r1; omega⟩
      have G2 : FsS (hdFs fs []) := ⟨by omega, by have := fb_read r3; omega⟩
      refine XS.ent (Ent.trans (selA (c := fRow ah ch (hdFs fs []))) (Ent.rowView (w0 := w0))) ?_
      refine XS.ent (Ent.trans (selA (c := fRow aq cq (reqFs fs []))) (Ent.rowView (w0 := w0))) ?_
      refine XS.loopI (ι := Nat) (fun i => [(0, .slice a fs.length c), (1, .bool false), (11, ptr b11), (102, .agg ⟨reqHead (.slice aq (reqFs fs []).length cq) ++ stHead (.slice ah (hdFs fs []).length ch)⟩), (103, kI i)]) (fun _ => cel b11 61 (reqHead (.slice aq (reqFs fs []).length cq)) :: fView w0 (.slice aq (reqFs fs []).length cq) (reqFs fs []) :: fView w0 (.slice ah (hdFs fs []).length ch) (hdFs fs []) :: fView w0 (.slice a fs.length c) fs :: F) (fun i => i ≤ 2) (fun i => 2 - i) 0 (Nat.zero_le _) ⟨rfl, rfl, rfl, rfl, rfl, trivial⟩ entA ?_
      rintro i e2 hi2 ih
      have hcase : i = 0 ∨ i = 1 ∨ i = 2 := by omega
      rcases hcase with rfl | rfl | rfl
      · repeat' (first | refine walk ?_ | exact trivial | refine Tw.mk ?_ ?_ | (intro (b18 : Nat)) | intro hy | (exfalso; omega) | refine XO.indexV (i := 0) (v := .agg ⟨reqHead (.slice aq (reqFs fs []).length cq)⟩) rfl TT_ok rfl rfl rfl rfl rfl rfl rfl (by decide) rfl ?_ | fail)
        refine XS.loopI (ι := Nat) (fun j => [(0, .slice a fs.length c), (1, .bool false), (11, ptr b11), (18, ptr b18), (102, .agg ⟨reqHead (.slice aq (reqFs fs []).length cq) ++ stHead (.slice ah (hdFs fs []).length ch)⟩), (103, kI 0), (106, .slice a fs.length c), (107, kI fs.length), (108, kI j)]) (fun _ => cel b18 61 (reqHead (.slice aq (reqFs fs []).length cq)) :: cel b11 61 (reqHead (.slice aq (reqFs fs []).length cq)) :: fView w0 (.slice aq (reqFs fs []).length cq) (reqFs fs []) :: fView w0 (.slice ah (hdFs fs []).length ch) (hdFs fs []) :: fView w0 (.slice a fs.length c) fs :: F) (fun j => j ≤ fs.length) (fun j => fs.length - j) 0 (Nat.zero_le _) ⟨rfl, rfl, rfl, rfl, rfl, rfl, rfl, rfl, rfl, trivial⟩ (Ent.refl _) ?_
        rintro j e3 hj ih3
        by_cases hlt : j < fs.length
        · obtain ⟨⟨n1, v1⟩, hf⟩ : ∃ f, fs[j]? = some f := ⟨_, List.getElem?_eq_getElem hlt⟩
          have hk1 := hok.1 _ (List.mem_of_getElem? hf)
          have hn512 : n1.length ≤ 512 := by have := hk1.2.2; simp only at this; omega
          have hcnt : oneP fs n1 = true → ownB n1 false = false → (values (reqFs fs []) n1).length = 0 := fun h1 h2 => req_none hk1.1 h1 h2
          refine XS.sel1 (c := fView w0 (.slice a fs.length c) fs) (XS.viewOpen (by omega) fun g off c3 hv hc3 => ?_)
          injection hv with hv1 _ hv3
          subst hv1 hv3
          have hE : ∀ X : List HProp, Ent (Sx.viewAt w0 g off 2 fs.length (flat fenc fs) :: X) (fView w0 (.slice (some ⟨g, off, none⟩) fs.length c) fs :: X) := fun X => Ent.viewAt hc3
          cases ho : oneP fs n1
          · repeat' (first | refine walk ?_ | exact trivial | refine Tw.mk ?_ ?_ | (intro (bx : Nat)) | intro hy | (exfalso; omega) | refine XO.loadN TT_ok rfl rfl rfl rfl rfl rfl rfl (ReadsN.viewFlat fenc_len hf) ?_ | (refine Tri.sel1 (rget_spec (fs := reqFs fs []) (a := aq) (c := cq) (nm := n1) G1 (by omega) (fun v => ?_))) | (refine Tri.ent (Ent.trans (selA (c := Sx.viewAt w0 g off 2 fs.length (flat fenc fs))) (hE _)) (rone_spec hS (by omega) ?_); rw [ho]) | fail)
            exact ih3 (j + 1) _ _ hlt (by omega) ⟨rfl, rfl, rfl, rfl, rfl, rfl, rfl, rfl, rfl, trivial⟩ entA
          · cases hw : ownB n1 false
            · have hz := hcnt ho hw
              repeat' (first | refine walk ?_ | exact trivial | refine Tw.mk ?_ ?_ | (intro (bx : Nat)) | intro hy | (exfalso; omega) | refine XO.loadN TT_ok rfl rfl rfl rfl rfl rfl rfl (ReadsN.viewFlat fenc_len hf) ?_ | (refine Tri.sel1 (rget_spec (fs := reqFs fs []) (a := aq) (c := cq) (nm := n1) G1 (by omega) (fun v => ?_))) | (refine Tri.ent (Ent.trans (selA (c := Sx.viewAt w0 g off 2 fs.length (flat fenc fs))) (hE _)) (rone_spec hS (by omega) ?_); rw [ho]) | fail)
              exact ih3 (j + 1) _ _ hlt (by omega) ⟨rfl, rfl, rfl, rfl, rfl, rfl, rfl, rfl, rfl, trivial⟩ entA
            · repeat' (first | refine walk ?_ | exact trivial | refine Tw.mk ?_ ?_ | (intro (bx : Nat)) | intro hy | (exfalso; omega) | refine XO.loadN TT_ok rfl rfl rfl rfl rfl rfl rfl (ReadsN.viewFlat fenc_len hf) ?_ | (refine Tri.sel1 (rget_spec (fs := reqFs fs []) (a := aq) (c := cq) (nm := n1) G1 (by omega) (fun v => ?_))) | (refine Tri.ent (Ent.trans (selA (c := Sx.viewAt w0 g off 2 fs.length (flat fenc fs))) (hE _)) (rone_spec hS (by omega) ?_); rw [ho]) | (refine own_spec (by omega) ?_; rw [hw]) | exact ih3 (j + 1) _ _ hlt (by omega) ⟨rfl, rfl, rfl, rfl, rfl, rfl, rfl, rfl, rfl, trivial⟩ entA | fail)
        · obtain rfl : j = fs.length := by omega
          clear ih3
          have k1 : (values (reqFs fs []) conn).length = 0 := req_conn fs []
          have k2 : (values (reqFs fs []) lCL).length = 0 := req_cl fs []
          have k3 : (values (reqFs fs []) lVia).length = 1 := req_via fs []
          repeat' (first | refine walk ?_ | exact trivial | refine Tw.mk ?_ ?_ | intro hy | (exfalso; omega) | (refine Tri.sel1 (rget_spec (fs := reqFs fs []) (a := aq) (c := cq) (nm := conn) G1 (by decide) (fun v => ?_)); rw [k1]) | (refine Tri.sel1 (rget_spec (fs := reqFs fs []) (a := aq) (c := cq) (nm := lCL) G1 (by decide) (fun v => ?_)); rw [k2]) | (refine Tri.sel1 (rget_spec (fs := reqFs fs []) (a := aq) (c := cq) (nm := lVia) G1 (by decide) (fun v => ?_)); rw [k3]) | (exfalso; exact hy rfl) | exact ih 1 _ _ (by omega) (by omega) ⟨rfl, rfl, rfl, rfl, rfl, trivial⟩ entA | fail)
      · repeat' (first | refine walk ?_ | exact trivial | refine Tw.mk ?_ ?_ | (intro (b18 : Nat)) | intro hy | (exfalso; omega) | refine XO.indexV (i := 1) (v := .agg ⟨stHead (.slice ah (hdFs fs []).length ch)⟩) rfl TT_ok rfl rfl rfl rfl rfl rfl rfl (by decide) rfl ?_ | fail)
        refine XS.loopI (ι := Nat) (fun j => [(0, .slice a fs.length c), (1, .bool false), (11, ptr b11), (18, ptr b18), (102, .agg ⟨reqHead (.slice aq (reqFs fs []).length cq) ++ stHead (.slice ah (hdFs fs []).length ch)⟩), (103, kI 1), (106, .slice a fs.length c), (107, kI fs.length), (108, kI j)]) (fun _ => cel b18 61 (stHead (.slice ah (hdFs fs []).length ch)) :: cel b11 61 (reqHead (.slice aq (reqFs fs []).length cq)) :: fView w0 (.slice aq (reqFs fs []).length cq) (reqFs fs []) :: fView w0 (.slice ah (hdFs fs []).length ch) (hdFs fs []) :: fView w0 (.slice a fs.length c) fs :: F) (fun j => j ≤ fs.length) (fun j => fs.length - j) 0 (Nat.zero_le _) ⟨rfl, rfl, rfl, rfl, rfl, rfl, rfl, rfl, rfl, trivial⟩ (Ent.refl _) ?_
        rintro j e3 hj ih3
        by_cases hlt : j < fs.length
        · obtain ⟨⟨n1, v1⟩, hf⟩ : ∃ f, fs[j]? = some f := ⟨_, List.getElem?_eq_getElem hlt⟩
          have hk1 := hok.1 _ (List.mem_of_getElem? hf)
          have hn512 : n1.length ≤ 512 := by have := hk1.2.2; simp only at this; omega
          have hcnt : oneP fs n1 = true → ownB n1 false = false → (values (hdFs fs []) n1).length = 0 := fun h1 h2 => hd_none hk1.1 h1 h2
          refine XS.sel1 (c := fView w0 (.slice a fs.length c) fs) (XS.viewOpen (by omega) fun g off c3 hv hc3 => ?_)
          injection hv with hv1 _ hv3
          subst hv1 hv3
          have hE : ∀ X : List HProp, Ent (Sx.viewAt w0 g off 2 fs.length (flat fenc fs) :: X) (fView w0 (.slice (some ⟨g, off, none⟩) fs.length c) fs :: X) := fun X => Ent.viewAt hc3
          cases ho : oneP fs n1
          · repeat' (first | refine walk ?_ | exact trivial | refine Tw.mk ?_ ?_ | (intro (bx : Nat)) | intro hy | (exfalso; omega) | refine XO.loadN TT_ok rfl rfl rfl rfl rfl rfl rfl (ReadsN.viewFlat fenc_len hf) ?_ | (refine Tri.sel1 (rget_spec (fs := hdFs fs []) (a := ah) (c := ch) (nm := n1) G2 (by omega) (fun v => ?_))) | (refine Tri.ent (Ent.trans (selA (c := Sx.viewAt w0 g off 2 fs.length (flat fenc fs))) (hE _)) (rone_spec hS (by omega) ?_); rw [ho]) | fail)
            exact ih3 (j + 1) _ _ hlt (by omega) ⟨rfl, rfl, rfl, rfl, rfl, rfl, rfl, rfl, rfl, trivial⟩ entA
          · cases hw : ownB n1 false
            · have hz := hcnt ho hw
              repeat' (first | refine walk ?_ | exact trivial | refine Tw.mk ?_ ?_ | (intro (bx : Nat)) | intro hy | (exfalso; omega) | refine XO.loadN TT_ok rfl rfl rfl rfl rfl rfl rfl (ReadsN.viewFlat fenc_len hf) ?_ | (refine Tri.sel1 (rget_spec (fs := hdFs fs []) (a := ah) (c := ch) (nm := n1) G2 (by omega) (fun v => ?_))) | (refine Tri.ent (Ent.trans (selA (c := Sx.viewAt w0 g off 2 fs.length (flat fenc fs))) (hE _)) (rone_spec hS (by omega) ?_); rw [ho]) | fail)
              exact ih3 (j + 1) _ _ hlt (by omega) ⟨rfl, rfl, rfl, rfl, rfl, rfl, rfl, rfl, rfl, trivial⟩ entA
            · repeat' (first | refine walk ?_ | exact trivial | refine Tw.mk ?_ ?_ | (intro (bx : Nat)) | intro hy | (exfalso; omega) | refine XO.loadN TT_ok rfl rfl rfl rfl rfl rfl rfl (ReadsN.viewFlat fenc_len hf) ?_ | (refine Tri.sel1 (rget_spec (fs := hdFs fs []) (a := ah) (c := ch) (nm := n1) G2 (by omega) (fun v => ?_))) | (refine Tri.ent (Ent.trans (selA (c := Sx.viewAt w0 g off 2 fs.length (flat fenc fs))) (hE _)) (rone_spec hS (by omega) ?_); rw [ho]) | (refine own_spec (by omega) ?_; rw [hw]) | exact ih3 (j + 1) _ _ hlt (by omega) ⟨rfl, rfl, rfl, rfl, rfl, rfl, rfl, rfl, rfl, trivial⟩ entA | fail)
        · obtain rfl : j = fs.length := by omega
          clear ih3
          have k1 : (values (hdFs fs []) conn).length = 0 := hd_conn fs []
          have k2 : (values (hdFs fs []) lCL).length = 0 := hd_cl fs []
          have k3 : (values (hdFs fs []) lVia).length = 1 := hd_via fs []
          repeat' (first | refine walk ?_ | exact trivial | refine Tw.mk ?_ ?_ | intro hy | (exfalso; omega) | (refine Tri.sel1 (rget_spec (fs := hdFs fs []) (a := ah) (c := ch) (nm := conn) G2 (by decide) (fun v => ?_)); rw [k1]) | (refine Tri.sel1 (rget_spec (fs := hdFs fs []) (a := ah) (c := ch) (nm := lCL) G2 (by decide) (fun v => ?_)); rw [k2]) | (refine Tri.sel1 (rget_spec (fs := hdFs fs []) (a := ah) (c := ch) (nm := lVia) G2 (by decide) (fun v => ?_)); rw [k3]) | (exfalso; exact hy rfl) | exact ih 2 _ _ (by omega) (by omega) ⟨rfl, rfl, rfl, rfl, rfl, trivial⟩ entA | fail)
      · clear ih
        have k1 : (values (reqFs fs []) lHost).length = 1 := req_host fs []
        repeat' (first | refine walk ?_ | exact trivial | refine Tw.mk ?_ ?_ | intro hy | (exfalso; omega) | (refine Tri.sel1 (rget_spec (fs := reqFs fs []) (a := aq) (c := cq) (nm := lHost) G1 (by decide) (fun v => ?_)); rw [k1]) | exact Out.i rfl | fail)
    · repeat' (first | refine walk ?_ | exact trivial | refine Tw.mk ?_ ?_ | intro hy | (exfalso; omega) | exact Out.i rfl | fail)
end Go.Proofs.YtngicmoadobgpaaDoor
