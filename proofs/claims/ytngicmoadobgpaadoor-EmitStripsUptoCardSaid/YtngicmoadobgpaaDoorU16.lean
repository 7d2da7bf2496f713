/- Some texts put together: lemmas and contracts for the law. Conditions: as each text says. -/
import Derived.Test.YtngicmoadobgpaaDoorU15
import Derived.Test.YtngicmoadobgpaaDoorU4
import Derived.Test.YtngicmoadobgpaaDoorU5
import Derived.Test.YtngicmoadobgpaaDoorU12
import Derived.Shelf.Strconv.Itoa3
import Derived.Shelf.Strings.OnBuilder
import Derived.Lib.LaidTab
import Derived.Scope
/- Contracts: the values of a name, one by one; their elements. Conditions: none. -/
namespace Go.Sx
open Go Go.RowKit
/-- The walk stops here. -/
structure Stop (p : Prop) : Prop where
  go : p
set_option linter.unusedVariables false in
theorem wpT_mono {P : Program} {T : Tbl} {ops : Array Oper} {HL : Held} {Q Q' : Act → World → Prop} (hq : ∀ a w, Q a w → Q' a w) : ∀ (l : List Oper) (k : Nat) (a : Act) (w : World), wpT P T ops HL Q k l a w → wpT P T ops HL Q' k l a w
  | [], _, _, _, h => hq _ _ h
  | o :: l, k, a, w, h => tOp_mono (fun a w h => wpT_mono hq l (k + 1) a w h) h
theorem XO.jmap {P : Program} {T : Tbl} {w0 : World} {n : Nat} {HL : Held} {ops : Array Oper} {J J' : Env → List HProp → Prop} {ix : Nat} {rest : List Oper} {e : Env} {H : List HProp} (hj : ∀ e H, J e H → J' e H) (h : XO P T w0 n HL ops J ix rest e H) : XO P T w0 n HL ops J' ix rest e H :=
  ⟨fun w hr => wpT_mono (fun _ _ ⟨e', H', ha, hr', hx⟩ => ⟨e', H', ha, hr', hj _ _ hx⟩) _ _ _ _ (h.run w hr)⟩
theorem XS.regionS {P : Program} {T : Tbl} {w0 : World} {b : Frame} {n : Nat} {R : Value → List HProp → Prop} {k : List Item} {e : Env} {H : List HProp} {id : Nat} {l : List Oper} (h : XO P T w0 n [] l.toArray (fun e H => Stop (XS P w0 b n R k e H)) 0 l e H) : XS P w0 b n R (.code (.region id l.toArray false) :: k) e H := XS.region (h.jmap fun _ _ h => h.go)
theorem XS.regionYS {P : Program} {T : Tbl} {w0 : World} {b : Frame} {n : Nat} {R : Value → List HProp → Prop} {k : List Item} {e : Env} {H : List HProp} {id : Nat} (m : Nat) {l : List Oper} {o : Oper} {post : List Oper} (ho : l.drop m = o :: post) (hm : (l.take m).length = m) (hn1 : noDef l = true)
    (h : XO P T w0 n [] l.toArray (fun e H => Stop (Yop P w0 n l.toArray o (fun e' H' => XO P T w0 n [] l.toArray (fun e H => Stop (XS P w0 b n R k e H)) (m + 1) post e' H') e H)) 0 (l.take m) e H) : XS P w0 b n R (.code (.region id l.toArray false) :: k) e H :=
  XS.regionY (l.take m) o post (by rw [← ho, List.take_append_drop]) hn1 (by
    rw [hm]
    refine h.jmap fun e H h => ?_
    rcases h.go with ⟨h1, h2⟩ | ⟨h1, x, xs, ts, L, args, h2, h3, h4, h5⟩
    · exact .inl ⟨h1, h2.jmap fun _ _ h => h.go⟩
    · exact .inr ⟨h1, x, xs, ts, L, args, h2, h3, h4, h5.mono fun _ _ h => h.jmap fun _ _ h => h.go⟩)
end Go.Sx
namespace Go.Proofs.YtngicmoadobgpaaDoor
open Go Go.Sx Go.ChunkM Go.StrM Go.EmitM
variable {w0 : World} {F H : List HProp} {K : Value → List HProp → Prop}
theorem values_app (a b : List Fld) (n : List UInt8) : values (a ++ b) n = values a n ++ values b n := by simp [values]
theorem all_spec {a : Option Addr} {k c : Nat} {nm : List UInt8} (h : ∀ b2 b3 : Nat, K (.func (.func 108) #[] #[ptr b2, ptr b3]) (cel b2 38 [.slice a k c] :: cel b3 9 [kS nm] :: F)) : Tri Tryd.prog 98 #[.slice a k c, kS nm] w0 F K := by
  refine Tri.enterF Tryd.func98 Tryd.ntmps98 Tryd.results98 rfl rfl fun fr hfr => ?_
  repeat' (first | refine walk ?_ | exact trivial | refine Tw.mk ?_ ?_ | intro (b2 : Nat) | exact Out.e (h _ _) (Ent.swap _ _ _) | fail)
theorem all1_spec {fs : List Fld} {nm : List UInt8} {L b2 b3 c : Nat} {a : Option Addr} (I : List (List UInt8) → HProp) (hfs : FsOk fs)
    (hY : ∀ pre x post G, pre ++ x :: post = values fs nm → YTri Tryd.prog w0 L #[kS x] (I pre :: G) (fun v H' => v = .bool true ∧ Ent H' (I (pre ++ [x]) :: G))) :
    Tri Tryd.prog 108 #[.func (.yield L) #[] #[], ptr b2, ptr b3] w0 (I [] :: cel b2 38 [.slice a fs.length c] :: cel b3 9 [kS nm] :: fView w0 (.slice a fs.length c) fs :: F)
      fun _ H' => Ent H' (I (values fs nm) :: cel b2 38 [.slice a fs.length c] :: cel b3 9 [kS nm] :: fView w0 (.slice a fs.length c) fs :: F) := by
  refine Tri.enterF Tryd.func108 Tryd.ntmps108 Tryd.results108 rfl rfl fun fr hfr => ?_
  repeat' (first | refine walk ?_ | exact trivial | refine Tw.mk ?_ ?_ | fail)
  refine XS.loopI (ι := Nat) (fun i => [(0, .func (.yield L) #[] #[]), (2, ptr b3), (6, .slice a fs.length c), (7, kI fs.length), (8, kI i)]) (fun i => I (values (fs.take i) nm) :: cel b2 38 [.slice a fs.length c] :: cel b3 9 [kS nm] :: fView w0 (.slice a fs.length c) fs :: F)
    (fun i => i ≤ fs.length) (fun i => fs.length - i) 0 (Nat.zero_le _) ⟨rfl, rfl, rfl, rfl, rfl, trivial⟩ (Ent.refl _) ?_
  rintro i e hi ih
  have hl1 := hfs.1
  by_cases hlt : i < fs.length
  · obtain ⟨⟨n1, v1⟩, hf⟩ : ∃ f, fs[i]? = some f := ⟨_, List.getElem?_eq_getElem hlt⟩
    obtain ⟨hn1, hv1⟩ := hfs.2 _ (List.mem_of_getElem? hf)
    simp only at hn1 hv1
    have htk : values (fs.take (i + 1)) nm = values (fs.take i) nm ++ values [(n1, v1)] nm := by rw [List.take_add_one, hf]; exact values_app _ _ _
    refine XS.sel1 (c := fView w0 (.slice a fs.length c) fs) (XS.viewOpen (by omega) fun g off c3 hv hc3 => ?_)
    injection hv with hv1 _ hv3
    subst hv1 hv3
    have hE : ∀ X : List HProp, Ent (Sx.viewAt w0 g off 2 fs.length (flat fenc fs) :: X) (fView w0 (.slice (some ⟨g, off, none⟩) fs.length c) fs :: X) := fun X => Ent.viewAt hc3
    refine XS.seq ?_
    refine XS.regionS (T := TT) ?_
    repeat' (first | refine walk ?_ | exact trivial | refine Tw.mk ?_ ?_ | intro hy | (exfalso; omega) | fail)
    refine ⟨?_⟩
    repeat (first | refine XS.seq ?_ | refine XS.condT rfl ?_ | refine XS.skip ?_ | refine XS.block ?_)
    refine XS.regionS (T := TT) ?_
    repeat' (first | refine walk ?_ | exact trivial | refine Tw.mk ?_ ?_ | intro (bx : Nat) | refine XO.loadN TT_ok rfl rfl rfl rfl rfl rfl rfl (ReadsN.viewFlat fenc_len hf) ?_ | fail)
    refine ⟨?_⟩
    repeat (first | refine XS.seq ?_)
    refine XS.regionYS (T := TT) 8 rfl rfl rfl ?_
    cases hal : alike n1 nm
    · have h1 : values [(n1, v1)] nm = [] := by simp [values, hal]
      rw [h1, List.append_nil] at htk
      repeat' (first | refine walk ?_ | exact trivial | refine Tw.mk ?_ ?_ | (refine alike_spec hn1 ?_; rw [hal]) | fail)
      refine ⟨.inl ⟨rfl, ?_⟩⟩
      repeat' (first | refine walk ?_ | exact trivial | refine Tw.mk ?_ ?_ | fail)
      refine ⟨?_⟩
      repeat' (first | refine walk ?_ | exact trivial | refine Tw.mk ?_ ?_ | exact ih (i + 1) _ _ hlt (by omega) ⟨rfl, rfl, rfl, rfl, rfl, trivial⟩ (Ent.trans (Ent.drop _ _) (Ent.trans (hE _) (by rw [htk]; exact entA))) | fail)
    · have h1 : values [(n1, v1)] nm = [v1] := by simp [values, hal]
      rw [h1] at htk
      have hsp : values (fs.take i) nm ++ v1 :: values (fs.drop (i + 1)) nm = values fs nm := by
        have h2 := values_app (fs.take (i + 1)) (fs.drop (i + 1)) nm
        rw [List.take_append_drop, htk] at h2
        rw [h2]; simp
      repeat' (first | refine walk ?_ | exact trivial | refine Tw.mk ?_ ?_ | (refine alike_spec hn1 ?_; rw [hal]) | fail)
      refine ⟨.inr ⟨rfl, _, _, _, L, [kS v1], rfl, rfl, rfl, ?_⟩⟩
      refine YTri.ent Ent.front2 (YTri.mono (hY _ v1 _ _ hsp) ?_)
      rintro _ H' ⟨rfl, hx⟩
      refine XO.ent hx ?_
      repeat' (first | refine walk ?_ | exact trivial | refine Tw.mk ?_ ?_ | fail)
      refine ⟨?_⟩
      repeat' (first | refine walk ?_ | exact trivial | refine Tw.mk ?_ ?_ | exact ih (i + 1) _ _ hlt (by omega) ⟨rfl, rfl, rfl, rfl, rfl, trivial⟩ (by rw [htk]; exact Ent.cons _ (Ent.trans (Ent.drop _ _) (Ent.trans (hE _) entA))) | fail)
  · obtain rfl : i = fs.length := by omega
    clear ih
    rw [List.take_length]
    repeat' (first | refine walk ?_ | exact trivial | refine Tw.mk ?_ ?_ | intro hy | (exfalso; omega) | exact Out.i (Ent.refl _) | fail)
end Go.Proofs.YtngicmoadobgpaaDoor

/- Contracts: the elements of all fields of a name. Conditions: none. -/
namespace Go.Sx
open Go Go.RowKit
theorem XS.rangeFuncE {P : Program} {w0 : World} {b : Frame} {n : Nat} {k : List Item} {e : Env} {H : List HProp} {R : Value → List HProp → Prop} {ps : Array Tmp} {as_ bd : Code} {g : Operand} {f : FuncId} {first cap : Array Value} (hg : e.ev n g = .func (.func f) first cap) (hf : callOk P f = true)
    (h : ∀ L Db lp, lp = lpc L .ready b.fn (e.act n).tmps ps as_ bd Db → Tri P f ⟨first.toList ++ [.func (.yield L) #[] #[]] ++ cap.toList⟩ w0 (lp :: blk Db (.deferred (some [])) :: H)
      fun _ H' => ∃ H2, Ent H' (lp :: H2) ∧ XG P w0 { b with roundOf := none } (mark Db) n (finF P w0 b.fn R) k e H2) :
    XS P w0 b n R (.code (.rangeFunc g ps as_ bd) :: k) e H := XS.rangeFunc hg hf fun L Db => h L Db _ rfl
theorem XG.hex {ι : Type} {P : Program} {w0 : World} {b : Frame} {D : List Deferred} {n : Nat} {fin : List Frame → Machine → Prop} {k : List Item} {e : Env} {F : List HProp} {f : ι → HProp} (h : ∀ x, XG P w0 b D n fin k e (f x :: F)) : XG P w0 b D n fin k e (Go.Sx.hex f :: F) :=
  ⟨fun cs w hr hc => let ⟨x, hx⟩ := hr.hex; (h x).run cs w hx hc⟩
section
variable {P : Program} {T : Tbl} {w0 : World} {n : Nat} {HL : Held} {ops : Array Oper} {J : Env → List HProp → Prop} {ix : Nat} {rest : List Oper} {o : Oper} {e : Env} {H F : List HProp}
/-- 'append(l, m...)', m a row of its own, which is given up. -/
theorem XO.appendR {x y : Operand} {t u : TypeId} {a a2 : Option Addr} {cap c2 k m s bs : Nat} {l news : List Value} {z : Value} {d : Nat} (hT : T.Ok P) (hk : ∀ X : List HProp, Keeps w0 X (keptBy HL ix)) (hg : wantedE ops e n o = true) (hd : o.dst = some d)
    (hop : o.op = .call { callee := .builtin .append, args := #[x, y], argTypes := #[t, t] }) (hu : T.und t = some (.slice u)) (hs : T.size u = some s) (hbs : T.bytes u = some bs) (hz : T.zero u = some z) (hzs : Nat.beq z.cells.size s = true) (hs0 : Nat.blt 0 s = true)
    (hx : e.ev n x = .slice a k cap) (hy : e.ev n y = .slice a2 m c2) (hl : news.length = m * s) (h1 : news.all (·.oneCell') = true) {N : Nat} (hN : k + m ≤ N) (hn : Nat.ble (N * bs) 140737488355328 = true) (hn2 : Nat.ble N 9223372036854775807 = true)
    (h : ∀ a' cap', XO P T w0 n HL ops J (ix + 1) rest (e.upd d (.slice a' (k + m) cap')) (Row a' cap' u s (k + m) (l ++ news) :: F)) : XO P T w0 n HL ops J ix (o :: rest) e (Row a cap u s k l :: Row a2 c2 u s m news :: F) := by
  rcases Nat.eq_zero_or_pos m with hm | hm
  · refine .appendN hT (hk _) hg hd hop hu hs hbs hz hzs hs0 hx hy (fun h => absurd h (by omega)) hl h1 hN hn hn2 (fun _ _ => hk _) (fun a' cap' => .ent (Ent.cons _ (Ent.drop _ _)) (h a' cap'))
  · refine .ent (Ent.swap _ _ _) (.rowOpen hm fun g hg2 => ?_)
    subst hg2
    refine .ent (Ent.swap _ _ _) (.appendN hT (hk _) hg hd hop hu hs hbs hz hzs hs0 hx hy (fun _ => ⟨_, rfl, ReadsL.skip fun j v hj => ?_⟩) hl h1 hN hn hn2 (fun _ _ => hk _) (fun a' cap' => .ent (Ent.cons _ (Ent.drop _ _)) (h a' cap')))
    rw [Addr.add_mk, Nat.zero_add]; exact Reads.row hj
end
end Go.Sx
namespace Go.Proofs.YtngicmoadobgpaaDoor
open Go Go.Sx Go.ChunkM Go.StrM Go.EmitM
variable {w0 : World} {F H : List HProp} {K : Value → List HProp → Prop}
theorem flatMap_snoc (vs : List (List UInt8)) (v : List UInt8) : (vs ++ [v]).flatMap elems = vs.flatMap elems ++ elems v := by simp
/-- What a round of Elements finds and leaves: the loop's record, the list so far. -/
def elO (bo : Nat) (pre : List (List UInt8)) : HProp := hex fun q : Option Addr × Nat => stars [cel bo 29 [.slice q.1 (pre.flatMap elems).length q.2], tRow q.1 q.2 (pre.flatMap elems)]
def elI (lp : HProp) (bo : Nat) (pre : List (List UInt8)) : HProp := stars [lp, elO bo pre]
theorem elO_mk {bo : Nat} {pre : List (List UInt8)} {a : Option Addr} {c : Nat} : Ent (cel bo 29 [.slice a (pre.flatMap elems).length c] :: tRow a c (pre.flatMap elems) :: F) (elO bo pre :: F) :=
  Ent.trans Ent.pack2 (Ent.hex (f := fun q : Option Addr × Nat => stars [cel bo 29 [.slice q.1 (pre.flatMap elems).length q.2], tRow q.1 q.2 (pre.flatMap elems)]) (a, c))
theorem felements_spec {fs : List Fld} {nm : List UInt8} {a : Option Addr} {c : Nat} (hfs : FsOk fs) (hb : (elemsF fs nm).length ≤ 8796093022207) (hv : ∀ f ∈ fs, f.2.length ≤ 8796093022207) (h : ∀ a2 c2, K (.slice a2 (elemsF fs nm).length c2) (tRow a2 c2 (elemsF fs nm) :: fView w0 (.slice a fs.length c) fs :: F)) : Tri Tryd.prog 82 #[.slice a fs.length c, kS nm] w0 (fView w0 (.slice a fs.length c) fs :: F) K := by
  refine Tri.enterF Tryd.func82 Tryd.ntmps82 Tryd.results82 rfl rfl fun fr hfr => ?_
  repeat' (first | refine walk ?_ | exact trivial | refine Tw.mk ?_ ?_ | intro (bo : Nat) | refine all_spec (fun b2 b3 => ?_) | fail)
  refine XS.rangeFuncE rfl (by kernel_rfl) fun L Db lp hlp => ?_
  refine Tri.mono (Tri.ent ?_ (all1_spec (fs := fs) (nm := nm) (a := a) (c := c) (b2 := b2) (b3 := b3) (F := blk Db (.deferred (some [])) :: F) (elI lp bo) hfs ?_)) ?_
  · refine Ent.trans (Ent.trans ?_ (Ent.cons _ (elO_mk (a := none) (c := 0) (pre := []) (bo := bo)))) (Ent.trans Ent.pack2 (Ent.refl _))
    refine Ent.cons _ ?_
    exact Ent.trans entA (Ent.cons _ (Row.nil _ _ _))
  · intro pre x post G hpre
    subst hlp
    refine YTri.ent Ent.unpack2 (YTri.of_body (n := 16) (p := 10) (show (10 : Nat) < 16 by decide) ?_)
    refine XG.region (T := TT) rfl ?_
    repeat' (first | refine walk ?_ | exact trivial | refine Tw.mk ?_ ?_ | fail)
    refine XG.begin rfl ?_
    refine XG.block ?_
    refine XG.ent Ent.front1 (XG.hex fun q => ?_)
    refine XG.ent Ent.unpack2 ?_
    have hxv : x.length ≤ 8796093022207 := by
      have h1 : x ∈ values fs nm := by rw [← hpre]; simp
      simp only [values, List.mem_map, List.mem_filter] at h1
      obtain ⟨f, ⟨h2, _⟩, rfl⟩ := h1
      exact hv f h2
    have hsum : (pre.flatMap elems).length + (elems x).length ≤ 8796093022207 := by
      have h1 : (elemsF fs nm).length = (pre.flatMap elems).length + ((elems x).length + (post.flatMap elems).length) := by unfold elemsF; rw [← hpre]; simp
      omega
    refine XG.drawH (T := TT) [(0, [2], heldC ⟨bo, 0, none⟩ (.slice q.1 (pre.flatMap elems).length q.2))] [(0, [2])] rfl follows_ok (by decide +kernel) rfl ?_
    repeat' (first | refine walk ?_ | exact trivial | refine Tw.mk ?_ ?_ | refine elements_spec hxv (fun a3 c3 => ?_) | refine XO.callH (by repeat' (first | exact trivial | exact readA | exact heldM_0 | exact heldM_1 | exact heldM_2 | exact heldM_3 | exact heldM_4 | refine And.intro ?_ ?_ | exact Reads.here rfl | refine Reads.skip ?_)) rfl rfl rfl (by kernel_rfl) rfl ?_ | refine And.intro (by repeat' (first | exact trivial | exact readA | exact heldM_0 | exact heldM_1 | exact heldM_2 | exact heldM_3 | exact heldM_4 | refine And.intro ?_ ?_ | exact Reads.here rfl | refine Reads.skip ?_)) ?_ | refine XO.loadH TT_ok rfl rfl rfl rfl rfl rfl (by repeat' (first | exact trivial | exact readA | exact heldM_0 | exact heldM_1 | exact heldM_2 | exact heldM_3 | exact heldM_4 | refine And.intro ?_ ?_ | exact Reads.here rfl | refine Reads.skip ?_)) ?_ | refine XO.buildSlice TT_ok (by repeat' (first | exact trivial | exact readA | exact heldM_0 | exact heldM_1 | exact heldM_2 | exact heldM_3 | exact heldM_4 | refine And.intro ?_ ?_ | exact Reads.here rfl | refine Reads.skip ?_)) rfl rfl rfl rfl rfl rfl rfl rfl rfl rfl rfl rfl (fun _ => (by repeat' (first | exact trivial | exact readA | exact heldM_0 | exact heldM_1 | exact heldM_2 | exact heldM_3 | exact heldM_4 | refine And.intro ?_ ?_ | exact Reads.here rfl | refine Reads.skip ?_))) (fun b1 => ?_) | (refine XO.sel1 (c := tRow q.1 q.2 (pre.flatMap elems)) (XO.ent (Ent.cons _ (Ent.refl _)) ?_); refine XO.appendR (N := 8796093022208) TT_ok (fun _ => trivial) rfl rfl rfl rfl rfl rfl rfl rfl rfl rfl rfl (by rw [flat_length lenc_len]) (flat_all (fun _ => rfl) _) (by omega) rfl rfl (fun a' cap' => ?_)) | fail)
    refine XG.inBlock ?_
    refine XG.ent Ent.front2 (XG.endR rfl rfl ⟨rfl, ?_⟩)
    refine Ent.trans (Ent.cons _ (Ent.trans ?_ (elO_mk (a := a') (c := cap') (pre := pre ++ [x])))) Ent.pack2
    rw [flatMap_snoc, List.length_append]
    show Ent _ (_ :: Row a' cap' 9 1 (pre.flatMap elems ++ elems x).length (flat lenc (pre.flatMap elems ++ elems x)) :: _)
    rw [List.length_append, flat_append]; exact Ent.refl _
  · intro v H' hH
    refine ⟨_, Ent.trans hH Ent.unpack2, ?_⟩
    refine XG.inBlock ?_
    refine XG.hex fun q => ?_
    refine XG.ent Ent.unpack2 ?_
    refine XG.seq ?_
    refine XG.region (T := TT) rfl ?_
    repeat' (first | refine walk ?_ | exact trivial | refine Tw.mk ?_ ?_ | fail)
    refine XG.ent (Ent.front5) ?_
    refine XG.retM (rs := _) (vs := [.slice q.1 (elemsF fs nm).length q.2]) TT_ok hfr rfl (ResOk.tmp rfl .nil) ?_
    refine Out.e (h _ _) ?_
    exact entA
end Go.Proofs.YtngicmoadobgpaaDoor

/- Contracts: fields that concern one connection alone are left out. Conditions: none. -/
namespace Go.Sx
open Go Go.RowKit
section
variable {P : Program} {T : Tbl} {w0 : World} {n : Nat} {HL : Held} {ops : Array Oper} {J : Env → List HProp → Prop} {ix : Nat} {rest : List Oper} {o : Oper} {e : Env} {H F : List HProp}
/-- 'append(l, m...)', m a row that is only read. -/
theorem XO.appendV {x y : Operand} {t u : TypeId} {a a2 : Option Addr} {cap c2 k m s bs : Nat} {l news : List Value} {z : Value} {d : Nat} (hT : T.Ok P) (hk : ∀ X : List HProp, Keeps w0 X (keptBy HL ix)) (hg : wantedE ops e n o = true) (hd : o.dst = some d)
    (hop : o.op = .call { callee := .builtin .append, args := #[x, y], argTypes := #[t, t] }) (hu : T.und t = some (.slice u)) (hs : T.size u = some s) (hbs : T.bytes u = some bs) (hz : T.zero u = some z) (hzs : Nat.beq z.cells.size s = true) (hs0 : Nat.blt 0 s = true)
    (hx : e.ev n x = .slice a k cap) (hy : e.ev n y = .slice a2 m c2) (hl : news.length = m * s) (h1 : news.all (·.oneCell') = true) {N : Nat} (hN : k + m ≤ N) (hn : Nat.ble (N * bs) 140737488355328 = true) (hn2 : Nat.ble N 9223372036854775807 = true)
    (h : ∀ a' cap', XO P T w0 n HL ops J (ix + 1) rest (e.upd d (.slice a' (k + m) cap')) (Row a' cap' u s (k + m) (l ++ news) :: view w0 (.slice a2 m c2) s m news :: F)) : XO P T w0 n HL ops J ix (o :: rest) e (Row a cap u s k l :: view w0 (.slice a2 m c2) s m news :: F) := by
  rcases Nat.eq_zero_or_pos m with hm | hm
  · exact .appendN hT (hk _) hg hd hop hu hs hbs hz hzs hs0 hx hy (fun h => absurd h (by omega)) hl h1 hN hn hn2 (fun _ _ => hk _) h
  · refine .ent (Ent.swap _ _ _) (.viewOpen hm fun g off c3 hv hc3 => ?_)
    injection hv with hv1 _ hv3
    subst hv1 hv3
    refine .ent (Ent.swap _ _ _) (.appendN hT (hk _) hg hd hop hu hs hbs hz hzs hs0 hx hy (fun _ => ⟨_, rfl, ReadsL.skip fun j v hj => ?_⟩) hl h1 hN hn hn2 (fun _ _ => hk _) (fun a' cap' => .ent (Ent.cons _ (Ent.viewAt hc3)) (h a' cap')))
    rw [Addr.add_mk]; exact Reads.view hj
end
end Go.Sx
namespace Go.Proofs.YtngicmoadobgpaaDoor
open Go Go.Sx Go.ChunkM Go.StrM Go.EmitM
variable {w0 : World} {F H : List HProp} {K : Value → List HProp → Prop}
theorem fenc_all : ∀ f, (fenc f).all (·.oneCell') = true := fun (_, _) => rfl
theorem strips_len : ∀ (ns : List (List UInt8)) (fs : List Fld), (strips ns fs).length ≤ fs.length
  | [], _ => Nat.le_refl _
  | n :: ns, fs => Nat.le_trans (strips_len ns (remove fs n)) (remove_len fs n)
theorem strips_ok : ∀ (ns : List (List UInt8)) {fs : List Fld}, FsOk fs → FsOk (strips ns fs)
  | [], _, h => h
  | n :: ns, _, h => strips_ok ns (remove_ok h n)
theorem strips_snoc : ∀ (ns : List (List UInt8)) (n : List UInt8) (fs : List Fld), strips (ns ++ [n]) fs = remove (strips ns fs) n
  | [], _, _ => rfl
  | m :: ns, n, fs => by rw [List.cons_append, strips, strips, strips_snoc ns n]
theorem strip_spec {fs : List Fld} {a : Option Addr} {c : Nat} (hfs : FsOk fs) (hb : (names fs).length ≤ 8796093022207) (hv : ∀ f ∈ fs, f.2.length ≤ 8796093022207) (h : ∀ a2 c2, K (.slice a2 (strip fs).length c2) (fRow a2 c2 (strip fs) :: fView w0 (.slice a fs.length c) fs :: F)) : Tri Tryd.prog 65 #[.slice a fs.length c] w0 (fView w0 (.slice a fs.length c) fs :: F) K := by
  have hb2 : 7 + (elemsF fs [67, 111, 110, 110, 101, 99, 116, 105, 111, 110]).length ≤ 8796093022207 := by unfold names at hb; rw [List.length_append] at hb; exact hb
  have hl1 := hfs.1
  refine Tri.enterF Tryd.func65 Tryd.ntmps65 Tryd.results65 rfl rfl fun fr hfr => ?_
  repeat' (first | refine walk ?_ | exact trivial | refine Tw.mk ?_ ?_ | intro (bn : Nat) | refine Tri.sel1 (c := fView w0 (.slice a fs.length c) fs) (felements_spec hfs (by omega) hv (fun a3 c3 => ?_)) | fail)
  refine XO.ent (H' := tRow (some ⟨bn, 0, none⟩) 7 fixed :: tRow a3 c3 (elemsF fs [67, 111, 110, 110, 101, 99, 116, 105, 111, 110]) :: fView w0 (.slice a fs.length c) fs :: F) ?_ ?_
  · refine Ent.trans (H' := cel bn 9 (flat lenc fixed) :: tRow a3 c3 (elemsF fs [67, 111, 110, 110, 101, 99, 116, 105, 111, 110]) :: fView w0 (.slice a fs.length c) fs :: F) entA ?_
    exact Ent.trans (RowAt.of_cel (n := 7) rfl (by simp [maxLen])) Row.of_at
  have hf7 : fixed.length = 7 := rfl
  have hN : fixed.length + (elemsF fs [67, 111, 110, 110, 101, 99, 116, 105, 111, 110]).length ≤ 8796093022208 := by omega
  have hnl : names fs = fixed ++ elemsF fs [67, 111, 110, 110, 101, 99, 116, 105, 111, 110] := rfl
  have hnl2 : (names fs).length = fixed.length + (elemsF fs [67, 111, 110, 110, 101, 99, 116, 105, 111, 110]).length := by rw [hnl, List.length_append]
  have hfl : flat lenc (names fs) = flat lenc fixed ++ flat lenc (elemsF fs [67, 111, 110, 110, 101, 99, 116, 105, 111, 110]) := by rw [hnl, flat_append]
  repeat' (first | refine walk ?_ | exact trivial | refine Tw.mk ?_ ?_ | refine XO.appendR (k := fixed.length) (N := 8796093022208) TT_ok (fun _ => trivial) rfl rfl rfl rfl rfl rfl rfl rfl rfl rfl rfl (by rw [flat_length lenc_len]) (flat_all (fun _ => rfl) _) hN rfl rfl (fun a' cap' => ?_) | refine XO.buildSlice0 TT_ok trivial rfl rfl rfl rfl rfl (fun _ => trivial) (fun b3 => ?_) | (refine XO.sel1 (c := Row (some ⟨b3, 0, none⟩) 0 59 2 0 []) ?_; refine XO.sel1 (c := fView w0 (.slice a fs.length c) fs) ?_; refine XO.ent (Ent.swap _ _ _) ?_; refine XO.appendV (k := 0) (N := 4398046511104) TT_ok (fun _ => trivial) rfl rfl rfl rfl rfl rfl rfl rfl rfl rfl rfl (by rw [flat_length fenc_len]) (flat_all fenc_all _) (by omega) rfl rfl (fun a5 cap5 => ?_)) | fail)
  refine XS.ent (H' := tRow a' cap' (names fs) :: fRow a5 cap5 fs :: fView w0 (.slice a fs.length c) fs :: F) ?_ ?_
  · show Ent _ (Row a' cap' 9 1 (names fs).length (flat lenc (names fs)) :: Row a5 cap5 59 2 fs.length (flat fenc fs) :: _)
    rw [hnl2, hfl]
    have e1 : 0 + fs.length = fs.length := Nat.zero_add _
    rw [e1, List.nil_append]
    exact entA
  refine XS.rowOpen (by omega) fun g hg => ?_
  subst hg
  refine XS.loopI (ι := Nat × Option Addr × Nat) (fun q => [(4, .slice q.2.1 (strips ((names fs).take q.1) fs).length q.2.2), (14, .slice (some ⟨g, 0, none⟩) (names fs).length cap'), (15, kI (names fs).length), (16, kI q.1)]) (fun q => fRow q.2.1 q.2.2 (strips ((names fs).take q.1) fs) :: RowAt g cap' 9 1 (names fs).length (flat lenc (names fs)) :: fView w0 (.slice a fs.length c) fs :: F)
    (fun q => q.1 ≤ (names fs).length) (fun q => (names fs).length - q.1) (0, a5, cap5) (Nat.zero_le _) ⟨by simp only [Nat.zero_add]; rfl, by rw [hnl2]; rfl, by rw [hnl2]; rfl, rfl, trivial⟩ (Ent.swap _ _ _) ?_
  rintro ⟨i, a6, c6⟩ e hi ih
  simp only at hi
  dsimp only
  by_cases hlt : i < (names fs).length
  · obtain ⟨p, hp⟩ : ∃ c, (names fs)[i]? = some c := ⟨_, List.getElem?_eq_getElem hlt⟩
    have htk : strips ((names fs).take (i + 1)) fs = remove (strips ((names fs).take i) fs) p := by rw [List.take_add_one, hp]; exact strips_snoc _ _ _
    have hok := strips_ok ((names fs).take i) hfs
    repeat' (first | refine walk ?_ | exact trivial | refine Tw.mk ?_ ?_ | intro hy | (exfalso; omega) | (refine Tri.sel1 (c := fRow a6 c6 (strips ((names fs).take i) fs)) (Tri.ent Ent.rowView (remove_spec hok (fun a7 c7 => ?_)))) | fail)
    refine ih (i + 1, a7, c7) _ _ hlt (by simp only; omega) ⟨by dsimp only; rw [htk]; rfl, rfl, rfl, rfl, trivial⟩ ?_
    dsimp only; rw [htk]
    exact entA
  · obtain rfl : i = (names fs).length := by omega
    clear ih
    rw [List.take_length, strip_eq]
    repeat' (first | refine walk ?_ | exact trivial | refine Tw.mk ?_ ?_ | intro hy | (exfalso; omega) | exact Out.e (h _ _) entA | fail)
end Go.Proofs.YtngicmoadobgpaaDoor

/- Contracts: a text that is written line by line. Conditions: no more bytes than memory bears. -/
namespace Go.Sx
theorem Reads.view1 {w0 : World} {α : Type} {enc : α → List Value} {b off m k : Nat} {xs : List α} {x : α} {v : Value} {F : List HProp} (he : ∀ x, (enc x).length = 1) (h : xs[k]? = some x) (hv : (enc x)[0]? = some v) : Reads w0 (viewAt w0 b off 1 m (Go.Sx.flat enc xs) :: F) ⟨b, off + k * 1, none⟩ v :=
  Reads.view (k := k * 1) (flat_get (j := 0) he h hv)
end Go.Sx
namespace Go.Proofs.YtngicmoadobgpaaDoor
open Go Go.Sx Go.ChunkM Go.StrM Go.EmitM
variable {w0 : World} {F H : List HProp} {K : Value → List HProp → Prop}
theorem bldT_text : bldT 84 := by unfold bldT; kernel_rfl
abbrev txt (b : Nat) (l : List UInt8) : HProp := bld b 84 l
abbrev tView (w0 : World) (v : Value) (ts : List (List UInt8)) : HProp := view w0 v 1 ts.length (flat lenc ts)
theorem take_flat {ps : List (List UInt8)} {i : Nat} {p : List UInt8} (h : ps[i]? = some p) : (ps.take (i + 1)).flatten = (ps.take i).flatten ++ p := by
  rw [List.take_add_one, h, List.flatten_append]; simp
theorem take_flat_le (ps : List (List UInt8)) (i : Nat) : (ps.take i).flatten.length ≤ ps.flatten.length := by
  have h := congrArg List.flatten (List.take_append_drop i ps)
  rw [List.flatten_append] at h
  rw [← h, List.length_append]; omega
theorem line_spec {b : Nat} {l : List UInt8} {ps : List (List UInt8)} {a : Option Addr} {c : Nat} (hp : ps.length ≤ 1000000) (hN : l.length + ps.flatten.length + 2 ≤ 140737488355328) (h : K (.tuple #[]) (txt b (l ++ (ps.flatten ++ crlf)) :: F)) : Tri Tryd.prog 41 #[ptr b, .slice a ps.length c] w0 (txt b l :: tView w0 (.slice a ps.length c) ps :: F) K := by
  refine Tri.enterF Tryd.func41 Tryd.ntmps41 Tryd.results41 rfl rfl fun fr hfr => ?_
  repeat' (first | refine walk ?_ | exact trivial | refine Tw.mk ?_ ?_ | fail)
  refine XS.loopI (ι := Nat) (fun i => [(0, ptr b), (6, .slice a ps.length c), (7, kI ps.length), (8, kI i)]) (fun i => txt b (l ++ (ps.take i).flatten) :: tView w0 (.slice a ps.length c) ps :: F)
    (fun i => i ≤ ps.length) (fun i => ps.length - i) 0 (Nat.zero_le _) ⟨rfl, rfl, rfl, rfl, trivial⟩ (by simp only [List.take_zero, List.flatten_nil, List.append_nil]; exact Ent.refl _) ?_
  rintro i e hi ih
  have hfl := take_flat_le ps i
  by_cases hlt : i < ps.length
  · obtain ⟨p, hp⟩ : ∃ c, ps[i]? = some c := ⟨_, List.getElem?_eq_getElem hlt⟩
    have htk := take_flat hp
    have hfl2 := take_flat_le ps (i + 1)
    rw [htk, List.length_append] at hfl2
    have hN2 : (l ++ (ps.take i).flatten).length + p.length ≤ 140737488355328 := by rw [List.length_append]; omega
    refine XS.sel1 (c := tView w0 (.slice a ps.length c) ps) (XS.viewOpen (by omega) fun g off c3 hv hc3 => ?_)
    injection hv with hv1 _ hv3
    subst hv1 hv3
    repeat' (first | refine walk ?_ | exact trivial | refine Tw.mk ?_ ?_ | intro hy | (exfalso; omega) | refine XO.load TT_ok rfl rfl rfl rfl rfl rfl (Reads.view1 lenc_len hp rfl) ?_ | (refine Tri.sel1 (c := txt b (l ++ (ps.take i).flatten)) (wstr_spec bldT_text hN2 ?_)) | fail)
    refine ih (i + 1) _ _ hlt (by omega) ⟨rfl, rfl, rfl, rfl, trivial⟩ ?_
    rw [htk, List.append_assoc]
    exact Ent.cons _ (Ent.viewAt hc3)
  · obtain rfl : i = ps.length := by omega
    clear ih
    rw [List.take_length]
    have hN2 : (l ++ ps.flatten).length + crlf.length ≤ 140737488355328 := by rw [List.length_append]; exact hN
    repeat' (first | refine walk ?_ | exact trivial | refine Tw.mk ?_ ?_ | intro hy | (exfalso; omega) | refine wstr_spec (s := crlf) bldT_text hN2 ?_ | fail)
    refine Out.e h ?_
    rw [List.append_assoc]
    exact Ent.cons _ (Ent.drop _ _)
/-- A line of texts that lie in a row made for it. -/
theorem line_cel {b bn n c : Nat} {l : List UInt8} {vs : List Value} (ps : List (List UInt8)) (hv : vs = flat lenc ps) (hn : n = ps.length) (hc : c = ps.length) (hp : ps.length ≤ 1000000) (hN : l.length + ps.flatten.length + 2 ≤ 140737488355328) (h : K (.tuple #[]) (txt b (l ++ (ps.flatten ++ crlf)) :: F)) : Tri Tryd.prog 41 #[ptr b, .slice (some ⟨bn, 0, none⟩) n c] w0 (txt b l :: cel bn 9 vs :: F) K := by
  subst hv hn hc
  refine Tri.ent (Ent.cons _ (Ent.celView (n := ps.length) (es := 1) (flat_length lenc_len _) (by simp only [maxLen]; omega))) (line_spec hp hN h)
theorem line_nil {b : Nat} {l : List UInt8} {a : Option Addr} {c : Nat} (hN : l.length + 2 ≤ 140737488355328) (h : K (.tuple #[]) (txt b (l ++ crlf) :: F)) : Tri Tryd.prog 41 #[ptr b, .slice a 0 c] w0 (txt b l :: F) K :=
  Tri.ent (Ent.cons _ (Ent.nilView 1 a c)) (line_spec (ps := []) (by simp) hN h)
theorem tfield_spec {b : Nat} {l n v : List UInt8} (hN : l.length + n.length + v.length + 4 ≤ 140737488355328) (h : K (.tuple #[]) (txt b (l ++ fieldL n v) :: F)) : Tri Tryd.prog 45 #[ptr b, kS n, kS v] w0 (txt b l :: F) K := by
  have e1 : l ++ ([n, [58, 32], v].flatten ++ crlf) = l ++ fieldL n v := by simp [fieldL]
  have hN2 : l.length + [n, [58, 32], v].flatten.length + 2 ≤ 140737488355328 := by simp only [List.flatten_cons, List.flatten_nil, List.length_append, List.length_cons, List.length_nil]; omega
  refine Tri.enterF Tryd.func45 Tryd.ntmps45 Tryd.results45 rfl rfl fun fr hfr => ?_
  rw [← e1] at h
  repeat' (first | refine walk ?_ | exact trivial | refine Tw.mk ?_ ?_ | intro (bn : Nat) | refine Tri.sel1 (c := txt b l) (line_cel [n, [58, 32], v] rfl rfl rfl (by simp) hN2 ?_) | exact Out.i h | fail)
theorem upgrade_spec {b : Nat} {l v : List UInt8} (hN : l.length + v.length + 64 ≤ 140737488355328) (h : K (.tuple #[]) (txt b (l ++ fieldL [67, 111, 110, 110, 101, 99, 116, 105, 111, 110] [117, 112, 103, 114, 97, 100, 101] ++ fieldL [85, 112, 103, 114, 97, 100, 101] v) :: F)) : Tri Tryd.prog 46 #[ptr b, kS v] w0 (txt b l :: F) K := by
  have hN1 : l.length + [67, 111, 110, 110, 101, 99, 116, 105, 111, 110].length + [117, 112, 103, 114, 97, 100, 101].length + 4 ≤ 140737488355328 := by simp only [List.length_cons, List.length_nil]; omega
  have hN2 : (l ++ fieldL [67, 111, 110, 110, 101, 99, 116, 105, 111, 110] [117, 112, 103, 114, 97, 100, 101]).length + [85, 112, 103, 114, 97, 100, 101].length + v.length + 4 ≤ 140737488355328 := by rw [List.length_append, fieldL_len]; simp only [List.length_cons, List.length_nil]; omega
  refine Tri.enterF Tryd.func46 Tryd.ntmps46 Tryd.results46 rfl rfl fun fr hfr => ?_
  repeat' (first | refine walk ?_ | exact trivial | refine Tw.mk ?_ ?_ | refine tfield_spec (n := [67, 111, 110, 110, 101, 99, 116, 105, 111, 110]) hN1 ?_ | refine tfield_spec (n := [85, 112, 103, 114, 97, 100, 101]) hN2 ?_ | exact Out.i h | fail)
end Go.Proofs.YtngicmoadobgpaaDoor

/- Contracts: numbers in digits, texts joined, the program's by the library's contracts. Conditions: the listed table reads as the row lists it. -/
namespace Go.Proofs.YtngicmoadobgpaaDoor
open Go Go.Sx Go.ChunkM Go.StrM Go.EmitM Go.RowKit
variable {w0 : World} {F H : List HProp} {K : Value → List HProp → Prop}
/-- The powers of ten lie where they lay. -/
structure T10 (w0 : World) : Prop where
  tab : Lib.TabIs Tryd.prog w0 "internal/strconv.uint64pow10" .u64 Lib.pow10Tab
  low : ∃ g, Tryd.prog.globalNamed "internal/strconv.uint64pow10" = some g ∧ g < w0.heap.size
theorem T10.at {w : World} (t : T10 w0) (h : Rel w0 H w) : Lib.TabIs Tryd.prog w "internal/strconv.uint64pow10" .u64 Lib.pow10Tab := by
  obtain ⟨g, hg, hlt⟩ := t.low
  have h1 := t.tab
  unfold Lib.TabIs World.var? at h1 ⊢
  rw [hg] at h1 ⊢
  simp only [Option.bind_some] at h1 ⊢
  rw [h.below.block g hlt]; exact h1
theorem below_grow (k : Nat) (os : Array Obj) (w : World) : Below w.heap.size w (Go.Sort.grow (w.drewN k) os) := by
  refine ⟨rfl, rfl, rfl, ?_, fun i hi => ?_⟩
  · simp [Go.Sort.grow, World.drewN]
  · simp [Go.Sort.grow, World.drewN, Array.getElem?_append_left hi]
theorem itoa_spec {z : Int} (ht : T10 w0) (h0 : -9223372036854775808 ≤ z) (h1 : z ≤ 9223372036854775807) (h : K (kS (Lib.itoa z)) H) : Tri Tryd.prog 42 #[.int .i64 z] w0 H K :=
  Tri.ofBelow (fun w hr => (Any.strconv_Itoa Tryd.itoaN z h0 h1 w (ht.at hr)).mono fun _ _ ⟨he, k, os, hw⟩ => ⟨he, hw ▸ below_grow k os w⟩) h
theorem joinX : Builder.Extra Tryd.prog Tryd.joinN_ren :=
  { sizeBuilder := by kernel_rfl, liesBuilder := by kernel_rfl, t5 := Tryd.underlying5, a5 := Tryd.isAgg5, z5 := Tryd.sizeOf5, v5 := Tryd.zeroValue5, infoByte := by kernel_rfl, cellsByte := by kernel_rfl, sizeByte := by kernel_rfl, neB5 := by decide }
theorem join_eq (more sep : List UInt8) : ∀ vs : List (List UInt8), Lib.join (vs ++ [more]) sep = vs.flatMap (· ++ sep) ++ more
  | [] => by rw [List.nil_append, Lib.join_one]; rfl
  | [v] => by
    rw [List.singleton_append, Lib.join_cons]; simp [Lib.joinTail]
  | v :: x :: vs => by
    have ih := join_eq more sep (x :: vs)
    rw [List.cons_append, Lib.join_cons] at ih
    rw [List.cons_append, Lib.join_cons, List.flatMap_cons, List.append_assoc, ← ih, List.append_assoc]
    simp [Lib.joinTail]
theorem sJoin_spec {vs : List (List UInt8)} {more : List UInt8} {a : Option Addr} {c : Nat} (hN : vs.length + 1 ≤ 140737488355328) (hl : (joinV vs more).length ≤ 140737488355328) (h : K (kS (joinV vs more)) F) : Tri Tryd.prog 67 #[.slice a (vs ++ [more]).length c, kS [44, 32]] w0 (tRow a c (vs ++ [more]) :: F) K := by
  have hlen : (vs ++ [more]).length = vs.length + 1 := by simp
  refine Tri.rowOpen (by omega) fun g hg => ?_
  subst hg
  have key : ∀ w, Rel w0 (RowAt g c 9 1 (vs ++ [more]).length (flat lenc (vs ++ [more])) :: F) w → Calls Tryd.prog 67 #[.slice (some ⟨g, 0, none⟩) (vs ++ [more]).length c, kS [44, 32]] w fun e w' => e = .returned (kS (joinV vs more)) ∧ Below w.heap.size w w' := by
    intro w hr
    obtain ⟨tail, hb, h1, h2, h3, h4⟩ := hr.rowAt_blk
    have hj : Lib.join (((vs ++ [more]).map S).map (·.data.toList)) (S [44, 32]).data.toList = joinV vs more := by
      rw [List.map_map]
      have : (vs ++ [more]).map ((fun x : ByteArray => x.data.toList) ∘ S) = vs ++ [more] := by
        rw [show ((fun x : ByteArray => x.data.toList) ∘ S) = id from funext fun l => by simp]
        exact List.map_id _
      rw [this]; exact join_eq more [44, 32] vs
    have := Any.strings_Join Tryd.joinN joinX g 0 c ((vs ++ [more]).map S) (S [44, 32]) w (fun j x hj => by
      rw [List.getElem?_map, Option.map_eq_some_iff] at hj
      obtain ⟨l, hl, rfl⟩ := hj
      have := Reads.row (F := F) (w0 := w0) (b := g) (cap := c) (t := 9) (flat_get (enc := lenc) lenc_len hl (j := 0) (v := kS l) rfl) w hr
      simpa using this)
      ((Array.getElem?_eq_some_iff.1 hb.get).1) (by rw [List.length_map]; omega) (by rw [List.length_map]; exact h3) (by rw [hj]; exact hl)
    rw [List.length_map, hj] at this
    exact this
  exact ⟨fun w hr => (key w hr).mono fun _ _ ⟨he, hb⟩ => ⟨_, _, he, (hr.later hb).ent (Ent.drop _ _), h⟩⟩
end Go.Proofs.YtngicmoadobgpaaDoor

/- Contracts: what is told on of fields; the values of a name joined. Conditions: the fields are small. -/
namespace Go.Sx
open Go Go.RowKit
section
variable {P : Program} {w0 : World} {b : Frame} {n : Nat} {R : Value → List HProp → Prop} {k : List Item} {e : Env} {H : List HProp}
theorem XS.scope {c : Code} (h : XS P w0 b n R (.code c :: .inScope c :: k) e H) : XS P w0 b n R (.code (.scope c) :: k) e H := .step (fun _ _ => step_scope) h
theorem XS.inScope {c : Code} (h : XS P w0 b n R k e H) : XS P w0 b n R (.inScope c :: k) e H := .step (fun _ _ => step_inScope) h
end
end Go.Sx
namespace Go.Proofs.YtngicmoadobgpaaDoor
open Go Go.Sx Go.ChunkM Go.StrM Go.EmitM
variable {w0 : World} {F H : List HProp} {K : Value → List HProp → Prop}
theorem fsS_ok {fs : List Fld} (h : FsS fs) : FsOk fs := ⟨by have := h.1; omega, fun f hf => by have h1 := fbytes_mem hf; have h2 := h.2; constructor <;> omega⟩
theorem fsS_strip {fs : List Fld} (h : FsS fs) : FsS (strip fs) := ⟨Nat.le_trans (List.length_filter_le _ _) h.1, Nat.le_trans (fbytes_filter _ fs) h.2⟩
theorem fsS_val {fs : List Fld} (h : FsS fs) : ∀ f ∈ fs, f.2.length ≤ 8796093022207 := fun f hf => by have h1 := fbytes_mem hf; have h2 := h.2; omega
theorem fsS_names {fs : List Fld} (h : FsS fs) : (names fs).length ≤ 8796093022207 := by
  have h1 := elemsF_len [67, 111, 110, 110, 101, 99, 116, 105, 111, 110] fs
  have h2 := h.1; have h3 := h.2
  unfold Go.EmitM.names
  rw [List.length_append]
  have : fixed.length = 7 := rfl
  omega
theorem strip_specS {fs gs : List Fld} {a : Option Addr} {c : Nat} (hS : FsS fs) (hg : gs = strip fs) (h : ∀ a2 c2, K (.slice a2 gs.length c2) (fRow a2 c2 gs :: fView w0 (.slice a fs.length c) fs :: F)) : Tri Tryd.prog 65 #[.slice a fs.length c] w0 (fView w0 (.slice a fs.length c) fs :: F) K := by
  subst hg; exact strip_spec (fsS_ok hS) (fsS_names hS) (fsS_val hS) h
theorem take_onP {gs : List Fld} {but : List (List UInt8)} {i : Nat} {f : Fld} (h : gs[i]? = some f) : (gs.take (i + 1)).flatMap (onP but) = (gs.take i).flatMap (onP but) ++ onP but f := by
  rw [List.take_add_one, h, List.flatMap_append]; simp
theorem take_onP_le (gs : List Fld) (but : List (List UInt8)) (i : Nat) : ((gs.take i).flatMap (onP but)).length ≤ fbytes gs + 4 * gs.length := by
  have h := congrArg fbytes (List.take_append_drop i gs)
  rw [fbytes_app] at h
  have h1 := onPs_len but (gs.take i)
  have h2 : (gs.take i).length ≤ gs.length := by rw [List.length_take]; omega
  omega
theorem onP_hit {but : List (List UInt8)} {f : Fld} {j : Nat} {m : List UInt8} (h : but[j]? = some m) (ha : alike f.1 m = true) : onP but f = [] := by
  unfold onP
  rw [if_pos (List.any_eq_true.2 ⟨m, List.mem_of_getElem? h, ha⟩)]
theorem onP_miss {but : List (List UInt8)} {f : Fld} (h : ∀ (j : Nat) m, but[j]? = some m → alike f.1 m = false) : onP but f = fieldL f.1 f.2 := by
  unfold onP
  rw [if_neg]
  intro hc
  obtain ⟨m, hm, ha⟩ := List.any_eq_true.1 hc
  obtain ⟨j, hj⟩ := List.getElem?_of_mem hm
  rw [h j m hj] at ha; cases ha
theorem on_spec {b : Nat} {l : List UInt8} {fs : List Fld} {but : List (List UInt8)} {a a2 : Option Addr} {c c2 : Nat} (hS : FsS fs) (hb : but.length ≤ 16) (hN : l.length ≤ 70368744177664) (h : K (.tuple #[]) (txt b (l ++ onL but fs) :: fView w0 (.slice a fs.length c) fs :: F)) : Tri Tryd.prog 43 #[ptr b, .slice a fs.length c, .slice a2 but.length c2] w0 (txt b l :: fView w0 (.slice a fs.length c) fs :: tView w0 (.slice a2 but.length c2) but :: F) K := by
  obtain ⟨gs, hgs⟩ : ∃ gs, gs = strip fs := ⟨_, rfl⟩
  have hG := fsS_strip hS
  rw [← hgs] at hG
  have hG1 := hG.1
  have hG2 := hG.2
  have hL : onL but fs = gs.flatMap (onP but) := by rw [hgs]; rfl
  rw [hL] at h
  refine Tri.enterF Tryd.func43 Tryd.ntmps43 Tryd.results43 rfl rfl fun fr hfr => ?_
  repeat' (first | refine walk ?_ | exact trivial | refine Tw.mk ?_ ?_ | refine XS.scope ?_ | refine Tri.sel1 (c := fView w0 (.slice a fs.length c) fs) (strip_specS hS hgs (fun a3 c3 => ?_)) | fail)
  refine XS.loopI (ι := Nat) (fun i => [(0, ptr b), (2, .slice a2 but.length c2), (11, .slice a3 gs.length c3), (12, kI gs.length), (13, kI i)]) (fun i => txt b (l ++ (gs.take i).flatMap (onP but)) :: fView w0 (.slice a3 gs.length c3) gs :: fView w0 (.slice a fs.length c) fs :: tView w0 (.slice a2 but.length c2) but :: F)
    (fun i => i ≤ gs.length) (fun i => gs.length - i) 0 (Nat.zero_le _) ⟨rfl, rfl, rfl, rfl, rfl, trivial⟩ (by simp only [List.take_zero, List.flatMap_nil, List.append_nil]; exact Ent.trans Ent.rowView entA) ?_
  rintro i e hi ih
  by_cases hlt : i < gs.length
  · obtain ⟨⟨n1, v1⟩, hf⟩ : ∃ f, gs[i]? = some f := ⟨_, List.getElem?_eq_getElem hlt⟩
    obtain ⟨hn1, hv1⟩ := (fsS_ok hG).2 _ (List.mem_of_getElem? hf)
    simp only at hn1 hv1
    have htk := take_onP (but := but) hf
    have hfl := take_onP_le gs but i
    have hfb := fbytes_mem (List.mem_of_getElem? hf)
    simp only at hfb
    refine XS.sel1 (c := fView w0 (.slice a3 gs.length c3) gs) (XS.viewOpen (by omega) fun g off c4 hv hc4 => ?_)
    injection hv with hv1 _ hv3
    subst hv1 hv3
    have hE : ∀ X : List HProp, Ent (Sx.viewAt w0 g off 2 gs.length (flat fenc gs) :: X) (fView w0 (.slice (some ⟨g, off, none⟩) gs.length c3) gs :: X) := fun X => Ent.viewAt hc4
    repeat' (first | refine walk ?_ | exact trivial | refine Tw.mk ?_ ?_ | intro (bt : Nat) | intro hy | (exfalso; omega) | refine XO.loadN TT_ok rfl rfl rfl rfl rfl rfl rfl (ReadsN.viewFlat fenc_len hf) ?_ | fail)
    refine XS.loopI (ι := Nat) (fun j => [(0, ptr b), (2, .slice a2 but.length c2), (7, ptr bt), (11, .slice (some ⟨g, off, none⟩) gs.length c3), (12, kI gs.length), (13, kI i), (17, .slice a2 but.length c2), (18, kI but.length), (19, kI j)]) (fun _ => cel bt 59 [kS n1, kS v1] :: txt b (l ++ (gs.take i).flatMap (onP but)) :: fView w0 (.slice (some ⟨g, off, none⟩) gs.length c3) gs :: fView w0 (.slice a fs.length c) fs :: tView w0 (.slice a2 but.length c2) but :: F)
      (fun j => j ≤ but.length ∧ ∀ (k : Nat) m, k < j → but[k]? = some m → alike n1 m = false) (fun j => but.length - j) 0 ⟨Nat.zero_le _, fun k _ hk => absurd hk (Nat.not_lt_zero k)⟩ ⟨rfl, rfl, rfl, rfl, rfl, rfl, rfl, rfl, rfl, trivial⟩ (Ent.trans (Ent.trans (selA (c := Sx.viewAt w0 g off 2 gs.length (flat fenc gs))) (hE _)) entA) ?_
    rintro j e2 ⟨hj, hno⟩ ih2
    by_cases hjl : j < but.length
    · obtain ⟨m, hm⟩ : ∃ c, but[j]? = some c := ⟨_, List.getElem?_eq_getElem hjl⟩
      refine XS.sel1 (c := tView w0 (.slice a2 but.length c2) but) (XS.viewOpen (by omega) fun g2 off2 c5 hv5 hc5 => ?_)
      injection hv5 with hv1 _ hv3
      subst hv1 hv3
      have hE2 : ∀ X : List HProp, Ent (Sx.viewAt w0 g2 off2 1 but.length (flat lenc but) :: X) (tView w0 (.slice (some ⟨g2, off2, none⟩) but.length c2) but :: X) := fun X => Ent.viewAt hc5
      cases hal : alike n1 m
      · repeat' (first | refine walk ?_ | exact trivial | refine Tw.mk ?_ ?_ | intro hy | (exfalso; omega) | refine XO.load TT_ok rfl rfl rfl rfl rfl rfl (Reads.view1 lenc_len hm rfl) ?_ | (refine alike_spec hn1 ?_; rw [hal]) | fail)
        refine ih2 (j + 1) _ _ ⟨hjl, fun k m2 hk hkm => ?_⟩ (by omega) ⟨rfl, rfl, rfl, rfl, rfl, rfl, rfl, rfl, rfl, trivial⟩ (Ent.trans (hE2 _) entA)
        rcases Nat.lt_or_ge k j with h4 | h4
        · exact hno k m2 h4 hkm
        · obtain rfl : k = j := by omega
          rw [hm] at hkm; injection hkm with hkm; subst hkm; exact hal
      · rw [onP_hit hm hal, List.append_nil] at htk
        repeat' (first | refine walk ?_ | exact trivial | refine Tw.mk ?_ ?_ | intro hy | (exfalso; omega) | refine XO.load TT_ok rfl rfl rfl rfl rfl rfl (Reads.view1 lenc_len hm rfl) ?_ | (refine alike_spec hn1 ?_; rw [hal]) | fail)
        refine ih (i + 1) _ _ hlt (by omega) ⟨rfl, rfl, rfl, rfl, rfl, trivial⟩ ?_
        rw [htk]
        exact Ent.trans (hE2 _) entA
    · obtain rfl : j = but.length := by omega
      clear ih2
      rw [onP_miss fun k m hkm => hno k m (List.getElem?_eq_some_iff.1 hkm).1 hkm] at htk
      have hN2 : (l ++ (gs.take i).flatMap (onP but)).length + n1.length + v1.length + 4 ≤ 140737488355328 := by rw [List.length_append]; omega
      repeat' (first | refine walk ?_ | exact trivial | refine Tw.mk ?_ ?_ | intro hy | (exfalso; omega) | (refine Tri.sel1 (c := txt b (l ++ (gs.take i).flatMap (onP but))) (tfield_spec hN2 ?_)) | fail)
      refine ih (i + 1) _ _ hlt (by omega) ⟨rfl, rfl, rfl, rfl, rfl, trivial⟩ ?_
      rw [htk, ← List.append_assoc]
      exact entA
  · obtain rfl : i = gs.length := by omega
    clear ih
    rw [List.take_length]
    repeat' (first | refine walk ?_ | exact trivial | refine Tw.mk ?_ ?_ | intro hy | (exfalso; omega) | refine XS.inScope ?_ | exact Out.e h entA | fail)
theorem joined_spec {b : Nat} {l nm more : List UInt8} {fs : List Fld} {a : Option Addr} {c : Nat} (hS : FsS fs) (hn : nm.length ≤ 1000) (hm : more.length ≤ 35184372088832) (hN : l.length ≤ 35184372088832) (h : K (.tuple #[]) (txt b (l ++ joinL fs nm more) :: fView w0 (.slice a fs.length c) fs :: F)) : Tri Tryd.prog 44 #[ptr b, .slice a fs.length c, kS nm, kS more] w0 (txt b l :: fView w0 (.slice a fs.length c) fs :: F) K := by
  have hS1 := hS.1
  have hS2 := hS.2
  refine Tri.enterF Tryd.func44 Tryd.ntmps44 Tryd.results44 rfl rfl fun fr hfr => ?_
  repeat' (first | refine walk ?_ | exact trivial | refine Tw.mk ?_ ?_ | fail)
  refine XS.loopI (ι := Nat × Option Addr × Nat) (fun q => [(0, ptr b), (2, kS nm), (3, kS more), (8, .slice q.2.1 (values (fs.take q.1) nm).length q.2.2), (11, .slice a fs.length c), (12, kI fs.length), (13, kI q.1)]) (fun q => tRow q.2.1 q.2.2 (values (fs.take q.1) nm) :: txt b l :: fView w0 (.slice a fs.length c) fs :: F)
    (fun q => q.1 ≤ fs.length) (fun q => fs.length - q.1) (0, none, 0) (Nat.zero_le _) ⟨rfl, rfl, rfl, rfl, rfl, rfl, rfl, trivial⟩ (Row.nil _ _ _) ?_
  rintro ⟨i, a2, c2⟩ e hi ih
  simp only at hi
  dsimp only
  have hml := values_len nm (fs.take i)
  rw [List.length_take] at hml
  by_cases hlt : i < fs.length
  · obtain ⟨⟨n1, v1⟩, hf⟩ : ∃ f, fs[i]? = some f := ⟨_, List.getElem?_eq_getElem hlt⟩
    obtain ⟨hn1, hv1⟩ := (fsS_ok hS).2 _ (List.mem_of_getElem? hf)
    simp only at hn1 hv1
    have htk : values (fs.take (i + 1)) nm = values (fs.take i) nm ++ values [(n1, v1)] nm := by rw [List.take_add_one, hf]; exact values_app _ _ _
    refine XS.sel1 (c := fView w0 (.slice a fs.length c) fs) (XS.viewOpen (by omega) fun g off c3 hv hc3 => ?_)
    injection hv with hv1 _ hv3
    subst hv1 hv3
    have hE : ∀ X : List HProp, Ent (Sx.viewAt w0 g off 2 fs.length (flat fenc fs) :: X) (fView w0 (.slice (some ⟨g, off, none⟩) fs.length c) fs :: X) := fun X => Ent.viewAt hc3
    cases hal : alike n1 nm
    · have h1 : values [(n1, v1)] nm = [] := by simp [values, hal]
      rw [h1, List.append_nil] at htk
      repeat' (first | refine walk ?_ | exact trivial | refine Tw.mk ?_ ?_ | intro (bt : Nat) | intro hy | (exfalso; omega) | refine XO.loadN TT_ok rfl rfl rfl rfl rfl rfl rfl (ReadsN.viewFlat fenc_len hf) ?_ | (refine alike_spec hn1 ?_; rw [hal]) | fail)
      refine ih (i + 1, a2, c2) _ _ hlt (by simp only; omega) ⟨rfl, rfl, rfl, by dsimp only; rw [htk]; rfl, rfl, rfl, rfl, trivial⟩ ?_
      dsimp only; rw [htk]
      exact Ent.trans (Ent.trans (selA (c := Sx.viewAt w0 g off 2 fs.length (flat fenc fs))) (hE _)) entA
    · have h1 : values [(n1, v1)] nm = [v1] := by simp [values, hal]
      rw [h1] at htk
      have hfl : flat lenc (values (fs.take i) nm) ++ [kS v1] = flat lenc (values (fs.take (i + 1)) nm) := by rw [htk, flat_snoc]; rfl
      have hsn : (values (fs.take (i + 1)) nm).length = (values (fs.take i) nm).length + 1 := by rw [htk, List.length_append]; rfl
      repeat' (first | refine walk ?_ | exact trivial | refine Tw.mk ?_ ?_ | intro (bt : Nat) | intro hy | (exfalso; omega) | refine XO.loadN TT_ok rfl rfl rfl rfl rfl rfl rfl (ReadsN.viewFlat fenc_len hf) ?_ | (refine alike_spec hn1 ?_; rw [hal]) | (refine XO.sel1 (c := tRow _ _ (values (fs.take i) nm)) ?_; refine XO.appendG (N := 8796093022208) (flat lenc (values (fs.take (i + 1)) nm)) TT_ok trivial rfl rfl rfl rfl rfl rfl rfl rfl rfl rfl rfl rfl rfl (by omega) rfl rfl hfl (fun _ _ => trivial) (fun a' cap' => ?_)) | fail)
      refine ih (i + 1, _, _) _ _ hlt (by simp only; omega) ⟨rfl, rfl, rfl, by dsimp only; rw [hsn]; rfl, rfl, rfl, rfl, trivial⟩ ?_
      dsimp only; rw [← hsn]
      refine Ent.cons _ ?_
      exact Ent.trans (Ent.trans (selA (c := Sx.viewAt w0 g off 2 fs.length (flat fenc fs))) (hE _)) entA
  · obtain rfl : i = fs.length := by omega
    clear ih
    have hvb := values_bytes nm fs
    rw [List.take_length] at *
    have hfl : flat lenc (values fs nm) ++ [kS more] = flat lenc (values fs nm ++ [more]) := by rw [flat_snoc]; rfl
    have hsn : (values fs nm ++ [more]).length = (values fs nm).length + 1 := by rw [List.length_append]; rfl
    have hjl := joinV_len (values fs nm) more
    have hN2 : l.length + nm.length + (joinV (values fs nm) more).length + 4 ≤ 140737488355328 := by omega
    repeat' (first | refine walk ?_ | exact trivial | refine Tw.mk ?_ ?_ | intro hy | (exfalso; omega) | (refine XO.sel1 (c := tRow _ _ (values fs nm)) ?_; refine XO.appendG (N := 8796093022208) (flat lenc (values fs nm ++ [more])) TT_ok trivial rfl rfl rfl rfl rfl rfl rfl rfl rfl rfl rfl rfl rfl (by omega) rfl rfl hfl (fun _ _ => trivial) (fun a' cap' => ?_)) | fail)
    rw [← hsn]
    repeat' (first | refine walk ?_ | exact trivial | refine Tw.mk ?_ ?_ | refine sJoin_spec (by omega) (by omega) ?_ | (refine Tri.sel1 (c := txt b l) (tfield_spec hN2 ?_)) | fail)
end Go.Proofs.YtngicmoadobgpaaDoor
