/- Contracts: strings.Builder. Conditions: no more bytes than memory bears. -/
import Derived.Test.YtngicmoadobgpaaDoorStrC
import Derived.Test.YtngicmoadobgpaaDoorSxUns
namespace Go.Proofs.YtngicmoadobgpaaDoor
open Go Go.Sx Go.ChunkM Go.StrM
variable {w0 : World} {F H : List HProp} {K : Value → List HProp → Prop}
/-- A builder in a block of its own: what it holds. -/
def bld (b : Nat) (tb : TypeId) (l : List UInt8) : HProp := hex fun q : { q : Bool × Option Addr × Nat // q.2.1 = none ∨ 0 < q.2.2 } =>
  stars [cel b tb [.pointer (if q.1.1 then some ⟨b, 0, none⟩ else none), .slice q.1.2.1 l.length q.1.2.2], Row q.1.2.1 q.1.2.2 5 1 l.length (bys l)]
theorem bld_mk {b tb : Nat} {l : List UInt8} (p : Bool) {a : Option Addr} {c : Nat} (h : a = none ∨ 0 < c) : Ent (cel b tb [.pointer (if p then some ⟨b, 0, none⟩ else none), .slice a l.length c] :: Row a c 5 1 l.length (bys l) :: F) (bld b tb l :: F) :=
  Ent.trans Ent.pack2 (Ent.hex (f := fun q : { q : Bool × Option Addr × Nat // q.2.1 = none ∨ 0 < q.2.2 } => stars [cel b tb [.pointer (if q.1.1 then some ⟨b, 0, none⟩ else none), .slice q.1.2.1 l.length q.1.2.2], Row q.1.2.1 q.1.2.2 5 1 l.length (bys l)]) ⟨(p, a, c), h⟩)
theorem bld_open {f : FuncId} {args : Array Value} {b tb : Nat} {l : List UInt8} (h : ∀ (p : Bool) (a : Option Addr) (c : Nat), (a = none ∨ 0 < c) → Tri Tryd.prog f args w0 (cel b tb [.pointer (if p then some ⟨b, 0, none⟩ else none), .slice a l.length c] :: Row a c 5 1 l.length (bys l) :: F) K) : Tri Tryd.prog f args w0 (bld b tb l :: F) K :=
  Tri.ex (ι := { q : Bool × Option Addr × Nat // q.2.1 = none ∨ 0 < q.2.2 }) (H' := fun q => cel b tb [.pointer (if q.1.1 then some ⟨b, 0, none⟩ else none), .slice q.1.2.1 l.length q.1.2.2] :: Row q.1.2.1 q.1.2.2 5 1 l.length (bys l) :: F)
    (fun _ hr => let ⟨x, hx⟩ := Rel.hex hr; ⟨x, hx.ent Ent.unpack2⟩) (fun q => h q.1.1 q.1.2.1 q.1.2.2 q.2)
/-- A new one. -/
theorem bld_new {b tb : Nat} : Ent (cel b tb [.pointer none, .slice none 0 0] :: F) (bld b tb [] :: F) :=
  Ent.trans (Ent.cons _ (Row.nil 5 1 F)) (bld_mk (l := []) false (.inl rfl))
/-- The types at whose beginning a builder lies. -/
def bldT (tb : TypeId) : Prop := liesAt Tryd.prog Tryd.prog.depth tb (2 / Tryd.prog.cellsOf tb) 0 74 1 = true
theorem bldT_own : bldT 74 := by unfold bldT; kernel_rfl
set_option maxRecDepth 100000 in
theorem noEsc_run (v : Value) (w : World) : (callFunc 75 ⟨[v]⟩).run Tryd.prog w = .ok (.value v) w := by
  rw [run_callFunc_extern Tryd.func75 (by kernel_rfl) (by kernel_rfl) (by kernel_rfl) (e := Extern.AbiNoEscape.same) (by kernel_rfl), Lib.run_noEscape]
  rfl
set_option maxRecDepth 20000 in
theorem copyCheck_spec {b tb : Nat} {p : Bool} {v : Value} (ht : bldT tb) (h : K (.tuple #[]) (cel b tb [ptr b, v] :: F)) : Tri Tryd.prog 60 #[ptr b] w0 (cel b tb [.pointer (if p then some ⟨b, 0, none⟩ else none), v] :: F) K := by
  cases p with
  | true =>
    refine Tri.enterF Tryd.func60 Tryd.ntmps60 Tryd.results60 rfl rfl fun fr hfr => ?_
    simp only [if_true]
    repeat' (first | refine walk ?_ | exact trivial | refine Tw.mk ?_ ?_ | refine XO.neqSame TT_ok rfl rfl rfl rfl rfl rfl rfl rfl rfl ?_ | exact Out.i h | fail)
  | false =>
    refine Tri.enterF Tryd.func60 Tryd.ntmps60 Tryd.results60 rfl rfl fun fr hfr => ?_
    simp only [Bool.false_eq_true, if_false]
    have nx := noEsc_run (.pointer (some ⟨b, 0, none⟩))
    repeat' (first | refine walk ?_ | exact trivial | refine Tw.mk ?_ ?_ | refine XO.toUnsafe TT_ok trivial rfl rfl rfl rfl rfl rfl rfl rfl ?_ | refine XO.callX trivial rfl rfl rfl rfl (noEsc_run _) ?_ | refine XO.fromUnsafe TT_ok trivial rfl rfl rfl rfl rfl rfl rfl ht ?_ | exact Out.i h | fail)
theorem bld_of {b tb n : Nat} {l : List UInt8} {vs : List Value} {a : Option Addr} {c : Nat} (hn : n = l.length) (hv : vs = bys l) (h : a = none ∨ 0 < c) : Ent (cel b tb [ptr b, .slice a n c] :: Row a c 5 1 n vs :: F) (bld b tb l :: F) := by
  subst hn hv; exact bld_mk true h
set_option maxRecDepth 20000 in
theorem wstr_spec {b tb : Nat} {l s : List UInt8} (ht : bldT tb) (hN : l.length + s.length ≤ 140737488355328) (h : K (.tuple #[kI s.length, .nilIface]) (bld b tb (l ++ s) :: F)) : Tri Tryd.prog 36 #[ptr b, kS s] w0 (bld b tb l :: F) K := by
  refine bld_open fun p a c hac => ?_
  refine Tri.enterF Tryd.func36 Tryd.ntmps36 Tryd.results36 rfl rfl fun fr hfr => ?_
  repeat' (first | refine walk ?_ | exact trivial | refine Tw.mk ?_ ?_ | refine copyCheck_spec ht ?_ | (refine XO.sel1 (c := Row a c 5 1 l.length (bys l)) ?_; refine XO.appendS TT_ok trivial rfl rfl rfl rfl rfl rfl rfl rfl rfl rfl rfl hN (fun _ _ => trivial) (fun a' cap' hn => ?_)) | fail)
  exact Out.e h (Ent.trans (selA (c := cel b tb [ptr b, .slice a' (l.length + s.length) cap'])) (bld_of (by simp) (by simp [bys]) (hn hac)))
theorem bstr_spec {b tb : Nat} {l : List UInt8} (h : K (kS l) F) : Tri Tryd.prog 38 #[ptr b] w0 (bld b tb l :: F) K := by
  refine bld_open fun p a c hac => ?_
  refine Tri.enterF Tryd.func38 Tryd.ntmps38 Tryd.results38 rfl rfl fun fr hfr => ?_
  repeat' (first | refine walk ?_ | exact trivial | refine Tw.mk ?_ ?_ | refine XS.drawH (T := TT) [(8, [4], heldC ⟨b, 1, none⟩ (.slice a l.length c))] [(8, [4])] rfl follows_ok (by decide +kernel) ?_ | refine XO.sliceData (by repeat' (first | exact trivial | exact readA | exact heldM_0 | exact heldM_1 | exact heldM_2 | exact heldM_3 | exact heldM_4 | refine And.intro ?_ ?_ | exact Reads.here rfl | refine Reads.skip ?_)) rfl rfl rfl rfl hac ?_ | (refine XO.sel1 (c := Row a c 5 1 l.length (bys l)) ?_; refine XO.unsafeStr TT_ok trivial rfl rfl rfl rfl rfl (by kernel_rfl) rfl rfl ?_) | refine XO.callH (by repeat' (first | exact trivial | exact readA | exact heldM_0 | exact heldM_1 | exact heldM_2 | exact heldM_3 | exact heldM_4 | refine And.intro ?_ ?_ | exact Reads.here rfl | refine Reads.skip ?_)) rfl rfl rfl (by kernel_rfl) rfl ?_ | refine And.intro (by repeat' (first | exact trivial | exact readA | exact heldM_0 | exact heldM_1 | exact heldM_2 | exact heldM_3 | exact heldM_4 | refine And.intro ?_ ?_ | exact Reads.here rfl | refine Reads.skip ?_)) ?_ | refine XO.loadH TT_ok rfl rfl rfl rfl rfl rfl (by repeat' (first | exact trivial | exact readA | exact heldM_0 | exact heldM_1 | exact heldM_2 | exact heldM_3 | exact heldM_4 | refine And.intro ?_ ?_ | exact Reads.here rfl | refine Reads.skip ?_)) ?_ | refine XO.buildSlice TT_ok (by repeat' (first | exact trivial | exact readA | exact heldM_0 | exact heldM_1 | exact heldM_2 | exact heldM_3 | exact heldM_4 | refine And.intro ?_ ?_ | exact Reads.here rfl | refine Reads.skip ?_)) rfl rfl rfl rfl rfl rfl rfl rfl rfl rfl rfl rfl (fun _ => (by repeat' (first | exact trivial | exact readA | exact heldM_0 | exact heldM_1 | exact heldM_2 | exact heldM_3 | exact heldM_4 | refine And.intro ?_ ?_ | exact Reads.here rfl | refine Reads.skip ?_))) (fun b1 => ?_) | fail)
  exact Out.s0 h
end Go.Proofs.YtngicmoadobgpaaDoor
