/- Contracts: a decoder of chunked bodies: its lines, byte by byte. Conditions: what a decoder keeps. -/
import Derived.Test.YtngicmoadobgpaaDoorChunkA
namespace Go.Proofs.YtngicmoadobgpaaDoor
open Go Go.Sx Go.ChunkM Go.StrM
variable {w0 : World} {F H : List HProp} {K : Value → List HProp → Prop}
theorem whole_spec {b c : Nat} {D : DS} {a : Option Addr} {l : List UInt8} (hl : l.length ≤ 4611686018427387904) (hD : Ok D) (hm : lim D) (h : K (kI (whole fieldOk D l).2) (dcel b (whole fieldOk D l).1 a c :: F)) : Tri Tryd.prog 61 #[ptr b, kS l] w0 (dcel b D a c :: F) K := by
  have ht : 0 ≤ D.trl ∧ D.trl ≤ 33 := by rcases hD.trl with h | h <;> omega
  by_cases e0 : D.state = 0
  · have e : whole fieldOk D l = sized D l := by unfold whole; rw [if_pos e0]
    rw [e] at h
    refine Tri.enterF Tryd.func61 Tryd.ntmps61 Tryd.results61 rfl rfl fun fr hfr => ?_
    repeat' (first | refine walk ?_ | exact trivial | refine Tw.mk ?_ ?_ | intro hy | (exfalso; omega) | refine sized_spec hl hD hm ?_ | exact Out.i h | fail)
  by_cases e2 : D.state = 2
  · have e : whole fieldOk D l = ({ D with state := 0 }, 0) := by unfold whole; rw [if_neg e0, if_pos e2]
    rw [e] at h
    refine Tri.enterF Tryd.func61 Tryd.ntmps61 Tryd.results61 rfl rfl fun fr hfr => ?_
    repeat' (first | refine walk ?_ | exact trivial | refine Tw.mk ?_ ?_ | intro hy | (exfalso; omega) | exact Out.i h | fail)
  by_cases el : l = []
  · have e : whole fieldOk D l = ({ D with state := 4 }, 0) := by unfold whole; rw [if_neg e0, if_neg e2, if_pos el]
    rw [e] at h
    refine Tri.enterF Tryd.func61 Tryd.ntmps61 Tryd.results61 rfl rfl fun fr hfr => ?_
    repeat' (first | refine walk ?_ | exact trivial | refine Tw.mk ?_ ?_ | intro hy | (exfalso; omega) | exact Out.i h | fail)
  by_cases ef : fieldP l ∧ D.trl + 1 ≤ 32
  · have e : whole fieldOk D l = ({ D with trl := D.trl + 1 }, 0) := by
      unfold whole; rw [if_neg e0, if_neg e2, if_neg el, if_neg]
      simp only [fieldOk, decide_eq_false_iff_not]
      rintro (h | h)
      · exact h ef.1
      · omega
    rw [e] at h
    have ef1 := ef.1
    refine Tri.enterF Tryd.func61 Tryd.ntmps61 Tryd.results61 rfl rfl fun fr hfr => ?_
    repeat' (first | refine walk ?_ | exact trivial | refine Tw.mk ?_ ?_ | intro hy | (intro (bx : Nat)) | (exfalso; omega) | (exfalso; exact absurd ef1 (by assumption)) | refine field_spec hl ?_ ?_ | exact Out.s1 h | fail)
  · have e : whole fieldOk D l = ({ D with trl := D.trl + 1 }, 100) := by
      unfold whole; rw [if_neg e0, if_neg e2, if_neg el, if_pos]
      simp only [fieldOk, decide_eq_false_iff_not]
      by_cases hf : fieldP l
      · exact .inr (by have : ¬ D.trl + 1 ≤ 32 := fun h => ef ⟨hf, h⟩; omega)
      · exact .inl hf
    rw [e] at h
    have ef1 : fieldP l → ¬ D.trl + 1 ≤ 32 := fun h h2 => ef ⟨h, h2⟩
    refine Tri.enterF Tryd.func61 Tryd.ntmps61 Tryd.results61 rfl rfl fun fr hfr => ?_
    repeat' (first | refine walk ?_ | exact trivial | refine Tw.mk ?_ ?_ | intro hy | (intro (bx : Nat)) | (exfalso; omega) | (exfalso; have := ef1 (by assumption); omega) | refine field_spec hl ?_ ?_ | exact Out.s1 h | fail)
abbrev bRow (a : Option Addr) (c : Nat) (l : List UInt8) : HProp := Row a c 5 1 l.length (bys l)
/-- A decoder. -/
def dec (b : Nat) (D : DS) : HProp := hex fun q : Option Addr × Nat => stars [dcel b D q.1 q.2, bRow q.1 q.2 D.line]
theorem dec_mk {b c : Nat} {D : DS} {a : Option Addr} : Ent (dcel b D a c :: bRow a c D.line :: F) (dec b D :: F) :=
  Ent.trans Ent.pack2 (Ent.hex (f := fun q : Option Addr × Nat => stars [dcel b D q.1 q.2, bRow q.1 q.2 D.line]) (a, c))
theorem dec_of {b c n : Nat} {D : DS} {a : Option Addr} {vs : List Value} (hn : n = D.line.length) (hv : vs = bys D.line) : Ent (cel b 71 [kI D.most, kI D.size, kI D.state, kI D.left, .slice a n c, .bool D.cr, kI D.trl, kI D.err] :: Row a c 5 1 n vs :: F) (dec b D :: F) := by
  subst hn hv; exact dec_mk
theorem dec_nil {b : Nat} {D : DS} (h : D.line = []) : Ent (dcel b D none 0 :: F) (dec b D :: F) := by
  have : Ent (dcel b D none 0 :: F) (dcel b D none 0 :: bRow none 0 D.line :: F) := by rw [h]; exact Ent.cons _ (Row.nil 5 1 F)
  exact Ent.trans this dec_mk
theorem dec_open {f : FuncId} {args : Array Value} {b : Nat} {D : DS} (h : ∀ a c, Tri Tryd.prog f args w0 (dcel b D a c :: bRow a c D.line :: F) K) : Tri Tryd.prog f args w0 (dec b D :: F) K :=
  Tri.ex (ι := Option Addr × Nat) (H' := fun q => dcel b D q.1 q.2 :: bRow q.1 q.2 D.line :: F) (fun _ hr => let ⟨x, hx⟩ := Rel.hex hr; ⟨x, hx.ent Ent.unpack2⟩) (fun q => h q.1 q.2)
theorem sized_line (D : DS) (l : List UInt8) : (sized D l).1.line = D.line := by
  unfold sized; split
  · rfl
  · split
    · split
      · rfl
      · split <;> rfl
    · rfl
theorem whole_line (D : DS) (l : List UInt8) : (whole fieldOk D l).1.line = D.line := by
  unfold whole; split
  · exact sized_line D l
  · split
    · rfl
    · split
      · rfl
      · split <;> rfl
set_option maxRecDepth 20000 in
theorem take_spec {b : Nat} {D : DS} {x : UInt8} (hD : Ok D) (hm : lim D) (h : K (kI (take fieldOk D x).2) (dec b (take fieldOk D x).1 :: F)) : Tri Tryd.prog 37 #[ptr b, kB x] w0 (dec b D :: F) K := by
  refine dec_open fun a c => ?_
  have hl := hD.line
  have xb : x = 10 ↔ (x.toNat : Int) = 10 := by rw [← UInt8.toNat_inj]; show x.toNat = 10 ↔ _; omega
  have xc : x = 13 ↔ (x.toNat : Int) = 13 := by rw [← UInt8.toNat_inj]; show x.toNat = 13 ↔ _; omega
  by_cases c1 : D.cr = true ∧ x = 10
  · have e : take fieldOk D x = whole fieldOk { D with line := [], cr := false } D.line := by unfold take; rw [if_pos c1]
    rw [e] at h
    obtain ⟨c1, c2⟩ := c1
    have c3 := xb.1 c2
    have hw := whole_line { D with line := [], cr := false } D.line
    refine Tri.enterF Tryd.func37 Tryd.ntmps37 Tryd.results37 rfl rfl fun fr hfr => ?_
    repeat' (first | refine walk ?_ | exact trivial | refine Tw.mk ?_ ?_ | intro hy | (exfalso; omega) | (exfalso; rename D.cr = false => q; rw [c1] at q; cases q) | (refine XO.sel1 (c := bRow a c D.line) ?_; refine XO.strOfRow TT_ok trivial rfl rfl rfl rfl rfl rfl rfl ?_) | (refine Tri.sel1 (whole_spec (c := 0) (D := { D with line := [], cr := false }) (a := none) (by omega) ⟨hD.s0, hD.s1, hD.st, hD.dat, Nat.zero_le _, hD.trl⟩ hm ?_)) | fail)
    exact Out.e h (Ent.trans (Ent.cons _ (Ent.drop _ _)) (dec_nil hw))
  by_cases c2 : D.cr = true ∨ x = 10
  · have e : take fieldOk D x = (D, 100) := by unfold take; rw [if_neg c1, if_pos c2]
    rw [e] at h
    have c3 : D.cr = true → (x.toNat : Int) ≠ 10 := fun h1 h2 => c1 ⟨h1, xb.2 h2⟩
    have c4 : D.cr = false → (x.toNat : Int) = 10 := fun h1 => by
      rcases c2 with h2 | h2
      · rw [h1] at h2; cases h2
      · exact xb.1 h2
    refine Tri.enterF Tryd.func37 Tryd.ntmps37 Tryd.results37 rfl rfl fun fr hfr => ?_
    repeat' (first | refine walk ?_ | exact trivial | refine Tw.mk ?_ ?_ | intro hy | (exfalso; omega) | (exfalso; rename D.cr = true => q; have := c3 q; omega) | (exfalso; rename D.cr = false => q; have := c4 q; omega) | exact Out.e h dec_mk | fail)
  have n1 : D.cr = false := by
    cases hc : D.cr
    · rfl
    · exact absurd (.inl hc) c2
  have n2 : (x.toNat : Int) ≠ 10 := fun h => c2 (.inr (xb.2 h))
  by_cases c3 : x = 13
  · have e : take fieldOk D x = ({ D with cr := true }, 0) := by unfold take; rw [if_neg c1, if_neg c2, if_pos c3]
    rw [e] at h
    have c4 := xc.1 c3
    refine Tri.enterF Tryd.func37 Tryd.ntmps37 Tryd.results37 rfl rfl fun fr hfr => ?_
    repeat' (first | refine walk ?_ | exact trivial | refine Tw.mk ?_ ?_ | intro hy | (exfalso; omega) | (exfalso; rename D.cr = true => q; rw [n1] at q; cases q) | exact Out.e h (dec_of (D := { D with cr := true }) rfl rfl) | fail)
  have n3 : (x.toNat : Int) ≠ 13 := fun h => c3 (xc.2 h)
  by_cases c4 : bound D.state ≤ D.line.length
  · have e : take fieldOk D x = (D, 100) := by unfold take; rw [if_neg c1, if_neg c2, if_neg c3, if_pos c4]
    rw [e] at h
    refine Tri.enterF Tryd.func37 Tryd.ntmps37 Tryd.results37 rfl rfl fun fr hfr => ?_
    repeat' (first | refine walk ?_ | exact trivial | refine Tw.mk ?_ ?_ | intro hy | (exfalso; omega) | (exfalso; rename D.cr = true => q; rw [n1] at q; cases q) | refine bound_spec ?_ | refine XS.drawH (T := TT) [(3, [6], heldC ⟨b, 4, none⟩ (.slice a D.line.length c))] [(3, [6])] rfl follows_ok (by decide +kernel) ?_ | exact Out.e h dec_mk | refine XO.callH (by repeat' (first | exact trivial | exact readA | exact heldM_0 | exact heldM_1 | exact heldM_2 | exact heldM_3 | exact heldM_4 | refine And.intro ?_ ?_ | exact Reads.here rfl | refine Reads.skip ?_)) rfl rfl rfl (by kernel_rfl) rfl ?_ | refine And.intro (by repeat' (first | exact trivial | exact readA | exact heldM_0 | exact heldM_1 | exact heldM_2 | exact heldM_3 | exact heldM_4 | refine And.intro ?_ ?_ | exact Reads.here rfl | refine Reads.skip ?_)) ?_ | refine XO.loadH TT_ok rfl rfl rfl rfl rfl rfl (by repeat' (first | exact trivial | exact readA | exact heldM_0 | exact heldM_1 | exact heldM_2 | exact heldM_3 | exact heldM_4 | refine And.intro ?_ ?_ | exact Reads.here rfl | refine Reads.skip ?_)) ?_ | refine XO.buildSlice TT_ok (by repeat' (first | exact trivial | exact readA | exact heldM_0 | exact heldM_1 | exact heldM_2 | exact heldM_3 | exact heldM_4 | refine And.intro ?_ ?_ | exact Reads.here rfl | refine Reads.skip ?_)) rfl rfl rfl rfl rfl rfl rfl rfl rfl rfl rfl rfl (fun _ => (by repeat' (first | exact trivial | exact readA | exact heldM_0 | exact heldM_1 | exact heldM_2 | exact heldM_3 | exact heldM_4 | refine And.intro ?_ ?_ | exact Reads.here rfl | refine Reads.skip ?_))) (fun b1 => ?_) | fail)
  · have e : take fieldOk D x = ({ D with line := D.line ++ [x] }, 0) := by unfold take; rw [if_neg c1, if_neg c2, if_neg c3, if_neg c4]
    rw [e] at h
    refine Tri.enterF Tryd.func37 Tryd.ntmps37 Tryd.results37 rfl rfl fun fr hfr => ?_
    repeat' (first | refine walk ?_ | exact trivial | refine Tw.mk ?_ ?_ | intro hy | (intro (bx : Nat)) | (exfalso; omega) | (exfalso; rename D.cr = true => q; rw [n1] at q; cases q) | refine bound_spec ?_ | refine XS.drawH (T := TT) [(3, [6], heldC ⟨b, 4, none⟩ (.slice a D.line.length c))] [(3, [6])] rfl follows_ok (by decide +kernel) ?_ | (refine XO.sel1 (c := bRow a c D.line) ?_; refine XO.append (m := 1) (N := 1048577) (news := [kB x]) TT_ok trivial rfl rfl rfl rfl rfl rfl rfl rfl rfl rfl rfl (ReadsL.skip (ReadsL.here 1)) rfl (by decide) rfl (by omega) rfl rfl (fun _ _ => trivial) (fun a' c' => ?_)) | refine XO.callH (by repeat' (first | exact trivial | exact readA | exact heldM_0 | exact heldM_1 | exact heldM_2 | exact heldM_3 | exact heldM_4 | refine And.intro ?_ ?_ | exact Reads.here rfl | refine Reads.skip ?_)) rfl rfl rfl (by kernel_rfl) rfl ?_ | refine And.intro (by repeat' (first | exact trivial | exact readA | exact heldM_0 | exact heldM_1 | exact heldM_2 | exact heldM_3 | exact heldM_4 | refine And.intro ?_ ?_ | exact Reads.here rfl | refine Reads.skip ?_)) ?_ | refine XO.loadH TT_ok rfl rfl rfl rfl rfl rfl (by repeat' (first | exact trivial | exact readA | exact heldM_0 | exact heldM_1 | exact heldM_2 | exact heldM_3 | exact heldM_4 | refine And.intro ?_ ?_ | exact Reads.here rfl | refine Reads.skip ?_)) ?_ | refine XO.buildSlice TT_ok (by repeat' (first | exact trivial | exact readA | exact heldM_0 | exact heldM_1 | exact heldM_2 | exact heldM_3 | exact heldM_4 | refine And.intro ?_ ?_ | exact Reads.here rfl | refine Reads.skip ?_)) rfl rfl rfl rfl rfl rfl rfl rfl rfl rfl rfl rfl (fun _ => (by repeat' (first | exact trivial | exact readA | exact heldM_0 | exact heldM_1 | exact heldM_2 | exact heldM_3 | exact heldM_4 | refine And.intro ?_ ?_ | exact Reads.here rfl | refine Reads.skip ?_))) (fun b1 => ?_) | fail)
    exact Out.e h (Ent.trans (Ent.cons _ (Ent.cons _ (Ent.drop _ _))) (dec_of (D := { D with line := D.line ++ [x] }) (by simp) (by simp [bys])))
theorem Tri.postR {P : Program} {f : FuncId} {args : Array Value} {R R' : Value → List HProp → Prop} (h : Tri P f args w0 H R) (k : ∀ v H' w, R v H' → Rel w0 H' w → ∃ H'', Rel w0 H'' w ∧ R' v H'') : Tri P f args w0 H R' :=
  ⟨fun w hr => (h.run w hr).mono fun _ w' ⟨v, H', he, hrel, hR⟩ => let ⟨H'', h1, h2⟩ := k v H' w' hR hrel; ⟨v, H'', he, h1, h2⟩⟩
theorem take2_spec {b c : Nat} {D : DS} {a : Option Addr} {x : UInt8} (hD : Ok D) (hm : lim D) (h : ∀ a c, K (kI (take fieldOk D x).2) (dcel b (take fieldOk D x).1 a c :: bRow a c (take fieldOk D x).1.line :: F)) : Tri Tryd.prog 37 #[ptr b, kB x] w0 (dcel b D a c :: bRow a c D.line :: F) K :=
  Tri.ent dec_mk (Tri.postR (take_spec (K := fun v H' => v = kI (take fieldOk D x).2 ∧ H' = dec b (take fieldOk D x).1 :: F) hD hm ⟨rfl, rfl⟩) (fun v H' w ⟨hv, hH⟩ hr => by
    subst hv hH
    obtain ⟨q, hq⟩ := Rel.hex hr
    exact ⟨_, hq.ent Ent.unpack2, h q.1 q.2⟩))
end Go.Proofs.YtngicmoadobgpaaDoor
