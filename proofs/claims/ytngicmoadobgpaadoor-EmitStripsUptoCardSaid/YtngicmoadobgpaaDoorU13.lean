/- Some texts put together: lemmas and contracts for the law. Conditions: as each text says. -/
import Derived.Test.YtngicmoadobgpaaDoorU12
import Derived.Test.YtngicmoadobgpaaDoorU4
import Derived.Test.YtngicmoadobgpaaDoorU8
import Derived.Deep.Slices
import Derived.Deep.Fields
import Derived.ChangeSame
import Derived.Carry
import Derived.SizedLaws
import Derived.ProofKit
import Derived.Test.YtngicmoadobgpaaDoorU9
/- Contracts: a decoder of chunked bodies: its lines, byte by byte. Conditions: what a decoder keeps. -/
namespace Go.Proofs.YtngicmoadobgpaaDoor
open Go Go.Sx Go.ChunkM Go.StrM
variable {w0 : World} {F H : List HProp} {K : Value → List HProp → Prop}
theorem whole_spec {b c : Nat} {D : DS} {a : Option Addr} {l : List UInt8} (hl : l.length ≤ 4611686018427387904) (hD : Ok D) (hm : lim D) (h : K (kI (whole fieldOk D l).2) (dcel b (whole fieldOk D l).1 a c :: F)) : Tri Tryd.prog 61 #[ptr b, kS l] w0 (dcel b D a c :: F) K := by
  have ht : 0 ≤ D.trl ∧ D.trl ≤ 33 := by rcases hD.trl with h | h <;> omega
  by_cases e0 : D.state = 0
  · have e : whole fieldOk D l = sized D l := by unfold whole; rw [if_pos e0]
    rw [e] at h
    refine Tri.enterF Tryd.func61 Tryd.ntmps61 Tryd.results61 rfl rfl fun fr hfr => ?_
    repeat' (first | refine walk ?_ | exact trivial | refine Tw.mk ?_ ?_ | intro hy | (exfalso; omega) | refine sized_spec hl hD hm ?_ | exact Out.i h | fail)
  by_cases e2 : D.state = 2
  · have e : whole fieldOk D l = ({ D with state := 0 }, 0) := by unfold whole; rw [if_neg e0, if_pos e2]
    rw [e] at h
    refine Tri.enterF Tryd.func61 Tryd.ntmps61 Tryd.results61 rfl rfl fun fr hfr => ?_
    repeat' (first | refine walk ?_ | exact trivial | refine Tw.mk ?_ ?_ | intro hy | (exfalso; omega) | exact Out.i h | fail)
  by_cases el : l = []
  · have e : whole fieldOk D l = ({ D with state := 4 }, 0) := by unfold whole; rw [if_neg e0, if_neg e2, if_pos el]
    rw [e] at h
    refine Tri.enterF Tryd.func61 Tryd.ntmps61 Tryd.results61 rfl rfl fun fr hfr => ?_
    repeat' (first | refine walk ?_ | exact trivial | refine Tw.mk ?_ ?_ | intro hy | (exfalso; omega) | exact Out.i h | fail)
  by_cases ef : fieldP l ∧ D.trl + 1 ≤ 32
  · have e : whole fieldOk D l = ({ D with trl := D.trl + 1 }, 0) := by
      unfold whole; rw [if_neg e0, if_neg e2, if_neg el, if_neg]
      simp only [fieldOk, decide_eq_false_iff_not]
      rintro (h | h)
      · exact h ef.1
      · omega
    rw [e] at h
    have ef1 := ef.1
    refine Tri.enterF Tryd.func61 Tryd.ntmps61 Tryd.results61 rfl rfl fun fr hfr => ?_
    repeat' (first | refine walk ?_ | exact trivial | refine Tw.mk ?_ ?_ | intro hy | (intro (bx : Nat)) | (exfalso; omega) | (exfalso; exact absurd ef1 (by assumption)) | refine field_spec hl ?_ ?_ | exact Out.s1 h | fail)
  · have e : whole fieldOk D l = ({ D with trl := D.trl + 1 }, 100) := by
      unfold whole; rw [if_neg e0, if_neg e2, if_neg el, if_pos]
      simp only [fieldOk, decide_eq_false_iff_not]
      by_cases hf : fieldP l
      · exact .inr (by have : ¬ D.trl + 1 ≤ 32 := fun h => ef ⟨hf, h⟩; omega)
      · exact .inl hf
    rw [e] at h
    have ef1 : fieldP l → ¬ D.trl + 1 ≤ 32 := fun h h2 => ef ⟨h, h2⟩
    refine Tri.enterF Tryd.func61 Tryd.ntmps61 Tryd.results61 rfl rfl fun fr hfr => ?_
    repeat' (first | refine walk ?_ | exact trivial | refine Tw.mk ?_ ?_ | intro hy | (intro (bx : Nat)) | (exfalso; omega) | (exfalso; have := ef1 (by assumption); omega) | refine field_spec hl ?_ ?_ | exact Out.s1 h | fail)
abbrev bRow (a : Option Addr) (c : Nat) (l : List UInt8) : HProp := Row a c 5 1 l.length (bys l)
/-- A decoder. -/
def dec (b : Nat) (D : DS) : HProp := hex fun q : Option Addr × Nat => stars [dcel b D q.1 q.2, bRow q.1 q.2 D.line]
theorem dec_mk {b c : Nat} {D : DS} {a : Option Addr} : Ent (dcel b D a c :: bRow a c D.line :: F) (dec b D :: F) :=
  Ent.trans Ent.pack2 (Ent.hex (f := fun q : Option Addr × Nat => stars [dcel b D q.1 q.2, bRow q.1 q.2 D.line]) (a, c))
theorem dec_of {b c n : Nat} {D : DS} {a : Option Addr} {vs : List Value} (hn : n = D.line.length) (hv : vs = bys D.line) : Ent (cel b 71 [kI D.most, kI D.size, kI D.state, kI D.left, .slice a n c, .bool D.cr, kI D.trl, kI D.err] :: Row a c 5 1 n vs :: F) (dec b D :: F) := by
  subst hn hv; exact dec_mk
theorem dec_nil {b : Nat} {D : DS} (h : D.line = []) : Ent (dcel b D none 0 :: F) (dec b D :: F) := by
  have : Ent (dcel b D none 0 :: F) (dcel b D none 0 :: bRow none 0 D.line :: F) := by rw [h]; exact Ent.cons _ (Row.nil 5 1 F)
  exact Ent.trans this dec_mk
theorem dec_open {f : FuncId} {args : Array Value} {b : Nat} {D : DS} (h : ∀ a c, Tri Tryd.prog f args w0 (dcel b D a c :: bRow a c D.line :: F) K) : Tri Tryd.prog f args w0 (dec b D :: F) K :=
  Tri.ex (ι := Option Addr × Nat) (H' := fun q => dcel b D q.1 q.2 :: bRow q.1 q.2 D.line :: F) (fun _ hr => let ⟨x, hx⟩ := Rel.hex hr; ⟨x, hx.ent Ent.unpack2⟩) (fun q => h q.1 q.2)
theorem sized_line (D : DS) (l : List UInt8) : (sized D l).1.line = D.line := by
  unfold sized; split
  · rfl
  · split
    · split
      · rfl
      · split <;> rfl
    · rfl
theorem whole_line (D : DS) (l : List UInt8) : (whole fieldOk D l).1.line = D.line := by
  unfold whole; split
  · exact sized_line D l
  · split
    · rfl
    · split
      · rfl
      · split <;> rfl
set_option maxRecDepth 20000 in
theorem take_spec {b : Nat} {D : DS} {x : UInt8} (hD : Ok D) (hm : lim D) (h : K (kI (take fieldOk D x).2) (dec b (take fieldOk D x).1 :: F)) : Tri Tryd.prog 37 #[ptr b, kB x] w0 (dec b D :: F) K := by
  refine dec_open fun a c => ?_
  have hl := hD.line
  have xb : x = 10 ↔ (x.toNat : Int) = 10 := by rw [← UInt8.toNat_inj]; show x.toNat = 10 ↔ _; omega
  have xc : x = 13 ↔ (x.toNat : Int) = 13 := by rw [← UInt8.toNat_inj]; show x.toNat = 13 ↔ _; omega
  by_cases c1 : D.cr = true ∧ x = 10
  · have e : take fieldOk D x = whole fieldOk { D with line := [], cr := false } D.line := by unfold take; rw [if_pos c1]
    rw [e] at h
    obtain ⟨c1, c2⟩ := c1
    have c3 := xb.1 c2
    have hw := whole_line { D with line := [], cr := false } D.line
    refine Tri.enterF Tryd.func37 Tryd.ntmps37 Tryd.results37 rfl rfl fun fr hfr => ?_
    repeat' (first | refine walk ?_ | exact trivial | refine Tw.mk ?_ ?_ | intro hy | (exfalso; omega) | (exfalso; rename D.cr = false => q; rw [c1] at q; cases q) | (refine XO.sel1 (c := bRow a c D.line) ?_; refine XO.strOfRow TT_ok trivial rfl rfl rfl rfl rfl rfl rfl ?_) | (refine Tri.sel1 (whole_spec (c := 0) (D := { D with line := [], cr := false }) (a := none) (by omega) ⟨hD.s0, hD.s1, hD.st, hD.dat, Nat.zero_le _, hD.trl⟩ hm ?_)) | fail)
    exact Out.e h (Ent.trans (Ent.cons _ (Ent.drop _ _)) (dec_nil hw))
  by_cases c2 : D.cr = true ∨ x = 10
  · have e : take fieldOk D x = (D, 100) := by unfold take; rw [if_neg c1, if_pos c2]
    rw [e] at h
    have c3 : D.cr = true → (x.toNat : Int) ≠ 10 := fun h1 h2 => c1 ⟨h1, xb.2 h2⟩
    have c4 : D.cr = false → (x.toNat : Int) = 10 := fun h1 => by
      rcases c2 with h2 | h2
      · rw [h1] at h2; cases h2
      · exact xb.1 h2
    refine Tri.enterF Tryd.func37 Tryd.ntmps37 Tryd.results37 rfl rfl fun fr hfr => ?_
    repeat' (first | refine walk ?_ | exact trivial | refine Tw.mk ?_ ?_ | intro hy | (exfalso; omega) | (exfalso; rename D.cr = true => q; have := c3 q; omega) | (exfalso; rename D.cr = false => q; have := c4 q; omega) | exact Out.e h dec_mk | fail)
  have n1 : D.cr = false := by
    cases hc : D.cr
    · rfl
    · exact absurd (.inl hc) c2
  have n2 : (x.toNat : Int) ≠ 10 := fun h => c2 (.inr (xb.2 h))
  by_cases c3 : x = 13
  · have e : take fieldOk D x = ({ D with cr := true }, 0) := by unfold take; rw [if_neg c1, if_neg c2, if_pos c3]
    rw [e] at h
    have c4 := xc.1 c3
    refine Tri.enterF Tryd.func37 Tryd.ntmps37 Tryd.results37 rfl rfl fun fr hfr => ?_
    repeat' (first | refine walk ?_ | exact trivial | refine Tw.mk ?_ ?_ | intro hy | (exfalso; omega) | (exfalso; rename D.cr = true => q; rw [n1] at q; cases q) | exact Out.e h (dec_of (D := { D with cr := true }) rfl rfl) | fail)
  have n3 : (x.toNat : Int) ≠ 13 := fun h => c3 (xc.2 h)
  by_cases c4 : bound D.state ≤ D.line.length
  · have e : take fieldOk D x = (D, 100) := by unfold take; rw [if_neg c1, if_neg c2, if_neg c3, if_pos c4]
    rw [e] at h
    refine Tri.enterF Tryd.func37 Tryd.ntmps37 Tryd.results37 rfl rfl fun fr hfr => ?_
    repeat' (first | refine walk ?_ | exact trivial | refine Tw.mk ?_ ?_ | intro hy | (exfalso; omega) | (exfalso; rename D.cr = true => q; rw [n1] at q; cases q) | refine bound_spec ?_ | refine XS.drawH (T := TT) [(3, [6], heldC ⟨b, 4, none⟩ (.slice a D.line.length c))] [(3, [6])] rfl follows_ok (by decide +kernel) ?_ | exact Out.e h dec_mk | refine XO.callH (by repeat' (first | exact trivial | exact readA | exact heldM_0 | exact heldM_1 | exact heldM_2 | exact heldM_3 | exact heldM_4 | refine And.intro ?_ ?_ | exact Reads.here rfl | refine Reads.skip ?_)) rfl rfl rfl (by kernel_rfl) rfl ?_ | refine And.intro (by repeat' (first | exact trivial | exact readA | exact heldM_0 | exact heldM_1 | exact heldM_2 | exact heldM_3 | exact heldM_4 | refine And.intro ?_ ?_ | exact Reads.here rfl | refine Reads.skip ?_)) ?_ | refine XO.loadH TT_ok rfl rfl rfl rfl rfl rfl (by repeat' (first | exact trivial | exact readA | exact heldM_0 | exact heldM_1 | exact heldM_2 | exact heldM_3 | exact heldM_4 | refine And.intro ?_ ?_ | exact Reads.here rfl | refine Reads.skip ?_)) ?_ | refine XO.buildSlice TT_ok (by repeat' (first | exact trivial | exact readA | exact heldM_0 | exact heldM_1 | exact heldM_2 | exact heldM_3 | exact heldM_4 | refine And.intro ?_ ?_ | exact Reads.here rfl | refine Reads.skip ?_)) rfl rfl rfl rfl rfl rfl rfl rfl rfl rfl rfl rfl (fun _ => (by repeat' (first | exact trivial | exact readA | exact heldM_0 | exact heldM_1 | exact heldM_2 | exact heldM_3 | exact heldM_4 | refine And.intro ?_ ?_ | exact Reads.here rfl | refine Reads.skip ?_))) (fun b1 => ?_) | fail)
  · have e : take fieldOk D x = ({ D with line := D.line ++ [x] }, 0) := by unfold take; rw [if_neg c1, if_neg c2, if_neg c3, if_neg c4]
    rw [e] at h
    refine Tri.enterF Tryd.func37 Tryd.ntmps37 Tryd.results37 rfl rfl fun fr hfr => ?_
    repeat' (first | refine walk ?_ | exact trivial | refine Tw.mk ?_ ?_ | intro hy | (intro (bx : Nat)) | (exfalso; omega) | (exfalso; rename D.cr = true => q; rw [n1] at q; cases q) | refine bound_spec ?_ | refine XS.drawH (T := TT) [(3, [6], heldC ⟨b, 4, none⟩ (.slice a D.line.length c))] [(3, [6])] rfl follows_ok (by decide +kernel) ?_ | (refine XO.sel1 (c := bRow a c D.line) ?_; refine XO.append (m := 1) (N := 1048577) (news := [kB x]) TT_ok trivial rfl rfl rfl rfl rfl rfl rfl rfl rfl rfl rfl (ReadsL.skip (ReadsL.here 1)) rfl (by decide) rfl (by omega) rfl rfl (fun _ _ => trivial) (fun a' c' => ?_)) | refine XO.callH (by repeat' (first | exact trivial | exact readA | exact heldM_0 | exact heldM_1 | exact heldM_2 | exact heldM_3 | exact heldM_4 | refine And.intro ?_ ?_ | exact Reads.here rfl | refine Reads.skip ?_)) rfl rfl rfl (by kernel_rfl) rfl ?_ | refine And.intro (by repeat' (first | exact trivial | exact readA | exact heldM_0 | exact heldM_1 | exact heldM_2 | exact heldM_3 | exact heldM_4 | refine And.intro ?_ ?_ | exact Reads.here rfl | refine Reads.skip ?_)) ?_ | refine XO.loadH TT_ok rfl rfl rfl rfl rfl rfl (by repeat' (first | exact trivial | exact readA | exact heldM_0 | exact heldM_1 | exact heldM_2 | exact heldM_3 | exact heldM_4 | refine And.intro ?_ ?_ | exact Reads.here rfl | refine Reads.skip ?_)) ?_ | refine XO.buildSlice TT_ok (by repeat' (first | exact trivial | exact readA | exact heldM_0 | exact heldM_1 | exact heldM_2 | exact heldM_3 | exact heldM_4 | refine And.intro ?_ ?_ | exact Reads.here rfl | refine Reads.skip ?_)) rfl rfl rfl rfl rfl rfl rfl rfl rfl rfl rfl rfl (fun _ => (by repeat' (first | exact trivial | exact readA | exact heldM_0 | exact heldM_1 | exact heldM_2 | exact heldM_3 | exact heldM_4 | refine And.intro ?_ ?_ | exact Reads.here rfl | refine Reads.skip ?_))) (fun b1 => ?_) | fail)
    exact Out.e h (Ent.trans (Ent.cons _ (Ent.cons _ (Ent.drop _ _))) (dec_of (D := { D with line := D.line ++ [x] }) (by simp) (by simp [bys])))
theorem Tri.postR {P : Program} {f : FuncId} {args : Array Value} {R R' : Value → List HProp → Prop} (h : Tri P f args w0 H R) (k : ∀ v H' w, R v H' → Rel w0 H' w → ∃ H'', Rel w0 H'' w ∧ R' v H'') : Tri P f args w0 H R' :=
  ⟨fun w hr => (h.run w hr).mono fun _ w' ⟨v, H', he, hrel, hR⟩ => let ⟨H'', h1, h2⟩ := k v H' w' hR hrel; ⟨v, H'', he, h1, h2⟩⟩
theorem take2_spec {b c : Nat} {D : DS} {a : Option Addr} {x : UInt8} (hD : Ok D) (hm : lim D) (h : ∀ a c, K (kI (take fieldOk D x).2) (dcel b (take fieldOk D x).1 a c :: bRow a c (take fieldOk D x).1.line :: F)) : Tri Tryd.prog 37 #[ptr b, kB x] w0 (dcel b D a c :: bRow a c D.line :: F) K :=
  Tri.ent dec_mk (Tri.postR (take_spec (K := fun v H' => v = kI (take fieldOk D x).2 ∧ H' = dec b (take fieldOk D x).1 :: F) hD hm ⟨rfl, rfl⟩) (fun v H' w ⟨hv, hH⟩ hr => by
    subst hv hH
    obtain ⟨q, hq⟩ := Rel.hex hr
    exact ⟨_, hq.ent Ent.unpack2, h q.1 q.2⟩))
end Go.Proofs.YtngicmoadobgpaaDoor

/- Contracts: a decoder of chunked bodies: Feed, New, Size. Conditions: what a decoder keeps. -/
namespace Go.Proofs.YtngicmoadobgpaaDoor
open Go Go.Sx Go.ChunkM Go.StrM
variable {w0 : World} {F H : List HProp} {K : Value → List HProp → Prop}
theorem dnew_spec {m : Int} (h : ∀ b, K (ptr b) (dec b (rdy m 0 0) :: F)) : Tri Tryd.prog 11 #[kI m] w0 F K := by
  refine Tri.enterF Tryd.func11 Tryd.ntmps11 Tryd.results11 rfl rfl fun fr hfr => ?_
  repeat' (first | refine walk ?_ | exact trivial | refine Tw.mk ?_ ?_ | (intro (b : Nat)) | exact Out.e (h b) (dec_nil (D := rdy m 0 0) rfl) | fail)
theorem dsize_spec {b c : Nat} {D : DS} {a : Option Addr} (h : K (kI D.size) (dcel b D a c :: F)) : Tri Tryd.prog 15 #[ptr b] w0 (dcel b D a c :: F) K := by
  refine Tri.enterF Tryd.func15 Tryd.ntmps15 Tryd.results15 rfl rfl fun fr hfr => ?_
  repeat' (first | refine walk ?_ | exact trivial | refine Tw.mk ?_ ?_ | exact Out.i h | fail)
theorem run_next {l : List UInt8} {i : Nat} {x : UInt8} {D : DS} (hc : l[i]? = some x) (hs : stops D = false) : run fieldOk D (l.drop i) = ((run fieldOk (ChunkM.step fieldOk D x).1 (l.drop (i + 1))).1, (ChunkM.step fieldOk D x).2 ++ (run fieldOk (ChunkM.step fieldOk D x).1 (l.drop (i + 1))).2.1, (run fieldOk (ChunkM.step fieldOk D x).1 (l.drop (i + 1))).2.2 + 1) := by
  have hlt := (List.getElem?_eq_some_iff.1 hc)
  rw [List.drop_eq_getElem_cons hlt.1, hlt.2, run, hs, if_neg (by simp)]
/-- What a loop of Feed keeps. -/
structure FeedI (D : DS) (l : List UInt8) (i : Nat) (D' : DS) (out : List UInt8) : Prop where
  le : i ≤ l.length
  ok : Ok D'
  noErr : D'.err = 0
  same : D'.most = D.most
  few : out.length ≤ i
  sz : D'.size = D.size + out.length
  goes : run fieldOk D l = ((run fieldOk D' (l.drop i)).1, out ++ (run fieldOk D' (l.drop i)).2.1, i + (run fieldOk D' (l.drop i)).2.2)
theorem FeedI.next {D D' : DS} {l out : List UInt8} {i : Nat} {x : UInt8} (I : FeedI D l i D' out) (hc : l[i]? = some x) (h4 : D'.state ≠ 4) (h1 : D'.state ≠ 1) (ht : (take fieldOk D' x).2 = 0) : FeedI D l (i + 1) { (take fieldOk D' x).1 with err := (take fieldOk D' x).2 } out := by
  have hs : stops D' = false := by simp [stops, h4, I.noErr]
  have hn := run_next hc hs
  have e1 : ChunkM.step fieldOk D' x = ({ (take fieldOk D' x).1 with err := (take fieldOk D' x).2 }, []) := by unfold ChunkM.step; rw [if_neg h1]
  rw [e1] at hn
  have ho := step_ok (fld := fieldOk) x I.ok hs
  rw [e1] at ho
  have hf := I.few
  refine ⟨(List.getElem?_eq_some_iff.1 hc).1, ho.1, ht, ho.2.1.trans I.same, by omega, by have := ho.2.2; simp only [List.length_nil, Int.natCast_zero, Int.add_zero] at this; rw [this, I.sz], ?_⟩
  rw [I.goes, hn]
  simp only [List.nil_append]
  congr 2
  omega
theorem FeedI.fails {D D' : DS} {l out : List UInt8} {i : Nat} {x : UInt8} (I : FeedI D l i D' out) (he : D.err = 0) (hc : l[i]? = some x) (h4 : D'.state ≠ 4) (h1 : D'.state ≠ 1) (ht : (take fieldOk D' x).2 ≠ 0) : feed fieldOk D l = ({ (take fieldOk D' x).1 with err := (take fieldOk D' x).2 }, [], 0, false, (take fieldOk D' x).2) := by
  have hs : stops D' = false := by simp [stops, h4, I.noErr]
  have hn := run_next hc hs
  have e1 : ChunkM.step fieldOk D' x = ({ (take fieldOk D' x).1 with err := (take fieldOk D' x).2 }, []) := by unfold ChunkM.step; rw [if_neg h1]
  have hst : run fieldOk { (take fieldOk D' x).1 with err := (take fieldOk D' x).2 } (l.drop (i + 1)) = ({ (take fieldOk D' x).1 with err := (take fieldOk D' x).2 }, [], 0) := run_stop (by simp [stops, ht]) _
  rw [e1] at hn
  dsimp only at hn
  rw [hst] at hn
  have hr := I.goes
  rw [hn] at hr
  unfold feed
  rw [if_neg (by simp [he]), hr]
  simp [ht]
theorem FeedI.ends {D D' : DS} {l out : List UInt8} {i : Nat} (I : FeedI D l i D' out) (he : D.err = 0) (hx : ¬ (i < l.length ∧ D'.state ≠ 4)) : feed fieldOk D l = (D', out, i, decide (D'.state = 4), 0) := by
  have e1 : run fieldOk D' (l.drop i) = (D', [], 0) := by
    by_cases h4 : D'.state = 4
    · exact run_stop (by simp [stops, h4]) _
    · have : i = l.length := by have := I.le; have : ¬ i < l.length := fun h => hx ⟨h, h4⟩; omega
      rw [this, List.drop_length]; rfl
  have hr := I.goes
  rw [e1] at hr
  unfold feed
  rw [if_neg (by simp [he]), hr]
  simp [I.noErr]
theorem FeedI.data {D D' D2 : DS} {l out : List UInt8} {i n : Nat} (I : FeedI D l i D' out) (_hm : lim D) (h1 : D'.state = 1) (hn0 : 0 < n) (hn : i + n ≤ l.length) (hl : (n : Int) ≤ D'.left) (hD2 : D2 = { D' with left := D'.left - n, size := D'.size + n, state := if D'.left - n = 0 then 2 else 1 }) : FeedI D l (i + n) D2 (out ++ (l.drop i).take (i + n - i)) := by
  have e1 : i + n - i = n := by omega
  have hd := I.ok.dat h1
  have hs := I.ok.s0
  have hf := I.few
  have hr := run_data (fld := fieldOk) n (l.drop i) D' h1 I.noErr hn0 (by rw [List.length_drop]; omega) hl
  rw [← hD2, List.drop_drop] at hr
  rw [e1]
  refine ⟨hn, ?_, by rw [hD2]; exact I.noErr, by rw [hD2]; exact I.same, by simp only [List.length_append, List.length_take]; omega, by rw [hD2]; simp only [List.length_append, List.length_take, List.length_drop, I.sz]; omega, ?_⟩
  · rw [hD2]
    refine ⟨by simp only; omega, .inr (by simp only; omega), by simp only; split <;> simp, ?_, I.ok.line, I.ok.trl⟩
    simp only
    split
    · intro h; cases h
    · intro; omega
  · rw [I.goes, hr]
    simp only [List.append_assoc]
    congr 2
    omega
set_option maxHeartbeats 1000000 in
set_option maxRecDepth 20000 in
theorem feed_spec {b : Nat} {D : DS} {l : List UInt8} (hl : l.length ≤ 4611686018427387904) (hw : l.length ≤ 140737488355328 ∨ D.most ≤ 140737488355328) (hD : Ok D) (hm : lim D) (h : K (.tuple #[kS (feed fieldOk D l).2.1, kI (feed fieldOk D l).2.2.1, .bool (feed fieldOk D l).2.2.2.1, kI (feed fieldOk D l).2.2.2.2]) (dec b (feed fieldOk D l).1 :: F)) :
    Tri Tryd.prog 12 #[ptr b, kS l] w0 (dec b D :: F) K := by
  refine dec_open fun a c => ?_
  by_cases he : D.err ≠ 0
  · have e : feed fieldOk D l = (D, [], 0, false, D.err) := by unfold feed; rw [if_pos he]
    rw [e] at h
    refine Tri.enterF Tryd.func12 Tryd.ntmps12 Tryd.results12 rfl rfl fun fr hfr => ?_
    repeat' (first | refine walk ?_ | exact trivial | refine Tw.mk ?_ ?_ | intro hy | (exfalso; omega) | exact Out.e h dec_mk | fail)
  have he : D.err = 0 := by omega
  refine Tri.enterF Tryd.func12 Tryd.ntmps12 Tryd.results12 rfl rfl fun fr hfr => ?_
  repeat' (first | refine walk ?_ | exact trivial | refine Tw.mk ?_ ?_ | intro hy | (intro (b2 : Nat)) | (exfalso; omega) | fail)
  rename_i b2
  refine XS.loopI (ι := Nat × DS × List UInt8 × Option Addr × Nat) (fun q => [(0, ptr b), (1, kS l), (8, ptr b2), (9, kI q.1)]) (fun q => dcel b q.2.1 q.2.2.2.1 q.2.2.2.2 :: bRow q.2.2.2.1 q.2.2.2.2 q.2.1.line :: bld b2 74 q.2.2.1 :: F) (fun q => FeedI D l q.1 q.2.1 q.2.2.1) (fun q => l.length - q.1) (0, D, [], a, c)
    ⟨Nat.zero_le _, hD, he, rfl, Nat.zero_le _, by simp, by simp⟩ ⟨rfl, rfl, rfl, rfl, trivial⟩ (Ent.trans bld_new Ent.back2) ?_
  rintro ⟨i, D', out, a', c'⟩ e I ih
  dsimp only at I ⊢
  have hi := I.le
  have hof := I.few
  by_cases hx : i < l.length ∧ D'.state ≠ 4
  · obtain ⟨hlt, h4⟩ := hx
    obtain ⟨x, hc⟩ : ∃ c, l[i]? = some c := ⟨_, List.getElem?_eq_getElem hlt⟩
    by_cases h1 : D'.state = 1
    · have hd := I.ok.dat h1
      have hs := I.ok.s0
      have hmm : D'.most ≤ 9223372036854775807 := by rw [I.same]; exact hm.2
      obtain ⟨n, n1, n2, n3, n4⟩ : ∃ n : Nat, (D'.left ≤ l.length - i → (n : Int) = D'.left) ∧ ((l.length : Int) - i < D'.left → (n : Int) = l.length - i) ∧ 0 < n ∧ i + n ≤ l.length := by
        by_cases hle : D'.left ≤ l.length - i
        · exact ⟨D'.left.toNat, by omega, by omega, by omega, by omega⟩
        · exact ⟨l.length - i, by omega, by omega, by omega, by omega⟩
      have n5 : (n : Int) ≤ D'.left := by omega
      have n6 : out.length + n ≤ 140737488355328 := by
        have := I.sz
        have := hD.s0
        have := I.same
        omega
      have hst1 : D'.left - n = 0 → FeedI D l (i + n) { D' with left := D'.left - n, size := D'.size + n, state := 2 } (out ++ (l.drop i).take (i + n - i)) := fun h0 => I.data hm h1 n3 n4 n5 (by rw [if_pos h0])
      have hst2 : D'.left - n ≠ 0 → FeedI D l (i + n) { D' with left := D'.left - n, size := D'.size + n } (out ++ (l.drop i).take (i + n - i)) := fun h0 => I.data hm h1 n3 n4 n5 (by rw [if_neg h0, ← h1])
      repeat' (first | refine walk ?_ | exact trivial | refine Tw.mk ?_ ?_ | intro hy | (exfalso; omega) | refine XO.minE (n : Int) rfl rfl rfl rfl rfl n1 n2 ?_ | refine XO.subLH i (i + n) TT_ok rfl rfl rfl rfl rfl rfl rfl rfl (by omega) (by omega) (by omega) ?_ | (refine Tri.sel1 (c := bld b2 74 out) (wstr_spec bldT_own (by simp only [List.length_take, List.length_drop]; omega) ?_)) | fail)
      · exact ih (i + n, { D' with left := D'.left - n, size := D'.size + n, state := 2 }, out ++ (l.drop i).take (i + n - i), a', c') _ _ (hst1 (by assumption)) (by simp only; omega) ⟨rfl, rfl, rfl, rfl, trivial⟩ entA
      · exact ih (i + n, { D' with left := D'.left - n, size := D'.size + n }, out ++ (l.drop i).take (i + n - i), a', c') _ _ (hst2 (by assumption)) (by simp only; omega) ⟨rfl, rfl, rfl, rfl, trivial⟩ entA
    · by_cases ht : (take fieldOk D' x).2 = 0
      · have I2 := I.next hc h4 h1 ht
        repeat' (first | refine walk ?_ | exact trivial | refine Tw.mk ?_ ?_ | intro hy | (intro (a2 : Option Addr) (c2 : Nat)) | (exfalso; omega) | refine take2_spec I.ok (by unfold lim; rw [I.same]; exact hm) ?_ | fail)
        all_goals first | (exfalso; omega) | (rename_i a2 c2; exact ih (i + 1, { (take fieldOk D' x).1 with err := (take fieldOk D' x).2 }, out, a2, c2) _ _ I2 (by simp only; omega) ⟨rfl, rfl, rfl, rfl, trivial⟩ entA)
      · have ef := I.fails he hc h4 h1 ht
        rw [ef] at h
        repeat' (first | refine walk ?_ | exact trivial | refine Tw.mk ?_ ?_ | intro hy | (intro (a2 : Option Addr) (c2 : Nat)) | (exfalso; omega) | refine take2_spec I.ok (by unfold lim; rw [I.same]; exact hm) ?_ | fail)
        all_goals first | (exfalso; omega) | exact Out.e h (Ent.trans (dec_mk (D := { (take fieldOk D' x).1 with err := (take fieldOk D' x).2 })) (Ent.cons _ (Ent.drop _ _)))
  · have ef := I.ends he hx
    rw [ef] at h
    clear ih
    by_cases h4 : D'.state = 4
    · rw [h4] at h
      repeat' (first | refine walk ?_ | exact trivial | refine Tw.mk ?_ ?_ | intro hy | (exfalso; omega) | refine XS.drawH (T := TT) [(5, [0], heldC ⟨b, 2, none⟩ (kI D'.state))] [(5, [0])] rfl follows_ok (by decide +kernel) ?_ | (refine Tri.sel1 (c := bld b2 74 out) (bstr_spec ?_)) | exact Out.e h dec_mk | refine XO.callH (by repeat' (first | exact trivial | exact readA | exact heldM_0 | exact heldM_1 | exact heldM_2 | exact heldM_3 | exact heldM_4 | refine And.intro ?_ ?_ | exact Reads.here rfl | refine Reads.skip ?_)) rfl rfl rfl (by kernel_rfl) rfl ?_ | refine And.intro (by repeat' (first | exact trivial | exact readA | exact heldM_0 | exact heldM_1 | exact heldM_2 | exact heldM_3 | exact heldM_4 | refine And.intro ?_ ?_ | exact Reads.here rfl | refine Reads.skip ?_)) ?_ | refine XO.loadH TT_ok rfl rfl rfl rfl rfl rfl (by repeat' (first | exact trivial | exact readA | exact heldM_0 | exact heldM_1 | exact heldM_2 | exact heldM_3 | exact heldM_4 | refine And.intro ?_ ?_ | exact Reads.here rfl | refine Reads.skip ?_)) ?_ | refine XO.buildSlice TT_ok (by repeat' (first | exact trivial | exact readA | exact heldM_0 | exact heldM_1 | exact heldM_2 | exact heldM_3 | exact heldM_4 | refine And.intro ?_ ?_ | exact Reads.here rfl | refine Reads.skip ?_)) rfl rfl rfl rfl rfl rfl rfl rfl rfl rfl rfl rfl (fun _ => (by repeat' (first | exact trivial | exact readA | exact heldM_0 | exact heldM_1 | exact heldM_2 | exact heldM_3 | exact heldM_4 | refine And.intro ?_ ?_ | exact Reads.here rfl | refine Reads.skip ?_))) (fun b1 => ?_) | fail)
    · have h5 : decide (D'.state = 4) = false := by simpa using h4
      rw [h5] at h
      have h6 : i = l.length := by have : ¬ i < l.length := fun h => hx ⟨h, h4⟩; omega
      repeat' (first | refine walk ?_ | exact trivial | refine Tw.mk ?_ ?_ | intro hy | (exfalso; omega) | refine XS.drawH (T := TT) [(5, [0], heldC ⟨b, 2, none⟩ (kI D'.state))] [(5, [0])] rfl follows_ok (by decide +kernel) ?_ | (refine Tri.sel1 (c := bld b2 74 out) (bstr_spec ?_)) | exact Out.e h dec_mk | refine XO.callH (by repeat' (first | exact trivial | exact readA | exact heldM_0 | exact heldM_1 | exact heldM_2 | exact heldM_3 | exact heldM_4 | refine And.intro ?_ ?_ | exact Reads.here rfl | refine Reads.skip ?_)) rfl rfl rfl (by kernel_rfl) rfl ?_ | refine And.intro (by repeat' (first | exact trivial | exact readA | exact heldM_0 | exact heldM_1 | exact heldM_2 | exact heldM_3 | exact heldM_4 | refine And.intro ?_ ?_ | exact Reads.here rfl | refine Reads.skip ?_)) ?_ | refine XO.loadH TT_ok rfl rfl rfl rfl rfl rfl (by repeat' (first | exact trivial | exact readA | exact heldM_0 | exact heldM_1 | exact heldM_2 | exact heldM_3 | exact heldM_4 | refine And.intro ?_ ?_ | exact Reads.here rfl | refine Reads.skip ?_)) ?_ | refine XO.buildSlice TT_ok (by repeat' (first | exact trivial | exact readA | exact heldM_0 | exact heldM_1 | exact heldM_2 | exact heldM_3 | exact heldM_4 | refine And.intro ?_ ?_ | exact Reads.here rfl | refine Reads.skip ?_)) rfl rfl rfl rfl rfl rfl rfl rfl rfl rfl rfl rfl (fun _ => (by repeat' (first | exact trivial | exact readA | exact heldM_0 | exact heldM_1 | exact heldM_2 | exact heldM_3 | exact heldM_4 | refine And.intro ?_ ?_ | exact Reads.here rfl | refine Reads.skip ?_))) (fun b1 => ?_) | fail)
end Go.Proofs.YtngicmoadobgpaaDoor

/- The statements on chunked bodies: the anchor, ChunkPieces. Conditions: none. -/
namespace Go.Proofs.YtngicmoadobgpaaDoor
open Go Go.Sx Go.ChunkM Go.StrM
variable {w0 : World} {F H : List HProp} {K : Value → List HProp → Prop}
/-- Feed, its answer named. -/
theorem feed_at {b : Nat} {D D' : DS} {l o : List UInt8} {k : Nat} {t : Bool} {er : Int} (he : feed fieldOk D l = (D', o, k, t, er)) (hl : l.length ≤ 140737488351232) (hD : Ok D) (hm : lim D) (h : K (.tuple #[kS o, kI k, .bool t, kI er]) (dec b D' :: F)) : Tri Tryd.prog 12 #[ptr b, kS l] w0 (dec b D :: F) K :=
  feed_spec (by omega) (.inl (by omega)) hD hm (by rw [he]; exact h)
/-- The same, whatever the length, where a body may not be too long. -/
theorem feed_big {b : Nat} {D D' : DS} {l o : List UInt8} {k : Nat} {t : Bool} {er : Int} (he : feed fieldOk D l = (D', o, k, t, er)) (hl : l.length ≤ 4611686018427387904) (hb : D.most ≤ 140737488355328) (hD : Ok D) (hm : lim D) (h : K (.tuple #[kS o, kI k, .bool t, kI er]) (dec b D' :: F)) : Tri Tryd.prog 12 #[ptr b, kS l] w0 (dec b D :: F) K :=
  feed_spec hl (.inr hb) hD hm (by rw [he]; exact h)
theorem dsize2_spec {b : Nat} {D : DS} (h : K (kI D.size) (dec b D :: F)) : Tri Tryd.prog 15 #[ptr b] w0 (dec b D :: F) K :=
  dec_open fun _ _ => Tri.post (dsize_spec ⟨_, dec_mk, h⟩)
theorem rdy_ok {m : Int} : Ok (rdy m 0 0) := ⟨Int.le_refl _, .inl rfl, by simp [rdy], by simp [rdy], Nat.zero_le _, .inl (by simp [rdy])⟩
theorem anc1 : feed fieldOk (rdy 9 0 0) [51, 59, 120, 61, 49, 13, 10, 97, 98] = (⟨9, 2, 1, 1, [], false, 0, 0⟩, [97, 98], 9, false, 0) := by kernel_rfl
theorem anc2 : feed fieldOk ⟨9, 2, 1, 1, [], false, 0, 0⟩ [99, 13, 10, 48, 13, 10, 84, 58, 32, 118, 13, 10, 13, 10, 114, 101, 115, 116] = (⟨9, 3, 4, 0, [], false, 1, 0⟩, [99], 14, true, 0) := by kernel_rfl
set_option maxRecDepth 20000 in
theorem canchor_spec (h : K (.bool true) F) : Tri Tryd.prog 10 #[] w0 F K := by
  refine Tri.enterF Tryd.func10 Tryd.ntmps10 Tryd.results10 rfl rfl fun fr hfr => ?_
  repeat' (first | refine walk ?_ | exact trivial | refine Tw.mk ?_ ?_ | intro hy | (intro (b : Nat)) | refine dnew_spec (fun b => ?_) | refine feed_at anc1 (by decide) rdy_ok (by unfold lim; decide) ?_ | refine feed_at anc2 (by decide) ⟨by decide, by decide, by decide, by decide, by decide, .inl (by decide)⟩ (by unfold lim; decide) ?_ | refine dsize2_spec ?_ | (exfalso; exact hy rfl) | exact Out.s0 h | fail)
set_option maxHeartbeats 1000000 in
set_option maxRecDepth 20000 in
theorem chunk_pieces {m : Int} {s : List UInt8} (hm : -9223372036854775808 ≤ m ∧ m ≤ 9223372036854775807) (hs : s.length ≤ 140737488351232) : Tri Tryd.prog 3 #[kI m, kS s] w0 F fun v _ => v = .bool true := by
  by_cases h5 : (s.length : Int) > 5000
  · refine Tri.enterF Tryd.func3 Tryd.ntmps3 Tryd.results3 rfl rfl fun fr hfr => ?_
    repeat' (first | refine walk ?_ | exact trivial | refine Tw.mk ?_ ?_ | intro hy | refine canchor_spec ?_ | (exfalso; omega) | exact Out.i rfl | fail)
  have hlim : lim (rdy m 0 0) := hm
  generalize hA : feed fieldOk (rdy m 0 0) s = A
  obtain ⟨DA, wh, n, ok, er⟩ := A
  refine Tri.enterF Tryd.func3 Tryd.ntmps3 Tryd.results3 rfl rfl fun fr hfr => ?_
  repeat' (first | refine walk ?_ | exact trivial | refine Tw.mk ?_ ?_ | intro hy | (intro (b : Nat)) | refine canchor_spec ?_ | (exfalso; omega) | refine dnew_spec (fun b => ?_) | (refine Tri.sel1 (c := dec _ (rdy m 0 0)) (feed_at hA hs rdy_ok hlim ?_)) | fail)
  rename_i b
  obtain ⟨R, hR⟩ : ∃ R : Nat → DS × List UInt8 × Nat, R = fun i => run fieldOk (rdy m 0 0) (s.take i) := ⟨_, rfl⟩
  have hRi : ∀ i, run fieldOk (rdy m 0 0) (s.take i) = R i := fun i => by rw [hR]
  have hR0 : R 0 = (rdy m 0 0, [], 0) := by rw [← hRi]; rfl
  refine XS.loopI (ι := Nat) (fun i => [(1, kS s), (6, ptr b), (7, kS wh), (8, kI n), (9, .bool ok), (10, kI er), (11, kS (R i).2.1), (12, kI (R i).2.2), (42, kI s.length), (43, kI i)]) (fun i => dec b (R i).1 :: F) (fun i => i ≤ s.length ∧ (R i).1.err = 0) (fun i => s.length - i) 0
    ⟨Nat.zero_le _, by rw [hR0]; rfl⟩ (by rw [hR0]; exact ⟨rfl, rfl, rfl, rfl, rfl, rfl, rfl, rfl, rfl, rfl, trivial⟩) (by rw [hR0]; exact Ent.drop _ _) ?_
  rintro i e ⟨hi, he⟩ ih
  have hok := run_ok (fld := fieldOk) (s.take i) (d := rdy m 0 0) rdy_ok
  have hou := run_out (fld := fieldOk) (s.take i) (rdy m 0 0)
  have hle := run_le (fld := fieldOk) (s.take i) (rdy m 0 0)
  have htl : (s.take i).length ≤ i := by rw [List.length_take]; omega
  rw [hRi] at hok hou hle
  have hlm : lim (R i).1 := by unfold lim; rw [hok.2.1]; exact hm
  by_cases hlt : i < s.length
  · obtain ⟨x, hc⟩ : ∃ c, s[i]? = some c := ⟨_, List.getElem?_eq_getElem hlt⟩
    have hp := pieces_step (fld := fieldOk) (D0 := rdy m 0 0) hc rfl (by rw [hRi]; exact he)
    have e1 : (s.drop i).take (i + 1 - i) = [x] := by
      have := (List.getElem?_eq_some_iff.1 hc)
      rw [List.drop_eq_getElem_cons this.1, this.2, show i + 1 - i = 1 by omega]; rfl
    have hl1 : ((s.drop i).take (i + 1 - i)).length ≤ 140737488351232 := by rw [e1]; simp
    rw [hA, hRi, hRi, ← e1] at hp
    dsimp only at hp
    rcases hp with hp | ⟨o, k, t, hB, h1, h2, h3, h4⟩
    · generalize hB : feed fieldOk (R i).1 ((s.drop i).take (i + 1 - i)) = B at hp
      obtain ⟨D1, o, k, t, e2⟩ := B
      dsimp only at hp
      obtain ⟨p1, rfl, rfl, rfl⟩ := hp
      repeat' (first | refine walk ?_ | exact trivial | refine Tw.mk ?_ ?_ | intro hy | (exfalso; omega) | refine XO.subLH i (i + 1) TT_ok rfl rfl rfl rfl rfl rfl rfl rfl rfl (by omega) (by omega) ?_ | refine feed_at hB hl1 hok.1 hlm ?_ | (exfalso; exact hy rfl) | exact Out.i rfl | fail)
    · have o1 := run_out (fld := fieldOk) (s.take (i + 1)) (rdy m 0 0)
      have o2 := run_le (fld := fieldOk) (s.take (i + 1)) (rdy m 0 0)
      rw [hRi] at o1 o2
      have o3 : (s.take (i + 1)).length ≤ i + 1 := by rw [List.length_take]; omega
      have o4 := congrArg List.length h2
      rw [List.length_append] at o4
      cases ok <;> by_cases hu : (R (i + 1)).2.2 = n <;> simp only [hu, decide_true, decide_false, Bool.and_true, Bool.and_false] at h4 <;> subst h4
      all_goals
        repeat' (first | refine walk ?_ | exact trivial | refine Tw.mk ?_ ?_ | intro hy | (exfalso; omega) | refine XO.subLH i (i + 1) TT_ok rfl rfl rfl rfl rfl rfl rfl rfl rfl (by omega) (by omega) ?_ | refine feed_at hB hl1 hok.1 hlm ?_ | (exfalso; exact hy rfl) | refine ih (i + 1) _ _ ⟨hlt, h1⟩ (by omega) ⟨rfl, rfl, rfl, rfl, rfl, rfl, (congrArg kS h2.symm), (congrArg kI (by omega)), rfl, rfl, trivial⟩ entA | fail)
  · obtain rfl : i = s.length := by omega
    clear ih
    have hq := pieces_end (fld := fieldOk) (D0 := rdy m 0 0) (s := s) rfl (by have := he; rw [← hRi, List.take_length] at this; exact this)
    have hrl := hRi s.length
    rw [List.take_length] at hrl
    rw [hA, hrl] at hq
    dsimp only at hq
    obtain ⟨q1, q2, rfl⟩ := hq
    have q1' := q1.symm
    repeat' (first | refine walk ?_ | exact trivial | refine Tw.mk ?_ ?_ | intro hy | (exfalso; omega) | (exfalso; exact hy rfl) | (exfalso; exact hy q1') | exact Out.i rfl | fail)
end Go.Proofs.YtngicmoadobgpaaDoor

/- From a walk to a law's row: what is read of the arguments; that they read the same behind the call. Conditions: none. -/
namespace Go.Sx
open Go Go.RowKit Go.ChangeShapes Go.WideShapes Go.Deep

theorem wf_i64 {n : Int} (h : (Lit.int .i64 n).wf = true) : -9223372036854775808 ≤ n ∧ n ≤ 9223372036854775807 := by
  simp [Lit.wf, IntKind.min, IntKind.max, IntKind.signed, IntKind.bits] at h; exact h
theorem wf_u64 {n : Int} (h : (Lit.int .u64 n).wf = true) : 0 ≤ n ∧ n < 18446744073709551616 := by
  simp [Lit.wf, IntKind.min, IntKind.max, IntKind.signed, IntKind.bits] at h; omega
theorem wf_u8 {n : Int} (h : (Lit.int .u8 n).wf = true) : 0 ≤ n ∧ n ≤ 255 := by
  simp [Lit.wf, IntKind.min, IntKind.max, IntKind.signed, IntKind.bits] at h; exact h

/-- A slice that came in: the cells of its elements, each as many as an element has. -/
def BaseRow (w0 : World) (v : Value) (es : Nat) (ys : List (List Value)) : Prop :=
  (∃ a cap, v = .slice a 0 cap ∧ ys = []) ∨
  ∃ b off cap, v = .slice (some ⟨b, off, none⟩) ys.length cap ∧ 0 < ys.length ∧ ∀ i l, ys[i]? = some l → l.length = es ∧ ∀ j u, l[j]? = some u → w0.cell? ⟨b, off + i * es + j, none⟩ = some u

theorem BaseRow.form {w0 : World} {v : Value} {es : Nat} {ys : List (List Value)} (h : BaseRow w0 v es ys) : ∃ a cap, v = .slice a ys.length cap := by
  rcases h with ⟨a, cap, rfl, rfl⟩ | ⟨b, off, cap, rfl, _⟩
  · exact ⟨a, cap, rfl⟩
  · exact ⟨_, cap, rfl⟩

/-- The row, whether it is empty or not. -/
theorem BaseRow.opened {w0 : World} {v : Value} {es : Nat} {ys : List (List Value)} (h : BaseRow w0 v es ys) : ∃ a n cap, v = .slice a n cap ∧ n = ys.length ∧
    ∀ i l, ys[i]? = some l → ∃ b off, a = some ⟨b, off, none⟩ ∧ ∀ H, ReadsL w0 H ⟨b, off + i * es, none⟩ l := by
  rcases h with ⟨a, cap, rfl, rfl⟩ | ⟨b, off, cap, rfl, _, h⟩
  · exact ⟨a, 0, cap, rfl, rfl, fun i l hl => by simp at hl⟩
  · exact ⟨_, _, cap, rfl, rfl, fun i l hl => ⟨b, off, rfl, fun H j u hj => by rw [Addr.add_mk]; exact Reads.base ((h i l hl).2 j u hj)⟩⟩

theorem BaseRow.rd {w0 : World} {v : Value} {es : Nat} {ys : List (List Value)} (h : BaseRow w0 v es ys) : ∃ a n cap, v = .slice a n cap ∧ n = ys.length ∧
    ∀ (i : Nat) l, ys[i]? = some l → ∃ b off, a = some ⟨b, off, none⟩ ∧ RdN w0 ⟨b, off + i * es, none⟩ es l ∧ ∀ (j : Nat) u, l[j]? = some u → RdB w0 ⟨b, off + i * es + j, none⟩ u := by
  rcases h with ⟨a, cap, rfl, rfl⟩ | ⟨b, off, cap, rfl, _, h⟩
  · exact ⟨a, 0, cap, rfl, rfl, fun i l hl => by simp at hl⟩
  · exact ⟨_, _, cap, rfl, rfl, fun i l hl => ⟨b, off, rfl, ⟨fun H => ⟨(h i l hl).1, fun j u hj => by rw [Addr.add_mk]; exact Reads.base ((h i l hl).2 j u hj)⟩⟩, fun j u hj => ⟨fun H => Reads.base ((h i l hl).2 j u hj)⟩⟩⟩
/-- A slice of numbers that came in. -/
theorem BaseRow.rd1 {w0 : World} {v : Value} {α : Type} {f : α → Value} {zs : List α} (h : BaseRow w0 v 1 (zs.map fun z => [f z])) : ∃ a n cap, v = .slice a n cap ∧ n = zs.length ∧
    ∀ (i : Nat) z, zs[i]? = some z → ∃ b off, a = some ⟨b, off, none⟩ ∧ RdB w0 ⟨b, off + i * 1, none⟩ (f z) := by
  obtain ⟨a, n, cap, rfl, hn, hr⟩ := h.rd
  refine ⟨a, n, cap, rfl, by simpa using hn, fun i z hz => ?_⟩
  obtain ⟨b, off, ha, _, h2⟩ := hr i [f z] (by rw [List.getElem?_map, hz]; rfl)
  exact ⟨b, off, ha, h2 0 _ rfl⟩
theorem typed_map {α : Type} {ys : List (List Value)} (enc : α → List Value) (p : α → Prop) (h : ∀ l ∈ ys, ∃ x, l = enc x ∧ p x) : ∃ xs : List α, ys = xs.map enc ∧ ∀ x ∈ xs, p x := by
  induction ys with
  | nil => exact ⟨[], rfl, fun _ h => by cases h⟩
  | cons l ys ih =>
    obtain ⟨x, hx, px⟩ := h l (List.mem_cons_self ..)
    obtain ⟨xs, hxs, pxs⟩ := ih fun l hl => h l (List.mem_cons_of_mem _ hl)
    refine ⟨x :: xs, by simp [hx, hxs], fun y hy => ?_⟩
    rcases List.mem_cons.1 hy with rfl | hy
    · exact px
    · exact pxs y hy

/-- What a field of one cell may hold. -/
inductive FK where
  | int (k : IntKind) | bool | string
def FK.ok : FK → Value → Prop
  | .int k, v => ∃ n, v = .int k n ∧ (Lit.int k n).wf = true
  | .bool, v => ∃ b, v = .bool b
  | .string, v => ∃ s : ByteArray, v = .string s ∧ s.size ≤ maxLen
def FK.desc : FK → TypeDesc
  | .int k => .int k
  | .bool => .bool
  | .string => .string
def FKs : List FK → List Value → Prop
  | [], [] => True
  | k :: ks, v :: vs => k.ok v ∧ FKs ks vs
  | _, _ => False

theorem FKs.cons {k : FK} {ks : List FK} {l : List Value} (h : FKs (k :: ks) l) : ∃ v vs, l = v :: vs ∧ k.ok v ∧ FKs ks vs := by
  cases l with
  | nil => exact h.elim
  | cons v vs => exact ⟨v, vs, rfl, h⟩
theorem FKs.nil {l : List Value} (h : FKs [] l) : l = [] := by
  cases l with
  | nil => rfl
  | cons v vs => exact h.elim

/-- The kinds of a struct's fields. -/
def FieldsAre (P : Program) : List Field → List FK → Prop
  | [], [] => True
  | f :: fs, k :: ks => P.underlying f.type = some k.desc ∧ FieldsAre P fs ks
  | _, _ => False
theorem FieldsAre.length {P : Program} : ∀ {fs : List Field} {ks : List FK}, FieldsAre P fs ks → ks.length = fs.length
  | [], [], _ => rfl
  | _ :: _, _ :: _, ⟨_, h⟩ => by simp [FieldsAre.length h]
theorem FieldsAre.at {P : Program} : ∀ {fs : List Field} {ks : List FK}, FieldsAre P fs ks → ∀ (j : Nat) (f : Field) (k : FK), fs[j]? = some f → ks[j]? = some k → P.underlying f.type = some k.desc
  | [], [], _, j, f, k, h, _ => by simp at h
  | f' :: fs, k' :: ks, ⟨h1, h2⟩, 0, f, k, hf, hk => by simp at hf hk; subst hf; subst hk; exact h1
  | f' :: fs, k' :: ks, ⟨h1, h2⟩, j + 1, f, k, hf, hk => h2.at j f k (by simpa using hf) (by simpa using hk)

section
variable {H : Type} {enc : TypeId × Value → H} {P : Program} {w : World} {base : Nat} {spare : Nat → Bool} {held : Bool}

theorem FK.of_trod {k : FK} {t : TypeId} {fuel : Nat} {v : Value} {y : DataW H × List MemPlace} (ht : P.underlying t = some k.desc) (h : DataW.trod enc P w base spare held fuel t [v] = some y) : k.ok v := by
  cases k with
  | int k => obtain ⟨n, hv, _, hw⟩ := DataW.trod_int ht h; injection hv with hv; exact ⟨n, hv, hw⟩
  | bool => obtain ⟨b, hv, _⟩ := DataW.trod_bool ht h; injection hv with hv; exact ⟨b, hv⟩
  | string => obtain ⟨s, hv, _, hs⟩ := DataW.trod_string ht h; injection hv with hv; exact ⟨s, hv, hs⟩

theorem rows_exist {n : Nat} {p : Nat → List Value → Prop} (h : ∀ i, i < n → ∃ l, p i l) : ∃ ys : List (List Value), ys.length = n ∧ ∀ i l, ys[i]? = some l → p i l := by
  induction n with
  | zero => exact ⟨[], rfl, fun i l hl => by simp at hl⟩
  | succ n ih =>
    obtain ⟨ys, hlen, hys⟩ := ih fun i hi => h i (by omega)
    obtain ⟨l, hl⟩ := h n (by omega)
    refine ⟨ys ++ [l], by simp [hlen], fun i l' hi => ?_⟩
    rw [List.getElem?_append] at hi
    split at hi
    · exact hys i l' hi
    · rename_i hge
      have : i = n := by
        have h2 := (List.getElem?_eq_some_iff.1 hi).1
        simp at h2; omega
      subst this
      simp [hlen] at hi
      exact hi ▸ hl

/-- A slice of structs of one-cell fields. -/
theorem base_struct {t e : TypeId} {fs : Array Field} {ks : List FK} {v : Value} {d : DataW H} {ps : List MemPlace} (ht : P.underlying t = some (.slice e)) (he : P.underlying e = some (.struct fs))
    (hpos : 0 < fs.size) (hone : oneCellFields P fs = true) (hC : P.cellsOf e = fs.size) (hka : FieldsAre P fs.toList ks) (hv : ∃ a len cap, v = .slice a len cap)
    (h : DataW.Trod enc P w base spare held t v d ps) :
    ∃ ys, BaseRow w v fs.size ys ∧ (∀ l ∈ ys, FKs ks l) ∧ (ys = [] ∨ ∃ el sp, d = .slice el sp ∧ el.length = ys.length) := by
  have hk : ks.length = fs.size := by simpa using hka.length
  have hks : ∀ (j : Nat) (f : Field) (k : FK), fs[j]? = some f → ks[j]? = some k → P.underlying f.type = some k.desc := fun j f k h1 h2 => hka.at j f k (by simpa using h1) h2
  obtain ⟨a, len, cap, rfl⟩ := hv
  obtain ⟨fuel, hf⟩ := h
  rcases open_slice ht hf with ⟨hcs, _⟩ | ⟨a', len', cap', m, n, D, Pl, hcs, hb, hl, hm, hmm, hx, hi⟩
  · simp [Value.cells] at hcs
    obtain ⟨rfl, rfl, rfl⟩ := hcs
    exact ⟨[], .inl ⟨none, 0, rfl, rfl⟩, (fun _ h => by cases h), .inl rfl⟩
  · simp [Value.cells] at hcs
    obtain ⟨rfl, rfl, rfl⟩ := hcs
    simp only [Prod.mk.injEq] at hx
    rw [hC] at hi
    have hlm : len ≤ m := by rw [hmm]; split <;> omega
    have each : ∀ i, i < len → ∃ l, l.length = fs.size ∧ FKs ks l ∧ ∀ j u, l[j]? = some u → w.cell? (a'.add (i * fs.size + j)) = some u := by
      intro i hil
      obtain ⟨cs', hc, ht'⟩ := hi i (by omega)
      obtain ⟨ys, n', _, _, hlen, _, hfl⟩ := DataW.trod_struct he ht'
      obtain ⟨_, hcl, hat⟩ := World.cells?_some hc
      have hcl' : cs'.length = fs.size := hcl
      refine ⟨cs', hcl', ?_, fun j u hu => ?_⟩
      · have key : ∀ (ks : List FK) (l : List Value), ks.length = l.length → (∀ (j : Nat) k u, ks[j]? = some k → l[j]? = some u → k.ok u) → FKs ks l := by
          intro ks
          induction ks with
          | nil => intro l hl _; cases l with
            | nil => trivial
            | cons _ _ => simp at hl
          | cons k ks ih => intro l hl hh; cases l with
            | nil => simp at hl
            | cons u l => exact ⟨hh 0 k u rfl rfl, ih l (by simpa using hl) fun j k u h1 h2 => hh (j + 1) k u (by simpa using h1) (by simpa using h2)⟩
        refine key ks cs' (by omega) fun j k u hj hu => ?_
        have hjl : j < fs.size := by have := (List.getElem?_eq_some_iff.1 hj).1; omega
        have hfj : fs[j]? = some fs[j] := by simp [hjl]
        obtain ⟨ho, hk1⟩ := hone_of hone j _ hfj
        have h1 := hfl j _ hfj
        rw [ho, hk1] at h1
        have hone' : (cs'.drop j).take 1 = [u] := by
          rw [List.drop_eq_getElem_cons (by omega)]
          have : cs'[j]'(by omega) = u := by rw [List.getElem?_eq_getElem (by omega)] at hu; injection hu
          simp [this]
        rw [hone'] at h1
        have hys : ys[j]? = some (ys[j]'(by omega)) := List.getElem?_eq_getElem (by omega)
        exact FK.of_trod (hks j _ k hfj hj) (h1.trans hys)
      · have hjl : j < fs.size := by have := (List.getElem?_eq_some_iff.1 hu).1; omega
        rw [← Go.Deep.add_add, hat j hjl]; exact hu
    obtain ⟨ys, hlen, hys⟩ := rows_exist each
    refine ⟨ys, ?_, fun l hl => ?_, .inr ⟨_, _, hx.1, by simp [hlen]⟩⟩
    · by_cases h0 : len = 0
      · subst h0
        have : ys = [] := List.length_eq_zero_iff.1 hlen
        exact .inl ⟨_, cap, rfl, this⟩
      · obtain ⟨b, off, spot⟩ := a'
        have h00 : ys[0]? = some (ys[0]'(by omega)) := List.getElem?_eq_getElem (by omega)
        obtain ⟨hl0, _, hc0⟩ := hys 0 _ h00
        have hu0 : (ys[0]'(by omega))[0]? = some ((ys[0]'(by omega))[0]'(by omega)) := List.getElem?_eq_getElem (by omega)
        have hcell := hc0 0 _ hu0
        have hspot : spot = none := by simpa [Addr.add] using World.cell?_spot hcell
        subst hspot
        refine .inr ⟨b, off, cap, by rw [hlen], by omega, fun i l hl => ⟨(hys i l hl).1, fun j u hu => ?_⟩⟩
        have := (hys i l hl).2.2 j u hu
        rw [Addr.add_mk] at this
        rw [Nat.add_assoc]; exact this
    · obtain ⟨i, hi⟩ := List.getElem?_of_mem hl
      exact (hys i l hi).2.1

/-- A slice of numbers. -/
theorem base_ints {t e : TypeId} {k : IntKind} {v : Value} {d : DataW H} {ps : List MemPlace} (ht : P.underlying t = some (.slice e)) (he : P.underlying e = some (.int k)) (hC : P.cellsOf e = 1) (hv : ∃ a len cap, v = .slice a len cap)
    (h : DataW.Trod enc P w 0 (fun _ => true) true t v d ps) :
    ∃ zs : List Int, BaseRow w v 1 (zs.map fun z => [.int k z]) ∧ (∀ z ∈ zs, (Lit.int k z).wf = true) ∧ (zs = [] ∨ ∃ el sp, d = .slice el sp ∧ el.length = zs.length) := by
  obtain ⟨a, len, cap, rfl⟩ := hv
  obtain ⟨fuel, hf⟩ := h
  rcases open_ints ht he hC hf with ⟨hcs, _⟩ | ⟨a', len', cap', zs, hcs, _, hl, hm, hz, hx, hcell, hwz⟩
  · simp [Value.cells] at hcs
    obtain ⟨rfl, rfl, rfl⟩ := hcs
    exact ⟨[], .inl ⟨none, 0, rfl, rfl⟩, (fun _ h => by cases h), .inl rfl⟩
  · simp [Value.cells] at hcs
    obtain ⟨rfl, rfl, rfl⟩ := hcs
    simp only [Prod.mk.injEq] at hx
    simp only [if_true] at hz
    refine ⟨zs.take len, ?_, fun z hz' => hwz z (List.mem_of_mem_take hz'), .inr ⟨_, _, hx.1, by simp [lits]⟩⟩
    by_cases h0 : len = 0
    · subst h0; exact .inl ⟨_, cap, rfl, by simp⟩
    · obtain ⟨b, off, spot⟩ := a'
      have hlen : (zs.take len).length = len := by simp; omega
      have hc0 := hcell 0 (by omega)
      have hspot : spot = none := by simpa [Addr.add] using World.cell?_spot hc0
      subst hspot
      refine .inr ⟨b, off, cap, by simp; omega, by simp; omega, fun i l hi => ?_⟩
      rw [List.getElem?_map, Option.map_eq_some_iff] at hi
      obtain ⟨z, hz1, rfl⟩ := hi
      refine ⟨rfl, fun j u hu => ?_⟩
      have hj : j = 0 := by have := (List.getElem?_eq_some_iff.1 hu).1; simp at this; omega
      subst hj
      simp at hu; subst hu
      rw [List.getElem?_take] at hz1
      split at hz1
      · rename_i hil
        have := hcell i (by omega)
        rw [Addr.add_mk] at this
        rw [Nat.mul_one, Nat.add_zero, this]
        simp [List.getD, hz1]
      · cases hz1

/-- What the law's 'post' asks: the answer is true, the arguments read as they did. -/
theorem trod_below {t : TypeId} (hl : laidOutB P = true) (hr : P.readableRec t = true) (hrow : t < P.types.size) {W W' : World} {v : Value} {d : DataW H} {ps before : List MemPlace}
    (h : DataW.Trod enc P W 0 (fun _ => true) true t v d ps) (hb : Below W.heap.size W W') (hlt : ∀ x ∈ before, x.block < W.heap.size) (hsub : ∀ x ∈ ps, x ∈ before) :
    DataW.Trod enc P W' 0 (fun b => decide (b < W.heap.size)) true t v d ps := Below.trod hl hr hrow h hb fun x hx => hlt x (hsub x hx)
end
end Go.Sx

/- A store into a field of an element of a row. Conditions: the table 'T' fits the program. -/
namespace Go.Sx
open Go Go.RowKit
section
variable {P : Program} {T : Tbl} {w0 : World} {n : Nat} {HL : Held} {ops : Array Oper} {J : Env → List HProp → Prop} {ix : Nat} {rest : List Oper} {o : Oper} {e : Env} {F : List HProp} {α : Type} {enc : α → List Value} {es : Nat}
theorem XO.storeRowF {t tb : TypeId} {x y : Operand} {b i j cap k : Nat} {xs : List α} {p : α} {cs : List Value} {v : Value} (p' : α) (he : ∀ x, (enc x).length = es) (hi : xs[i]? = some p) (hT : T.Ok P) (hk0 : Keeps w0 (RowAt b cap tb es k (flat enc xs) :: F) (keptBy HL ix)) (hg : wantedE ops e n o = true) (hd : o.dst = none) (hop : o.op = .store t x y) (hx : e.ev n x = .pointer (some ⟨b, i * es + j, none⟩))
    (hy : Hd (e.ev n y) = some v) (hcs : v.cells = ⟨cs⟩) (hs : T.size t = some cs.length) (h1 : cs.all (·.oneCell') = true) (hj : Nat.ble (j + cs.length) es = true) (hw : wr (enc p) j cs = enc p')
    (hk : Keeps w0 (RowAt b cap tb es k (flat enc (xs.set i p')) :: F) (keptBy HL ix)) (h : XO P T w0 n HL ops J (ix + 1) rest e (RowAt b cap tb es k (flat enc (xs.set i p')) :: F)) : XO P T w0 n HL ops J ix (o :: rest) e (RowAt b cap tb es k (flat enc xs) :: F) := by
  have hj' := Nat.le_of_ble_eq_true hj
  have hlt0 := (List.getElem?_eq_some_iff.1 hi).1
  have hq : wr (flat enc xs) (i * es + j) cs = flat enc (xs.set i p') := flat_wr he hi hj' hw
  refine .storeRow hT hk0 hg hd hop hx hy hcs hs h1 ?_ (by rw [hq]; exact hk) (by rw [hq]; exact h)
  have hlt : (i + 1) * es ≤ xs.length * es := Nat.mul_le_mul_right _ (by omega)
  rw [Nat.add_mul, Nat.one_mul] at hlt
  rw [flat_length he]
  omega
end
end Go.Sx

/- Rules: an empty slice written out; rows that are only read. Conditions: the table 'T' fits the program. -/
namespace Go.Sx
open Go Go.RowKit
section
variable {P : Program} {T : Tbl} {w0 : World} {n : Nat} {HL : Held} {ops : Array Oper} {J : Env → List HProp → Prop} {ix : Nat} {rest : List Oper} {o : Oper} {e : Env} {H F : List HProp}
/-- '[]T{}'. -/
theorem XO.buildSlice0 {t u : TypeId} {s d : Nat} (hT : T.Ok P) (hk0 : Keeps w0 H (keptBy HL ix)) (hg : wantedE ops e n o = true) (hd : o.dst = some d) (hop : o.op = .buildSlice t 0 #[]) (hu : T.und t = some (.slice u)) (hs : T.size u = some s)
    (hk : ∀ b, Keeps w0 (Row (some ⟨b, 0, none⟩) 0 u s 0 [] :: H) (keptBy HL ix)) (h : ∀ b, XO P T w0 n HL ops J (ix + 1) rest (e.upd d (.slice (some ⟨b, 0, none⟩) 0 0)) (Row (some ⟨b, 0, none⟩) 0 u s 0 [] :: H)) : XO P T w0 n HL ops J ix (o :: rest) e H := by
  refine .effOp hk0 hg (by rw [hop]; rfl) (fun w hrel => ?_)
  refine ⟨_, _, _, .inl ?_, (hrel.alloc (.cells ⟨[]⟩ u)).ent (Ent.trans (RowAt.of_cel (n := 0) (es := s) (by simp) (by simp [maxLen])) Row.of_at), hk _, by rw [hd]; exact h w.heap.size⟩
  simp [execOp, hop, Instr.buildSlice, run_und hT hu, run_size hT hs, Instr.fill, newRow]
  congr 2
  apply Array.ext'
  simp
/-- A row that is only read: it lies in the memory that came in, or is somebody's own. -/
def view (w0 : World) (v : Value) (es n : Nat) (l : List Value) : HProp := fun h =>
  l.length = n * es ∧ ((n = 0 ∧ ∃ a c, v = .slice a 0 c) ∨ ∃ b off c, v = .slice (some ⟨b, off, none⟩) n c ∧ n ≤ c ∧ ((∀ k x, l[k]? = some x → w0.cell? ⟨b, off + k, none⟩ = some x) ∨ off = 0 ∧ ∃ t tail, h b = some (.cells ⟨l ++ tail⟩ t (0, 0))))
def viewAt (w0 : World) (b off es n : Nat) (l : List Value) : HProp := fun h =>
  l.length = n * es ∧ ((∀ k x, l[k]? = some x → w0.cell? ⟨b, off + k, none⟩ = some x) ∨ off = 0 ∧ ∃ t tail, h b = some (.cells ⟨l ++ tail⟩ t (0, 0)))
theorem view_form {v : Value} {es n : Nat} {l : List Value} {w : World} (h : Rel w0 (view w0 v es n l :: F) w) : ∃ a c, v = .slice a n c := by
  obtain ⟨x, ⟨h1, h2, d, l1, l2, hc, s⟩, g⟩ := h.heap
  rcases hc with ⟨_, ⟨rfl, a, c, rfl⟩ | ⟨b, off, c, rfl, _⟩⟩
  · exact ⟨a, c, rfl⟩
  · exact ⟨_, c, rfl⟩
theorem Rel.view_open {b off c es n : Nat} {l : List Value} {w : World} (hn : 0 < n) (h : Rel w0 (view w0 (.slice (some ⟨b, off, none⟩) n c) es n l :: F) w) : Rel w0 (viewAt w0 b off es n l :: F) w := by
  obtain ⟨x, ⟨h1, h2, d, l1, l2, hc, s⟩, g⟩ := h.heap
  refine ⟨h.below, x, ⟨h1, h2, d, l1, l2, ?_, s⟩, g⟩
  obtain ⟨hl, ⟨rfl, _⟩ | ⟨b', off', c', hv, _, hr⟩⟩ := hc
  · omega
  · injection hv with hv1 hv2 hv3
    injection hv1 with hv1
    injection hv1 with hb ho
    subst hb ho
    exact ⟨hl, hr⟩
theorem view_at {v : Value} {es n : Nat} {l : List Value} {w : World} (hn : 0 < n) (h : Rel w0 (view w0 v es n l :: F) w) : ∃ b off c, v = .slice (some ⟨b, off, none⟩) n c ∧ n ≤ c := by
  obtain ⟨x, ⟨h1, h2, d, l1, l2, hc, s⟩, g⟩ := h.heap
  obtain ⟨hl, ⟨rfl, _⟩ | ⟨b', off', c', hv, hle, hr⟩⟩ := hc
  · omega
  · exact ⟨b', off', c', hv, hle⟩
theorem Ent.viewAt {b off c es n : Nat} {l : List Value} (hc : n ≤ c) : Ent (viewAt w0 b off es n l :: F) (view w0 (.slice (some ⟨b, off, none⟩) n c) es n l :: F) := fun _ ⟨h1, h2, d, l1, l2, hv, s⟩ =>
  ⟨h1, h2, d, l1, l2, ⟨hv.1, .inr ⟨b, off, c, rfl, hc, hv.2⟩⟩, s⟩
theorem Reads.view {b off es m k : Nat} {l : List Value} {x : Value} (h : l[k]? = some x) : Reads w0 (viewAt w0 b off es m l :: F) ⟨b, off + k, none⟩ x := fun w hr => by
  obtain ⟨y, ⟨h1, h2, d, l1, l2, hc, s⟩, g⟩ := hr.heap
  obtain ⟨_, hv | ⟨rfl, t, tail, hb⟩⟩ := hc
  · exact Reads.base (hv k x h) w hr
  · have := (g b _ (l1 _ _ hb)).2
    have hk := (List.getElem?_eq_some_iff.1 h).1
    simp only [World.cell?, this, Nat.zero_add]
    simp [List.getElem?_append_left hk, h]
/-- A row of one's own, read from now on. -/
theorem Ent.rowView {a : Option Addr} {cap es n : Nat} {t : TypeId} {l : List Value} : Ent (Row a cap t es n l :: F) (Go.Sx.view w0 (.slice a n cap) es n l :: F) := fun _ ⟨h1, h2, d, l1, l2, hc, s⟩ =>
  ⟨h1, h2, d, l1, l2, by
    rcases hc with ⟨rfl, rfl, rfl, rfl⟩ | ⟨b, rfl, tail, hb, _, hl, hle, _⟩
    · exact ⟨by simp, .inl ⟨rfl, _, _, rfl⟩⟩
    · exact ⟨hl, .inr ⟨b, 0, cap, rfl, hle, .inr ⟨rfl, t, tail, hb⟩⟩⟩, s⟩
theorem Ent.celView {b es n : Nat} {t : TypeId} {l : List Value} (hl : l.length = n * es) (hn : n ≤ maxLen) : Ent (cel b t l :: F) (Go.Sx.view w0 (.slice (some ⟨b, 0, none⟩) n n) es n l :: F) := Ent.trans (RowAt.of_cel hl hn) (Ent.trans Row.of_at Ent.rowView)
theorem Ent.nilView (es : Nat) (a : Option Addr) (c : Nat) : Ent F (Go.Sx.view w0 (.slice a 0 c) es 0 [] :: F) := fun h' s =>
  ⟨fun _ => none, h', fun _ => .inl rfl, (fun _ _ e => by cases e), Hp.le_refl _, ⟨by simp, .inl ⟨rfl, a, c, rfl⟩⟩, s⟩
/-- A row in the memory that came in. -/
theorem Ent.baseView {v : Value} {es : Nat} {l : List Value} {n : Nat} (hl : l.length = n * es) (h : n = 0 ∧ (∃ a c, v = .slice a 0 c) ∨ ∃ b off c, v = .slice (some ⟨b, off, none⟩) n c ∧ n ≤ c ∧ (∀ k x, l[k]? = some x → w0.cell? ⟨b, off + k, none⟩ = some x)) : Ent F (Go.Sx.view w0 v es n l :: F) := fun h' s =>
  ⟨fun _ => none, h', fun _ => .inl rfl, (fun _ _ e => by cases e), Hp.le_refl _, ⟨hl, h.imp id fun ⟨b, off, c, hv, hc, hr⟩ => ⟨b, off, c, hv, hc, .inl hr⟩⟩, s⟩
theorem XS.viewOpen {b : Frame} {R : Value → List HProp → Prop} {k : List Item} {v : Value} {es m : Nat} {l : List Value} (hm : 0 < m) (h : ∀ g off c, v = .slice (some ⟨g, off, none⟩) m c → m ≤ c → XS P w0 b n R k e (viewAt w0 g off es m l :: F)) : XS P w0 b n R k e (view w0 v es m l :: F) :=
  .ex (ι := { q : Nat × Nat × Nat // v = .slice (some ⟨q.1, q.2.1, none⟩) m q.2.2 ∧ m ≤ q.2.2 }) (H' := fun q => viewAt w0 q.1.1 q.1.2.1 es m l :: F) (fun w hr => by
    obtain ⟨b, off, c, rfl, hc⟩ := view_at hm hr
    exact ⟨⟨(b, off, c), rfl, hc⟩, hr.view_open hm⟩) (fun q => h _ _ _ q.2.1 q.2.2)
theorem XO.viewOpen {l0 : List Oper} {v : Value} {es m : Nat} {l : List Value} (hm : 0 < m) (h : ∀ g off c, v = .slice (some ⟨g, off, none⟩) m c → m ≤ c → XO P T w0 n HL ops J ix l0 e (viewAt w0 g off es m l :: F)) : XO P T w0 n HL ops J ix l0 e (view w0 v es m l :: F) :=
  .ex (ι := { q : Nat × Nat × Nat // v = .slice (some ⟨q.1, q.2.1, none⟩) m q.2.2 ∧ m ≤ q.2.2 }) (H' := fun q => viewAt w0 q.1.1 q.1.2.1 es m l :: F) (fun w hr => by
    obtain ⟨b, off, c, rfl, hc⟩ := view_at hm hr
    exact ⟨⟨(b, off, c), rfl, hc⟩, hr.view_open hm⟩) (fun q => h _ _ _ q.2.1 q.2.2)
theorem Tri.viewForm {f : FuncId} {R : Value → List HProp → Prop} {args : Value → Array Value} {v : Value} {es m : Nat} {l : List Value} (h : ∀ a c, v = .slice a m c → Tri P f (args (.slice a m c)) w0 (view w0 (.slice a m c) es m l :: F) R) : Tri P f (args v) w0 (view w0 v es m l :: F) R :=
  ⟨fun w hr => by obtain ⟨a, c, rfl⟩ := view_form hr; exact (h a c rfl).run w hr⟩
end
end Go.Sx
