/- What the health's functions come to. Conditions: numbers are of their kinds. -/
import Derived.Test.YtbpkoehgjhofaaaTab
import Derived.Test.YtbpkoehgjhofaaaSxG
namespace Go.Proofs.Ytbpkoehgjhofaaa.He
open Go Go.Sx
variable {w0 : World} {F H : List HProp} {K : Value → List HProp → Prop}
abbrev ptr (b : Nat) : Value := .pointer (some ⟨b, 0, none⟩)
structure HS where
  fa : Int
  ej : Int
  pa : Int
  rows : List (Int × Int)
  seen : Int
  ejs : Int
def henc : Int × Int → List Value
  | (x, y) => [.int .i64 x, .int .i64 y]
theorem henc_len : ∀ x, (henc x).length = 2 := fun _ => rfl
def benc (x : Bool) : List Value := [.bool x]
theorem benc_len : ∀ x, (benc x).length = 1 := fun _ => rfl
def head (b r n : Nat) (fa ej pa seen ejs : Int) : HProp := cel b 90 [.int .i64 fa, .int .i64 ej, .int .i64 pa, .slice (some ⟨r, 0, none⟩) n n, .int .i64 seen, .int .i64 ejs]
def health (b : Nat) (S : HS) : HProp := hex fun r => stars [head b r S.rows.length S.fa S.ej S.pa S.seen S.ejs, cel r 94 (flat henc S.rows)]
theorem health_mk {b r n : Nat} {fa ej pa seen ejs : Int} {l : List Value} {S : HS} (h1 : S.rows.length = n) (h2 : flat henc S.rows = l) (h3 : S.fa = fa) (h4 : S.ej = ej) (h5 : S.pa = pa) (h6 : S.seen = seen) (h7 : S.ejs = ejs) :
    Ent (head b r n fa ej pa seen ejs :: cel r 94 l :: F) (health b S :: F) := by
  subst h1 h2 h3 h4 h5 h6 h7
  exact Ent.trans Ent.pack2 (Ent.hex (f := fun r => stars [head b r S.rows.length S.fa S.ej S.pa S.seen S.ejs, cel r 94 (flat henc S.rows)]) r)
theorem new_spec {k : Nat} {fa ej pa : Int} (hk : k ≤ 1048576) (h : ∀ b, K (ptr b) (health b ⟨fa, ej, pa, List.replicate k (0, 0), 0, 0⟩ :: H)) : Tri Try.prog 31 #[.int .i64 k, .int .i64 fa, .int .i64 ej, .int .i64 pa] w0 H K := by
  refine Tri.enter Try.func31 rfl Try.ntmps31 rfl ?_
  repeat' (first
    | refine XO.q TT_ok rfl rfl rfl rfl rfl ?_
    | refine XO.nil ?_
    | refine XO.makeSlice (k := k) TT_ok trivial rfl rfl rfl rfl rfl rfl rfl rfl rfl rfl rfl hk rfl rfl (fun _ => trivial) (fun bb => ?_)
    | refine XS.seq ?_
    | refine XS.region (T := TT) ?_
    | refine XS.draw (T := TT) follows_ok (by decide +kernel) ?_
    | refine XS.block ?_
    | refine XS.inBlock ?_
    | refine XS.exit rfl ?_
    | refine XS.condT rfl ?_
    | refine XS.condF rfl ?_
    | refine XS.skip ?_
    | refine XS.label ?_
    | refine XO.load TT_ok rfl rfl rfl rfl rfl rfl (Reads.here rfl) ?_
    | refine XO.load TT_ok rfl rfl rfl rfl rfl rfl (Reads.skip (Reads.here rfl)) ?_
    | refine XO.load TT_ok rfl rfl rfl rfl rfl rfl (Reads.skip (Reads.skip (Reads.here rfl))) ?_
    | refine XO.load TT_ok rfl rfl rfl rfl rfl rfl (Reads.skip (Reads.skip (Reads.skip (Reads.here rfl)))) ?_
    | refine XO.load TT_ok rfl rfl rfl rfl rfl rfl (Reads.skip (Reads.skip (Reads.skip (Reads.skip (Reads.here rfl))))) ?_
    | refine XO.load TT_ok rfl rfl rfl rfl rfl rfl (Reads.skip (Reads.skip (Reads.skip (Reads.skip (Reads.skip (Reads.here rfl)))))) ?_
    | refine XO.no rfl rfl ?_
    | (refine XO.cmpI TT_ok rfl rfl rfl rfl rfl rfl rfl (fun hc => ?_) (fun hc => ?_) <;> (try (exfalso; omega)))
    | refine XO.pT TT_ok rfl rfl rfl rfl rfl ?_
    | refine XO.pF TT_ok rfl rfl rfl rfl rfl ?_
    | refine XO.cmp TT_ok rfl rfl rfl rfl rfl (fun hc => ?_) (fun hc => ?_)
    | refine XO.add64 TT_ok rfl rfl rfl rfl rfl rfl (by omega) (by omega) ?_
    | refine XO.sub64 TT_ok rfl rfl rfl rfl rfl rfl (by omega) (by omega) ?_
    | refine XO.mul64 TT_ok rfl rfl rfl rfl rfl rfl (by omega) (by omega) ?_
    | refine XO.quo64 rfl rfl rfl rfl rfl (by omega) (by omega) (by omega) ?_
    | refine XO.rem64 rfl rfl rfl rfl rfl (by omega) (by omega) ?_
    | refine XO.p TT_ok rfl rfl rfl rfl ?_
    | refine XO.storeL TT_ok trivial rfl rfl rfl rfl rfl rfl rfl rfl rfl rfl trivial ?_
    | refine XO.ent Ent.front1 (XO.storeL TT_ok trivial rfl rfl rfl rfl rfl rfl rfl rfl rfl rfl trivial ?_)
    | refine XO.ent Ent.front2 (XO.storeL TT_ok trivial rfl rfl rfl rfl rfl rfl rfl rfl rfl rfl trivial ?_)
    | refine XO.ent Ent.front3 (XO.storeL TT_ok trivial rfl rfl rfl rfl rfl rfl rfl rfl rfl rfl trivial ?_)
    | refine XO.ent Ent.front4 (XO.storeL TT_ok trivial rfl rfl rfl rfl rfl rfl rfl rfl rfl rfl trivial ?_)
    | refine XO.ent Ent.front5 (XO.storeL TT_ok trivial rfl rfl rfl rfl rfl rfl rfl rfl rfl rfl trivial ?_)
    | refine XO.box trivial rfl rfl rfl rfl rfl (fun _ => trivial) (fun bb => ?_)
    | refine XO.alloc TT_ok trivial rfl rfl rfl rfl rfl (fun _ => trivial) (fun bb => ?_)
    | refine XO.build TT_ok rfl rfl rfl rfl rfl ?_
    | refine XO.lenSlice TT_ok rfl rfl rfl rfl rfl rfl ?_
    | refine XO.lenString TT_ok rfl rfl rfl rfl rfl rfl ?_
    | refine XO.indexStr TT_ok rfl rfl rfl rfl rfl rfl (by omega) (by omega) ?_
    | refine XO.indexAddr TT_ok rfl rfl rfl rfl rfl rfl rfl (by omega) (by omega) ?_
    | refine XO.addStr rfl rfl rfl rfl rfl (by omega) ?_
    | refine XO.buildSlice TT_ok trivial rfl rfl rfl rfl rfl rfl rfl rfl rfl rfl rfl rfl (fun _ => trivial) (fun bb => ?_)
    | refine XO.callF rfl rfl rfl (by kernel_rfl) rfl ?_)
  rename_i r
  exact XS.ret1 Try.func31 rfl Try.results31 rfl (health_mk (S := ⟨fa, ej, pa, List.replicate k (0, 0), 0, 0⟩) (r := r) (by simp) (flat_zero _ _) rfl rfl rfl rfl rfl) (h bb)
theorem tick_spec {b r n : Nat} {fa ej pa seen ejs now : Int} (h1 : now < seen ∨ 1099511627776 < now → K (.int .i64 20) (head b r n fa ej pa seen ejs :: F)) (h2 : seen ≤ now → now ≤ 1099511627776 → K (.int .i64 0) (head b r n fa ej pa now ejs :: F)) :
    Tri Try.prog 48 #[ptr b, .int .i64 now] w0 (head b r n fa ej pa seen ejs :: F) K := by
  refine Tri.enter Try.func48 rfl Try.ntmps48 rfl ?_
  unfold head
  repeat' (first
    | refine XO.q TT_ok rfl rfl rfl rfl rfl ?_
    | refine XO.nil ?_
    | refine XS.seq ?_
    | refine XS.region (T := TT) ?_
    | refine XS.draw (T := TT) follows_ok (by decide +kernel) ?_
    | refine XS.block ?_
    | refine XS.inBlock ?_
    | refine XS.exit rfl ?_
    | refine XS.condT rfl ?_
    | refine XS.condF rfl ?_
    | refine XS.skip ?_
    | refine XS.label ?_
    | refine XO.load TT_ok rfl rfl rfl rfl rfl rfl (Reads.here rfl) ?_
    | refine XO.load TT_ok rfl rfl rfl rfl rfl rfl (Reads.skip (Reads.here rfl)) ?_
    | refine XO.load TT_ok rfl rfl rfl rfl rfl rfl (Reads.skip (Reads.skip (Reads.here rfl))) ?_
    | refine XO.load TT_ok rfl rfl rfl rfl rfl rfl (Reads.skip (Reads.skip (Reads.skip (Reads.here rfl)))) ?_
    | refine XO.load TT_ok rfl rfl rfl rfl rfl rfl (Reads.skip (Reads.skip (Reads.skip (Reads.skip (Reads.here rfl))))) ?_
    | refine XO.load TT_ok rfl rfl rfl rfl rfl rfl (Reads.skip (Reads.skip (Reads.skip (Reads.skip (Reads.skip (Reads.here rfl)))))) ?_
    | refine XO.no rfl rfl ?_
    | (refine XO.cmpI TT_ok rfl rfl rfl rfl rfl rfl rfl (fun hc => ?_) (fun hc => ?_) <;> (try (exfalso; omega)))
    | refine XO.pT TT_ok rfl rfl rfl rfl rfl ?_
    | refine XO.pF TT_ok rfl rfl rfl rfl rfl ?_
    | refine XO.cmp TT_ok rfl rfl rfl rfl rfl (fun hc => ?_) (fun hc => ?_)
    | refine XO.add64 TT_ok rfl rfl rfl rfl rfl rfl (by omega) (by omega) ?_
    | refine XO.sub64 TT_ok rfl rfl rfl rfl rfl rfl (by omega) (by omega) ?_
    | refine XO.mul64 TT_ok rfl rfl rfl rfl rfl rfl (by omega) (by omega) ?_
    | refine XO.quo64 rfl rfl rfl rfl rfl (by omega) (by omega) (by omega) ?_
    | refine XO.rem64 rfl rfl rfl rfl rfl (by omega) (by omega) ?_
    | refine XO.p TT_ok rfl rfl rfl rfl ?_
    | refine XO.storeL TT_ok trivial rfl rfl rfl rfl rfl rfl rfl rfl rfl rfl trivial ?_
    | refine XO.ent Ent.front1 (XO.storeL TT_ok trivial rfl rfl rfl rfl rfl rfl rfl rfl rfl rfl trivial ?_)
    | refine XO.ent Ent.front2 (XO.storeL TT_ok trivial rfl rfl rfl rfl rfl rfl rfl rfl rfl rfl trivial ?_)
    | refine XO.ent Ent.front3 (XO.storeL TT_ok trivial rfl rfl rfl rfl rfl rfl rfl rfl rfl rfl trivial ?_)
    | refine XO.ent Ent.front4 (XO.storeL TT_ok trivial rfl rfl rfl rfl rfl rfl rfl rfl rfl rfl trivial ?_)
    | refine XO.ent Ent.front5 (XO.storeL TT_ok trivial rfl rfl rfl rfl rfl rfl rfl rfl rfl rfl trivial ?_)
    | refine XO.box trivial rfl rfl rfl rfl rfl (fun _ => trivial) (fun bb => ?_)
    | refine XO.alloc TT_ok trivial rfl rfl rfl rfl rfl (fun _ => trivial) (fun bb => ?_)
    | refine XO.build TT_ok rfl rfl rfl rfl rfl ?_
    | refine XO.lenSlice TT_ok rfl rfl rfl rfl rfl rfl ?_
    | refine XO.lenString TT_ok rfl rfl rfl rfl rfl rfl ?_
    | refine XO.indexStr TT_ok rfl rfl rfl rfl rfl rfl (by omega) (by omega) ?_
    | refine XO.indexAddr TT_ok rfl rfl rfl rfl rfl rfl rfl (by omega) (by omega) ?_
    | refine XO.addStr rfl rfl rfl rfl rfl (by omega) ?_
    | refine XO.buildSlice TT_ok trivial rfl rfl rfl rfl rfl rfl rfl rfl rfl rfl rfl rfl (fun _ => trivial) (fun bb => ?_)
    | refine XO.callF rfl rfl rfl (by kernel_rfl) rfl ?_)
  · exact XS.ret1 Try.func48 rfl Try.results48 rfl (Ent.refl _) (h1 (.inl hc))
  · exact XS.ret1 Try.func48 rfl Try.results48 rfl (Ent.refl _) (h1 (.inr hc))
  · exact XS.ret1 Try.func48 rfl Try.results48 rfl (Ent.refl _) (h2 (by assumption) hc)
/-- What a report does to its host's row, and how many ejections it makes. -/
def repRow (fa ej now : Int) (ok : Bool) (p : Int × Int) : (Int × Int) × Int :=
  if (if ok then 0 else p.1 + 1) = fa then ((0, now + ej), 1) else ((if ok then 0 else p.1 + 1, p.2), 0)
def repS (S : HS) (now : Int) (i : Nat) (p : Int × Int) (ok : Bool) : HS :=
  { S with seen := now, rows := S.rows.set i (repRow S.fa S.ej now ok p).1, ejs := S.ejs + (repRow S.fa S.ej now ok p).2 }
/-- The numbers lie far below their kind's end. -/
structure HS.Fit (S : HS) : Prop where
  fa : 1 ≤ S.fa
  ej : 0 ≤ S.ej ∧ S.ej ≤ 1099511627776
  seen : 0 ≤ S.seen ∧ S.seen ≤ 1099511627776
  ejs : 0 ≤ S.ejs ∧ S.ejs ≤ 1152921504606846976
  rows : ∀ p ∈ S.rows, 0 ≤ p.1 ∧ p.1 ≤ 1152921504606846976
  len : S.rows.length ≤ 1048576
  pa : 0 ≤ S.pa ∧ S.pa ≤ 100
theorem rep_mk {b r i : Nat} {S : HS} {now ejs : Int} {p q : Int × Int} {z : Int} {ok : Bool} (hq : repRow S.fa S.ej now ok p = (q, z)) (he : S.ejs + z = ejs) :
    Ent (cel r 94 (flat henc (S.rows.set i q)) :: head b r S.rows.length S.fa S.ej S.pa now ejs :: F) (health b (repS S now i p ok) :: F) := by
  refine Ent.trans Ent.front1 (health_mk (S := repS S now i p ok) (by simp [repS]) (by simp only [repS, hq]) rfl rfl rfl rfl ?_)
  simp only [repS, hq]; exact he
theorem report_bad {b : Nat} {S : HS} {now host : Int} {ok : Bool} (fit : S.Fit) (hb : host < 0 ∨ (S.rows.length : Int) ≤ host) (h1 : now < S.seen ∨ 1099511627776 < now → K (.int .i64 20) (health b S :: F)) (h2 : S.seen ≤ now → now ≤ 1099511627776 → K (.int .i64 180) (health b { S with seen := now } :: F)) :
    Tri Try.prog 32 #[ptr b, .int .i64 now, .int .i64 host, .bool ok] w0 (health b S :: F) K := by
  have f1 := fit.seen
  refine Tri.enter Try.func32 rfl Try.ntmps32 rfl ?_
  unfold health
  refine XS.hex (fun r => XS.ent Ent.unpack2 ?_)
  repeat' (first
    | refine XO.q TT_ok rfl rfl rfl rfl rfl ?_
    | refine XO.nil ?_
    | refine tick_spec (fun hbad => ?_) (fun hg1 hg2 => ?_)
    | (unfold head at *)
    | refine XS.seq ?_
    | refine XS.region (T := TT) ?_
    | refine XS.draw (T := TT) follows_ok (by decide +kernel) ?_
    | refine XS.block ?_
    | refine XS.inBlock ?_
    | refine XS.exit rfl ?_
    | refine XS.condT rfl ?_
    | refine XS.condF rfl ?_
    | refine XS.skip ?_
    | refine XS.label ?_
    | refine XO.load TT_ok rfl rfl rfl rfl rfl rfl (Reads.here rfl) ?_
    | refine XO.load TT_ok rfl rfl rfl rfl rfl rfl (Reads.skip (Reads.here rfl)) ?_
    | refine XO.load TT_ok rfl rfl rfl rfl rfl rfl (Reads.skip (Reads.skip (Reads.here rfl))) ?_
    | refine XO.load TT_ok rfl rfl rfl rfl rfl rfl (Reads.skip (Reads.skip (Reads.skip (Reads.here rfl)))) ?_
    | refine XO.load TT_ok rfl rfl rfl rfl rfl rfl (Reads.skip (Reads.skip (Reads.skip (Reads.skip (Reads.here rfl))))) ?_
    | refine XO.load TT_ok rfl rfl rfl rfl rfl rfl (Reads.skip (Reads.skip (Reads.skip (Reads.skip (Reads.skip (Reads.here rfl)))))) ?_
    | refine XO.no rfl rfl ?_
    | (refine XO.cmpI TT_ok rfl rfl rfl rfl rfl rfl rfl (fun hc => ?_) (fun hc => ?_) <;> (try (exfalso; omega)))
    | refine XO.pT TT_ok rfl rfl rfl rfl rfl ?_
    | refine XO.pF TT_ok rfl rfl rfl rfl rfl ?_
    | refine XO.cmp TT_ok rfl rfl rfl rfl rfl (fun hc => ?_) (fun hc => ?_)
    | refine XO.add64 TT_ok rfl rfl rfl rfl rfl rfl (by omega) (by omega) ?_
    | refine XO.sub64 TT_ok rfl rfl rfl rfl rfl rfl (by omega) (by omega) ?_
    | refine XO.mul64 TT_ok rfl rfl rfl rfl rfl rfl (by omega) (by omega) ?_
    | refine XO.quo64 rfl rfl rfl rfl rfl (by omega) (by omega) (by omega) ?_
    | refine XO.rem64 rfl rfl rfl rfl rfl (by omega) (by omega) ?_
    | refine XO.p TT_ok rfl rfl rfl rfl ?_
    | refine XO.storeL TT_ok trivial rfl rfl rfl rfl rfl rfl rfl rfl rfl rfl trivial ?_
    | refine XO.ent Ent.front1 (XO.storeL TT_ok trivial rfl rfl rfl rfl rfl rfl rfl rfl rfl rfl trivial ?_)
    | refine XO.ent Ent.front2 (XO.storeL TT_ok trivial rfl rfl rfl rfl rfl rfl rfl rfl rfl rfl trivial ?_)
    | refine XO.ent Ent.front3 (XO.storeL TT_ok trivial rfl rfl rfl rfl rfl rfl rfl rfl rfl rfl trivial ?_)
    | refine XO.ent Ent.front4 (XO.storeL TT_ok trivial rfl rfl rfl rfl rfl rfl rfl rfl rfl rfl trivial ?_)
    | refine XO.ent Ent.front5 (XO.storeL TT_ok trivial rfl rfl rfl rfl rfl rfl rfl rfl rfl rfl trivial ?_)
    | refine XO.box trivial rfl rfl rfl rfl rfl (fun _ => trivial) (fun bb => ?_)
    | refine XO.alloc TT_ok trivial rfl rfl rfl rfl rfl (fun _ => trivial) (fun bb => ?_)
    | refine XO.build TT_ok rfl rfl rfl rfl rfl ?_
    | refine XO.lenSlice TT_ok rfl rfl rfl rfl rfl rfl ?_
    | refine XO.lenString TT_ok rfl rfl rfl rfl rfl rfl ?_
    | refine XO.indexStr TT_ok rfl rfl rfl rfl rfl rfl (by omega) (by omega) ?_
    | refine XO.indexAddr TT_ok rfl rfl rfl rfl rfl rfl rfl (by omega) (by omega) ?_
    | refine XO.addStr rfl rfl rfl rfl rfl (by omega) ?_
    | refine XO.buildSlice TT_ok trivial rfl rfl rfl rfl rfl rfl rfl rfl rfl rfl rfl rfl (fun _ => trivial) (fun bb => ?_)
    | refine XO.callF rfl rfl rfl (by kernel_rfl) rfl ?_)
  · exact XS.ret1 Try.func32 rfl Try.results32 rfl (health_mk (S := S) rfl rfl rfl rfl rfl rfl rfl) (h1 hbad)
  · exact XS.ret1 Try.func32 rfl Try.results32 rfl (health_mk (S := { S with seen := now }) rfl rfl rfl rfl rfl rfl rfl) (h2 hg1 hg2)
  · exact XS.ret1 Try.func32 rfl Try.results32 rfl (health_mk (S := { S with seen := now }) rfl rfl rfl rfl rfl rfl rfl) (h2 hg1 hg2)
theorem repRow_hit {fa ej now p1 p2 : Int} (h : p1 + 1 = fa) : repRow fa ej now false (p1, p2) = ((0, now + ej), 1) := by simp [repRow, h]
theorem repRow_miss {fa ej now p1 p2 : Int} (h : p1 + 1 ≠ fa) : repRow fa ej now false (p1, p2) = ((p1 + 1, p2), 0) := by simp [repRow, h]
theorem repRow_ok {fa ej now p1 p2 : Int} (h : 1 ≤ fa) : repRow fa ej now true (p1, p2) = ((0, p2), 0) := by simp [repRow]; omega
set_option maxHeartbeats 1000000 in
theorem report_false {b i : Nat} {S : HS} {now : Int} {p : Int × Int} (fit : S.Fit) (hi : S.rows[i]? = some p) (h1 : now < S.seen ∨ 1099511627776 < now → K (.int .i64 20) (health b S :: F)) (h2 : S.seen ≤ now → now ≤ 1099511627776 → K (.int .i64 0) (health b (repS S now i p false) :: F)) :
    Tri Try.prog 32 #[ptr b, .int .i64 now, .int .i64 i, .bool false] w0 (health b S :: F) K := by
  have f1 := fit.seen
  have f2 := fit.rows p (List.mem_of_getElem? hi)
  have f3 := fit.ejs
  have f4 := fit.ej
  have hlt : i < S.rows.length := (List.getElem?_eq_some_iff.1 hi).1
  obtain ⟨p1, p2⟩ := p
  have hset := set_self hi
  have f5 := fit.fa
  refine Tri.enter Try.func32 rfl Try.ntmps32 rfl ?_
  unfold health
  refine XS.hex (fun r => XS.ent Ent.unpack2 ?_)
  rw [show flat henc S.rows = flat henc (S.rows.set i (p1, p2)) from congrArg _ hset]
  · repeat' (first
      | refine XO.q TT_ok rfl rfl rfl rfl rfl ?_
      | refine XO.nil ?_
      | refine XO.load TT_ok rfl rfl rfl rfl rfl rfl (Reads.setS henc_len hlt rfl) ?_
      | refine XO.load TT_ok rfl rfl rfl rfl rfl rfl (Reads.skip (Reads.setS henc_len hlt rfl)) ?_
      | refine XO.storeS (p' := (_, _)) henc_len hlt TT_ok trivial rfl rfl rfl rfl rfl rfl rfl rfl rfl rfl trivial ?_
      | refine XO.ent Ent.front1 (XO.storeS (p' := (_, _)) henc_len hlt TT_ok trivial rfl rfl rfl rfl rfl rfl rfl rfl rfl rfl trivial ?_)
      | refine XO.indexOwn TT_ok rfl rfl rfl rfl rfl rfl rfl hlt ?_
      | refine tick_spec (fun hbad => ?_) (fun hg1 hg2 => ?_)
      | (unfold head at *)
      | refine XS.seq ?_
      | refine XS.region (T := TT) ?_
      | refine XS.draw (T := TT) follows_ok (by decide +kernel) ?_
      | refine XS.block ?_
      | refine XS.inBlock ?_
      | refine XS.exit rfl ?_
      | refine XS.condT rfl ?_
      | refine XS.condF rfl ?_
      | refine XS.skip ?_
      | refine XS.label ?_
      | refine XO.load TT_ok rfl rfl rfl rfl rfl rfl (Reads.here rfl) ?_
      | refine XO.load TT_ok rfl rfl rfl rfl rfl rfl (Reads.skip (Reads.here rfl)) ?_
      | refine XO.load TT_ok rfl rfl rfl rfl rfl rfl (Reads.skip (Reads.skip (Reads.here rfl))) ?_
      | refine XO.load TT_ok rfl rfl rfl rfl rfl rfl (Reads.skip (Reads.skip (Reads.skip (Reads.here rfl)))) ?_
      | refine XO.load TT_ok rfl rfl rfl rfl rfl rfl (Reads.skip (Reads.skip (Reads.skip (Reads.skip (Reads.here rfl))))) ?_
      | refine XO.load TT_ok rfl rfl rfl rfl rfl rfl (Reads.skip (Reads.skip (Reads.skip (Reads.skip (Reads.skip (Reads.here rfl)))))) ?_
      | refine XO.no rfl rfl ?_
      | (refine XO.cmpI TT_ok rfl rfl rfl rfl rfl rfl rfl (fun hc => ?_) (fun hc => ?_) <;> (try (exfalso; omega)))
      | refine XO.pT TT_ok rfl rfl rfl rfl rfl ?_
      | refine XO.pF TT_ok rfl rfl rfl rfl rfl ?_
      | refine XO.cmp TT_ok rfl rfl rfl rfl rfl (fun hc => ?_) (fun hc => ?_)
      | refine XO.add64 TT_ok rfl rfl rfl rfl rfl rfl (by omega) (by omega) ?_
      | refine XO.sub64 TT_ok rfl rfl rfl rfl rfl rfl (by omega) (by omega) ?_
      | refine XO.mul64 TT_ok rfl rfl rfl rfl rfl rfl (by omega) (by omega) ?_
      | refine XO.quo64 rfl rfl rfl rfl rfl (by omega) (by omega) (by omega) ?_
      | refine XO.rem64 rfl rfl rfl rfl rfl (by omega) (by omega) ?_
      | refine XO.p TT_ok rfl rfl rfl rfl ?_
      | refine XO.storeL TT_ok trivial rfl rfl rfl rfl rfl rfl rfl rfl rfl rfl trivial ?_
      | refine XO.ent Ent.front1 (XO.storeL TT_ok trivial rfl rfl rfl rfl rfl rfl rfl rfl rfl rfl trivial ?_)
      | refine XO.ent Ent.front2 (XO.storeL TT_ok trivial rfl rfl rfl rfl rfl rfl rfl rfl rfl rfl trivial ?_)
      | refine XO.ent Ent.front3 (XO.storeL TT_ok trivial rfl rfl rfl rfl rfl rfl rfl rfl rfl rfl trivial ?_)
      | refine XO.ent Ent.front4 (XO.storeL TT_ok trivial rfl rfl rfl rfl rfl rfl rfl rfl rfl rfl trivial ?_)
      | refine XO.ent Ent.front5 (XO.storeL TT_ok trivial rfl rfl rfl rfl rfl rfl rfl rfl rfl rfl trivial ?_)
      | refine XO.box trivial rfl rfl rfl rfl rfl (fun _ => trivial) (fun bb => ?_)
      | refine XO.alloc TT_ok trivial rfl rfl rfl rfl rfl (fun _ => trivial) (fun bb => ?_)
      | refine XO.build TT_ok rfl rfl rfl rfl rfl ?_
      | refine XO.lenSlice TT_ok rfl rfl rfl rfl rfl rfl ?_
      | refine XO.lenString TT_ok rfl rfl rfl rfl rfl rfl ?_
      | refine XO.indexStr TT_ok rfl rfl rfl rfl rfl rfl (by omega) (by omega) ?_
      | refine XO.indexAddr TT_ok rfl rfl rfl rfl rfl rfl rfl (by omega) (by omega) ?_
      | refine XO.addStr rfl rfl rfl rfl rfl (by omega) ?_
      | refine XO.buildSlice TT_ok trivial rfl rfl rfl rfl rfl rfl rfl rfl rfl rfl rfl rfl (fun _ => trivial) (fun bb => ?_)
      | refine XO.callF rfl rfl rfl (by kernel_rfl) rfl ?_)
    · exact XS.ret1 Try.func32 rfl Try.results32 rfl (health_mk (S := S) rfl (by rw [← hset]) rfl rfl rfl rfl rfl) (h1 hbad)
    · exact XS.ret1 Try.func32 rfl Try.results32 rfl (Ent.trans Ent.front1 (rep_mk (repRow_hit hc) rfl)) (h2 hg1 hg2)
    · exact XS.ret1 Try.func32 rfl Try.results32 rfl (rep_mk (repRow_miss hc) (by omega)) (h2 hg1 hg2)
set_option maxHeartbeats 1000000 in
theorem report_true {b i : Nat} {S : HS} {now : Int} {p : Int × Int} (fit : S.Fit) (hi : S.rows[i]? = some p) (h1 : now < S.seen ∨ 1099511627776 < now → K (.int .i64 20) (health b S :: F)) (h2 : S.seen ≤ now → now ≤ 1099511627776 → K (.int .i64 0) (health b (repS S now i p true) :: F)) :
    Tri Try.prog 32 #[ptr b, .int .i64 now, .int .i64 i, .bool true] w0 (health b S :: F) K := by
  have f1 := fit.seen
  have f2 := fit.rows p (List.mem_of_getElem? hi)
  have f3 := fit.ejs
  have f4 := fit.ej
  have hlt : i < S.rows.length := (List.getElem?_eq_some_iff.1 hi).1
  obtain ⟨p1, p2⟩ := p
  have hset := set_self hi
  have f5 := fit.fa
  refine Tri.enter Try.func32 rfl Try.ntmps32 rfl ?_
  unfold health
  refine XS.hex (fun r => XS.ent Ent.unpack2 ?_)
  rw [show flat henc S.rows = flat henc (S.rows.set i (p1, p2)) from congrArg _ hset]
  · repeat' (first
      | refine XO.q TT_ok rfl rfl rfl rfl rfl ?_
      | refine XO.nil ?_
      | refine XO.load TT_ok rfl rfl rfl rfl rfl rfl (Reads.setS henc_len hlt rfl) ?_
      | refine XO.load TT_ok rfl rfl rfl rfl rfl rfl (Reads.skip (Reads.setS henc_len hlt rfl)) ?_
      | refine XO.storeS (p' := (_, _)) henc_len hlt TT_ok trivial rfl rfl rfl rfl rfl rfl rfl rfl rfl rfl trivial ?_
      | refine XO.ent Ent.front1 (XO.storeS (p' := (_, _)) henc_len hlt TT_ok trivial rfl rfl rfl rfl rfl rfl rfl rfl rfl rfl trivial ?_)
      | refine XO.indexOwn TT_ok rfl rfl rfl rfl rfl rfl rfl hlt ?_
      | refine tick_spec (fun hbad => ?_) (fun hg1 hg2 => ?_)
      | (unfold head at *)
      | refine XS.seq ?_
      | refine XS.region (T := TT) ?_
      | refine XS.draw (T := TT) follows_ok (by decide +kernel) ?_
      | refine XS.block ?_
      | refine XS.inBlock ?_
      | refine XS.exit rfl ?_
      | refine XS.condT rfl ?_
      | refine XS.condF rfl ?_
      | refine XS.skip ?_
      | refine XS.label ?_
      | refine XO.load TT_ok rfl rfl rfl rfl rfl rfl (Reads.here rfl) ?_
      | refine XO.load TT_ok rfl rfl rfl rfl rfl rfl (Reads.skip (Reads.here rfl)) ?_
      | refine XO.load TT_ok rfl rfl rfl rfl rfl rfl (Reads.skip (Reads.skip (Reads.here rfl))) ?_
      | refine XO.load TT_ok rfl rfl rfl rfl rfl rfl (Reads.skip (Reads.skip (Reads.skip (Reads.here rfl)))) ?_
      | refine XO.load TT_ok rfl rfl rfl rfl rfl rfl (Reads.skip (Reads.skip (Reads.skip (Reads.skip (Reads.here rfl))))) ?_
      | refine XO.load TT_ok rfl rfl rfl rfl rfl rfl (Reads.skip (Reads.skip (Reads.skip (Reads.skip (Reads.skip (Reads.here rfl)))))) ?_
      | refine XO.no rfl rfl ?_
      | (refine XO.cmpI TT_ok rfl rfl rfl rfl rfl rfl rfl (fun hc => ?_) (fun hc => ?_) <;> (try (exfalso; omega)))
      | refine XO.pT TT_ok rfl rfl rfl rfl rfl ?_
      | refine XO.pF TT_ok rfl rfl rfl rfl rfl ?_
      | refine XO.cmp TT_ok rfl rfl rfl rfl rfl (fun hc => ?_) (fun hc => ?_)
      | refine XO.add64 TT_ok rfl rfl rfl rfl rfl rfl (by omega) (by omega) ?_
      | refine XO.sub64 TT_ok rfl rfl rfl rfl rfl rfl (by omega) (by omega) ?_
      | refine XO.mul64 TT_ok rfl rfl rfl rfl rfl rfl (by omega) (by omega) ?_
      | refine XO.quo64 rfl rfl rfl rfl rfl (by omega) (by omega) (by omega) ?_
      | refine XO.rem64 rfl rfl rfl rfl rfl (by omega) (by omega) ?_
      | refine XO.p TT_ok rfl rfl rfl rfl ?_
      | refine XO.storeL TT_ok trivial rfl rfl rfl rfl rfl rfl rfl rfl rfl rfl trivial ?_
      | refine XO.ent Ent.front1 (XO.storeL TT_ok trivial rfl rfl rfl rfl rfl rfl rfl rfl rfl rfl trivial ?_)
      | refine XO.ent Ent.front2 (XO.storeL TT_ok trivial rfl rfl rfl rfl rfl rfl rfl rfl rfl rfl trivial ?_)
      | refine XO.ent Ent.front3 (XO.storeL TT_ok trivial rfl rfl rfl rfl rfl rfl rfl rfl rfl rfl trivial ?_)
      | refine XO.ent Ent.front4 (XO.storeL TT_ok trivial rfl rfl rfl rfl rfl rfl rfl rfl rfl rfl trivial ?_)
      | refine XO.ent Ent.front5 (XO.storeL TT_ok trivial rfl rfl rfl rfl rfl rfl rfl rfl rfl rfl trivial ?_)
      | refine XO.box trivial rfl rfl rfl rfl rfl (fun _ => trivial) (fun bb => ?_)
      | refine XO.alloc TT_ok trivial rfl rfl rfl rfl rfl (fun _ => trivial) (fun bb => ?_)
      | refine XO.build TT_ok rfl rfl rfl rfl rfl ?_
      | refine XO.lenSlice TT_ok rfl rfl rfl rfl rfl rfl ?_
      | refine XO.lenString TT_ok rfl rfl rfl rfl rfl rfl ?_
      | refine XO.indexStr TT_ok rfl rfl rfl rfl rfl rfl (by omega) (by omega) ?_
      | refine XO.indexAddr TT_ok rfl rfl rfl rfl rfl rfl rfl (by omega) (by omega) ?_
      | refine XO.addStr rfl rfl rfl rfl rfl (by omega) ?_
      | refine XO.buildSlice TT_ok trivial rfl rfl rfl rfl rfl rfl rfl rfl rfl rfl rfl rfl (fun _ => trivial) (fun bb => ?_)
      | refine XO.callF rfl rfl rfl (by kernel_rfl) rfl ?_)
    · exact XS.ret1 Try.func32 rfl Try.results32 rfl (health_mk (S := S) rfl (by rw [← hset]) rfl rfl rfl rfl rfl) (h1 hbad)
    · exact XS.ret1 Try.func32 rfl Try.results32 rfl (rep_mk (repRow_ok f5) (by omega)) (h2 hg1 hg2)
theorem ejs_spec {b : Nat} {S : HS} (h : K (.int .i64 S.ejs) (health b S :: F)) : Tri Try.prog 36 #[ptr b] w0 (health b S :: F) K := by
  refine Tri.enter Try.func36 rfl Try.ntmps36 rfl ?_
  unfold health
  refine XS.hex (fun r => XS.ent Ent.unpack2 ?_)
  unfold head
  repeat' (first
    | refine XO.q TT_ok rfl rfl rfl rfl rfl ?_
    | refine XO.nil ?_
    | refine XS.seq ?_
    | refine XS.region (T := TT) ?_
    | refine XS.draw (T := TT) follows_ok (by decide +kernel) ?_
    | refine XS.block ?_
    | refine XS.inBlock ?_
    | refine XS.exit rfl ?_
    | refine XS.condT rfl ?_
    | refine XS.condF rfl ?_
    | refine XS.skip ?_
    | refine XS.label ?_
    | refine XO.load TT_ok rfl rfl rfl rfl rfl rfl (Reads.here rfl) ?_
    | refine XO.load TT_ok rfl rfl rfl rfl rfl rfl (Reads.skip (Reads.here rfl)) ?_
    | refine XO.load TT_ok rfl rfl rfl rfl rfl rfl (Reads.skip (Reads.skip (Reads.here rfl))) ?_
    | refine XO.load TT_ok rfl rfl rfl rfl rfl rfl (Reads.skip (Reads.skip (Reads.skip (Reads.here rfl)))) ?_
    | refine XO.load TT_ok rfl rfl rfl rfl rfl rfl (Reads.skip (Reads.skip (Reads.skip (Reads.skip (Reads.here rfl))))) ?_
    | refine XO.load TT_ok rfl rfl rfl rfl rfl rfl (Reads.skip (Reads.skip (Reads.skip (Reads.skip (Reads.skip (Reads.here rfl)))))) ?_
    | refine XO.no rfl rfl ?_
    | (refine XO.cmpI TT_ok rfl rfl rfl rfl rfl rfl rfl (fun hc => ?_) (fun hc => ?_) <;> (try (exfalso; omega)))
    | refine XO.pT TT_ok rfl rfl rfl rfl rfl ?_
    | refine XO.pF TT_ok rfl rfl rfl rfl rfl ?_
    | refine XO.cmp TT_ok rfl rfl rfl rfl rfl (fun hc => ?_) (fun hc => ?_)
    | refine XO.add64 TT_ok rfl rfl rfl rfl rfl rfl (by omega) (by omega) ?_
    | refine XO.sub64 TT_ok rfl rfl rfl rfl rfl rfl (by omega) (by omega) ?_
    | refine XO.mul64 TT_ok rfl rfl rfl rfl rfl rfl (by omega) (by omega) ?_
    | refine XO.quo64 rfl rfl rfl rfl rfl (by omega) (by omega) (by omega) ?_
    | refine XO.rem64 rfl rfl rfl rfl rfl (by omega) (by omega) ?_
    | refine XO.p TT_ok rfl rfl rfl rfl ?_
    | refine XO.storeL TT_ok trivial rfl rfl rfl rfl rfl rfl rfl rfl rfl rfl trivial ?_
    | refine XO.ent Ent.front1 (XO.storeL TT_ok trivial rfl rfl rfl rfl rfl rfl rfl rfl rfl rfl trivial ?_)
    | refine XO.ent Ent.front2 (XO.storeL TT_ok trivial rfl rfl rfl rfl rfl rfl rfl rfl rfl rfl trivial ?_)
    | refine XO.ent Ent.front3 (XO.storeL TT_ok trivial rfl rfl rfl rfl rfl rfl rfl rfl rfl rfl trivial ?_)
    | refine XO.ent Ent.front4 (XO.storeL TT_ok trivial rfl rfl rfl rfl rfl rfl rfl rfl rfl rfl trivial ?_)
    | refine XO.ent Ent.front5 (XO.storeL TT_ok trivial rfl rfl rfl rfl rfl rfl rfl rfl rfl rfl trivial ?_)
    | refine XO.box trivial rfl rfl rfl rfl rfl (fun _ => trivial) (fun bb => ?_)
    | refine XO.alloc TT_ok trivial rfl rfl rfl rfl rfl (fun _ => trivial) (fun bb => ?_)
    | refine XO.build TT_ok rfl rfl rfl rfl rfl ?_
    | refine XO.lenSlice TT_ok rfl rfl rfl rfl rfl rfl ?_
    | refine XO.lenString TT_ok rfl rfl rfl rfl rfl rfl ?_
    | refine XO.indexStr TT_ok rfl rfl rfl rfl rfl rfl (by omega) (by omega) ?_
    | refine XO.indexAddr TT_ok rfl rfl rfl rfl rfl rfl rfl (by omega) (by omega) ?_
    | refine XO.addStr rfl rfl rfl rfl rfl (by omega) ?_
    | refine XO.buildSlice TT_ok trivial rfl rfl rfl rfl rfl rfl rfl rfl rfl rfl rfl rfl (fun _ => trivial) (fun bb => ?_)
    | refine XO.callF rfl rfl rfl (by kernel_rfl) rfl ?_)
  exact XS.ret1 Try.func36 rfl Try.results36 rfl (health_mk rfl rfl rfl rfl rfl rfl rfl) h
/-- Which hosts are open. -/
def openI (S : HS) (now : Int) : List Bool := S.rows.map fun p => decide (p.2 ≤ now)
def openL (S : HS) (now : Int) : List Bool := if ((openI S now).count true : Int) * 100 < S.pa * S.rows.length then List.replicate S.rows.length true else openI S now
theorem openL_length (S : HS) (now : Int) : (openL S now).length = S.rows.length := by unfold openL; split <;> simp [openI]
theorem openI_at {S : HS} {now : Int} {i : Nat} {p : Int × Int} (h : S.rows[i]? = some p) : (openI S now)[i]? = some (decide (p.2 ≤ now)) := by simp [openI, h]
theorem take_count {l : List Bool} {k : Nat} {c : Bool} (h : l[k]? = some c) : (l.take (k + 1)).count true = (l.take k).count true + (if c then 1 else 0) := by
  rw [List.take_add_one, h, List.count_append]
  cases c <;> simp
theorem upto_set {xs l : List Bool} {k : Nat} {c : Bool} (hk : k < xs.length) (h : ∀ i < k, xs[i]? = l[i]?) (hc : l[k]? = some c) : ∀ i < k + 1, (xs.set k c)[i]? = l[i]? := by
  intro i hi
  rw [List.getElem?_set]
  by_cases e : k = i
  · subst e; rw [if_pos rfl, if_pos hk, hc]
  · rw [if_neg e, h i (by omega)]
theorem upto_all {xs l : List Bool} (h1 : xs.length = l.length) (h : ∀ i < l.length, xs[i]? = l[i]?) : xs = l := by
  apply List.ext_getElem?
  intro i
  by_cases hi : i < l.length
  · exact h i hi
  · rw [List.getElem?_eq_none (by omega), List.getElem?_eq_none (by omega)]
theorem benc_eq {x y : Bool} : wr (benc x) 0 [.bool y] = benc y := rfl
set_option maxHeartbeats 4000000 in
theorem open_spec {b : Nat} {S : HS} {now : Int} (fit : S.Fit) (h1 : now < S.seen ∨ 1099511627776 < now → K (.tuple #[.slice none 0 0, .int .i64 20]) (health b S :: F))
    (h2 : S.seen ≤ now → now ≤ 1099511627776 → ∀ g, K (.tuple #[.slice (some ⟨g, 0, none⟩) S.rows.length S.rows.length, .int .i64 0]) (cel g 4 (flat benc (openL S now)) :: health b { S with seen := now } :: F)) :
    Tri Try.prog 34 #[ptr b, .int .i64 now] w0 (health b S :: F) K := by
  have f1 := fit.seen
  have f2 := fit.len
  have f3 := fit.pa
  have hpl : 0 ≤ S.pa * (S.rows.length : Int) ∧ S.pa * (S.rows.length : Int) ≤ 104857600 := ⟨Int.mul_nonneg (by omega) (by omega), by
    have := Int.mul_le_mul f3.2 (show (S.rows.length : Int) ≤ 1048576 by omega) (by omega) (by decide); omega⟩
  refine Tri.enter Try.func34 rfl Try.ntmps34 rfl ?_
  unfold health
  refine XS.hex (fun r => XS.ent Ent.unpack2 ?_)
  repeat' (first
    | refine XO.q TT_ok rfl rfl rfl rfl rfl ?_
    | refine XO.nil ?_
    | refine tick_spec (fun hbad => ?_) (fun hg1 hg2 => ?_)
    | (unfold head at *)
    | refine XO.makeSlice (k := S.rows.length) TT_ok trivial rfl rfl rfl rfl rfl rfl rfl rfl rfl rfl rfl f2 rfl rfl (fun _ => trivial) (fun bb => ?_)
    | refine XS.seq ?_
    | refine XS.region (T := TT) ?_
    | refine XS.draw (T := TT) follows_ok (by decide +kernel) ?_
    | refine XS.block ?_
    | refine XS.inBlock ?_
    | refine XS.exit rfl ?_
    | refine XS.condT rfl ?_
    | refine XS.condF rfl ?_
    | refine XS.skip ?_
    | refine XS.label ?_
    | refine XO.load TT_ok rfl rfl rfl rfl rfl rfl (Reads.here rfl) ?_
    | refine XO.load TT_ok rfl rfl rfl rfl rfl rfl (Reads.skip (Reads.here rfl)) ?_
    | refine XO.load TT_ok rfl rfl rfl rfl rfl rfl (Reads.skip (Reads.skip (Reads.here rfl))) ?_
    | refine XO.load TT_ok rfl rfl rfl rfl rfl rfl (Reads.skip (Reads.skip (Reads.skip (Reads.here rfl)))) ?_
    | refine XO.load TT_ok rfl rfl rfl rfl rfl rfl (Reads.skip (Reads.skip (Reads.skip (Reads.skip (Reads.here rfl))))) ?_
    | refine XO.load TT_ok rfl rfl rfl rfl rfl rfl (Reads.skip (Reads.skip (Reads.skip (Reads.skip (Reads.skip (Reads.here rfl)))))) ?_
    | refine XO.no rfl rfl ?_
    | (refine XO.cmpI TT_ok rfl rfl rfl rfl rfl rfl rfl (fun hc => ?_) (fun hc => ?_) <;> (try (exfalso; omega)))
    | refine XO.pT TT_ok rfl rfl rfl rfl rfl ?_
    | refine XO.pF TT_ok rfl rfl rfl rfl rfl ?_
    | refine XO.cmp TT_ok rfl rfl rfl rfl rfl (fun hc => ?_) (fun hc => ?_)
    | refine XO.add64 TT_ok rfl rfl rfl rfl rfl rfl (by omega) (by omega) ?_
    | refine XO.sub64 TT_ok rfl rfl rfl rfl rfl rfl (by omega) (by omega) ?_
    | refine XO.mul64 TT_ok rfl rfl rfl rfl rfl rfl (by omega) (by omega) ?_
    | refine XO.quo64 rfl rfl rfl rfl rfl (by omega) (by omega) (by omega) ?_
    | refine XO.rem64 rfl rfl rfl rfl rfl (by omega) (by omega) ?_
    | refine XO.p TT_ok rfl rfl rfl rfl ?_
    | refine XO.storeL TT_ok trivial rfl rfl rfl rfl rfl rfl rfl rfl rfl rfl trivial ?_
    | refine XO.ent Ent.front1 (XO.storeL TT_ok trivial rfl rfl rfl rfl rfl rfl rfl rfl rfl rfl trivial ?_)
    | refine XO.ent Ent.front2 (XO.storeL TT_ok trivial rfl rfl rfl rfl rfl rfl rfl rfl rfl rfl trivial ?_)
    | refine XO.ent Ent.front3 (XO.storeL TT_ok trivial rfl rfl rfl rfl rfl rfl rfl rfl rfl rfl trivial ?_)
    | refine XO.ent Ent.front4 (XO.storeL TT_ok trivial rfl rfl rfl rfl rfl rfl rfl rfl rfl rfl trivial ?_)
    | refine XO.ent Ent.front5 (XO.storeL TT_ok trivial rfl rfl rfl rfl rfl rfl rfl rfl rfl rfl trivial ?_)
    | refine XO.box trivial rfl rfl rfl rfl rfl (fun _ => trivial) (fun bb => ?_)
    | refine XO.alloc TT_ok trivial rfl rfl rfl rfl rfl (fun _ => trivial) (fun bb => ?_)
    | refine XO.build TT_ok rfl rfl rfl rfl rfl ?_
    | refine XO.lenSlice TT_ok rfl rfl rfl rfl rfl rfl ?_
    | refine XO.lenString TT_ok rfl rfl rfl rfl rfl rfl ?_
    | refine XO.indexStr TT_ok rfl rfl rfl rfl rfl rfl (by omega) (by omega) ?_
    | refine XO.indexAddr TT_ok rfl rfl rfl rfl rfl rfl rfl (by omega) (by omega) ?_
    | refine XO.addStr rfl rfl rfl rfl rfl (by omega) ?_
    | refine XO.buildSlice TT_ok trivial rfl rfl rfl rfl rfl rfl rfl rfl rfl rfl rfl rfl (fun _ => trivial) (fun bb => ?_)
    | refine XO.callF rfl rfl rfl (by kernel_rfl) rfl ?_)
  · exact XS.ret2 Try.func34 rfl Try.results34 rfl rfl (health_mk (S := S) rfl rfl rfl rfl rfl rfl rfl) (h1 hbad)
  refine XS.loopI (ι := Nat × List Bool × Nat) (fun x => [(0, ptr b), (1, .int .i64 now), (7, .slice (some ⟨bb, 0, none⟩) S.rows.length S.rows.length), (8, .int .i64 x.2.2), (27, .slice (some ⟨r, 0, none⟩) S.rows.length S.rows.length), (28, .int .i64 S.rows.length), (29, .int .i64 x.1)])
    (fun x => cel bb 4 (flat benc x.2.1) :: head b r S.rows.length S.fa S.ej S.pa now S.ejs :: cel r 94 (flat henc S.rows) :: F)
    (fun x => x.1 ≤ S.rows.length ∧ x.2.1.length = S.rows.length ∧ (∀ i < x.1, x.2.1[i]? = (openI S now)[i]?) ∧ x.2.2 = ((openI S now).take x.1).count true) (fun x => S.rows.length - x.1) (0, List.replicate S.rows.length false, 0)
    ⟨Nat.zero_le _, by simp, fun i hi => absurd hi (by simp), by simp⟩ ⟨rfl, rfl, rfl, rfl, rfl, rfl, rfl, trivial⟩ (by dsimp only; rw [flat_zero]; exact (by repeat' (first | exact Ent.refl _ | exact Ent.dropAll _ | refine Ent.cons _ ?_ | refine Ent.trans Ent.front1 (Ent.cons _ ?_) | refine Ent.trans Ent.front2 (Ent.cons _ ?_) | refine Ent.trans Ent.front3 (Ent.cons _ ?_) | refine Ent.trans Ent.front4 (Ent.cons _ ?_) | refine Ent.trans Ent.front5 (Ent.cons _ ?_) | refine Ent.trans Row.of_at (Ent.cons _ ?_) | refine Ent.trans Ent.front1 (Ent.trans Row.of_at (Ent.cons _ ?_)) | refine Ent.trans Ent.front2 (Ent.trans Row.of_at (Ent.cons _ ?_)) | refine Ent.trans Ent.front3 (Ent.trans Row.of_at (Ent.cons _ ?_)) | refine Ent.trans Ent.front4 (Ent.trans Row.of_at (Ent.cons _ ?_)) | refine Ent.trans (Ent.drop _ _) ?_))) ?_
  rintro ⟨k, xs, c⟩ e ⟨g1, g2, g3, g4⟩ ih
  simp only at g1 g2 g3 g4 ⊢
  have hck : c ≤ k := by rw [g4]; exact Nat.le_trans (List.count_le_length) (by simp; omega)
  by_cases hlt : k < S.rows.length
  · obtain ⟨p, hp⟩ : ∃ p, S.rows[k]? = some p := ⟨_, List.getElem?_eq_getElem hlt⟩
    obtain ⟨y, hy⟩ : ∃ y, xs[k]? = some y := ⟨_, List.getElem?_eq_getElem (by omega)⟩
    have hkx : k < xs.length := by omega
    have hoi := openI_at (now := now) hp
    obtain ⟨p1, p2⟩ := p
    rw [show flat benc xs = flat benc (xs.set k y) from congrArg _ (set_self hy)]
    repeat' (first
      | refine XO.q TT_ok rfl rfl rfl rfl rfl ?_
      | refine XO.nil ?_
      | refine XO.loadAgg TT_ok rfl rfl rfl rfl rfl rfl rfl (ReadsL.skip (ReadsL.skip (ReadsL.flat henc_len hp))) ?_
      | refine XO.load TT_ok rfl rfl rfl rfl rfl rfl (Reads.setS0 benc_len hkx rfl) ?_
      | refine XO.load TT_ok rfl rfl rfl rfl rfl rfl (Reads.skip (Reads.setS0 benc_len hkx rfl)) ?_
      | refine XO.storeS (p' := _) benc_len hkx TT_ok trivial rfl rfl rfl rfl rfl rfl rfl rfl rfl benc_eq trivial ?_
      | refine XO.ent Ent.front1 (XO.storeS (p' := _) benc_len hkx TT_ok trivial rfl rfl rfl rfl rfl rfl rfl rfl rfl benc_eq trivial ?_)
      | refine XO.indexOwn TT_ok rfl rfl rfl rfl rfl rfl rfl (by omega) ?_
      | refine XS.seq ?_
      | refine XS.region (T := TT) ?_
      | refine XS.draw (T := TT) follows_ok (by decide +kernel) ?_
      | refine XS.block ?_
      | refine XS.inBlock ?_
      | refine XS.exit rfl ?_
      | refine XS.condT rfl ?_
      | refine XS.condF rfl ?_
      | refine XS.skip ?_
      | refine XS.label ?_
      | refine XO.load TT_ok rfl rfl rfl rfl rfl rfl (Reads.here rfl) ?_
      | refine XO.load TT_ok rfl rfl rfl rfl rfl rfl (Reads.skip (Reads.here rfl)) ?_
      | refine XO.load TT_ok rfl rfl rfl rfl rfl rfl (Reads.skip (Reads.skip (Reads.here rfl))) ?_
      | refine XO.load TT_ok rfl rfl rfl rfl rfl rfl (Reads.skip (Reads.skip (Reads.skip (Reads.here rfl)))) ?_
      | refine XO.load TT_ok rfl rfl rfl rfl rfl rfl (Reads.skip (Reads.skip (Reads.skip (Reads.skip (Reads.here rfl))))) ?_
      | refine XO.load TT_ok rfl rfl rfl rfl rfl rfl (Reads.skip (Reads.skip (Reads.skip (Reads.skip (Reads.skip (Reads.here rfl)))))) ?_
      | refine XO.no rfl rfl ?_
      | (refine XO.cmpI TT_ok rfl rfl rfl rfl rfl rfl rfl (fun hc => ?_) (fun hc => ?_) <;> (try (exfalso; omega)))
      | refine XO.pT TT_ok rfl rfl rfl rfl rfl ?_
      | refine XO.pF TT_ok rfl rfl rfl rfl rfl ?_
      | refine XO.cmp TT_ok rfl rfl rfl rfl rfl (fun hc => ?_) (fun hc => ?_)
      | refine XO.add64 TT_ok rfl rfl rfl rfl rfl rfl (by omega) (by omega) ?_
      | refine XO.sub64 TT_ok rfl rfl rfl rfl rfl rfl (by omega) (by omega) ?_
      | refine XO.mul64 TT_ok rfl rfl rfl rfl rfl rfl (by omega) (by omega) ?_
      | refine XO.quo64 rfl rfl rfl rfl rfl (by omega) (by omega) (by omega) ?_
      | refine XO.rem64 rfl rfl rfl rfl rfl (by omega) (by omega) ?_
      | refine XO.p TT_ok rfl rfl rfl rfl ?_
      | refine XO.storeL TT_ok trivial rfl rfl rfl rfl rfl rfl rfl rfl rfl rfl trivial ?_
      | refine XO.ent Ent.front1 (XO.storeL TT_ok trivial rfl rfl rfl rfl rfl rfl rfl rfl rfl rfl trivial ?_)
      | refine XO.ent Ent.front2 (XO.storeL TT_ok trivial rfl rfl rfl rfl rfl rfl rfl rfl rfl rfl trivial ?_)
      | refine XO.ent Ent.front3 (XO.storeL TT_ok trivial rfl rfl rfl rfl rfl rfl rfl rfl rfl rfl trivial ?_)
      | refine XO.ent Ent.front4 (XO.storeL TT_ok trivial rfl rfl rfl rfl rfl rfl rfl rfl rfl rfl trivial ?_)
      | refine XO.ent Ent.front5 (XO.storeL TT_ok trivial rfl rfl rfl rfl rfl rfl rfl rfl rfl rfl trivial ?_)
      | refine XO.box trivial rfl rfl rfl rfl rfl (fun _ => trivial) (fun bb => ?_)
      | refine XO.alloc TT_ok trivial rfl rfl rfl rfl rfl (fun _ => trivial) (fun bb => ?_)
      | refine XO.build TT_ok rfl rfl rfl rfl rfl ?_
      | refine XO.lenSlice TT_ok rfl rfl rfl rfl rfl rfl ?_
      | refine XO.lenString TT_ok rfl rfl rfl rfl rfl rfl ?_
      | refine XO.indexStr TT_ok rfl rfl rfl rfl rfl rfl (by omega) (by omega) ?_
      | refine XO.indexAddr TT_ok rfl rfl rfl rfl rfl rfl rfl (by omega) (by omega) ?_
      | refine XO.addStr rfl rfl rfl rfl rfl (by omega) ?_
      | refine XO.buildSlice TT_ok trivial rfl rfl rfl rfl rfl rfl rfl rfl rfl rfl rfl rfl (fun _ => trivial) (fun bb => ?_)
      | refine XO.callF rfl rfl rfl (by kernel_rfl) rfl ?_)
    · exact ih (k + 1, xs.set k true, c + 1) _ _ ⟨by dsimp only; omega, by simpa using g2, upto_set hkx g3 (by rw [hoi]; simp; omega), by dsimp only; rw [take_count hoi, g4]; simp; omega⟩ (by dsimp only; omega) ⟨rfl, rfl, rfl, rfl, rfl, rfl, rfl, trivial⟩ (by repeat' (first | exact Ent.refl _ | exact Ent.dropAll _ | refine Ent.cons _ ?_ | refine Ent.trans Ent.front1 (Ent.cons _ ?_) | refine Ent.trans Ent.front2 (Ent.cons _ ?_) | refine Ent.trans Ent.front3 (Ent.cons _ ?_) | refine Ent.trans Ent.front4 (Ent.cons _ ?_) | refine Ent.trans Ent.front5 (Ent.cons _ ?_) | refine Ent.trans Row.of_at (Ent.cons _ ?_) | refine Ent.trans Ent.front1 (Ent.trans Row.of_at (Ent.cons _ ?_)) | refine Ent.trans Ent.front2 (Ent.trans Row.of_at (Ent.cons _ ?_)) | refine Ent.trans Ent.front3 (Ent.trans Row.of_at (Ent.cons _ ?_)) | refine Ent.trans Ent.front4 (Ent.trans Row.of_at (Ent.cons _ ?_)) | refine Ent.trans (Ent.drop _ _) ?_))
    · exact ih (k + 1, xs.set k false, c) _ _ ⟨by dsimp only; omega, by simpa using g2, upto_set hkx g3 (by rw [hoi]; simp; omega), by dsimp only; rw [take_count hoi, g4]; simp; omega⟩ (by dsimp only; omega) ⟨rfl, rfl, rfl, rfl, rfl, rfl, rfl, trivial⟩ (by repeat' (first | exact Ent.refl _ | exact Ent.dropAll _ | refine Ent.cons _ ?_ | refine Ent.trans Ent.front1 (Ent.cons _ ?_) | refine Ent.trans Ent.front2 (Ent.cons _ ?_) | refine Ent.trans Ent.front3 (Ent.cons _ ?_) | refine Ent.trans Ent.front4 (Ent.cons _ ?_) | refine Ent.trans Ent.front5 (Ent.cons _ ?_) | refine Ent.trans Row.of_at (Ent.cons _ ?_) | refine Ent.trans Ent.front1 (Ent.trans Row.of_at (Ent.cons _ ?_)) | refine Ent.trans Ent.front2 (Ent.trans Row.of_at (Ent.cons _ ?_)) | refine Ent.trans Ent.front3 (Ent.trans Row.of_at (Ent.cons _ ?_)) | refine Ent.trans Ent.front4 (Ent.trans Row.of_at (Ent.cons _ ?_)) | refine Ent.trans (Ent.drop _ _) ?_))
  · have hkn : k = S.rows.length := by omega
    subst hkn
    have hxo : xs = openI S now := upto_all (by rw [g2]; simp [openI]) (fun i hi => g3 i (by simpa [openI] using hi))
    subst hxo
    have hcn : ((openI S now).count true : Int) = c := by rw [g4, List.take_of_length_le (by simp [openI])]
    clear ih g1 g2 g3 g4
    unfold head
    repeat' (first
      | refine XO.q TT_ok rfl rfl rfl rfl rfl ?_
      | refine XO.nil ?_
      | refine XS.seq ?_
      | refine XS.region (T := TT) ?_
      | refine XS.draw (T := TT) follows_ok (by decide +kernel) ?_
      | refine XS.block ?_
      | refine XS.inBlock ?_
      | refine XS.exit rfl ?_
      | refine XS.condT rfl ?_
      | refine XS.condF rfl ?_
      | refine XS.skip ?_
      | refine XS.label ?_
      | refine XO.load TT_ok rfl rfl rfl rfl rfl rfl (Reads.here rfl) ?_
      | refine XO.load TT_ok rfl rfl rfl rfl rfl rfl (Reads.skip (Reads.here rfl)) ?_
      | refine XO.load TT_ok rfl rfl rfl rfl rfl rfl (Reads.skip (Reads.skip (Reads.here rfl))) ?_
      | refine XO.load TT_ok rfl rfl rfl rfl rfl rfl (Reads.skip (Reads.skip (Reads.skip (Reads.here rfl)))) ?_
      | refine XO.load TT_ok rfl rfl rfl rfl rfl rfl (Reads.skip (Reads.skip (Reads.skip (Reads.skip (Reads.here rfl))))) ?_
      | refine XO.load TT_ok rfl rfl rfl rfl rfl rfl (Reads.skip (Reads.skip (Reads.skip (Reads.skip (Reads.skip (Reads.here rfl)))))) ?_
      | refine XO.no rfl rfl ?_
      | (refine XO.cmpI TT_ok rfl rfl rfl rfl rfl rfl rfl (fun hc => ?_) (fun hc => ?_) <;> (try (exfalso; omega)))
      | refine XO.pT TT_ok rfl rfl rfl rfl rfl ?_
      | refine XO.pF TT_ok rfl rfl rfl rfl rfl ?_
      | refine XO.cmp TT_ok rfl rfl rfl rfl rfl (fun hc => ?_) (fun hc => ?_)
      | refine XO.add64 TT_ok rfl rfl rfl rfl rfl rfl (by omega) (by omega) ?_
      | refine XO.sub64 TT_ok rfl rfl rfl rfl rfl rfl (by omega) (by omega) ?_
      | refine XO.mul64 TT_ok rfl rfl rfl rfl rfl rfl (by omega) (by omega) ?_
      | refine XO.quo64 rfl rfl rfl rfl rfl (by omega) (by omega) (by omega) ?_
      | refine XO.rem64 rfl rfl rfl rfl rfl (by omega) (by omega) ?_
      | refine XO.p TT_ok rfl rfl rfl rfl ?_
      | refine XO.storeL TT_ok trivial rfl rfl rfl rfl rfl rfl rfl rfl rfl rfl trivial ?_
      | refine XO.ent Ent.front1 (XO.storeL TT_ok trivial rfl rfl rfl rfl rfl rfl rfl rfl rfl rfl trivial ?_)
      | refine XO.ent Ent.front2 (XO.storeL TT_ok trivial rfl rfl rfl rfl rfl rfl rfl rfl rfl rfl trivial ?_)
      | refine XO.ent Ent.front3 (XO.storeL TT_ok trivial rfl rfl rfl rfl rfl rfl rfl rfl rfl rfl trivial ?_)
      | refine XO.ent Ent.front4 (XO.storeL TT_ok trivial rfl rfl rfl rfl rfl rfl rfl rfl rfl rfl trivial ?_)
      | refine XO.ent Ent.front5 (XO.storeL TT_ok trivial rfl rfl rfl rfl rfl rfl rfl rfl rfl rfl trivial ?_)
      | refine XO.box trivial rfl rfl rfl rfl rfl (fun _ => trivial) (fun bb => ?_)
      | refine XO.alloc TT_ok trivial rfl rfl rfl rfl rfl (fun _ => trivial) (fun bb => ?_)
      | refine XO.build TT_ok rfl rfl rfl rfl rfl ?_
      | refine XO.lenSlice TT_ok rfl rfl rfl rfl rfl rfl ?_
      | refine XO.lenString TT_ok rfl rfl rfl rfl rfl rfl ?_
      | refine XO.indexStr TT_ok rfl rfl rfl rfl rfl rfl (by omega) (by omega) ?_
      | refine XO.indexAddr TT_ok rfl rfl rfl rfl rfl rfl rfl (by omega) (by omega) ?_
      | refine XO.addStr rfl rfl rfl rfl rfl (by omega) ?_
      | refine XO.buildSlice TT_ok trivial rfl rfl rfl rfl rfl rfl rfl rfl rfl rfl rfl rfl (fun _ => trivial) (fun bb => ?_)
      | refine XO.callF rfl rfl rfl (by kernel_rfl) rfl ?_)
    · have hlow := hc
      refine XS.loopI (ι := Nat × List Bool) (fun x => [(7, .slice (some ⟨bb, 0, none⟩) S.rows.length S.rows.length), (59, .int .i64 S.rows.length), (60, .int .i64 x.1)])
        (fun x => cel bb 4 (flat benc x.2) :: head b r S.rows.length S.fa S.ej S.pa now S.ejs :: cel r 94 (flat henc S.rows) :: F)
        (fun x => x.1 ≤ S.rows.length ∧ x.2.length = S.rows.length ∧ (∀ i < x.1, x.2[i]? = (List.replicate S.rows.length true)[i]?)) (fun x => S.rows.length - x.1) (0, openI S now)
        ⟨Nat.zero_le _, by simp [openI], fun i hi => absurd hi (by simp)⟩ ⟨rfl, rfl, rfl, trivial⟩ (by repeat' (first | exact Ent.refl _ | exact Ent.dropAll _ | refine Ent.cons _ ?_ | refine Ent.trans Ent.front1 (Ent.cons _ ?_) | refine Ent.trans Ent.front2 (Ent.cons _ ?_) | refine Ent.trans Ent.front3 (Ent.cons _ ?_) | refine Ent.trans Ent.front4 (Ent.cons _ ?_) | refine Ent.trans Ent.front5 (Ent.cons _ ?_) | refine Ent.trans Row.of_at (Ent.cons _ ?_) | refine Ent.trans Ent.front1 (Ent.trans Row.of_at (Ent.cons _ ?_)) | refine Ent.trans Ent.front2 (Ent.trans Row.of_at (Ent.cons _ ?_)) | refine Ent.trans Ent.front3 (Ent.trans Row.of_at (Ent.cons _ ?_)) | refine Ent.trans Ent.front4 (Ent.trans Row.of_at (Ent.cons _ ?_)) | refine Ent.trans (Ent.drop _ _) ?_)) ?_
      rintro ⟨k, xs⟩ e ⟨g1, g2, g3⟩ ih
      simp only at g1 g2 g3 ⊢
      by_cases hlt : k < S.rows.length
      · obtain ⟨y, hy⟩ : ∃ y, xs[k]? = some y := ⟨_, List.getElem?_eq_getElem (by omega)⟩
        have hkx : k < xs.length := by omega
        rw [show flat benc xs = flat benc (xs.set k y) from congrArg _ (set_self hy)]
        repeat' (first
          | refine XO.q TT_ok rfl rfl rfl rfl rfl ?_
          | refine XO.nil ?_
          | refine XO.storeS (p' := _) benc_len hkx TT_ok trivial rfl rfl rfl rfl rfl rfl rfl rfl rfl benc_eq trivial ?_
          | refine XO.indexOwn TT_ok rfl rfl rfl rfl rfl rfl rfl (by omega) ?_
          | refine XS.seq ?_
          | refine XS.region (T := TT) ?_
          | refine XS.draw (T := TT) follows_ok (by decide +kernel) ?_
          | refine XS.block ?_
          | refine XS.inBlock ?_
          | refine XS.exit rfl ?_
          | refine XS.condT rfl ?_
          | refine XS.condF rfl ?_
          | refine XS.skip ?_
          | refine XS.label ?_
          | refine XO.load TT_ok rfl rfl rfl rfl rfl rfl (Reads.here rfl) ?_
          | refine XO.load TT_ok rfl rfl rfl rfl rfl rfl (Reads.skip (Reads.here rfl)) ?_
          | refine XO.load TT_ok rfl rfl rfl rfl rfl rfl (Reads.skip (Reads.skip (Reads.here rfl))) ?_
          | refine XO.load TT_ok rfl rfl rfl rfl rfl rfl (Reads.skip (Reads.skip (Reads.skip (Reads.here rfl)))) ?_
          | refine XO.load TT_ok rfl rfl rfl rfl rfl rfl (Reads.skip (Reads.skip (Reads.skip (Reads.skip (Reads.here rfl))))) ?_
          | refine XO.load TT_ok rfl rfl rfl rfl rfl rfl (Reads.skip (Reads.skip (Reads.skip (Reads.skip (Reads.skip (Reads.here rfl)))))) ?_
          | refine XO.no rfl rfl ?_
          | (refine XO.cmpI TT_ok rfl rfl rfl rfl rfl rfl rfl (fun hc => ?_) (fun hc => ?_) <;> (try (exfalso; omega)))
          | refine XO.pT TT_ok rfl rfl rfl rfl rfl ?_
          | refine XO.pF TT_ok rfl rfl rfl rfl rfl ?_
          | refine XO.cmp TT_ok rfl rfl rfl rfl rfl (fun hc => ?_) (fun hc => ?_)
          | refine XO.add64 TT_ok rfl rfl rfl rfl rfl rfl (by omega) (by omega) ?_
          | refine XO.sub64 TT_ok rfl rfl rfl rfl rfl rfl (by omega) (by omega) ?_
          | refine XO.mul64 TT_ok rfl rfl rfl rfl rfl rfl (by omega) (by omega) ?_
          | refine XO.quo64 rfl rfl rfl rfl rfl (by omega) (by omega) (by omega) ?_
          | refine XO.rem64 rfl rfl rfl rfl rfl (by omega) (by omega) ?_
          | refine XO.p TT_ok rfl rfl rfl rfl ?_
          | refine XO.storeL TT_ok trivial rfl rfl rfl rfl rfl rfl rfl rfl rfl rfl trivial ?_
          | refine XO.ent Ent.front1 (XO.storeL TT_ok trivial rfl rfl rfl rfl rfl rfl rfl rfl rfl rfl trivial ?_)
          | refine XO.ent Ent.front2 (XO.storeL TT_ok trivial rfl rfl rfl rfl rfl rfl rfl rfl rfl rfl trivial ?_)
          | refine XO.ent Ent.front3 (XO.storeL TT_ok trivial rfl rfl rfl rfl rfl rfl rfl rfl rfl rfl trivial ?_)
          | refine XO.ent Ent.front4 (XO.storeL TT_ok trivial rfl rfl rfl rfl rfl rfl rfl rfl rfl rfl trivial ?_)
          | refine XO.ent Ent.front5 (XO.storeL TT_ok trivial rfl rfl rfl rfl rfl rfl rfl rfl rfl rfl trivial ?_)
          | refine XO.box trivial rfl rfl rfl rfl rfl (fun _ => trivial) (fun bb => ?_)
          | refine XO.alloc TT_ok trivial rfl rfl rfl rfl rfl (fun _ => trivial) (fun bb => ?_)
          | refine XO.build TT_ok rfl rfl rfl rfl rfl ?_
          | refine XO.lenSlice TT_ok rfl rfl rfl rfl rfl rfl ?_
          | refine XO.lenString TT_ok rfl rfl rfl rfl rfl rfl ?_
          | refine XO.indexStr TT_ok rfl rfl rfl rfl rfl rfl (by omega) (by omega) ?_
          | refine XO.indexAddr TT_ok rfl rfl rfl rfl rfl rfl rfl (by omega) (by omega) ?_
          | refine XO.addStr rfl rfl rfl rfl rfl (by omega) ?_
          | refine XO.buildSlice TT_ok trivial rfl rfl rfl rfl rfl rfl rfl rfl rfl rfl rfl rfl (fun _ => trivial) (fun bb => ?_)
          | refine XO.callF rfl rfl rfl (by kernel_rfl) rfl ?_)
        exact ih (k + 1, xs.set k true) _ _ ⟨by dsimp only; omega, by simpa using g2, upto_set hkx g3 (by rw [List.getElem?_replicate, if_pos hlt])⟩ (by dsimp only; omega) ⟨rfl, rfl, rfl, trivial⟩ (by repeat' (first | exact Ent.refl _ | exact Ent.dropAll _ | refine Ent.cons _ ?_ | refine Ent.trans Ent.front1 (Ent.cons _ ?_) | refine Ent.trans Ent.front2 (Ent.cons _ ?_) | refine Ent.trans Ent.front3 (Ent.cons _ ?_) | refine Ent.trans Ent.front4 (Ent.cons _ ?_) | refine Ent.trans Ent.front5 (Ent.cons _ ?_) | refine Ent.trans Row.of_at (Ent.cons _ ?_) | refine Ent.trans Ent.front1 (Ent.trans Row.of_at (Ent.cons _ ?_)) | refine Ent.trans Ent.front2 (Ent.trans Row.of_at (Ent.cons _ ?_)) | refine Ent.trans Ent.front3 (Ent.trans Row.of_at (Ent.cons _ ?_)) | refine Ent.trans Ent.front4 (Ent.trans Row.of_at (Ent.cons _ ?_)) | refine Ent.trans (Ent.drop _ _) ?_))
      · have hxo : xs = List.replicate S.rows.length true := upto_all (by rw [g2]; simp) (fun i hi => g3 i (by simp at hi; omega))
        repeat' (first
          | refine XO.q TT_ok rfl rfl rfl rfl rfl ?_
          | refine XO.nil ?_
          | refine XS.seq ?_
          | refine XS.region (T := TT) ?_
          | refine XS.draw (T := TT) follows_ok (by decide +kernel) ?_
          | refine XS.block ?_
          | refine XS.inBlock ?_
          | refine XS.exit rfl ?_
          | refine XS.condT rfl ?_
          | refine XS.condF rfl ?_
          | refine XS.skip ?_
          | refine XS.label ?_
          | refine XO.load TT_ok rfl rfl rfl rfl rfl rfl (Reads.here rfl) ?_
          | refine XO.load TT_ok rfl rfl rfl rfl rfl rfl (Reads.skip (Reads.here rfl)) ?_
          | refine XO.load TT_ok rfl rfl rfl rfl rfl rfl (Reads.skip (Reads.skip (Reads.here rfl))) ?_
          | refine XO.load TT_ok rfl rfl rfl rfl rfl rfl (Reads.skip (Reads.skip (Reads.skip (Reads.here rfl)))) ?_
          | refine XO.load TT_ok rfl rfl rfl rfl rfl rfl (Reads.skip (Reads.skip (Reads.skip (Reads.skip (Reads.here rfl))))) ?_
          | refine XO.load TT_ok rfl rfl rfl rfl rfl rfl (Reads.skip (Reads.skip (Reads.skip (Reads.skip (Reads.skip (Reads.here rfl)))))) ?_
          | refine XO.no rfl rfl ?_
          | (refine XO.cmpI TT_ok rfl rfl rfl rfl rfl rfl rfl (fun hc => ?_) (fun hc => ?_) <;> (try (exfalso; omega)))
          | refine XO.pT TT_ok rfl rfl rfl rfl rfl ?_
          | refine XO.pF TT_ok rfl rfl rfl rfl rfl ?_
          | refine XO.cmp TT_ok rfl rfl rfl rfl rfl (fun hc => ?_) (fun hc => ?_)
          | refine XO.add64 TT_ok rfl rfl rfl rfl rfl rfl (by omega) (by omega) ?_
          | refine XO.sub64 TT_ok rfl rfl rfl rfl rfl rfl (by omega) (by omega) ?_
          | refine XO.mul64 TT_ok rfl rfl rfl rfl rfl rfl (by omega) (by omega) ?_
          | refine XO.quo64 rfl rfl rfl rfl rfl (by omega) (by omega) (by omega) ?_
          | refine XO.rem64 rfl rfl rfl rfl rfl (by omega) (by omega) ?_
          | refine XO.p TT_ok rfl rfl rfl rfl ?_
          | refine XO.storeL TT_ok trivial rfl rfl rfl rfl rfl rfl rfl rfl rfl rfl trivial ?_
          | refine XO.ent Ent.front1 (XO.storeL TT_ok trivial rfl rfl rfl rfl rfl rfl rfl rfl rfl rfl trivial ?_)
          | refine XO.ent Ent.front2 (XO.storeL TT_ok trivial rfl rfl rfl rfl rfl rfl rfl rfl rfl rfl trivial ?_)
          | refine XO.ent Ent.front3 (XO.storeL TT_ok trivial rfl rfl rfl rfl rfl rfl rfl rfl rfl rfl trivial ?_)
          | refine XO.ent Ent.front4 (XO.storeL TT_ok trivial rfl rfl rfl rfl rfl rfl rfl rfl rfl rfl trivial ?_)
          | refine XO.ent Ent.front5 (XO.storeL TT_ok trivial rfl rfl rfl rfl rfl rfl rfl rfl rfl rfl trivial ?_)
          | refine XO.box trivial rfl rfl rfl rfl rfl (fun _ => trivial) (fun bb => ?_)
          | refine XO.alloc TT_ok trivial rfl rfl rfl rfl rfl (fun _ => trivial) (fun bb => ?_)
          | refine XO.build TT_ok rfl rfl rfl rfl rfl ?_
          | refine XO.lenSlice TT_ok rfl rfl rfl rfl rfl rfl ?_
          | refine XO.lenString TT_ok rfl rfl rfl rfl rfl rfl ?_
          | refine XO.indexStr TT_ok rfl rfl rfl rfl rfl rfl (by omega) (by omega) ?_
          | refine XO.indexAddr TT_ok rfl rfl rfl rfl rfl rfl rfl (by omega) (by omega) ?_
          | refine XO.addStr rfl rfl rfl rfl rfl (by omega) ?_
          | refine XO.buildSlice TT_ok trivial rfl rfl rfl rfl rfl rfl rfl rfl rfl rfl rfl rfl (fun _ => trivial) (fun bb => ?_)
          | refine XO.callF rfl rfl rfl (by kernel_rfl) rfl ?_)
        refine XS.ret2 Try.func34 rfl Try.results34 rfl rfl (Ent.cons _ (health_mk (S := { S with seen := now }) rfl rfl rfl rfl rfl rfl rfl)) ?_
        have := h2 hg1 hg2 bb
        rw [openL, if_pos (by rw [hcn]; exact hlow), ← hxo] at this
        exact this
    · refine XS.ret2 Try.func34 rfl Try.results34 rfl rfl (Ent.cons _ (health_mk (S := { S with seen := now }) rfl rfl rfl rfl rfl rfl rfl)) ?_
      have := h2 hg1 hg2 bb
      rw [openL, if_neg (by rw [hcn]; omega)] at this
      exact this
end Go.Proofs.Ytbpkoehgjhofaaa.He
