/- What the document's functions of the health come to. Conditions: numbers are of their kinds. -/
import Derived.Test.YtbpkoehgjhofaaaHealth
namespace Go.Proofs.Ytbpkoehgjhofaaa.He
open Go Go.Sx
variable {w0 : World} {F H : List HProp} {K : Value → List HProp → Prop}
/-- A report that was taken. -/
structure Rp where
  now : Int
  host : Int
  ok : Bool
def renc : Rp → List Value
  | ⟨n, h, o⟩ => [.int .i64 n, .int .i64 h, .bool o]
theorem renc_len : ∀ x, (renc x).length = 3 := fun _ => rfl
/-- The parameters, the time seen, and all reports. -/
structure RS where
  n : Nat
  fa : Int
  ej : Int
  pa : Int
  seen : Int
  all : List Rp
def rhead (b : Nat) (a : Option Addr) (cap n : Nat) (N fa ej pa seen : Int) : HProp := cel b 53 [.int .i64 N, .int .i64 fa, .int .i64 ej, .int .i64 pa, .int .i64 seen, .slice a n cap]
def rhealth (b : Nat) (S : RS) : HProp := hex fun x : Option Addr × Nat => stars [rhead b x.1 x.2 S.all.length S.n S.fa S.ej S.pa S.seen, Row x.1 x.2 96 3 S.all.length (flat renc S.all)]
theorem rhealth_mk {b n : Nat} {a : Option Addr} {cap : Nat} {N fa ej pa seen : Int} {l : List Value} {S : RS} (h1 : S.all.length = n) (h2 : flat renc S.all = l) (h3 : (S.n : Int) = N) (h4 : S.fa = fa) (h5 : S.ej = ej) (h6 : S.pa = pa) (h7 : S.seen = seen) :
    Ent (rhead b a cap n N fa ej pa seen :: Row a cap 96 3 n l :: F) (rhealth b S :: F) := by
  subst h1 h2 h3 h4 h5 h6 h7
  exact Ent.trans Ent.pack2 (Ent.hex (f := fun x : Option Addr × Nat => stars [rhead b x.1 x.2 S.all.length S.n S.fa S.ej S.pa S.seen, Row x.1 x.2 96 3 S.all.length (flat renc S.all)]) (a, cap))
structure RS.Fit (S : RS) : Prop where
  fa : 1 ≤ S.fa
  ej : 0 ≤ S.ej ∧ S.ej ≤ 1099511627776
  seen : 0 ≤ S.seen ∧ S.seen ≤ 1099511627776
  all : ∀ r ∈ S.all, 0 ≤ r.now ∧ r.now ≤ 1099511627776
  len : S.all.length < 4398046511104
  n : S.n ≤ 1048576
  pa : 0 ≤ S.pa ∧ S.pa ≤ 100
theorem take_bad {b : Nat} {S : RS} {now host : Int} {ok : Bool} (hb : host < 0 ∨ (S.n : Int) ≤ host) (h1 : now < S.seen ∨ 1099511627776 < now → K (.int .i64 20) (rhealth b S :: F)) (h2 : S.seen ≤ now → now ≤ 1099511627776 → K (.int .i64 180) (rhealth b { S with seen := now } :: F)) :
    Tri Try.prog 33 #[ptr b, .int .i64 now, .int .i64 host, .bool ok] w0 (rhealth b S :: F) K := by
  refine Tri.enter Try.func33 rfl Try.ntmps33 rfl ?_
  unfold rhealth
  refine XS.hex (fun x => XS.ent Ent.unpack2 ?_)
  obtain ⟨a, cap⟩ := x
  unfold rhead
  repeat' (first
    | refine XO.q TT_ok rfl rfl rfl rfl rfl ?_
    | refine XO.nil ?_
    | refine XS.seq ?_
    | refine XS.region (T := TT) ?_
    | refine XS.draw (T := TT) follows_ok (by decide +kernel) ?_
    | refine XS.block ?_
    | refine XS.inBlock ?_
    | refine XS.exit rfl ?_
    | refine XS.condT rfl ?_
    | refine XS.condF rfl ?_
    | refine XS.skip ?_
    | refine XS.label ?_
    | refine XO.load TT_ok rfl rfl rfl rfl rfl rfl (Reads.here rfl) ?_
    | refine XO.load TT_ok rfl rfl rfl rfl rfl rfl (Reads.skip (Reads.here rfl)) ?_
    | refine XO.load TT_ok rfl rfl rfl rfl rfl rfl (Reads.skip (Reads.skip (Reads.here rfl))) ?_
    | refine XO.load TT_ok rfl rfl rfl rfl rfl rfl (Reads.skip (Reads.skip (Reads.skip (Reads.here rfl)))) ?_
    | refine XO.load TT_ok rfl rfl rfl rfl rfl rfl (Reads.skip (Reads.skip (Reads.skip (Reads.skip (Reads.here rfl))))) ?_
    | refine XO.load TT_ok rfl rfl rfl rfl rfl rfl (Reads.skip (Reads.skip (Reads.skip (Reads.skip (Reads.skip (Reads.here rfl)))))) ?_
    | refine XO.no rfl rfl ?_
    | (refine XO.cmpI TT_ok rfl rfl rfl rfl rfl rfl rfl (fun hc => ?_) (fun hc => ?_) <;> (try (exfalso; omega)))
    | refine XO.pT TT_ok rfl rfl rfl rfl rfl ?_
    | refine XO.pF TT_ok rfl rfl rfl rfl rfl ?_
    | refine XO.cmp TT_ok rfl rfl rfl rfl rfl (fun hc => ?_) (fun hc => ?_)
    | refine XO.add64 TT_ok rfl rfl rfl rfl rfl rfl (by omega) (by omega) ?_
    | refine XO.sub64 TT_ok rfl rfl rfl rfl rfl rfl (by omega) (by omega) ?_
    | refine XO.mul64 TT_ok rfl rfl rfl rfl rfl rfl (by omega) (by omega) ?_
    | refine XO.quo64 rfl rfl rfl rfl rfl (by omega) (by omega) (by omega) ?_
    | refine XO.rem64 rfl rfl rfl rfl rfl (by omega) (by omega) ?_
    | refine XO.p TT_ok rfl rfl rfl rfl ?_
    | refine XO.storeL TT_ok trivial rfl rfl rfl rfl rfl rfl rfl rfl rfl rfl trivial ?_
    | refine XO.ent Ent.front1 (XO.storeL TT_ok trivial rfl rfl rfl rfl rfl rfl rfl rfl rfl rfl trivial ?_)
    | refine XO.ent Ent.front2 (XO.storeL TT_ok trivial rfl rfl rfl rfl rfl rfl rfl rfl rfl rfl trivial ?_)
    | refine XO.ent Ent.front3 (XO.storeL TT_ok trivial rfl rfl rfl rfl rfl rfl rfl rfl rfl rfl trivial ?_)
    | refine XO.ent Ent.front4 (XO.storeL TT_ok trivial rfl rfl rfl rfl rfl rfl rfl rfl rfl rfl trivial ?_)
    | refine XO.ent Ent.front5 (XO.storeL TT_ok trivial rfl rfl rfl rfl rfl rfl rfl rfl rfl rfl trivial ?_)
    | refine XO.box trivial rfl rfl rfl rfl rfl (fun _ => trivial) (fun bb => ?_)
    | refine XO.alloc TT_ok trivial rfl rfl rfl rfl rfl (fun _ => trivial) (fun bb => ?_)
    | refine XO.build TT_ok rfl rfl rfl rfl rfl ?_
    | refine XO.lenSlice TT_ok rfl rfl rfl rfl rfl rfl ?_
    | refine XO.lenString TT_ok rfl rfl rfl rfl rfl rfl ?_
    | refine XO.indexStr TT_ok rfl rfl rfl rfl rfl rfl (by omega) (by omega) ?_
    | refine XO.indexAddr TT_ok rfl rfl rfl rfl rfl rfl rfl (by omega) (by omega) ?_
    | refine XO.addStr rfl rfl rfl rfl rfl (by omega) ?_
    | refine XO.buildSlice TT_ok trivial rfl rfl rfl rfl rfl rfl rfl rfl rfl rfl rfl rfl (fun _ => trivial) (fun bb => ?_)
    | refine XO.callF rfl rfl rfl (by kernel_rfl) rfl ?_)
  · exact XS.ret1 Try.func33 rfl Try.results33 rfl (rhealth_mk (S := S) rfl rfl rfl rfl rfl rfl rfl) (h1 (.inl hc))
  · exact XS.ret1 Try.func33 rfl Try.results33 rfl (rhealth_mk (S := S) rfl rfl rfl rfl rfl rfl rfl) (h1 (.inr hc))
  · exact XS.ret1 Try.func33 rfl Try.results33 rfl (rhealth_mk (S := { S with seen := now }) rfl rfl rfl rfl rfl rfl rfl) (h2 (by omega) (by omega))
  · exact XS.ret1 Try.func33 rfl Try.results33 rfl (rhealth_mk (S := { S with seen := now }) rfl rfl rfl rfl rfl rfl rfl) (h2 (by omega) (by omega))
set_option maxHeartbeats 1000000 in
theorem take_spec {b i : Nat} {S : RS} {now : Int} {ok : Bool} (fit : S.Fit) (hi : i < S.n) (h1 : now < S.seen ∨ 1099511627776 < now → K (.int .i64 20) (rhealth b S :: F)) (h2 : S.seen ≤ now → now ≤ 1099511627776 → K (.int .i64 0) (rhealth b { S with seen := now, all := S.all ++ [⟨now, i, ok⟩] } :: F)) :
    Tri Try.prog 33 #[ptr b, .int .i64 now, .int .i64 i, .bool ok] w0 (rhealth b S :: F) K := by
  have f1 := fit.len
  refine Tri.enter Try.func33 rfl Try.ntmps33 rfl ?_
  unfold rhealth
  refine XS.hex (fun x => XS.ent Ent.unpack2 ?_)
  obtain ⟨a, cap⟩ := x
  unfold rhead
  repeat' (first
    | refine XO.q TT_ok rfl rfl rfl rfl rfl ?_
    | refine XO.nil ?_
    | refine XO.ent Ent.front2 (XO.append (m := 1) (N := 4398046511104) TT_ok trivial rfl rfl rfl rfl rfl rfl rfl rfl rfl rfl rfl (ReadsL.skip (ReadsL.here 3)) rfl (by decide) rfl (by omega) rfl rfl (fun _ _ => trivial) (fun a' cap' => ?_))
    | refine XS.seq ?_
    | refine XS.region (T := TT) ?_
    | refine XS.draw (T := TT) follows_ok (by decide +kernel) ?_
    | refine XS.block ?_
    | refine XS.inBlock ?_
    | refine XS.exit rfl ?_
    | refine XS.condT rfl ?_
    | refine XS.condF rfl ?_
    | refine XS.skip ?_
    | refine XS.label ?_
    | refine XO.load TT_ok rfl rfl rfl rfl rfl rfl (Reads.here rfl) ?_
    | refine XO.load TT_ok rfl rfl rfl rfl rfl rfl (Reads.skip (Reads.here rfl)) ?_
    | refine XO.load TT_ok rfl rfl rfl rfl rfl rfl (Reads.skip (Reads.skip (Reads.here rfl))) ?_
    | refine XO.load TT_ok rfl rfl rfl rfl rfl rfl (Reads.skip (Reads.skip (Reads.skip (Reads.here rfl)))) ?_
    | refine XO.load TT_ok rfl rfl rfl rfl rfl rfl (Reads.skip (Reads.skip (Reads.skip (Reads.skip (Reads.here rfl))))) ?_
    | refine XO.load TT_ok rfl rfl rfl rfl rfl rfl (Reads.skip (Reads.skip (Reads.skip (Reads.skip (Reads.skip (Reads.here rfl)))))) ?_
    | refine XO.no rfl rfl ?_
    | (refine XO.cmpI TT_ok rfl rfl rfl rfl rfl rfl rfl (fun hc => ?_) (fun hc => ?_) <;> (try (exfalso; omega)))
    | refine XO.pT TT_ok rfl rfl rfl rfl rfl ?_
    | refine XO.pF TT_ok rfl rfl rfl rfl rfl ?_
    | refine XO.cmp TT_ok rfl rfl rfl rfl rfl (fun hc => ?_) (fun hc => ?_)
    | refine XO.add64 TT_ok rfl rfl rfl rfl rfl rfl (by omega) (by omega) ?_
    | refine XO.sub64 TT_ok rfl rfl rfl rfl rfl rfl (by omega) (by omega) ?_
    | refine XO.mul64 TT_ok rfl rfl rfl rfl rfl rfl (by omega) (by omega) ?_
    | refine XO.quo64 rfl rfl rfl rfl rfl (by omega) (by omega) (by omega) ?_
    | refine XO.rem64 rfl rfl rfl rfl rfl (by omega) (by omega) ?_
    | refine XO.p TT_ok rfl rfl rfl rfl ?_
    | refine XO.storeL TT_ok trivial rfl rfl rfl rfl rfl rfl rfl rfl rfl rfl trivial ?_
    | refine XO.ent Ent.front1 (XO.storeL TT_ok trivial rfl rfl rfl rfl rfl rfl rfl rfl rfl rfl trivial ?_)
    | refine XO.ent Ent.front2 (XO.storeL TT_ok trivial rfl rfl rfl rfl rfl rfl rfl rfl rfl rfl trivial ?_)
    | refine XO.ent Ent.front3 (XO.storeL TT_ok trivial rfl rfl rfl rfl rfl rfl rfl rfl rfl rfl trivial ?_)
    | refine XO.ent Ent.front4 (XO.storeL TT_ok trivial rfl rfl rfl rfl rfl rfl rfl rfl rfl rfl trivial ?_)
    | refine XO.ent Ent.front5 (XO.storeL TT_ok trivial rfl rfl rfl rfl rfl rfl rfl rfl rfl rfl trivial ?_)
    | refine XO.box trivial rfl rfl rfl rfl rfl (fun _ => trivial) (fun bb => ?_)
    | refine XO.alloc TT_ok trivial rfl rfl rfl rfl rfl (fun _ => trivial) (fun bb => ?_)
    | refine XO.build TT_ok rfl rfl rfl rfl rfl ?_
    | refine XO.lenSlice TT_ok rfl rfl rfl rfl rfl rfl ?_
    | refine XO.lenString TT_ok rfl rfl rfl rfl rfl rfl ?_
    | refine XO.indexStr TT_ok rfl rfl rfl rfl rfl rfl (by omega) (by omega) ?_
    | refine XO.indexAddr TT_ok rfl rfl rfl rfl rfl rfl rfl (by omega) (by omega) ?_
    | refine XO.addStr rfl rfl rfl rfl rfl (by omega) ?_
    | refine XO.buildSlice TT_ok trivial rfl rfl rfl rfl rfl rfl rfl rfl rfl rfl rfl rfl (fun _ => trivial) (fun bb => ?_)
    | refine XO.callF rfl rfl rfl (by kernel_rfl) rfl ?_)
  · exact XS.ret1 Try.func33 rfl Try.results33 rfl (rhealth_mk (S := S) rfl rfl rfl rfl rfl rfl rfl) (h1 (.inl hc))
  · exact XS.ret1 Try.func33 rfl Try.results33 rfl (rhealth_mk (S := S) rfl rfl rfl rfl rfl rfl rfl) (h1 (.inr hc))
  · exact XS.ret1 Try.func33 rfl Try.results33 rfl (Ent.trans (rhealth_mk (S := { S with seen := now, all := S.all ++ [⟨now, i, ok⟩] }) (by simp) (flat_snoc _ _) rfl rfl rfl rfl rfl) (Ent.cons _ (Ent.drop _ _))) (h2 (by omega) (by omega))
/-- What the reports make of a host: the row of failures, the time until which it is ejected, the ejections. -/
def rep1 (fa ej host : Int) (s : Int × Int × Int) (r : Rp) : Int × Int × Int :=
  if r.host = host then ((repRow fa ej r.now r.ok (s.1, s.2.1)).1.1, (repRow fa ej r.now r.ok (s.1, s.2.1)).1.2, s.2.2 + (repRow fa ej r.now r.ok (s.1, s.2.1)).2) else s
def accH (fa ej host : Int) (l : List Rp) : Int × Int × Int := l.foldl (rep1 fa ej host) (0, 0, 0)
theorem accH_snoc (fa ej host : Int) (l : List Rp) (r : Rp) : accH fa ej host (l ++ [r]) = rep1 fa ej host (accH fa ej host l) r := by simp [accH]
theorem accH_take {fa ej host : Int} {l : List Rp} {k : Nat} {r : Rp} (h : l[k]? = some r) : accH fa ej host (l.take (k + 1)) = rep1 fa ej host (accH fa ej host (l.take k)) r := by
  rw [List.take_add_one, h]; exact accH_snoc ..
theorem rep1_other {fa ej host n h : Int} {o : Bool} {s : Int × Int × Int} (e : h ≠ host) : rep1 fa ej host s ⟨n, h, o⟩ = s := if_neg e
theorem rep1_ok {fa ej host n h x y z : Int} (e : h = host) (hf : 0 ≠ fa) : rep1 fa ej host (x, y, z) ⟨n, h, true⟩ = (0, y, z) := by simp [rep1, e, repRow, hf]
theorem rep1_hit {fa ej host n h x y z : Int} (e : h = host) (hf : x + 1 = fa) : rep1 fa ej host (x, y, z) ⟨n, h, false⟩ = (0, n + ej, z + 1) := by simp [rep1, e, repRow, hf]
theorem rep1_miss {fa ej host n h x y z : Int} (e : h = host) (hf : x + 1 ≠ fa) : rep1 fa ej host (x, y, z) ⟨n, h, false⟩ = (x + 1, y, z) := by simp [rep1, e, repRow, hf]
set_option maxHeartbeats 2000000 in
theorem until_spec {b cap : Nat} {a : Option Addr} {S : RS} {host : Int} {N pa seen : Int} (fit : S.Fit) (h : K (.tuple #[.int .i64 (accH S.fa S.ej host S.all).2.1, .int .i64 (accH S.fa S.ej host S.all).2.2]) (rhead b a cap S.all.length N S.fa S.ej pa seen :: Row a cap 96 3 S.all.length (flat renc S.all) :: F)) :
    Tri Try.prog 49 #[ptr b, .int .i64 host] w0 (rhead b a cap S.all.length N S.fa S.ej pa seen :: Row a cap 96 3 S.all.length (flat renc S.all) :: F) K := by
  have f1 := fit.len
  have f2 := fit.ej
  have f3 := fit.fa
  refine Tri.enter Try.func49 rfl Try.ntmps49 rfl ?_
  repeat' (first
    | refine XO.q TT_ok rfl rfl rfl rfl rfl ?_
    | refine XO.nil ?_
    | refine XS.seq ?_
    | refine XS.region (T := TT) ?_
    | refine XS.draw (T := TT) follows_ok (by decide +kernel) ?_
    | refine XS.block ?_
    | refine XS.inBlock ?_
    | refine XS.exit rfl ?_
    | refine XS.condT rfl ?_
    | refine XS.condF rfl ?_
    | refine XS.skip ?_
    | refine XS.label ?_
    | refine XO.load TT_ok rfl rfl rfl rfl rfl rfl (Reads.here rfl) ?_
    | refine XO.load TT_ok rfl rfl rfl rfl rfl rfl (Reads.skip (Reads.here rfl)) ?_
    | refine XO.load TT_ok rfl rfl rfl rfl rfl rfl (Reads.skip (Reads.skip (Reads.here rfl))) ?_
    | refine XO.load TT_ok rfl rfl rfl rfl rfl rfl (Reads.skip (Reads.skip (Reads.skip (Reads.here rfl)))) ?_
    | refine XO.load TT_ok rfl rfl rfl rfl rfl rfl (Reads.skip (Reads.skip (Reads.skip (Reads.skip (Reads.here rfl))))) ?_
    | refine XO.load TT_ok rfl rfl rfl rfl rfl rfl (Reads.skip (Reads.skip (Reads.skip (Reads.skip (Reads.skip (Reads.here rfl)))))) ?_
    | refine XO.no rfl rfl ?_
    | (refine XO.cmpI TT_ok rfl rfl rfl rfl rfl rfl rfl (fun hc => ?_) (fun hc => ?_) <;> (try (exfalso; omega)))
    | refine XO.pT TT_ok rfl rfl rfl rfl rfl ?_
    | refine XO.pF TT_ok rfl rfl rfl rfl rfl ?_
    | refine XO.cmp TT_ok rfl rfl rfl rfl rfl (fun hc => ?_) (fun hc => ?_)
    | refine XO.add64 TT_ok rfl rfl rfl rfl rfl rfl (by omega) (by omega) ?_
    | refine XO.sub64 TT_ok rfl rfl rfl rfl rfl rfl (by omega) (by omega) ?_
    | refine XO.mul64 TT_ok rfl rfl rfl rfl rfl rfl (by omega) (by omega) ?_
    | refine XO.quo64 rfl rfl rfl rfl rfl (by omega) (by omega) (by omega) ?_
    | refine XO.rem64 rfl rfl rfl rfl rfl (by omega) (by omega) ?_
    | refine XO.p TT_ok rfl rfl rfl rfl ?_
    | refine XO.storeL TT_ok trivial rfl rfl rfl rfl rfl rfl rfl rfl rfl rfl trivial ?_
    | refine XO.ent Ent.front1 (XO.storeL TT_ok trivial rfl rfl rfl rfl rfl rfl rfl rfl rfl rfl trivial ?_)
    | refine XO.ent Ent.front2 (XO.storeL TT_ok trivial rfl rfl rfl rfl rfl rfl rfl rfl rfl rfl trivial ?_)
    | refine XO.ent Ent.front3 (XO.storeL TT_ok trivial rfl rfl rfl rfl rfl rfl rfl rfl rfl rfl trivial ?_)
    | refine XO.ent Ent.front4 (XO.storeL TT_ok trivial rfl rfl rfl rfl rfl rfl rfl rfl rfl rfl trivial ?_)
    | refine XO.ent Ent.front5 (XO.storeL TT_ok trivial rfl rfl rfl rfl rfl rfl rfl rfl rfl rfl trivial ?_)
    | refine XO.box trivial rfl rfl rfl rfl rfl (fun _ => trivial) (fun bb => ?_)
    | refine XO.alloc TT_ok trivial rfl rfl rfl rfl rfl (fun _ => trivial) (fun bb => ?_)
    | refine XO.build TT_ok rfl rfl rfl rfl rfl ?_
    | refine XO.lenSlice TT_ok rfl rfl rfl rfl rfl rfl ?_
    | refine XO.lenString TT_ok rfl rfl rfl rfl rfl rfl ?_
    | refine XO.indexStr TT_ok rfl rfl rfl rfl rfl rfl (by omega) (by omega) ?_
    | refine XO.indexAddr TT_ok rfl rfl rfl rfl rfl rfl rfl (by omega) (by omega) ?_
    | refine XO.addStr rfl rfl rfl rfl rfl (by omega) ?_
    | refine XO.buildSlice TT_ok trivial rfl rfl rfl rfl rfl rfl rfl rfl rfl rfl rfl rfl (fun _ => trivial) (fun bb => ?_)
    | refine XO.callF rfl rfl rfl (by kernel_rfl) rfl ?_)
  refine XS.loopI (ι := Nat × Int × Int × Int) (fun x => [(0, ptr b), (1, .int .i64 host), (6, .int .i64 x.2.1), (7, .int .i64 x.2.2.1), (8, .int .i64 x.2.2.2), (9, .int .i64 x.1)])
    (fun _ => rhead b a cap S.all.length N S.fa S.ej pa seen :: Row a cap 96 3 S.all.length (flat renc S.all) :: F)
    (fun x => x.1 ≤ S.all.length ∧ accH S.fa S.ej host (S.all.take x.1) = x.2 ∧ 0 ≤ x.2.1 ∧ x.2.1 ≤ x.1 ∧ 0 ≤ x.2.2.2 ∧ x.2.2.2 ≤ x.1) (fun x => S.all.length - x.1) (0, 0, 0, 0)
    ⟨Nat.zero_le _, rfl, Int.le_refl _, Int.le_refl _, Int.le_refl _, Int.le_refl _⟩ ⟨rfl, rfl, rfl, rfl, rfl, rfl, trivial⟩ (Ent.refl _) ?_
  rintro ⟨k, row, til, cnt⟩ e ⟨g1, g2, g3, g4, g5, g6⟩ ih
  simp only at g1 g2 g3 g4 g5 g6 ⊢
  by_cases hlt : k < S.all.length
  · obtain ⟨p, hp⟩ : ∃ p, S.all[k]? = some p := ⟨_, List.getElem?_eq_getElem hlt⟩
    have hb := fit.all p (List.mem_of_getElem? hp)
    have hs := accH_take (fa := S.fa) (ej := S.ej) (host := host) hp
    rw [g2] at hs
    obtain ⟨pn, ph, po⟩ := p
    simp only at hb
    refine XS.ent Ent.front1 (XS.rowOpen (by omega) (fun g hg => ?_))
    subst hg
    unfold rhead
    cases po
    · repeat' (first
        | refine XO.q TT_ok rfl rfl rfl rfl rfl ?_
        | refine XO.nil ?_
        | refine XO.loadAgg TT_ok rfl rfl rfl rfl rfl rfl rfl (ReadsL.rowFlat renc_len hp) ?_
        | refine XO.indexOwn TT_ok rfl rfl rfl rfl rfl rfl rfl hlt ?_
        | refine XS.seq ?_
        | refine XS.region (T := TT) ?_
        | refine XS.draw (T := TT) follows_ok (by decide +kernel) ?_
        | refine XS.block ?_
        | refine XS.inBlock ?_
        | refine XS.exit rfl ?_
        | refine XS.condT rfl ?_
        | refine XS.condF rfl ?_
        | refine XS.skip ?_
        | refine XS.label ?_
        | refine XO.load TT_ok rfl rfl rfl rfl rfl rfl (Reads.here rfl) ?_
        | refine XO.load TT_ok rfl rfl rfl rfl rfl rfl (Reads.skip (Reads.here rfl)) ?_
        | refine XO.load TT_ok rfl rfl rfl rfl rfl rfl (Reads.skip (Reads.skip (Reads.here rfl))) ?_
        | refine XO.load TT_ok rfl rfl rfl rfl rfl rfl (Reads.skip (Reads.skip (Reads.skip (Reads.here rfl)))) ?_
        | refine XO.load TT_ok rfl rfl rfl rfl rfl rfl (Reads.skip (Reads.skip (Reads.skip (Reads.skip (Reads.here rfl))))) ?_
        | refine XO.load TT_ok rfl rfl rfl rfl rfl rfl (Reads.skip (Reads.skip (Reads.skip (Reads.skip (Reads.skip (Reads.here rfl)))))) ?_
        | refine XO.no rfl rfl ?_
        | (refine XO.cmpI TT_ok rfl rfl rfl rfl rfl rfl rfl (fun hc => ?_) (fun hc => ?_) <;> (try (exfalso; omega)))
        | refine XO.pT TT_ok rfl rfl rfl rfl rfl ?_
        | refine XO.pF TT_ok rfl rfl rfl rfl rfl ?_
        | refine XO.cmp TT_ok rfl rfl rfl rfl rfl (fun hc => ?_) (fun hc => ?_)
        | refine XO.add64 TT_ok rfl rfl rfl rfl rfl rfl (by omega) (by omega) ?_
        | refine XO.sub64 TT_ok rfl rfl rfl rfl rfl rfl (by omega) (by omega) ?_
        | refine XO.mul64 TT_ok rfl rfl rfl rfl rfl rfl (by omega) (by omega) ?_
        | refine XO.quo64 rfl rfl rfl rfl rfl (by omega) (by omega) (by omega) ?_
        | refine XO.rem64 rfl rfl rfl rfl rfl (by omega) (by omega) ?_
        | refine XO.p TT_ok rfl rfl rfl rfl ?_
        | refine XO.storeL TT_ok trivial rfl rfl rfl rfl rfl rfl rfl rfl rfl rfl trivial ?_
        | refine XO.ent Ent.front1 (XO.storeL TT_ok trivial rfl rfl rfl rfl rfl rfl rfl rfl rfl rfl trivial ?_)
        | refine XO.ent Ent.front2 (XO.storeL TT_ok trivial rfl rfl rfl rfl rfl rfl rfl rfl rfl rfl trivial ?_)
        | refine XO.ent Ent.front3 (XO.storeL TT_ok trivial rfl rfl rfl rfl rfl rfl rfl rfl rfl rfl trivial ?_)
        | refine XO.ent Ent.front4 (XO.storeL TT_ok trivial rfl rfl rfl rfl rfl rfl rfl rfl rfl rfl trivial ?_)
        | refine XO.ent Ent.front5 (XO.storeL TT_ok trivial rfl rfl rfl rfl rfl rfl rfl rfl rfl rfl trivial ?_)
        | refine XO.box trivial rfl rfl rfl rfl rfl (fun _ => trivial) (fun bb => ?_)
        | refine XO.alloc TT_ok trivial rfl rfl rfl rfl rfl (fun _ => trivial) (fun bb => ?_)
        | refine XO.build TT_ok rfl rfl rfl rfl rfl ?_
        | refine XO.lenSlice TT_ok rfl rfl rfl rfl rfl rfl ?_
        | refine XO.lenString TT_ok rfl rfl rfl rfl rfl rfl ?_
        | refine XO.indexStr TT_ok rfl rfl rfl rfl rfl rfl (by omega) (by omega) ?_
        | refine XO.indexAddr TT_ok rfl rfl rfl rfl rfl rfl rfl (by omega) (by omega) ?_
        | refine XO.addStr rfl rfl rfl rfl rfl (by omega) ?_
        | refine XO.buildSlice TT_ok trivial rfl rfl rfl rfl rfl rfl rfl rfl rfl rfl rfl rfl (fun _ => trivial) (fun bb => ?_)
        | refine XO.callF rfl rfl rfl (by kernel_rfl) rfl ?_)
      · exact ih (k + 1, row, til, cnt) _ _ ⟨by dsimp only; omega, hs.trans (rep1_other hc), by dsimp only; omega, by dsimp only; omega, by dsimp only; omega, by dsimp only; omega⟩ (by dsimp only; omega) ⟨rfl, rfl, rfl, rfl, rfl, rfl, trivial⟩ (by repeat' (first | exact Ent.refl _ | exact Ent.dropAll _ | refine Ent.cons _ ?_ | refine Ent.trans Ent.front1 (Ent.cons _ ?_) | refine Ent.trans Ent.front2 (Ent.cons _ ?_) | refine Ent.trans Ent.front3 (Ent.cons _ ?_) | refine Ent.trans Ent.front4 (Ent.cons _ ?_) | refine Ent.trans Ent.front5 (Ent.cons _ ?_) | refine Ent.trans Row.of_at (Ent.cons _ ?_) | refine Ent.trans Ent.front1 (Ent.trans Row.of_at (Ent.cons _ ?_)) | refine Ent.trans Ent.front2 (Ent.trans Row.of_at (Ent.cons _ ?_)) | refine Ent.trans Ent.front3 (Ent.trans Row.of_at (Ent.cons _ ?_)) | refine Ent.trans Ent.front4 (Ent.trans Row.of_at (Ent.cons _ ?_)) | refine Ent.trans (Ent.drop _ _) ?_))
      · exact ih (k + 1, 0, pn + S.ej, cnt + 1) _ _ ⟨by dsimp only; omega, hs.trans (rep1_hit (by assumption) hc), by dsimp only; omega, by dsimp only; omega, by dsimp only; omega, by dsimp only; omega⟩ (by dsimp only; omega) ⟨rfl, rfl, rfl, rfl, rfl, rfl, trivial⟩ (by repeat' (first | exact Ent.refl _ | exact Ent.dropAll _ | refine Ent.cons _ ?_ | refine Ent.trans Ent.front1 (Ent.cons _ ?_) | refine Ent.trans Ent.front2 (Ent.cons _ ?_) | refine Ent.trans Ent.front3 (Ent.cons _ ?_) | refine Ent.trans Ent.front4 (Ent.cons _ ?_) | refine Ent.trans Ent.front5 (Ent.cons _ ?_) | refine Ent.trans Row.of_at (Ent.cons _ ?_) | refine Ent.trans Ent.front1 (Ent.trans Row.of_at (Ent.cons _ ?_)) | refine Ent.trans Ent.front2 (Ent.trans Row.of_at (Ent.cons _ ?_)) | refine Ent.trans Ent.front3 (Ent.trans Row.of_at (Ent.cons _ ?_)) | refine Ent.trans Ent.front4 (Ent.trans Row.of_at (Ent.cons _ ?_)) | refine Ent.trans (Ent.drop _ _) ?_))
      · exact ih (k + 1, row + 1, til, cnt) _ _ ⟨by dsimp only; omega, hs.trans (rep1_miss (by assumption) hc), by dsimp only; omega, by dsimp only; omega, by dsimp only; omega, by dsimp only; omega⟩ (by dsimp only; omega) ⟨rfl, rfl, rfl, rfl, rfl, rfl, trivial⟩ (by repeat' (first | exact Ent.refl _ | exact Ent.dropAll _ | refine Ent.cons _ ?_ | refine Ent.trans Ent.front1 (Ent.cons _ ?_) | refine Ent.trans Ent.front2 (Ent.cons _ ?_) | refine Ent.trans Ent.front3 (Ent.cons _ ?_) | refine Ent.trans Ent.front4 (Ent.cons _ ?_) | refine Ent.trans Ent.front5 (Ent.cons _ ?_) | refine Ent.trans Row.of_at (Ent.cons _ ?_) | refine Ent.trans Ent.front1 (Ent.trans Row.of_at (Ent.cons _ ?_)) | refine Ent.trans Ent.front2 (Ent.trans Row.of_at (Ent.cons _ ?_)) | refine Ent.trans Ent.front3 (Ent.trans Row.of_at (Ent.cons _ ?_)) | refine Ent.trans Ent.front4 (Ent.trans Row.of_at (Ent.cons _ ?_)) | refine Ent.trans (Ent.drop _ _) ?_))
    · repeat' (first
        | refine XO.q TT_ok rfl rfl rfl rfl rfl ?_
        | refine XO.nil ?_
        | refine XO.loadAgg TT_ok rfl rfl rfl rfl rfl rfl rfl (ReadsL.rowFlat renc_len hp) ?_
        | refine XO.indexOwn TT_ok rfl rfl rfl rfl rfl rfl rfl hlt ?_
        | refine XS.seq ?_
        | refine XS.region (T := TT) ?_
        | refine XS.draw (T := TT) follows_ok (by decide +kernel) ?_
        | refine XS.block ?_
        | refine XS.inBlock ?_
        | refine XS.exit rfl ?_
        | refine XS.condT rfl ?_
        | refine XS.condF rfl ?_
        | refine XS.skip ?_
        | refine XS.label ?_
        | refine XO.load TT_ok rfl rfl rfl rfl rfl rfl (Reads.here rfl) ?_
        | refine XO.load TT_ok rfl rfl rfl rfl rfl rfl (Reads.skip (Reads.here rfl)) ?_
        | refine XO.load TT_ok rfl rfl rfl rfl rfl rfl (Reads.skip (Reads.skip (Reads.here rfl))) ?_
        | refine XO.load TT_ok rfl rfl rfl rfl rfl rfl (Reads.skip (Reads.skip (Reads.skip (Reads.here rfl)))) ?_
        | refine XO.load TT_ok rfl rfl rfl rfl rfl rfl (Reads.skip (Reads.skip (Reads.skip (Reads.skip (Reads.here rfl))))) ?_
        | refine XO.load TT_ok rfl rfl rfl rfl rfl rfl (Reads.skip (Reads.skip (Reads.skip (Reads.skip (Reads.skip (Reads.here rfl)))))) ?_
        | refine XO.no rfl rfl ?_
        | (refine XO.cmpI TT_ok rfl rfl rfl rfl rfl rfl rfl (fun hc => ?_) (fun hc => ?_) <;> (try (exfalso; omega)))
        | refine XO.pT TT_ok rfl rfl rfl rfl rfl ?_
        | refine XO.pF TT_ok rfl rfl rfl rfl rfl ?_
        | refine XO.cmp TT_ok rfl rfl rfl rfl rfl (fun hc => ?_) (fun hc => ?_)
        | refine XO.add64 TT_ok rfl rfl rfl rfl rfl rfl (by omega) (by omega) ?_
        | refine XO.sub64 TT_ok rfl rfl rfl rfl rfl rfl (by omega) (by omega) ?_
        | refine XO.mul64 TT_ok rfl rfl rfl rfl rfl rfl (by omega) (by omega) ?_
        | refine XO.quo64 rfl rfl rfl rfl rfl (by omega) (by omega) (by omega) ?_
        | refine XO.rem64 rfl rfl rfl rfl rfl (by omega) (by omega) ?_
        | refine XO.p TT_ok rfl rfl rfl rfl ?_
        | refine XO.storeL TT_ok trivial rfl rfl rfl rfl rfl rfl rfl rfl rfl rfl trivial ?_
        | refine XO.ent Ent.front1 (XO.storeL TT_ok trivial rfl rfl rfl rfl rfl rfl rfl rfl rfl rfl trivial ?_)
        | refine XO.ent Ent.front2 (XO.storeL TT_ok trivial rfl rfl rfl rfl rfl rfl rfl rfl rfl rfl trivial ?_)
        | refine XO.ent Ent.front3 (XO.storeL TT_ok trivial rfl rfl rfl rfl rfl rfl rfl rfl rfl rfl trivial ?_)
        | refine XO.ent Ent.front4 (XO.storeL TT_ok trivial rfl rfl rfl rfl rfl rfl rfl rfl rfl rfl trivial ?_)
        | refine XO.ent Ent.front5 (XO.storeL TT_ok trivial rfl rfl rfl rfl rfl rfl rfl rfl rfl rfl trivial ?_)
        | refine XO.box trivial rfl rfl rfl rfl rfl (fun _ => trivial) (fun bb => ?_)
        | refine XO.alloc TT_ok trivial rfl rfl rfl rfl rfl (fun _ => trivial) (fun bb => ?_)
        | refine XO.build TT_ok rfl rfl rfl rfl rfl ?_
        | refine XO.lenSlice TT_ok rfl rfl rfl rfl rfl rfl ?_
        | refine XO.lenString TT_ok rfl rfl rfl rfl rfl rfl ?_
        | refine XO.indexStr TT_ok rfl rfl rfl rfl rfl rfl (by omega) (by omega) ?_
        | refine XO.indexAddr TT_ok rfl rfl rfl rfl rfl rfl rfl (by omega) (by omega) ?_
        | refine XO.addStr rfl rfl rfl rfl rfl (by omega) ?_
        | refine XO.buildSlice TT_ok trivial rfl rfl rfl rfl rfl rfl rfl rfl rfl rfl rfl rfl (fun _ => trivial) (fun bb => ?_)
        | refine XO.callF rfl rfl rfl (by kernel_rfl) rfl ?_)
      · exact ih (k + 1, row, til, cnt) _ _ ⟨by dsimp only; omega, hs.trans (rep1_other hc), by dsimp only; omega, by dsimp only; omega, by dsimp only; omega, by dsimp only; omega⟩ (by dsimp only; omega) ⟨rfl, rfl, rfl, rfl, rfl, rfl, trivial⟩ (by repeat' (first | exact Ent.refl _ | exact Ent.dropAll _ | refine Ent.cons _ ?_ | refine Ent.trans Ent.front1 (Ent.cons _ ?_) | refine Ent.trans Ent.front2 (Ent.cons _ ?_) | refine Ent.trans Ent.front3 (Ent.cons _ ?_) | refine Ent.trans Ent.front4 (Ent.cons _ ?_) | refine Ent.trans Ent.front5 (Ent.cons _ ?_) | refine Ent.trans Row.of_at (Ent.cons _ ?_) | refine Ent.trans Ent.front1 (Ent.trans Row.of_at (Ent.cons _ ?_)) | refine Ent.trans Ent.front2 (Ent.trans Row.of_at (Ent.cons _ ?_)) | refine Ent.trans Ent.front3 (Ent.trans Row.of_at (Ent.cons _ ?_)) | refine Ent.trans Ent.front4 (Ent.trans Row.of_at (Ent.cons _ ?_)) | refine Ent.trans (Ent.drop _ _) ?_))
      · exact ih (k + 1, 0, til, cnt) _ _ ⟨by dsimp only; omega, hs.trans (rep1_ok (by assumption) (by omega)), by dsimp only; omega, by dsimp only; omega, by dsimp only; omega, by dsimp only; omega⟩ (by dsimp only; omega) ⟨rfl, rfl, rfl, rfl, rfl, rfl, trivial⟩ (by repeat' (first | exact Ent.refl _ | exact Ent.dropAll _ | refine Ent.cons _ ?_ | refine Ent.trans Ent.front1 (Ent.cons _ ?_) | refine Ent.trans Ent.front2 (Ent.cons _ ?_) | refine Ent.trans Ent.front3 (Ent.cons _ ?_) | refine Ent.trans Ent.front4 (Ent.cons _ ?_) | refine Ent.trans Ent.front5 (Ent.cons _ ?_) | refine Ent.trans Row.of_at (Ent.cons _ ?_) | refine Ent.trans Ent.front1 (Ent.trans Row.of_at (Ent.cons _ ?_)) | refine Ent.trans Ent.front2 (Ent.trans Row.of_at (Ent.cons _ ?_)) | refine Ent.trans Ent.front3 (Ent.trans Row.of_at (Ent.cons _ ?_)) | refine Ent.trans Ent.front4 (Ent.trans Row.of_at (Ent.cons _ ?_)) | refine Ent.trans (Ent.drop _ _) ?_))
  · obtain rfl : k = S.all.length := by omega
    rw [List.take_length] at g2
    unfold rhead
    repeat' (first
      | refine XO.q TT_ok rfl rfl rfl rfl rfl ?_
      | refine XO.nil ?_
      | refine XS.seq ?_
      | refine XS.region (T := TT) ?_
      | refine XS.draw (T := TT) follows_ok (by decide +kernel) ?_
      | refine XS.block ?_
      | refine XS.inBlock ?_
      | refine XS.exit rfl ?_
      | refine XS.condT rfl ?_
      | refine XS.condF rfl ?_
      | refine XS.skip ?_
      | refine XS.label ?_
      | refine XO.load TT_ok rfl rfl rfl rfl rfl rfl (Reads.here rfl) ?_
      | refine XO.load TT_ok rfl rfl rfl rfl rfl rfl (Reads.skip (Reads.here rfl)) ?_
      | refine XO.load TT_ok rfl rfl rfl rfl rfl rfl (Reads.skip (Reads.skip (Reads.here rfl))) ?_
      | refine XO.load TT_ok rfl rfl rfl rfl rfl rfl (Reads.skip (Reads.skip (Reads.skip (Reads.here rfl)))) ?_
      | refine XO.load TT_ok rfl rfl rfl rfl rfl rfl (Reads.skip (Reads.skip (Reads.skip (Reads.skip (Reads.here rfl))))) ?_
      | refine XO.load TT_ok rfl rfl rfl rfl rfl rfl (Reads.skip (Reads.skip (Reads.skip (Reads.skip (Reads.skip (Reads.here rfl)))))) ?_
      | refine XO.no rfl rfl ?_
      | (refine XO.cmpI TT_ok rfl rfl rfl rfl rfl rfl rfl (fun hc => ?_) (fun hc => ?_) <;> (try (exfalso; omega)))
      | refine XO.pT TT_ok rfl rfl rfl rfl rfl ?_
      | refine XO.pF TT_ok rfl rfl rfl rfl rfl ?_
      | refine XO.cmp TT_ok rfl rfl rfl rfl rfl (fun hc => ?_) (fun hc => ?_)
      | refine XO.add64 TT_ok rfl rfl rfl rfl rfl rfl (by omega) (by omega) ?_
      | refine XO.sub64 TT_ok rfl rfl rfl rfl rfl rfl (by omega) (by omega) ?_
      | refine XO.mul64 TT_ok rfl rfl rfl rfl rfl rfl (by omega) (by omega) ?_
      | refine XO.quo64 rfl rfl rfl rfl rfl (by omega) (by omega) (by omega) ?_
      | refine XO.rem64 rfl rfl rfl rfl rfl (by omega) (by omega) ?_
      | refine XO.p TT_ok rfl rfl rfl rfl ?_
      | refine XO.storeL TT_ok trivial rfl rfl rfl rfl rfl rfl rfl rfl rfl rfl trivial ?_
      | refine XO.ent Ent.front1 (XO.storeL TT_ok trivial rfl rfl rfl rfl rfl rfl rfl rfl rfl rfl trivial ?_)
      | refine XO.ent Ent.front2 (XO.storeL TT_ok trivial rfl rfl rfl rfl rfl rfl rfl rfl rfl rfl trivial ?_)
      | refine XO.ent Ent.front3 (XO.storeL TT_ok trivial rfl rfl rfl rfl rfl rfl rfl rfl rfl rfl trivial ?_)
      | refine XO.ent Ent.front4 (XO.storeL TT_ok trivial rfl rfl rfl rfl rfl rfl rfl rfl rfl rfl trivial ?_)
      | refine XO.ent Ent.front5 (XO.storeL TT_ok trivial rfl rfl rfl rfl rfl rfl rfl rfl rfl rfl trivial ?_)
      | refine XO.box trivial rfl rfl rfl rfl rfl (fun _ => trivial) (fun bb => ?_)
      | refine XO.alloc TT_ok trivial rfl rfl rfl rfl rfl (fun _ => trivial) (fun bb => ?_)
      | refine XO.build TT_ok rfl rfl rfl rfl rfl ?_
      | refine XO.lenSlice TT_ok rfl rfl rfl rfl rfl rfl ?_
      | refine XO.lenString TT_ok rfl rfl rfl rfl rfl rfl ?_
      | refine XO.indexStr TT_ok rfl rfl rfl rfl rfl rfl (by omega) (by omega) ?_
      | refine XO.indexAddr TT_ok rfl rfl rfl rfl rfl rfl rfl (by omega) (by omega) ?_
      | refine XO.addStr rfl rfl rfl rfl rfl (by omega) ?_
      | refine XO.buildSlice TT_ok trivial rfl rfl rfl rfl rfl rfl rfl rfl rfl rfl rfl rfl (fun _ => trivial) (fun bb => ?_)
      | refine XO.callF rfl rfl rfl (by kernel_rfl) rfl ?_)
    rw [g2] at h
    exact XS.ret2 Try.func49 rfl Try.results49 rfl rfl (Ent.refl _) h
def untilI (S : RS) (i : Nat) : Int := (accH S.fa S.ej i S.all).2.1
def rOpenI (S : RS) (now : Int) : List Bool := (List.range S.n).map fun i => decide (untilI S i ≤ now)
def rOpenL (S : RS) (now : Int) : List Bool := if ((rOpenI S now).count true : Int) * 100 < S.pa * S.n then List.replicate S.n true else rOpenI S now
def rEjsTo (S : RS) (k : Nat) : Int := ((List.range k).map fun i : Nat => (accH S.fa S.ej i S.all).2.2).sum
theorem rEjs_succ (S : RS) (k : Nat) : rEjsTo S (k + 1) = rEjsTo S k + (accH S.fa S.ej k S.all).2.2 := by simp [rEjsTo, List.range_succ]
theorem repRow_cnt (fa ej now : Int) (ok : Bool) (p : Int × Int) : 0 ≤ (repRow fa ej now ok p).2 ∧ (repRow fa ej now ok p).2 ≤ 1 := by
  unfold repRow
  generalize (if ok = true then (0 : Int) else p.1 + 1) = r
  by_cases h : r = fa
  · rw [if_pos h]; exact ⟨by dsimp only; omega, by dsimp only; omega⟩
  · rw [if_neg h]; exact ⟨by dsimp only; omega, by dsimp only; omega⟩
theorem accH_cnt (fa ej host : Int) (l : List Rp) : 0 ≤ (accH fa ej host l).2.2 ∧ (accH fa ej host l).2.2 ≤ l.length := by
  have key : ∀ k, k ≤ l.length → 0 ≤ (accH fa ej host (l.take k)).2.2 ∧ (accH fa ej host (l.take k)).2.2 ≤ k := by
    intro k
    induction k with
    | zero => intro _; simp [accH]
    | succ k ih =>
      intro hk
      obtain ⟨i1, i2⟩ := ih (by omega)
      obtain ⟨p, hp⟩ : ∃ p, l[k]? = some p := ⟨_, List.getElem?_eq_getElem (by omega)⟩
      rw [accH_take hp]
      generalize accH fa ej host (l.take k) = s at *
      have hr := repRow_cnt fa ej p.now p.ok (s.1, s.2.1)
      unfold rep1
      split
      · simp only; omega
      · omega
  have := key l.length (Nat.le_refl _)
  rwa [List.take_length] at this
set_option maxHeartbeats 2000000 in
theorem rejs_spec {b : Nat} {S : RS} (fit : S.Fit) (h : K (.int .i64 (rEjsTo S S.n)) (rhealth b S :: F)) : Tri Try.prog 37 #[ptr b] w0 (rhealth b S :: F) K := by
  have f1 := fit.len
  have f2 := fit.n
  refine Tri.enter Try.func37 rfl Try.ntmps37 rfl ?_
  unfold rhealth
  refine XS.hex (fun x => XS.ent Ent.unpack2 ?_)
  obtain ⟨a, cap⟩ := x
  simp only
  repeat' (first
    | refine XO.q TT_ok rfl rfl rfl rfl rfl ?_
    | refine XO.nil ?_
    | refine XS.seq ?_
    | refine XS.region (T := TT) ?_
    | refine XS.draw (T := TT) follows_ok (by decide +kernel) ?_
    | refine XS.block ?_
    | refine XS.inBlock ?_
    | refine XS.exit rfl ?_
    | refine XS.condT rfl ?_
    | refine XS.condF rfl ?_
    | refine XS.skip ?_
    | refine XS.label ?_
    | refine XO.load TT_ok rfl rfl rfl rfl rfl rfl (Reads.here rfl) ?_
    | refine XO.load TT_ok rfl rfl rfl rfl rfl rfl (Reads.skip (Reads.here rfl)) ?_
    | refine XO.load TT_ok rfl rfl rfl rfl rfl rfl (Reads.skip (Reads.skip (Reads.here rfl))) ?_
    | refine XO.load TT_ok rfl rfl rfl rfl rfl rfl (Reads.skip (Reads.skip (Reads.skip (Reads.here rfl)))) ?_
    | refine XO.load TT_ok rfl rfl rfl rfl rfl rfl (Reads.skip (Reads.skip (Reads.skip (Reads.skip (Reads.here rfl))))) ?_
    | refine XO.load TT_ok rfl rfl rfl rfl rfl rfl (Reads.skip (Reads.skip (Reads.skip (Reads.skip (Reads.skip (Reads.here rfl)))))) ?_
    | refine XO.no rfl rfl ?_
    | (refine XO.cmpI TT_ok rfl rfl rfl rfl rfl rfl rfl (fun hc => ?_) (fun hc => ?_) <;> (try (exfalso; omega)))
    | refine XO.pT TT_ok rfl rfl rfl rfl rfl ?_
    | refine XO.pF TT_ok rfl rfl rfl rfl rfl ?_
    | refine XO.cmp TT_ok rfl rfl rfl rfl rfl (fun hc => ?_) (fun hc => ?_)
    | refine XO.add64 TT_ok rfl rfl rfl rfl rfl rfl (by omega) (by omega) ?_
    | refine XO.sub64 TT_ok rfl rfl rfl rfl rfl rfl (by omega) (by omega) ?_
    | refine XO.mul64 TT_ok rfl rfl rfl rfl rfl rfl (by omega) (by omega) ?_
    | refine XO.quo64 rfl rfl rfl rfl rfl (by omega) (by omega) (by omega) ?_
    | refine XO.rem64 rfl rfl rfl rfl rfl (by omega) (by omega) ?_
    | refine XO.p TT_ok rfl rfl rfl rfl ?_
    | refine XO.storeL TT_ok trivial rfl rfl rfl rfl rfl rfl rfl rfl rfl rfl trivial ?_
    | refine XO.ent Ent.front1 (XO.storeL TT_ok trivial rfl rfl rfl rfl rfl rfl rfl rfl rfl rfl trivial ?_)
    | refine XO.ent Ent.front2 (XO.storeL TT_ok trivial rfl rfl rfl rfl rfl rfl rfl rfl rfl rfl trivial ?_)
    | refine XO.ent Ent.front3 (XO.storeL TT_ok trivial rfl rfl rfl rfl rfl rfl rfl rfl rfl rfl trivial ?_)
    | refine XO.ent Ent.front4 (XO.storeL TT_ok trivial rfl rfl rfl rfl rfl rfl rfl rfl rfl rfl trivial ?_)
    | refine XO.ent Ent.front5 (XO.storeL TT_ok trivial rfl rfl rfl rfl rfl rfl rfl rfl rfl rfl trivial ?_)
    | refine XO.box trivial rfl rfl rfl rfl rfl (fun _ => trivial) (fun bb => ?_)
    | refine XO.alloc TT_ok trivial rfl rfl rfl rfl rfl (fun _ => trivial) (fun bb => ?_)
    | refine XO.build TT_ok rfl rfl rfl rfl rfl ?_
    | refine XO.lenSlice TT_ok rfl rfl rfl rfl rfl rfl ?_
    | refine XO.lenString TT_ok rfl rfl rfl rfl rfl rfl ?_
    | refine XO.indexStr TT_ok rfl rfl rfl rfl rfl rfl (by omega) (by omega) ?_
    | refine XO.indexAddr TT_ok rfl rfl rfl rfl rfl rfl rfl (by omega) (by omega) ?_
    | refine XO.addStr rfl rfl rfl rfl rfl (by omega) ?_
    | refine XO.buildSlice TT_ok trivial rfl rfl rfl rfl rfl rfl rfl rfl rfl rfl rfl rfl (fun _ => trivial) (fun bb => ?_)
    | refine XO.callF rfl rfl rfl (by kernel_rfl) rfl ?_)
  refine XS.loopI (ι := Nat × Int) (fun x => [(0, ptr b), (3, .int .i64 x.2), (4, .int .i64 x.1)])
    (fun _ => rhead b a cap S.all.length S.n S.fa S.ej S.pa S.seen :: Row a cap 96 3 S.all.length (flat renc S.all) :: F)
    (fun x => x.1 ≤ S.n ∧ rEjsTo S x.1 = x.2 ∧ 0 ≤ x.2 ∧ x.2 ≤ x.1 * 4398046511104) (fun x => S.n - x.1) (0, 0)
    ⟨Nat.zero_le _, rfl, Int.le_refl _, Int.le_refl _⟩ ⟨rfl, rfl, rfl, trivial⟩ (Ent.refl _) ?_
  rintro ⟨k, sum⟩ e ⟨g1, g2, g3, g4⟩ ih
  simp only at g1 g2 g3 g4 ⊢
  have hc1 := accH_cnt S.fa S.ej k S.all
  have hs := rEjs_succ S k
  repeat' (first
    | refine XO.q TT_ok rfl rfl rfl rfl rfl ?_
    | refine XO.nil ?_
    | (unfold rhead)
    | refine XO.callF rfl rfl rfl (by kernel_rfl) rfl (until_spec fit ?_)
    | refine XS.seq ?_
    | refine XS.region (T := TT) ?_
    | refine XS.draw (T := TT) follows_ok (by decide +kernel) ?_
    | refine XS.block ?_
    | refine XS.inBlock ?_
    | refine XS.exit rfl ?_
    | refine XS.condT rfl ?_
    | refine XS.condF rfl ?_
    | refine XS.skip ?_
    | refine XS.label ?_
    | refine XO.load TT_ok rfl rfl rfl rfl rfl rfl (Reads.here rfl) ?_
    | refine XO.load TT_ok rfl rfl rfl rfl rfl rfl (Reads.skip (Reads.here rfl)) ?_
    | refine XO.load TT_ok rfl rfl rfl rfl rfl rfl (Reads.skip (Reads.skip (Reads.here rfl))) ?_
    | refine XO.load TT_ok rfl rfl rfl rfl rfl rfl (Reads.skip (Reads.skip (Reads.skip (Reads.here rfl)))) ?_
    | refine XO.load TT_ok rfl rfl rfl rfl rfl rfl (Reads.skip (Reads.skip (Reads.skip (Reads.skip (Reads.here rfl))))) ?_
    | refine XO.load TT_ok rfl rfl rfl rfl rfl rfl (Reads.skip (Reads.skip (Reads.skip (Reads.skip (Reads.skip (Reads.here rfl)))))) ?_
    | refine XO.no rfl rfl ?_
    | (refine XO.cmpI TT_ok rfl rfl rfl rfl rfl rfl rfl (fun hc => ?_) (fun hc => ?_) <;> (try (exfalso; omega)))
    | refine XO.pT TT_ok rfl rfl rfl rfl rfl ?_
    | refine XO.pF TT_ok rfl rfl rfl rfl rfl ?_
    | refine XO.cmp TT_ok rfl rfl rfl rfl rfl (fun hc => ?_) (fun hc => ?_)
    | refine XO.add64 TT_ok rfl rfl rfl rfl rfl rfl (by omega) (by omega) ?_
    | refine XO.sub64 TT_ok rfl rfl rfl rfl rfl rfl (by omega) (by omega) ?_
    | refine XO.mul64 TT_ok rfl rfl rfl rfl rfl rfl (by omega) (by omega) ?_
    | refine XO.quo64 rfl rfl rfl rfl rfl (by omega) (by omega) (by omega) ?_
    | refine XO.rem64 rfl rfl rfl rfl rfl (by omega) (by omega) ?_
    | refine XO.p TT_ok rfl rfl rfl rfl ?_
    | refine XO.storeL TT_ok trivial rfl rfl rfl rfl rfl rfl rfl rfl rfl rfl trivial ?_
    | refine XO.ent Ent.front1 (XO.storeL TT_ok trivial rfl rfl rfl rfl rfl rfl rfl rfl rfl rfl trivial ?_)
    | refine XO.ent Ent.front2 (XO.storeL TT_ok trivial rfl rfl rfl rfl rfl rfl rfl rfl rfl rfl trivial ?_)
    | refine XO.ent Ent.front3 (XO.storeL TT_ok trivial rfl rfl rfl rfl rfl rfl rfl rfl rfl rfl trivial ?_)
    | refine XO.ent Ent.front4 (XO.storeL TT_ok trivial rfl rfl rfl rfl rfl rfl rfl rfl rfl rfl trivial ?_)
    | refine XO.ent Ent.front5 (XO.storeL TT_ok trivial rfl rfl rfl rfl rfl rfl rfl rfl rfl rfl trivial ?_)
    | refine XO.box trivial rfl rfl rfl rfl rfl (fun _ => trivial) (fun bb => ?_)
    | refine XO.alloc TT_ok trivial rfl rfl rfl rfl rfl (fun _ => trivial) (fun bb => ?_)
    | refine XO.build TT_ok rfl rfl rfl rfl rfl ?_
    | refine XO.lenSlice TT_ok rfl rfl rfl rfl rfl rfl ?_
    | refine XO.lenString TT_ok rfl rfl rfl rfl rfl rfl ?_
    | refine XO.indexStr TT_ok rfl rfl rfl rfl rfl rfl (by omega) (by omega) ?_
    | refine XO.indexAddr TT_ok rfl rfl rfl rfl rfl rfl rfl (by omega) (by omega) ?_
    | refine XO.addStr rfl rfl rfl rfl rfl (by omega) ?_
    | refine XO.buildSlice TT_ok trivial rfl rfl rfl rfl rfl rfl rfl rfl rfl rfl rfl rfl (fun _ => trivial) (fun bb => ?_)
    | refine XO.callF rfl rfl rfl (by kernel_rfl) rfl ?_)
  · exact ih (k + 1, sum + (accH S.fa S.ej k S.all).2.2) _ _ ⟨by dsimp only; omega, by dsimp only; omega, by dsimp only; omega, by dsimp only; omega⟩ (by dsimp only; omega) ⟨rfl, rfl, rfl, trivial⟩ (Ent.refl _)
  · obtain rfl : k = S.n := by omega
    rw [g2] at h
    exact XS.ret1 Try.func37 rfl Try.results37 rfl (rhealth_mk (S := S) rfl rfl rfl rfl rfl rfl rfl) h
end Go.Proofs.Ytbpkoehgjhofaaa.He
