/- What the pool's functions come to: the chunk of a pool, New, right, known, Holder, Len, Release, Remove. Conditions: numbers are of their kinds. -/
import Derived.Test.YtpfnhkdhcjclpaaKb
import Derived.Test.YtpfnhkdhcjclpaaPoolM
namespace Go.Proofs.Ytpfnhkdhcjclpaa
open Go Go.Sx Go.WheelM Go.PoolM
variable {w0 : World} {F H : List HProp} {K : Value → List HProp → Prop}
def lk (l : Lk) : Value := .agg #[kI l.h, kI l.b, .bool l.u]
def wenc : Int × Int → List Value
  | (x, h) => [kI x, kI h]
theorem wenc_len : ∀ x, (wenc x).length = 2 := fun _ => rfl
theorem wenc_all : ∀ x, (wenc x).all (·.oneCell') = true := fun _ => rfl
abbrev phead (b m : Nat) (most pend opened : Int) (a : Option Addr) (n c : Nat) : HProp := cel b 69 [kI most, kI pend, .map (some m), kI opened, .slice a n c]
def pool (b : Nat) (S : PS) : HProp := hex fun q : Nat × Option Addr × Nat => stars [phead b q.1 S.most S.pend S.opened q.2.1 S.queue.length q.2.2, tmap q.1 kI lk S.conns, Row q.2.1 q.2.2 71 2 S.queue.length (flat wenc S.queue)]
theorem pool_mk {b m c n : Nat} {a : Option Addr} {most pend opened : Int} {l : List Value} {cs : List (Int × Lk)} {S : PS} (h1 : S.most = most) (h2 : S.pend = pend) (h3 : S.opened = opened) (h4 : S.queue.length = n) (h5 : S.conns = cs) (h6 : flat wenc S.queue = l) :
    Ent (phead b m most pend opened a n c :: tmap m kI lk cs :: Row a c 71 2 n l :: F) (pool b S :: F) := by
  subst h1 h2 h3 h4 h5 h6
  exact Ent.trans Ent.pack3 (Ent.hex (f := fun q : Nat × Option Addr × Nat => stars [phead b q.1 S.most S.pend S.opened q.2.1 S.queue.length q.2.2, tmap q.1 kI lk S.conns, Row q.2.1 q.2.2 71 2 S.queue.length (flat wenc S.queue)]) (m, a, c))
theorem pool_open {b : Nat} {S : PS} {f : FuncId} {args : Array Value} (h : ∀ m a c, Tri Try.prog f args w0 (phead b m S.most S.pend S.opened a S.queue.length c :: tmap m kI lk S.conns :: Row a c 71 2 S.queue.length (flat wenc S.queue) :: F) K) : Tri Try.prog f args w0 (pool b S :: F) K :=
  Tri.ex (ι := Nat × Option Addr × Nat) (H' := fun q => phead b q.1 S.most S.pend S.opened q.2.1 S.queue.length q.2.2 :: tmap q.1 kI lk S.conns :: Row q.2.1 q.2.2 71 2 S.queue.length (flat wenc S.queue) :: F)
    (fun _ hr => let ⟨q, hq⟩ := hr.hex; ⟨q, hq.ent Ent.unpack3⟩) (fun q => h q.1 q.2.1 q.2.2)
theorem pool_out {R : Value → List HProp → Prop} {v : Value} {b m c n : Nat} {a : Option Addr} {most pend opened : Int} {l : List Value} {cs : List (Int × Lk)} {S : PS} {H1 H2 H3 : List HProp} (h : R v (pool b S :: F)) (s1 : Sel (phead b m most pend opened a n c) H H1 := by exact selA) (s2 : Sel (tmap m kI lk cs) H1 H2 := by exact selA) (s3 : Sel (Row a c 71 2 n l) H2 H3 := by exact selA) (x : Ent H3 F := by exact dropA)
    (h1 : S.most = most := by rfl) (h2 : S.pend = pend := by rfl) (h3 : S.opened = opened := by rfl) (h4 : S.queue.length = n := by rfl) (h5 : S.conns = cs := by rfl) (h6 : flat wenc S.queue = l := by rfl) : Out R v H :=
  Out.e h (Ent.trans s1 (Ent.trans (Ent.cons _ s2) (Ent.trans (Ent.cons _ (Ent.cons _ s3)) (Ent.trans (Ent.cons _ (Ent.cons _ (Ent.cons _ x))) (pool_mk h1 h2 h3 h4 h5 h6)))))
theorem Tri.pclose {b m c n : Nat} {a : Option Addr} {most pend opened : Int} {l : List Value} {cs : List (Int × Lk)} {H1 H2 H3 : List HProp} {f : FuncId} {args : Array Value} (S : PS) (h : Tri Try.prog f args w0 (pool b S :: H3) K) (s1 : Sel (phead b m most pend opened a n c) H H1 := by exact selA) (s2 : Sel (tmap m kI lk cs) H1 H2 := by exact selA) (s3 : Sel (Row a c 71 2 n l) H2 H3 := by exact selA)
    (h1 : S.most = most := by rfl) (h2 : S.pend = pend := by rfl) (h3 : S.opened = opened := by rfl) (h4 : S.queue.length = n := by rfl) (h5 : S.conns = cs := by rfl) (h6 : flat wenc S.queue = l := by rfl) : Tri Try.prog f args w0 H K :=
  Tri.ent (Ent.trans s1 (Ent.trans (Ent.cons _ s2) (Ent.trans (Ent.cons _ (Ent.cons _ s3)) (pool_mk h1 h2 h3 h4 h5 h6)))) h
theorem XO.popen {n : Nat} {HL : Held} {ops : Array Oper} {J : Env → List HProp → Prop} {ix : Nat} {l : List Oper} {e : Env} {b : Nat} {S : PS} (h : ∀ m a c, XO Try.prog TT w0 n HL ops J ix l e (phead b m S.most S.pend S.opened a S.queue.length c :: tmap m kI lk S.conns :: Row a c 71 2 S.queue.length (flat wenc S.queue) :: F)) :
    XO Try.prog TT w0 n HL ops J ix l e (pool b S :: F) := XO.hex (fun q => XO.ent Ent.unpack3 (h q.1 q.2.1 q.2.2))
theorem XS.popen {n : Nat} {fr : Frame} {R : Value → List HProp → Prop} {k : List Item} {e : Env} {b : Nat} {S : PS} (h : ∀ m a c, XS Try.prog w0 fr n R k e (phead b m S.most S.pend S.opened a S.queue.length c :: tmap m kI lk S.conns :: Row a c 71 2 S.queue.length (flat wenc S.queue) :: F)) :
    XS Try.prog w0 fr n R k e (pool b S :: F) := XS.hex (fun q => XS.ent Ent.unpack3 (h q.1 q.2.1 q.2.2))
theorem right_spec {a c : Int} (h1 : 1 ≤ a → a ≤ 256 → 0 ≤ c → c ≤ 256 → K (.bool true) F) (h2 : K (.bool false) F) : Tri Try.prog 20 #[kI a, kI c] w0 F K := by
  refine Tri.enterF Try.func20 Try.ntmps20 Try.results20 rfl rfl fun fr hfr => ?_
  refine walk ?_
  exact ⟨fun p q r s => Out.i (h1 p q r s), trivial⟩
theorem pnew_spec {a c : Int} (h : ∀ b, K (ptr b) (pool b ⟨a, c, 0, [], []⟩ :: F)) : Tri Try.prog 14 #[kI a, kI c] w0 F K := by
  refine Tri.enterF Try.func14 Try.ntmps14 Try.results14 rfl rfl fun fr hfr => ?_
  repeat' (first | refine walk ?_ | exact trivial | refine Tw.mk ?_ ?_ | refine XO.makeMap kI trivial rfl rfl rfl (fun _ => trivial) (fun bb => ?_) | intro bb | exact Out.e (h _) (Ent.trans (Ent.cons _ (Ent.cons _ (Row.nil _ _ _))) (pool_mk (S := ⟨a, c, 0, [], []⟩) rfl rfl rfl rfl rfl rfl)) | fail)
theorem holder_spec {b : Nat} {S : PS} {n : Int} (h : K (.tuple #[kI (S.holder n).1, .bool (S.holder n).2]) (pool b S :: F)) : Tri Try.prog 22 #[ptr b, kI n] w0 (pool b S :: F) K := by
  refine pool_open fun m a c => ?_
  refine Tri.enterF Try.func22 Try.ntmps22 Try.results22 rfl rfl fun fr hfr => ?_
  refine walk ?_
  exact ⟨fun l _ hl h' => pool_out (by simpa [PS.holder, hl, h'] using h), fun l _ hl h' => pool_out (by simpa [PS.holder, hl, h'] using h), fun _ hl => pool_out (by simpa [PS.holder, hl] using h), trivial⟩
theorem isx_spec {f : FuncId} {bx : Nat} {x : Int} {q : Int × Int} (hf : f = 64 ∨ f = 33) (h : K (.bool (decide (q.1 = x))) (cel bx 3 [kI x] :: F)) : Tri Try.prog f #[.agg ⟨wenc q⟩, ptr bx] w0 (cel bx 3 [kI x] :: F) K := by
  obtain ⟨y, z⟩ := q
  simp only at h
  rcases hf with rfl | rfl
  · refine Tri.enterF Try.func64 Try.ntmps64 Try.results64 rfl rfl fun fr hfr => ?_
    refine walk ?_
    exact ⟨fun _ hc => Out.e (by simpa [hc] using h) (Ent.drop _ _), fun _ hc => Out.e (by simpa [hc] using h) (Ent.drop _ _), trivial⟩
  · refine Tri.enterF Try.func33 Try.ntmps33 Try.results33 rfl rfl fun fr hfr => ?_
    refine walk ?_
    exact ⟨fun _ hc => Out.e (by simpa [hc] using h) (Ent.drop _ _), fun _ hc => Out.e (by simpa [hc] using h) (Ent.drop _ _), trivial⟩
/-- The first place at which what is sought lies. -/
theorem idx_spec {f : FuncId} {bx cap : Nat} {a : Option Addr} {x : Int} {qs : List (Int × Int)} (hl : qs.length ≤ 1048576) (hf : f = 64 ∨ f = 33) (h1 : ∀ i : Nat, i < qs.length → (∀ q, qs[i]? = some q → q.1 = x) → (∀ j q, j < i → qs[j]? = some q → q.1 ≠ x) → K (kI i) (cel bx 3 [kI x] :: Row a cap 71 2 qs.length (flat wenc qs) :: F))
    (h2 : (∀ q ∈ qs, q.1 ≠ x) → K (kI (-1)) (cel bx 3 [kI x] :: Row a cap 71 2 qs.length (flat wenc qs) :: F)) :
    Tri Try.prog 66 #[.slice a qs.length cap, .func (.func f) #[] #[ptr bx]] w0 (cel bx 3 [kI x] :: Row a cap 71 2 qs.length (flat wenc qs) :: F) K := by
  have hcf : COk Try.prog f := by rcases hf with rfl | rfl <;> exact ⟨by kernel_rfl⟩
  refine Tri.enterF Try.func66 Try.ntmps66 Try.results66 rfl rfl fun fr hfr => ?_
  repeat' (first | refine walk ?_ | exact trivial | refine Tw.mk ?_ ?_ | fail)
  refine XS.loopI (ι := Nat) (fun k => [(0, .slice a qs.length cap), (1, .func (.func f) #[] #[ptr bx]), (7, kI qs.length), (8, kI k)]) (fun _ => cel bx 3 [kI x] :: Row a cap 71 2 qs.length (flat wenc qs) :: F) (fun k => k ≤ qs.length ∧ ∀ (j : Nat) q, j < k → qs[j]? = some q → q.1 ≠ x) (fun k => qs.length - k) 0
    ⟨Nat.zero_le _, fun j _ hj => absurd hj (by omega)⟩ ⟨rfl, rfl, rfl, rfl, trivial⟩ (Ent.refl _) ?_
  rintro k e ⟨g1, g2⟩ ih
  by_cases hlt : k < qs.length
  · obtain ⟨q, hq⟩ : ∃ q, qs[k]? = some q := ⟨_, List.getElem?_eq_getElem hlt⟩
    refine XS.ent Ent.front1 (XS.rowOpen (by omega) fun g hg => XS.ent Ent.front1 ?_)
    subst hg
    repeat' (first | refine walk ?_ | exact trivial | refine Tw.mk ?_ ?_ | (intro _; refine isx_spec hf ?_) | fail)
    · exact fun hd => Out.e (h1 k hlt (fun q' hq' => by rw [hq] at hq'; injection hq' with hq'; subst hq'; simpa using hd) g2) (Ent.cons _ Row.of_at)
    · exact fun hd => ih (k + 1) _ _ ⟨by omega, fun j q' hj hq' => by
        by_cases e : j = k
        · subst e; rw [hq] at hq'; injection hq' with hq'; subst hq'; simpa using hd
        · exact g2 j q' (by omega) hq'⟩ (by omega) ⟨rfl, rfl, rfl, rfl, trivial⟩ (Ent.cons _ Row.of_at)
  · refine walk ?_
    exact ⟨fun _ => Out.i (h2 (fun q hq => by
      obtain ⟨j, hj⟩ := List.getElem?_of_mem hq
      exact g2 j q (by have := (List.getElem?_eq_some_iff.1 hj).1; omega) hj)), trivial⟩
theorem has_spec {f : FuncId} {bx cap : Nat} {a : Option Addr} {x : Int} {qs : List (Int × Int)} (hl : qs.length ≤ 1048576) (hf : f = 64 ∨ f = 33) (h : K (.bool (qs.any fun q => decide (q.1 = x))) (cel bx 3 [kI x] :: Row a cap 71 2 qs.length (flat wenc qs) :: F)) :
    Tri Try.prog 63 #[.slice a qs.length cap, .func (.func f) #[] #[ptr bx]] w0 (cel bx 3 [kI x] :: Row a cap 71 2 qs.length (flat wenc qs) :: F) K := by
  refine Tri.enterF Try.func63 Try.ntmps63 Try.results63 rfl rfl fun fr hfr => ?_
  repeat' (first | refine walk ?_ | exact trivial | refine Tw.mk ?_ ?_ | refine idx_spec hl hf (fun i hi hx _ => ?_) (fun hn => ?_) | fail)
  · exact fun _ => Out.i (by
      have : (qs.any fun q => decide (q.1 = x)) = true := List.any_eq_true.2 ⟨qs[i], List.getElem_mem hi, by simpa using hx _ (List.getElem?_eq_getElem hi)⟩
      rwa [this] at h)
  · exact fun _ => Out.i (by
      have : (qs.any fun q => decide (q.1 = x)) = false := List.any_eq_false.2 fun q hq => by simpa using hn q hq
      rwa [this] at h)
end Go.Proofs.Ytpfnhkdhcjclpaa
