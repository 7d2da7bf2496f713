/- HealthApart comes to true. Conditions: the script's row lies in memory, its fields are of their kinds. -/
import Derived.Test.YtbpkoehgjhofaaaHealthX
import Derived.Test.YtbpkoehgjhofaaaSxL
import Derived.Test.YtbpkoehgjhofaaaSxH
namespace Go.Proofs.Ytbpkoehgjhofaaa.He
open Go Go.Sx
variable {w0 : World} {H F : List HProp}
/-- One host alone: its block, its row of failures and its time, its ejections. -/
structure On where
  b : Nat
  row : Int
  til : Int
  cnt : Int
def one (f ej : Int) (x : On) (s : Int) : HS := ⟨f, ej, 0, [(x.row, x.til)], s, x.cnt⟩
/-- The host's own health, which has seen some time up to the last. -/
def alone (f ej last : Int) (x : On) : HProp := hex fun s : { s : Int // 0 ≤ s ∧ s ≤ last } => health x.b (one f ej x s.1)
theorem alone_weak {f ej last now : Int} (h : last ≤ now) (x : On) (y : Hp) (hy : alone f ej last x y) : alone f ej now x y := by
  obtain ⟨⟨s, h1, h2⟩, hs⟩ := hy
  exact ⟨⟨s, h1, by omega⟩, hs⟩
def penc (b : Nat) : List Value := [ptr b]
theorem penc_len : ∀ x, (penc x).length = 1 := fun _ => rfl
def many (f ej last : Int) (xs : List On) : HS := ⟨f, ej, 0, xs.map fun x => (x.row, x.til), last, (xs.map (·.cnt)).sum⟩
def upd (f ej now : Int) (ok : Bool) (x : On) : On := ⟨x.b, (repRow f ej now ok (x.row, x.til)).1.1, (repRow f ej now ok (x.row, x.til)).1.2, x.cnt + (repRow f ej now ok (x.row, x.til)).2⟩
def OnFit (k : Int) (x : On) : Prop := 0 ≤ x.row ∧ x.row ≤ k ∧ 0 ≤ x.cnt ∧ x.cnt ≤ k
theorem repRow_cnt' (fa ej now : Int) (ok : Bool) (p : Int × Int) : 0 ≤ (repRow fa ej now ok p).2 ∧ (repRow fa ej now ok p).2 ≤ 1 := by
  unfold repRow
  generalize (if ok = true then (0 : Int) else p.1 + 1) = r
  by_cases h : r = fa
  · rw [if_pos h]; exact ⟨by dsimp only; omega, by dsimp only; omega⟩
  · rw [if_neg h]; exact ⟨by dsimp only; omega, by dsimp only; omega⟩
theorem upd_fit {f ej now k : Int} {ok : Bool} {x : On} (h : OnFit k x) : OnFit (k + 1) (upd f ej now ok x) := by
  obtain ⟨h1, h2, h3, h4⟩ := h
  have hc := repRow_cnt' f ej now ok (x.row, x.til)
  have hr : 0 ≤ (repRow f ej now ok (x.row, x.til)).1.1 ∧ (repRow f ej now ok (x.row, x.til)).1.1 ≤ x.row + 1 := by
    unfold repRow
    have hr : 0 ≤ (if ok = true then (0 : Int) else x.row + 1) ∧ (if ok = true then (0 : Int) else x.row + 1) ≤ x.row + 1 := by split <;> omega
    simp only
    generalize (if ok = true then (0 : Int) else x.row + 1) = r at *
    by_cases h : r = f
    · simp only [if_pos h]; omega
    · simp only [if_neg h]; omega
  exact ⟨by simp only [upd]; omega, by simp only [upd]; omega, by simp only [upd]; omega, by simp only [upd]; omega⟩
theorem sum_set {xs : List On} {i : Nat} {x : On} {z : Int} {y : On} (h : xs[i]? = some x) (hy : y.cnt = x.cnt + z) : ((xs.set i y).map (·.cnt)).sum = (xs.map (·.cnt)).sum + z := by
  induction xs generalizing i with
  | nil => simp at h
  | cons a xs ih =>
    cases i with
    | zero => simp at h; subst h; simp [hy]; omega
    | succ i =>
      simp only [List.getElem?_cons_succ] at h
      have := ih h
      simp only [List.set_cons_succ, List.map_cons, List.sum_cons, this]; omega
theorem many_rep {f ej last now : Int} {xs : List On} {i : Nat} {x : On} {ok : Bool} (h : xs[i]? = some x) : repS (many f ej last xs) now i (x.row, x.til) ok = many f ej now (xs.set i (upd f ej now ok x)) := by
  have hs := sum_set (z := (repRow f ej now ok (x.row, x.til)).2) (y := upd f ej now ok x) h rfl
  unfold repS many
  simp only [hs]
  rw [List.map_set]
  rfl
theorem many_open {f ej last now : Int} {xs : List On} : openL (many f ej last xs) now = xs.map fun x => decide (x.til ≤ now) := by
  unfold openL
  rw [if_neg]
  · simp [openI, many, Function.comp_def]
  · simp only [many, Int.zero_mul]; omega
theorem one_open {f ej s now : Int} {x : On} : openL (one f ej x s) now = [decide (x.til ≤ now)] := by
  unfold openL
  rw [if_neg]
  · rfl
  · simp only [one, Int.zero_mul]; omega
theorem sum_le {k : Int} : ∀ {xs : List On}, (∀ x ∈ xs, OnFit k x) → 0 ≤ (xs.map (·.cnt)).sum ∧ (xs.map (·.cnt)).sum ≤ xs.length * k
  | [], _ => by simp
  | x :: xs, h => by
    have h1 := sum_le (xs := xs) fun y hy => h y (List.mem_cons_of_mem _ hy)
    obtain ⟨_, _, h2, h3⟩ := h x (List.mem_cons_self ..)
    simp only [List.map_cons, List.sum_cons, List.length_cons, Int.natCast_add, Int.add_mul]
    omega
theorem one_fit {f ej s k : Int} {x : On} (hf : 1 ≤ f) (he : 0 ≤ ej ∧ ej ≤ 1048576) (hk : 0 ≤ k ∧ k ≤ 1000) (hx : OnFit k x) (hs : 0 ≤ s ∧ s ≤ 1099511627776) : (one f ej x s).Fit := by
  obtain ⟨h1, h2, h3, h4⟩ := hx
  refine ⟨hf, ⟨he.1, by show ej ≤ _; omega⟩, hs, ⟨h3, by show x.cnt ≤ _; omega⟩, ?_, by show 1 ≤ 1048576; decide, by show 0 ≤ 0 ∧ 0 ≤ 100; decide⟩
  intro p hp
  obtain rfl := List.mem_singleton.1 hp
  exact ⟨h1, by show x.row ≤ _; omega⟩
theorem many_fit {f ej s k : Int} {xs : List On} (hf : 1 ≤ f) (he : 0 ≤ ej ∧ ej ≤ 1048576) (hk : 0 ≤ k ∧ k ≤ 1000) (hl : xs.length ≤ 16) (hx : ∀ x ∈ xs, OnFit k x) (hs : 0 ≤ s ∧ s ≤ 1099511627776) : (many f ej s xs).Fit := by
  have hsum := sum_le hx
  have hm := Int.mul_le_mul (show (xs.length : Int) ≤ 16 by omega) hk.2 hk.1 (by decide)
  refine ⟨hf, ⟨he.1, by show ej ≤ _; omega⟩, hs, ⟨hsum.1, by show (xs.map (·.cnt)).sum ≤ _; omega⟩, ?_, by show (xs.map _).length ≤ _; rw [List.length_map]; omega, by show 0 ≤ 0 ∧ 0 ≤ 100; decide⟩
  intro p hp
  obtain ⟨x, hm, rfl⟩ := List.mem_map.1 hp
  obtain ⟨h1, h2, _, _⟩ := hx x hm
  exact ⟨h1, by show x.row ≤ _; omega⟩
variable {K : Value → List HProp → Prop}
theorem report_gen {b i : Nat} {S : HS} {now : Int} {p : Int × Int} {ok : Bool} (fit : S.Fit) (hi : S.rows[i]? = some p) (hg : S.seen ≤ now ∧ now ≤ 1099511627776) (h : K (.int .i64 0) (health b (repS S now i p ok) :: F)) :
    Tri Try.prog 32 #[ptr b, .int .i64 now, .int .i64 i, .bool ok] w0 (health b S :: F) K := by
  cases ok
  · exact report_false fit hi (fun hb => by omega) (fun _ _ => h)
  · exact report_true fit hi (fun hb => by omega) (fun _ _ => h)
theorem report_one {f ej now k : Int} {x : On} {ok : Bool} (hf : 1 ≤ f) (he : 0 ≤ ej ∧ ej ≤ 1048576) (hk : 0 ≤ k ∧ k ≤ 1000) (hx : OnFit k x) (hn : now ≤ 1099511627776) (h : K (.int .i64 0) (alone f ej now (upd f ej now ok x) :: F)) :
    Tri Try.prog 32 #[ptr x.b, .int .i64 now, .int .i64 0, .bool ok] w0 (alone f ej now x :: F) K := by
  refine Tri.ex (fun _ hr => hr.hex) (fun s => Tri.post ?_)
  refine report_gen (i := 0) (p := (x.row, x.til)) (one_fit hf he hk hx ⟨s.2.1, by have := s.2.2; omega⟩) rfl ⟨s.2.2, hn⟩ ?_
  exact ⟨_, Ent.hex (f := fun s : { s : Int // 0 ≤ s ∧ s ≤ now } => health x.b (one f ej (upd f ej now ok x) s.1)) ⟨now, by have := s.2; omega, Int.le_refl _⟩, h⟩
theorem open_one {f ej now k : Int} {x : On} (hf : 1 ≤ f) (he : 0 ≤ ej ∧ ej ≤ 1048576) (hk : 0 ≤ k ∧ k ≤ 1000) (hx : OnFit k x) (hn : now ≤ 1099511627776) (h : ∀ g, K (.tuple #[.slice (some ⟨g, 0, none⟩) 1 1, .int .i64 0]) (cel g 4 (flat benc [decide (x.til ≤ now)]) :: alone f ej now x :: F)) :
    Tri Try.prog 34 #[ptr x.b, .int .i64 now] w0 (alone f ej now x :: F) K := by
  refine Tri.ex (fun _ hr => hr.hex) (fun s => Tri.post ?_)
  refine open_spec (one_fit hf he hk hx ⟨s.2.1, by have := s.2.2; omega⟩) (fun hb => absurd hb ?_) (fun _ _ g => ?_)
  · have := s.2.2
    show ¬ (now < s.1 ∨ _); omega
  · rw [one_open]
    exact ⟨_, Ent.cons _ (Ent.hex (f := fun s : { s : Int // 0 ≤ s ∧ s ≤ now } => health x.b (one f ej x s.1)) ⟨now, by have := s.2; omega, Int.le_refl _⟩), h g⟩
theorem ejs_one {f ej now : Int} {x : On} (h : K (.int .i64 x.cnt) (alone f ej now x :: F)) : Tri Try.prog 36 #[ptr x.b] w0 (alone f ej now x :: F) K := by
  refine Tri.ex (fun _ hr => hr.hex) (fun s => Tri.post ?_)
  refine ejs_spec ?_
  exact ⟨_, Ent.hex (f := fun s : { s : Int // 0 ≤ s ∧ s ≤ now } => health x.b (one f ej x s.1)) s, h⟩
theorem many_new {f ej : Int} {N : Nat} {xs : List On} (hl : xs.length = N) (h : ∀ x ∈ xs, OnFit 0 x ∧ x.til = 0) : (⟨f, ej, 0, List.replicate N (0, 0), 0, 0⟩ : HS) = many f ej 0 xs := by
  have e1 : List.replicate N ((0 : Int), (0 : Int)) = xs.map fun x => (x.row, x.til) := by
    symm
    rw [List.eq_replicate_iff]
    refine ⟨by simpa using hl, fun p hp => ?_⟩
    obtain ⟨x, hx, rfl⟩ := List.mem_map.1 hp
    obtain ⟨⟨h1, h2, _, _⟩, h3⟩ := h x hx
    rw [h3, show x.row = 0 by omega]
  have e2 := sum_le (k := 0) fun x hx => (h x hx).1
  have e3 : (xs.map (·.cnt)).sum = 0 := by omega
  unfold many
  rw [e1, e3]
theorem one_new {f ej : Int} {b : Nat} : Ent (health b ⟨f, ej, 0, List.replicate 1 (0, 0), 0, 0⟩ :: F) (alone f ej 0 ⟨b, 0, 0, 0⟩ :: F) :=
  Ent.hex (f := fun s : { s : Int // 0 ≤ s ∧ s ≤ 0 } => health b (one f ej ⟨b, 0, 0, 0⟩ s.1)) ⟨0, by decide⟩
theorem op_row' {l : List Value} (h : FKs [.int .i64, .int .i64, .int .i64, .bool] l) : ∃ (K A B : Int) (o : Bool), l = [.int .i64 K, .int .i64 A, .int .i64 B, .bool o] := by
  obtain ⟨_, _, rfl, ⟨K, rfl, _⟩, h1⟩ := h.cons
  obtain ⟨_, _, rfl, ⟨A, rfl, _⟩, h2⟩ := h1.cons
  obtain ⟨_, _, rfl, ⟨B, rfl, _⟩, h3⟩ := h2.cons
  obtain ⟨_, _, rfl, ⟨o, rfl⟩, h4⟩ := h3.cons
  obtain rfl := h4.nil
  exact ⟨K, A, B, o, rfl⟩
end Go.Proofs.Ytbpkoehgjhofaaa.He
