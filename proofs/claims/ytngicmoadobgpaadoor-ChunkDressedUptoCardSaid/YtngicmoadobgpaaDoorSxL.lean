/- From a walk to a law's row: what is read of the arguments; that they read the same behind the call. Conditions: none. -/
import Derived.Test.YtngicmoadobgpaaDoorSxW
import Derived.Deep.Slices
import Derived.Deep.Fields
import Derived.ChangeSame
import Derived.Carry
import Derived.SizedLaws
import Derived.ProofKit
namespace Go.Sx
open Go Go.RowKit Go.ChangeShapes Go.WideShapes Go.Deep

theorem wf_i64 {n : Int} (h : (Lit.int .i64 n).wf = true) : -9223372036854775808 ≤ n ∧ n ≤ 9223372036854775807 := by
  simp [Lit.wf, IntKind.min, IntKind.max, IntKind.signed, IntKind.bits] at h; exact h
theorem wf_u64 {n : Int} (h : (Lit.int .u64 n).wf = true) : 0 ≤ n ∧ n < 18446744073709551616 := by
  simp [Lit.wf, IntKind.min, IntKind.max, IntKind.signed, IntKind.bits] at h; omega
theorem wf_u8 {n : Int} (h : (Lit.int .u8 n).wf = true) : 0 ≤ n ∧ n ≤ 255 := by
  simp [Lit.wf, IntKind.min, IntKind.max, IntKind.signed, IntKind.bits] at h; exact h

/-- A slice that came in: the cells of its elements, each as many as an element has. -/
def BaseRow (w0 : World) (v : Value) (es : Nat) (ys : List (List Value)) : Prop :=
  (∃ a cap, v = .slice a 0 cap ∧ ys = []) ∨
  ∃ b off cap, v = .slice (some ⟨b, off, none⟩) ys.length cap ∧ 0 < ys.length ∧ ∀ i l, ys[i]? = some l → l.length = es ∧ ∀ j u, l[j]? = some u → w0.cell? ⟨b, off + i * es + j, none⟩ = some u

theorem BaseRow.form {w0 : World} {v : Value} {es : Nat} {ys : List (List Value)} (h : BaseRow w0 v es ys) : ∃ a cap, v = .slice a ys.length cap := by
  rcases h with ⟨a, cap, rfl, rfl⟩ | ⟨b, off, cap, rfl, _⟩
  · exact ⟨a, cap, rfl⟩
  · exact ⟨_, cap, rfl⟩

/-- The row, whether it is empty or not. -/
theorem BaseRow.opened {w0 : World} {v : Value} {es : Nat} {ys : List (List Value)} (h : BaseRow w0 v es ys) : ∃ a n cap, v = .slice a n cap ∧ n = ys.length ∧
    ∀ i l, ys[i]? = some l → ∃ b off, a = some ⟨b, off, none⟩ ∧ ∀ H, ReadsL w0 H ⟨b, off + i * es, none⟩ l := by
  rcases h with ⟨a, cap, rfl, rfl⟩ | ⟨b, off, cap, rfl, _, h⟩
  · exact ⟨a, 0, cap, rfl, rfl, fun i l hl => by simp at hl⟩
  · exact ⟨_, _, cap, rfl, rfl, fun i l hl => ⟨b, off, rfl, fun H j u hj => by rw [Addr.add_mk]; exact Reads.base ((h i l hl).2 j u hj)⟩⟩

theorem BaseRow.rd {w0 : World} {v : Value} {es : Nat} {ys : List (List Value)} (h : BaseRow w0 v es ys) : ∃ a n cap, v = .slice a n cap ∧ n = ys.length ∧
    ∀ (i : Nat) l, ys[i]? = some l → ∃ b off, a = some ⟨b, off, none⟩ ∧ RdN w0 ⟨b, off + i * es, none⟩ es l ∧ ∀ (j : Nat) u, l[j]? = some u → RdB w0 ⟨b, off + i * es + j, none⟩ u := by
  rcases h with ⟨a, cap, rfl, rfl⟩ | ⟨b, off, cap, rfl, _, h⟩
  · exact ⟨a, 0, cap, rfl, rfl, fun i l hl => by simp at hl⟩
  · exact ⟨_, _, cap, rfl, rfl, fun i l hl => ⟨b, off, rfl, ⟨fun H => ⟨(h i l hl).1, fun j u hj => by rw [Addr.add_mk]; exact Reads.base ((h i l hl).2 j u hj)⟩⟩, fun j u hj => ⟨fun H => Reads.base ((h i l hl).2 j u hj)⟩⟩⟩
/-- A slice of numbers that came in. -/
theorem BaseRow.rd1 {w0 : World} {v : Value} {α : Type} {f : α → Value} {zs : List α} (h : BaseRow w0 v 1 (zs.map fun z => [f z])) : ∃ a n cap, v = .slice a n cap ∧ n = zs.length ∧
    ∀ (i : Nat) z, zs[i]? = some z → ∃ b off, a = some ⟨b, off, none⟩ ∧ RdB w0 ⟨b, off + i * 1, none⟩ (f z) := by
  obtain ⟨a, n, cap, rfl, hn, hr⟩ := h.rd
  refine ⟨a, n, cap, rfl, by simpa using hn, fun i z hz => ?_⟩
  obtain ⟨b, off, ha, _, h2⟩ := hr i [f z] (by rw [List.getElem?_map, hz]; rfl)
  exact ⟨b, off, ha, h2 0 _ rfl⟩
theorem typed_map {α : Type} {ys : List (List Value)} (enc : α → List Value) (p : α → Prop) (h : ∀ l ∈ ys, ∃ x, l = enc x ∧ p x) : ∃ xs : List α, ys = xs.map enc ∧ ∀ x ∈ xs, p x := by
  induction ys with
  | nil => exact ⟨[], rfl, fun _ h => by cases h⟩
  | cons l ys ih =>
    obtain ⟨x, hx, px⟩ := h l (List.mem_cons_self ..)
    obtain ⟨xs, hxs, pxs⟩ := ih fun l hl => h l (List.mem_cons_of_mem _ hl)
    refine ⟨x :: xs, by simp [hx, hxs], fun y hy => ?_⟩
    rcases List.mem_cons.1 hy with rfl | hy
    · exact px
    · exact pxs y hy

/-- What a field of one cell may hold. -/
inductive FK where
  | int (k : IntKind) | bool | string
def FK.ok : FK → Value → Prop
  | .int k, v => ∃ n, v = .int k n ∧ (Lit.int k n).wf = true
  | .bool, v => ∃ b, v = .bool b
  | .string, v => ∃ s : ByteArray, v = .string s ∧ s.size ≤ maxLen
def FK.desc : FK → TypeDesc
  | .int k => .int k
  | .bool => .bool
  | .string => .string
def FKs : List FK → List Value → Prop
  | [], [] => True
  | k :: ks, v :: vs => k.ok v ∧ FKs ks vs
  | _, _ => False

theorem FKs.cons {k : FK} {ks : List FK} {l : List Value} (h : FKs (k :: ks) l) : ∃ v vs, l = v :: vs ∧ k.ok v ∧ FKs ks vs := by
  cases l with
  | nil => exact h.elim
  | cons v vs => exact ⟨v, vs, rfl, h⟩
theorem FKs.nil {l : List Value} (h : FKs [] l) : l = [] := by
  cases l with
  | nil => rfl
  | cons v vs => exact h.elim

/-- The kinds of a struct's fields. -/
def FieldsAre (P : Program) : List Field → List FK → Prop
  | [], [] => True
  | f :: fs, k :: ks => P.underlying f.type = some k.desc ∧ FieldsAre P fs ks
  | _, _ => False
theorem FieldsAre.length {P : Program} : ∀ {fs : List Field} {ks : List FK}, FieldsAre P fs ks → ks.length = fs.length
  | [], [], _ => rfl
  | _ :: _, _ :: _, ⟨_, h⟩ => by simp [FieldsAre.length h]
theorem FieldsAre.at {P : Program} : ∀ {fs : List Field} {ks : List FK}, FieldsAre P fs ks → ∀ (j : Nat) (f : Field) (k : FK), fs[j]? = some f → ks[j]? = some k → P.underlying f.type = some k.desc
  | [], [], _, j, f, k, h, _ => by simp at h
  | f' :: fs, k' :: ks, ⟨h1, h2⟩, 0, f, k, hf, hk => by simp at hf hk; subst hf; subst hk; exact h1
  | f' :: fs, k' :: ks, ⟨h1, h2⟩, j + 1, f, k, hf, hk => h2.at j f k (by simpa using hf) (by simpa using hk)

section
variable {H : Type} {enc : TypeId × Value → H} {P : Program} {w : World} {base : Nat} {spare : Nat → Bool} {held : Bool}

theorem FK.of_trod {k : FK} {t : TypeId} {fuel : Nat} {v : Value} {y : DataW H × List MemPlace} (ht : P.underlying t = some k.desc) (h : DataW.trod enc P w base spare held fuel t [v] = some y) : k.ok v := by
  cases k with
  | int k => obtain ⟨n, hv, _, hw⟩ := DataW.trod_int ht h; injection hv with hv; exact ⟨n, hv, hw⟩
  | bool => obtain ⟨b, hv, _⟩ := DataW.trod_bool ht h; injection hv with hv; exact ⟨b, hv⟩
  | string => obtain ⟨s, hv, _, hs⟩ := DataW.trod_string ht h; injection hv with hv; exact ⟨s, hv, hs⟩

theorem rows_exist {n : Nat} {p : Nat → List Value → Prop} (h : ∀ i, i < n → ∃ l, p i l) : ∃ ys : List (List Value), ys.length = n ∧ ∀ i l, ys[i]? = some l → p i l := by
  induction n with
  | zero => exact ⟨[], rfl, fun i l hl => by simp at hl⟩
  | succ n ih =>
    obtain ⟨ys, hlen, hys⟩ := ih fun i hi => h i (by omega)
    obtain ⟨l, hl⟩ := h n (by omega)
    refine ⟨ys ++ [l], by simp [hlen], fun i l' hi => ?_⟩
    rw [List.getElem?_append] at hi
    split at hi
    · exact hys i l' hi
    · rename_i hge
      have : i = n := by
        have h2 := (List.getElem?_eq_some_iff.1 hi).1
        simp at h2; omega
      subst this
      simp [hlen] at hi
      exact hi ▸ hl

/-- A slice of structs of one-cell fields. -/
theorem base_struct {t e : TypeId} {fs : Array Field} {ks : List FK} {v : Value} {d : DataW H} {ps : List MemPlace} (ht : P.underlying t = some (.slice e)) (he : P.underlying e = some (.struct fs))
    (hpos : 0 < fs.size) (hone : oneCellFields P fs = true) (hC : P.cellsOf e = fs.size) (hka : FieldsAre P fs.toList ks) (hv : ∃ a len cap, v = .slice a len cap)
    (h : DataW.Trod enc P w base spare held t v d ps) :
    ∃ ys, BaseRow w v fs.size ys ∧ (∀ l ∈ ys, FKs ks l) ∧ (ys = [] ∨ ∃ el sp, d = .slice el sp ∧ el.length = ys.length) := by
  have hk : ks.length = fs.size := by simpa using hka.length
  have hks : ∀ (j : Nat) (f : Field) (k : FK), fs[j]? = some f → ks[j]? = some k → P.underlying f.type = some k.desc := fun j f k h1 h2 => hka.at j f k (by simpa using h1) h2
  obtain ⟨a, len, cap, rfl⟩ := hv
  obtain ⟨fuel, hf⟩ := h
  rcases open_slice ht hf with ⟨hcs, _⟩ | ⟨a', len', cap', m, n, D, Pl, hcs, hb, hl, hm, hmm, hx, hi⟩
  · simp [Value.cells] at hcs
    obtain ⟨rfl, rfl, rfl⟩ := hcs
    exact ⟨[], .inl ⟨none, 0, rfl, rfl⟩, (fun _ h => by cases h), .inl rfl⟩
  · simp [Value.cells] at hcs
    obtain ⟨rfl, rfl, rfl⟩ := hcs
    simp only [Prod.mk.injEq] at hx
    rw [hC] at hi
    have hlm : len ≤ m := by rw [hmm]; split <;> omega
    have each : ∀ i, i < len → ∃ l, l.length = fs.size ∧ FKs ks l ∧ ∀ j u, l[j]? = some u → w.cell? (a'.add (i * fs.size + j)) = some u := by
      intro i hil
      obtain ⟨cs', hc, ht'⟩ := hi i (by omega)
      obtain ⟨ys, n', _, _, hlen, _, hfl⟩ := DataW.trod_struct he ht'
      obtain ⟨_, hcl, hat⟩ := World.cells?_some hc
      have hcl' : cs'.length = fs.size := hcl
      refine ⟨cs', hcl', ?_, fun j u hu => ?_⟩
      · have key : ∀ (ks : List FK) (l : List Value), ks.length = l.length → (∀ (j : Nat) k u, ks[j]? = some k → l[j]? = some u → k.ok u) → FKs ks l := by
          intro ks
          induction ks with
          | nil => intro l hl _; cases l with
            | nil => trivial
            | cons _ _ => simp at hl
          | cons k ks ih => intro l hl hh; cases l with
            | nil => simp at hl
            | cons u l => exact ⟨hh 0 k u rfl rfl, ih l (by simpa using hl) fun j k u h1 h2 => hh (j + 1) k u (by simpa using h1) (by simpa using h2)⟩
        refine key ks cs' (by omega) fun j k u hj hu => ?_
        have hjl : j < fs.size := by have := (List.getElem?_eq_some_iff.1 hj).1; omega
        have hfj : fs[j]? = some fs[j] := by simp [hjl]
        obtain ⟨ho, hk1⟩ := hone_of hone j _ hfj
        have h1 := hfl j _ hfj
        rw [ho, hk1] at h1
        have hone' : (cs'.drop j).take 1 = [u] := by
          rw [List.drop_eq_getElem_cons (by omega)]
          have : cs'[j]'(by omega) = u := by rw [List.getElem?_eq_getElem (by omega)] at hu; injection hu
          simp [this]
        rw [hone'] at h1
        have hys : ys[j]? = some (ys[j]'(by omega)) := List.getElem?_eq_getElem (by omega)
        exact FK.of_trod (hks j _ k hfj hj) (h1.trans hys)
      · have hjl : j < fs.size := by have := (List.getElem?_eq_some_iff.1 hu).1; omega
        rw [← Go.Deep.add_add, hat j hjl]; exact hu
    obtain ⟨ys, hlen, hys⟩ := rows_exist each
    refine ⟨ys, ?_, fun l hl => ?_, .inr ⟨_, _, hx.1, by simp [hlen]⟩⟩
    · by_cases h0 : len = 0
      · subst h0
        have : ys = [] := List.length_eq_zero_iff.1 hlen
        exact .inl ⟨_, cap, rfl, this⟩
      · obtain ⟨b, off, spot⟩ := a'
        have h00 : ys[0]? = some (ys[0]'(by omega)) := List.getElem?_eq_getElem (by omega)
        obtain ⟨hl0, _, hc0⟩ := hys 0 _ h00
        have hu0 : (ys[0]'(by omega))[0]? = some ((ys[0]'(by omega))[0]'(by omega)) := List.getElem?_eq_getElem (by omega)
        have hcell := hc0 0 _ hu0
        have hspot : spot = none := by simpa [Addr.add] using World.cell?_spot hcell
        subst hspot
        refine .inr ⟨b, off, cap, by rw [hlen], by omega, fun i l hl => ⟨(hys i l hl).1, fun j u hu => ?_⟩⟩
        have := (hys i l hl).2.2 j u hu
        rw [Addr.add_mk] at this
        rw [Nat.add_assoc]; exact this
    · obtain ⟨i, hi⟩ := List.getElem?_of_mem hl
      exact (hys i l hi).2.1

/-- A slice of numbers. -/
theorem base_ints {t e : TypeId} {k : IntKind} {v : Value} {d : DataW H} {ps : List MemPlace} (ht : P.underlying t = some (.slice e)) (he : P.underlying e = some (.int k)) (hC : P.cellsOf e = 1) (hv : ∃ a len cap, v = .slice a len cap)
    (h : DataW.Trod enc P w 0 (fun _ => true) true t v d ps) :
    ∃ zs : List Int, BaseRow w v 1 (zs.map fun z => [.int k z]) ∧ (∀ z ∈ zs, (Lit.int k z).wf = true) ∧ (zs = [] ∨ ∃ el sp, d = .slice el sp ∧ el.length = zs.length) := by
  obtain ⟨a, len, cap, rfl⟩ := hv
  obtain ⟨fuel, hf⟩ := h
  rcases open_ints ht he hC hf with ⟨hcs, _⟩ | ⟨a', len', cap', zs, hcs, _, hl, hm, hz, hx, hcell, hwz⟩
  · simp [Value.cells] at hcs
    obtain ⟨rfl, rfl, rfl⟩ := hcs
    exact ⟨[], .inl ⟨none, 0, rfl, rfl⟩, (fun _ h => by cases h), .inl rfl⟩
  · simp [Value.cells] at hcs
    obtain ⟨rfl, rfl, rfl⟩ := hcs
    simp only [Prod.mk.injEq] at hx
    simp only [if_true] at hz
    refine ⟨zs.take len, ?_, fun z hz' => hwz z (List.mem_of_mem_take hz'), .inr ⟨_, _, hx.1, by simp [lits]⟩⟩
    by_cases h0 : len = 0
    · subst h0; exact .inl ⟨_, cap, rfl, by simp⟩
    · obtain ⟨b, off, spot⟩ := a'
      have hlen : (zs.take len).length = len := by simp; omega
      have hc0 := hcell 0 (by omega)
      have hspot : spot = none := by simpa [Addr.add] using World.cell?_spot hc0
      subst hspot
      refine .inr ⟨b, off, cap, by simp; omega, by simp; omega, fun i l hi => ?_⟩
      rw [List.getElem?_map, Option.map_eq_some_iff] at hi
      obtain ⟨z, hz1, rfl⟩ := hi
      refine ⟨rfl, fun j u hu => ?_⟩
      have hj : j = 0 := by have := (List.getElem?_eq_some_iff.1 hu).1; simp at this; omega
      subst hj
      simp at hu; subst hu
      rw [List.getElem?_take] at hz1
      split at hz1
      · rename_i hil
        have := hcell i (by omega)
        rw [Addr.add_mk] at this
        rw [Nat.mul_one, Nat.add_zero, this]
        simp [List.getD, hz1]
      · cases hz1

/-- What the law's 'post' asks: the answer is true, the arguments read as they did. -/
theorem trod_below {t : TypeId} (hl : laidOutB P = true) (hr : P.readableRec t = true) (hrow : t < P.types.size) {W W' : World} {v : Value} {d : DataW H} {ps before : List MemPlace}
    (h : DataW.Trod enc P W 0 (fun _ => true) true t v d ps) (hb : Below W.heap.size W W') (hlt : ∀ x ∈ before, x.block < W.heap.size) (hsub : ∀ x ∈ ps, x ∈ before) :
    DataW.Trod enc P W' 0 (fun b => decide (b < W.heap.size)) true t v d ps := Below.trod hl hr hrow h hb fun x hx => hlt x (hsub x hx)
end
end Go.Sx
