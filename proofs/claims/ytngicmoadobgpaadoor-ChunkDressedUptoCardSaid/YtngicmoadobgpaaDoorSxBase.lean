/- What a value that came in looks like, whatever its type: a tree of data, told by the type's shape. Conditions: none. -/
import Derived.Test.YtngicmoadobgpaaDoorSxL
import Derived.Test.YtngicmoadobgpaaDoorSxZ
namespace Go.Sx
open Go Go.RowKit Go.WideShapes Go.Deep
/-- The shape of a type: numbers, bools, strings, slices (with the bytes of an element), structs. -/
inductive Sh where
  | int (k : IntKind) | bool | str | slice (bs : Nat) (s : Sh) | agg (ss : List Sh)
/-- Data. -/
inductive DV where
  | int (z : Int) | bool (b : Bool) | str (s : ByteArray) | arr (l : List DV) | agg (l : List DV)
mutual
def Sh.size : Sh → Nat
  | .int _ => 1
  | .bool => 1
  | .str => 1
  | .slice _ _ => 1
  | .agg ss => Sh.sizeL ss
def Sh.sizeL : List Sh → Nat
  | [] => 0
  | s :: l => s.size + Sh.sizeL l
end
mutual
def Sh.rd (w : World) : Sh → List Value → DV → Prop
  | .int k, cs, d => ∃ z, cs = [.int k z] ∧ d = .int z ∧ (Lit.int k z).wf = true
  | .bool, cs, d => ∃ b, cs = [.bool b] ∧ d = .bool b
  | .str, cs, d => ∃ s : ByteArray, cs = [.string s] ∧ d = .str s ∧ s.size ≤ reachBytes
  | .slice bs s, cs, d => ∃ v ds, cs = [v] ∧ d = .arr ds ∧ ds.length * bs ≤ reachBytes ∧ ((ds = [] ∧ ∃ a c, v = .slice a 0 c) ∨ ∃ b off c, v = .slice (some ⟨b, off, none⟩) ds.length c ∧ ds.length ≤ c ∧
      ∀ i x, ds[i]? = some x → ∃ l : List Value, l.length = s.size ∧ (∀ j u, l[j]? = some u → w.cell? ⟨b, off + (i * s.size + j), none⟩ = some u) ∧ Sh.rd w s l x)
  | .agg ss, cs, d => ∃ ds, d = .agg ds ∧ Sh.rdL w ss cs ds
def Sh.rdL (w : World) : List Sh → List Value → List DV → Prop
  | [], cs, ds => cs = [] ∧ ds = []
  | s :: ss, cs, ds => ∃ c1 c2 d ds', cs = c1 ++ c2 ∧ ds = d :: ds' ∧ c1.length = s.size ∧ Sh.rd w s c1 d ∧ Sh.rdL w ss c2 ds'
end
mutual
def Sh.fits (P : Program) : Sh → TypeId → Bool
  | .int k, t => match P.underlying t with | some (.int k') => sameKind k k' | _ => false
  | .bool, t => match P.underlying t with | some .bool => true | _ => false
  | .str, t => match P.underlying t with | some .string => true | _ => false
  | .slice bs s, t => match P.underlying t with | some (.slice e) => Nat.beq (P.cellsOf e) s.size && Nat.blt 0 s.size && Nat.beq (P.bytesOf e) bs && s.fits P e | _ => false
  | .agg ss, t => match P.underlying t with | some (.struct fs) => Nat.beq (P.cellsOf t) (Sh.sizeL ss) && Sh.fitsL P ss fs.toList 0 | _ => false
def Sh.fitsL (P : Program) : List Sh → List Field → Nat → Bool
  | [], [], _ => true
  | s :: ss, f :: fs, off => Nat.beq f.offset off && Nat.beq (P.cellsOf f.type) s.size && s.fits P f.type && Sh.fitsL P ss fs (off + s.size)
  | _, _, _ => false
end
section
variable {H : Type} {enc : TypeId × Value → H} {P : Program} {w : World} {spare : Nat → Bool} {held : Bool}
theorem weightsAll_mem {e : TypeId} : ∀ {l : List (DataW H)} {d : DataW H}, d ∈ l → ∀ x ∈ d.weights P e, x ∈ DataW.weightsAll P e l
  | [], _, h, _, _ => by cases h
  | d0 :: l, d, h, x, hx => by
    simp only [DataW.weightsAll, List.mem_append]
    rcases List.mem_cons.1 h with rfl | h
    · exact .inl hx
    · exact .inr (weightsAll_mem h x hx)
theorem dvs_exist {n : Nat} {p : Nat → DV → Prop} (h : ∀ i, i < n → ∃ x, p i x) : ∃ ds : List DV, ds.length = n ∧ ∀ i x, ds[i]? = some x → p i x := by
  induction n with
  | zero => exact ⟨[], rfl, fun i l hl => by simp at hl⟩
  | succ n ih =>
    obtain ⟨ys, hlen, hys⟩ := ih fun i hi => h i (by omega)
    obtain ⟨l, hl⟩ := h n (by omega)
    refine ⟨ys ++ [l], by simp [hlen], fun i l' hi => ?_⟩
    rw [List.getElem?_append] at hi
    split at hi
    · exact hys i l' hi
    · rename_i hge
      have : i = n := by
        have h2 := (List.getElem?_eq_some_iff.1 hi).1
        simp at h2; omega
      subst this
      simp [hlen] at hi
      exact hi ▸ hl
mutual
theorem Sh.rd_of : ∀ (s : Sh) {t : TypeId} {fuel : Nat} {cs : List Value} {x : DataW H × List MemPlace}, s.fits P t = true → DataW.trod enc P w 0 spare held fuel t cs = some x → (∀ y ∈ x.1.weights P t, y ≤ reachBytes) → ∃ dv, s.rd w cs dv
  | .int k, t, fuel, cs, x, hf, h, _ => by
    simp only [Sh.fits] at hf
    split at hf
    · rename_i k' ht
      obtain rfl := sameKind_eq hf
      obtain ⟨n, hc, _, hw⟩ := DataW.trod_int ht h
      exact ⟨.int n, n, hc, rfl, hw⟩
    · cases hf
  | .bool, t, fuel, cs, x, hf, h, _ => by
    simp only [Sh.fits] at hf
    split at hf
    · rename_i ht
      obtain ⟨n, hc, _⟩ := DataW.trod_bool ht h
      exact ⟨.bool n, n, hc, rfl⟩
    · cases hf
  | .str, t, fuel, cs, x, hf, h, hw => by
    simp only [Sh.fits] at hf
    split at hf
    · rename_i ht
      obtain ⟨n, hc, hx, _⟩ := DataW.trod_string ht h
      refine ⟨.str n, n, hc, rfl, ?_⟩
      subst hx
      exact hw n.data.toList.length (by simp [DataW.weights])
    · cases hf
  | .slice bs s, t, fuel, cs, x, hf, h, hw => by
    simp only [Sh.fits] at hf
    split at hf
    · rename_i e ht
      simp only [Bool.and_eq_true] at hf
      obtain ⟨⟨⟨h1, h2⟩, h3⟩, h4⟩ := hf
      have h1 := Nat.eq_of_beq_eq_true h1
      have h2 : 0 < s.size := Nat.le_of_ble_eq_true h2
      have h3 := Nat.eq_of_beq_eq_true h3
      rcases open_slice ht h with ⟨hcs, _⟩ | ⟨a, len, cap, m, n, D, Pl, hcs, hb, hl, hm, hmm, hx, hi⟩
      · exact ⟨.arr [], _, [], hcs, rfl, by simp, .inl ⟨rfl, _, _, rfl⟩⟩
      · subst hx
        have hw' : (len + (m - len)) * P.bytesOf e ≤ reachBytes := hw _ (by simp [DataW.weights, ht])
        have hlm : len ≤ m := by rw [hmm]; split <;> omega
        rw [h1] at hi
        have each : ∀ i, i < len → ∃ xd, ∃ l : List Value, l.length = s.size ∧ (∀ j u, l[j]? = some u → w.cell? (a.add (i * s.size + j)) = some u) ∧ s.rd w l xd := fun i hil => by
          obtain ⟨cs', hc, ht'⟩ := hi i (by omega)
          obtain ⟨_, hcl, hat⟩ := World.cells?_some hc
          obtain ⟨dv, hdv⟩ := Sh.rd_of s h4 ht' (fun y hy => hw y (by
            simp only [DataW.weights, ht, List.mem_cons, List.mem_append]
            exact .inr (.inl (weightsAll_mem (List.mem_map.2 ⟨i, List.mem_range.2 hil, rfl⟩) y hy))))
          refine ⟨dv, cs', hcl, fun j u hu => ?_, hdv⟩
          have hjl : j < s.size := by have := (List.getElem?_eq_some_iff.1 hu).1; omega
          rw [← Go.Deep.add_add, hat j hjl]; exact hu
        obtain ⟨ds, hlen, hds⟩ := dvs_exist each
        refine ⟨.arr ds, _, ds, hcs, rfl, ?_, ?_⟩
        · rw [hlen, ← h3]
          exact Nat.le_trans (Nat.mul_le_mul_right _ (by omega)) hw'
        · by_cases h0 : len = 0
          · subst h0
            exact .inl ⟨List.length_eq_zero_iff.1 hlen, _, _, rfl⟩
          · obtain ⟨b, off, spot⟩ := a
            obtain ⟨l0, hl0, hc0, _⟩ := hds 0 _ (List.getElem?_eq_getElem (by omega))
            have hu0 : l0[0]? = some (l0[0]'(by omega)) := List.getElem?_eq_getElem (by omega)
            have hcell := hc0 0 _ hu0
            have hspot : spot = none := by simpa [Addr.add] using World.cell?_spot hcell
            subst hspot
            refine .inr ⟨b, off, cap, by rw [hlen], by omega, fun i xd hxd => ?_⟩
            obtain ⟨l, hl1, hl2, hl3⟩ := hds i xd hxd
            refine ⟨l, hl1, fun j u hu => ?_, hl3⟩
            have := hl2 j u hu
            rw [Addr.add_mk] at this
            exact this
    · cases hf
  | .agg ss, t, fuel, cs, x, hf, h, hw => by
    simp only [Sh.fits] at hf
    split at hf
    · rename_i fs ht
      simp only [Bool.and_eq_true] at hf
      obtain ⟨h1, h2⟩ := hf
      have h1 := Nat.eq_of_beq_eq_true h1
      obtain ⟨xs, n, _, hx, hcl, hxl, hfl⟩ := DataW.trod_struct ht h
      subst hx
      obtain ⟨ds, hds⟩ := Sh.rdL_of ss fs.toList 0 h2 (n := n) (cs := cs) (xs := xs) (by omega) (by simpa using hxl) (fun i f hf => hfl i f (by simpa using hf)) (fun y hy => hw y (by simpa [DataW.weights, ht] using hy))
      exact ⟨.agg ds, ds, rfl, by simpa using hds⟩
    · cases hf
theorem Sh.rdL_of : ∀ (ss : List Sh) (fs : List Field) (off : Nat), Sh.fitsL P ss fs off = true → ∀ {n : Nat} {cs : List Value} {xs : List (DataW H × List MemPlace)}, cs.length = off + Sh.sizeL ss → xs.length = fs.length →
    (∀ (i : Nat) (f : Field), fs[i]? = some f → DataW.trod enc P w 0 spare held n f.type ((cs.drop f.offset).take (P.cellsOf f.type)) = xs[i]?) → (∀ y ∈ DataW.weightsEach P (fs.map (·.type)) (xs.map (·.1)), y ≤ reachBytes) → ∃ ds, Sh.rdL w ss (cs.drop off) ds
  | [], [], off, _, n, cs, xs, hl, _, _, _ => ⟨[], by simp [Sh.sizeL] at hl; simp [hl], rfl⟩
  | [], _ :: _, off, hf, n, cs, xs, _, _, _, _ => by cases hf
  | _ :: _, [], off, hf, n, cs, xs, _, _, _, _ => by cases hf
  | s :: ss, f :: fs, off, hf, n, cs, xs, hl, hxl, hfl, hw => by
    simp only [Sh.fitsL, Bool.and_eq_true] at hf
    obtain ⟨⟨⟨h1, h2⟩, h3⟩, h4⟩ := hf
    have h1 := Nat.eq_of_beq_eq_true h1
    have h2 := Nat.eq_of_beq_eq_true h2
    cases xs with
    | nil => simp at hxl
    | cons x xs =>
      simp only [Sh.sizeL] at hl
      have hx := hfl 0 f rfl
      simp only [List.getElem?_cons_zero] at hx
      rw [h1, h2] at hx
      obtain ⟨dv, hdv⟩ := Sh.rd_of s h3 hx (fun y hy => hw y (by simp [DataW.weightsEach, hy]))
      obtain ⟨ds, hds⟩ := Sh.rdL_of ss fs (off + s.size) h4 (n := n) (cs := cs) (xs := xs) (by omega) (by simpa using hxl) (fun i f hf => by simpa using hfl (i + 1) f (by simpa using hf)) (fun y hy => hw y (by simp [DataW.weightsEach, hy]))
      refine ⟨dv :: ds, (cs.drop off).take s.size, cs.drop (off + s.size), dv, ds, ?_, rfl, ?_, hdv, hds⟩
      · rw [← List.drop_drop, List.take_append_drop]
      · rw [List.length_take, List.length_drop]; omega
end
end
/-- A row in the memory that came in. -/
def Base (w : World) (v : Value) (es n : Nat) (l : List Value) : Prop :=
  l.length = n * es ∧ (n = 0 ∧ (∃ a c, v = .slice a 0 c) ∨ ∃ b off c, v = .slice (some ⟨b, off, none⟩) n c ∧ n ≤ c ∧ ∀ k x, l[k]? = some x → w.cell? ⟨b, off + k, none⟩ = some x)
theorem Base.view {w0 : World} {v : Value} {es n : Nat} {l : List Value} {F : List HProp} (h : Base w0 v es n l) : Ent F (Go.Sx.view w0 v es n l :: F) := Ent.baseView h.1 h.2
theorem Base.form {w0 : World} {v : Value} {es n : Nat} {l : List Value} (h : Base w0 v es n l) : ∃ a c, v = .slice a n c := by
  rcases h.2 with ⟨rfl, a, c, rfl⟩ | ⟨b, off, c, rfl, _⟩
  · exact ⟨a, c, rfl⟩
  · exact ⟨_, c, rfl⟩
theorem Base.reads {w0 : World} {a : Option Addr} {c es n : Nat} {l : List Value} (h : Base w0 (.slice a n c) es n l) (hm : 0 < n) : ∃ ad, a = some ad ∧ ∀ H, ReadsL w0 H ad l := by
  rcases h.2 with ⟨rfl, _⟩ | ⟨b, off, c', hv, _, hr⟩
  · omega
  · injection hv with hv _ _
    exact ⟨_, hv, fun H j v hj => by rw [Addr.add_mk]; exact Reads.base (hr j v hj)⟩
theorem Base.rd1 {w0 : World} {a : Option Addr} {c n k : Nat} {l : List Value} {x : Value} (h : Base w0 (.slice a n c) 1 n l) (hk : l[k]? = some x) : ∃ b off, a = some ⟨b, off, none⟩ ∧ RdB w0 ⟨b, off + k * 1, none⟩ x := by
  rcases h.2 with ⟨rfl, _⟩ | ⟨b, off, c', hv, _, hr⟩
  · have := h.1
    have : l = [] := List.length_eq_zero_iff.1 (by omega)
    subst this; simp at hk
  · injection hv with hv _ _
    exact ⟨b, off, hv, ⟨fun H => by rw [Nat.mul_one]; exact Reads.base (hr k x hk)⟩⟩
theorem flat_one {α : Type} {enc : α → List Value} {f : α → Value} (he : ∀ x, enc x = [f x]) {xs : List α} {k : Nat} {x : α} (h : xs[k]? = some x) : (flat enc xs)[k]? = some (f x) := by
  have := flat_get (es := 1) (enc := enc) (fun x => by rw [he]; rfl) (j := 0) (v := f x) h (by rw [he]; rfl)
  simpa using this
theorem Base.rdF {α : Type} {enc : α → List Value} {w0 : World} {a : Option Addr} {c n k : Nat} {xs : List α} {x : α} (f : α → Value) (he : ∀ x, enc x = [f x]) (h : Base w0 (.slice a n c) 1 n (flat enc xs)) (hk : xs[k]? = some x) : ∃ b off, a = some ⟨b, off, none⟩ ∧ RdB w0 ⟨b, off + k * 1, none⟩ (f x) := h.rd1 (flat_one he hk)
theorem Base.rdS {α : Type} {enc : α → List Value} {es : Nat} {w0 : World} {a : Option Addr} {c n k : Nat} {xs : List α} {x : α} (h0 : 0 < es) (he : ∀ x, (enc x).length = es) (h : Base w0 (.slice a n c) es n (flat enc xs)) (hk : xs[k]? = some x) : ∃ b off, a = some ⟨b, off, none⟩ ∧ RdN w0 ⟨b, off + k * es, none⟩ es (enc x) ∧ ∀ (j : Nat) u, (enc x)[j]? = some u → RdB w0 ⟨b, off + k * es + j, none⟩ u := by
  rcases h.2 with ⟨rfl, _⟩ | ⟨b, off, c', hv, _, hr⟩
  · have h1 := h.1
    have hl := flat_length he xs
    have hkl := (List.getElem?_eq_some_iff.1 hk).1
    have : xs.length * es = 0 := by omega
    rcases Nat.mul_eq_zero.1 this with h | h <;> omega
  · injection hv with hv _ _
    have hg : ∀ (j : Nat) u, (enc x)[j]? = some u → (flat enc xs)[k * es + j]? = some u := fun j u hu => flat_get he hk hu
    refine ⟨b, off, hv, ⟨fun H => ⟨he x, fun j u hu => ?_⟩⟩, fun j u hu => ⟨fun H => ?_⟩⟩
    · rw [Addr.add_mk, Nat.add_assoc]; exact Reads.base (hr _ u (hg j u hu))
    · rw [Nat.add_assoc]; exact Reads.base (hr _ u (hg j u hu))
/-- A slice, its elements of a type of one's own. -/
theorem Sh.slice_of {α : Type} {w : World} {bs : Nat} {s : Sh} {v : Value} {d : DV} {enc : α → List Value} {p : α → Prop} (h : (Sh.slice bs s).rd w [v] d) (dec : ∀ l x, s.rd w l x → ∃ a, l = enc a ∧ p a) : ∃ xs : List α, xs.length * bs ≤ reachBytes ∧ (∀ a ∈ xs, p a) ∧ Base w v s.size xs.length (flat enc xs) := by
  obtain ⟨v', ds, hv, _, hbs, hr⟩ := h
  injection hv with hv _
  subst hv
  rcases hr with ⟨rfl, a, c, rfl⟩ | ⟨b, off, c, rfl, hc, hr⟩
  · exact ⟨[], by simp, (fun _ h => by cases h), by simp [flat], .inl ⟨rfl, a, c, rfl⟩⟩
  · have key : ∀ (ds : List DV) (k : Nat), (∀ i x, ds[i]? = some x → ∃ l : List Value, l.length = s.size ∧ (∀ j u, l[j]? = some u → w.cell? ⟨b, off + ((k + i) * s.size + j), none⟩ = some u) ∧ Sh.rd w s l x) → ∃ xs : List α, xs.length = ds.length ∧ (∀ a ∈ xs, p a ∧ (enc a).length = s.size) ∧ ∀ j u, (flat enc xs)[j]? = some u → w.cell? ⟨b, off + (k * s.size + j), none⟩ = some u := by
      intro ds
      induction ds with
      | nil => exact fun k _ => ⟨[], rfl, (fun _ h => by cases h), fun j u hj => by simp [flat] at hj⟩
      | cons x ds ih =>
        intro k hk
        obtain ⟨l, hl1, hl2, hl3⟩ := hk 0 x rfl
        obtain ⟨a, rfl, pa⟩ := dec l x hl3
        obtain ⟨xs, hx1, hx2, hx3⟩ := ih (k + 1) (fun i y hy => by
          obtain ⟨l', h1, h2, h3⟩ := hk (i + 1) y (by simpa using hy)
          exact ⟨l', h1, fun j u hu => by have := h2 j u hu; rwa [show k + 1 + i = k + (i + 1) by omega], h3⟩)
        refine ⟨a :: xs, by simp [hx1], fun y hy => ?_, fun j u hu => ?_⟩
        · rcases List.mem_cons.1 hy with rfl | hy
          · exact ⟨pa, hl1⟩
          · exact hx2 y hy
        · rw [flat_cons, List.getElem?_append] at hu
          split at hu
          · have := hl2 j u hu; rwa [Nat.add_zero] at this
          · rename_i hge
            have := hx3 _ u hu
            rw [hl1] at hge this
            rw [show k * s.size + j = (k + 1) * s.size + (j - s.size) by rw [Nat.add_mul]; omega]
            exact this
    obtain ⟨xs, h1, h2, h3⟩ := key ds 0 (fun i x hx => by simpa using hr i x hx)
    refine ⟨xs, by rw [h1]; exact hbs, fun a ha => (h2 a ha).1, ?_, .inr ⟨b, off, c, by rw [h1], by rw [h1]; exact hc, fun k x hx => by have := h3 k x hx; simpa using this⟩⟩
    have : ∀ xs : List α, (∀ a ∈ xs, p a ∧ (enc a).length = s.size) → (flat enc xs).length = xs.length * s.size := by
      intro xs
      induction xs with
      | nil => intro _; simp [flat]
      | cons a xs ih =>
        intro h
        rw [flat_cons, List.length_append, (h a (List.mem_cons_self ..)).2, ih (fun b hb => h b (List.mem_cons_of_mem _ hb)), List.length_cons, Nat.add_mul]; omega
    exact this xs h2
end Go.Sx
