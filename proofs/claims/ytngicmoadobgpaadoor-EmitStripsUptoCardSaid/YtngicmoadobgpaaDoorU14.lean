/- Some texts put together: lemmas and contracts for the law. Conditions: as each text says. -/
import Derived.Test.YtngicmoadobgpaaDoorU13
import Derived.Test.YtngicmoadobgpaaDoorU10
import Derived.Test.YtngicmoadobgpaaDoorU4
import Derived.Test.YtngicmoadobgpaaDoorU12
/- What a value that came in looks like, whatever its type: a tree of data, told by the type's shape. Conditions: none. -/
namespace Go.Sx
open Go Go.RowKit Go.WideShapes Go.Deep
/-- The shape of a type: numbers, bools, strings, slices (with the bytes of an element), structs. -/
inductive Sh where
  | int (k : IntKind) | bool | str | slice (bs : Nat) (s : Sh) | agg (ss : List Sh)
/-- Data. -/
inductive DV where
  | int (z : Int) | bool (b : Bool) | str (s : ByteArray) | arr (l : List DV) | agg (l : List DV)
mutual
def Sh.size : Sh → Nat
  | .int _ => 1
  | .bool => 1
  | .str => 1
  | .slice _ _ => 1
  | .agg ss => Sh.sizeL ss
def Sh.sizeL : List Sh → Nat
  | [] => 0
  | s :: l => s.size + Sh.sizeL l
end
mutual
def Sh.rd (w : World) : Sh → List Value → DV → Prop
  | .int k, cs, d => ∃ z, cs = [.int k z] ∧ d = .int z ∧ (Lit.int k z).wf = true
  | .bool, cs, d => ∃ b, cs = [.bool b] ∧ d = .bool b
  | .str, cs, d => ∃ s : ByteArray, cs = [.string s] ∧ d = .str s ∧ s.size ≤ reachBytes
  | .slice bs s, cs, d => ∃ v ds, cs = [v] ∧ d = .arr ds ∧ ds.length * bs ≤ reachBytes ∧ ((ds = [] ∧ ∃ a c, v = .slice a 0 c) ∨ ∃ b off c, v = .slice (some ⟨b, off, none⟩) ds.length c ∧ ds.length ≤ c ∧
      ∀ i x, ds[i]? = some x → ∃ l : List Value, l.length = s.size ∧ (∀ j u, l[j]? = some u → w.cell? ⟨b, off + (i * s.size + j), none⟩ = some u) ∧ Sh.rd w s l x)
  | .agg ss, cs, d => ∃ ds, d = .agg ds ∧ Sh.rdL w ss cs ds
def Sh.rdL (w : World) : List Sh → List Value → List DV → Prop
  | [], cs, ds => cs = [] ∧ ds = []
  | s :: ss, cs, ds => ∃ c1 c2 d ds', cs = c1 ++ c2 ∧ ds = d :: ds' ∧ c1.length = s.size ∧ Sh.rd w s c1 d ∧ Sh.rdL w ss c2 ds'
end
mutual
def Sh.fits (P : Program) : Sh → TypeId → Bool
  | .int k, t => match P.underlying t with | some (.int k') => sameKind k k' | _ => false
  | .bool, t => match P.underlying t with | some .bool => true | _ => false
  | .str, t => match P.underlying t with | some .string => true | _ => false
  | .slice bs s, t => match P.underlying t with | some (.slice e) => Nat.beq (P.cellsOf e) s.size && Nat.blt 0 s.size && Nat.beq (P.bytesOf e) bs && s.fits P e | _ => false
  | .agg ss, t => match P.underlying t with | some (.struct fs) => Nat.beq (P.cellsOf t) (Sh.sizeL ss) && Sh.fitsL P ss fs.toList 0 | _ => false
def Sh.fitsL (P : Program) : List Sh → List Field → Nat → Bool
  | [], [], _ => true
  | s :: ss, f :: fs, off => Nat.beq f.offset off && Nat.beq (P.cellsOf f.type) s.size && s.fits P f.type && Sh.fitsL P ss fs (off + s.size)
  | _, _, _ => false
end
section
variable {H : Type} {enc : TypeId × Value → H} {P : Program} {w : World} {spare : Nat → Bool} {held : Bool}
theorem weightsAll_mem {e : TypeId} : ∀ {l : List (DataW H)} {d : DataW H}, d ∈ l → ∀ x ∈ d.weights P e, x ∈ DataW.weightsAll P e l
  | [], _, h, _, _ => by cases h
  | d0 :: l, d, h, x, hx => by
    simp only [DataW.weightsAll, List.mem_append]
    rcases List.mem_cons.1 h with rfl | h
    · exact .inl hx
    · exact .inr (weightsAll_mem h x hx)
theorem dvs_exist {n : Nat} {p : Nat → DV → Prop} (h : ∀ i, i < n → ∃ x, p i x) : ∃ ds : List DV, ds.length = n ∧ ∀ i x, ds[i]? = some x → p i x := by
  induction n with
  | zero => exact ⟨[], rfl, fun i l hl => by simp at hl⟩
  | succ n ih =>
    obtain ⟨ys, hlen, hys⟩ := ih fun i hi => h i (by omega)
    obtain ⟨l, hl⟩ := h n (by omega)
    refine ⟨ys ++ [l], by simp [hlen], fun i l' hi => ?_⟩
    rw [List.getElem?_append] at hi
    split at hi
    · exact hys i l' hi
    · rename_i hge
      have : i = n := by
        have h2 := (List.getElem?_eq_some_iff.1 hi).1
        simp at h2; omega
      subst this
      simp [hlen] at hi
      exact hi ▸ hl
mutual
theorem Sh.rd_of : ∀ (s : Sh) {t : TypeId} {fuel : Nat} {cs : List Value} {x : DataW H × List MemPlace}, s.fits P t = true → DataW.trod enc P w 0 spare held fuel t cs = some x → (∀ y ∈ x.1.weights P t, y ≤ reachBytes) → ∃ dv, s.rd w cs dv
  | .int k, t, fuel, cs, x, hf, h, _ => by
    simp only [Sh.fits] at hf
    split at hf
    · rename_i k' ht
      obtain rfl := sameKind_eq hf
      obtain ⟨n, hc, _, hw⟩ := DataW.trod_int ht h
      exact ⟨.int n, n, hc, rfl, hw⟩
    · cases hf
  | .bool, t, fuel, cs, x, hf, h, _ => by
    simp only [Sh.fits] at hf
    split at hf
    · rename_i ht
      obtain ⟨n, hc, _⟩ := DataW.trod_bool ht h
      exact ⟨.bool n, n, hc, rfl⟩
    · cases hf
  | .str, t, fuel, cs, x, hf, h, hw => by
    simp only [Sh.fits] at hf
    split at hf
    · rename_i ht
      obtain ⟨n, hc, hx, _⟩ := DataW.trod_string ht h
      refine ⟨.str n, n, hc, rfl, ?_⟩
      subst hx
      exact hw n.data.toList.length (by simp [DataW.weights])
    · cases hf
  | .slice bs s, t, fuel, cs, x, hf, h, hw => by
    simp only [Sh.fits] at hf
    split at hf
    · rename_i e ht
      simp only [Bool.and_eq_true] at hf
      obtain ⟨⟨⟨h1, h2⟩, h3⟩, h4⟩ := hf
      have h1 := Nat.eq_of_beq_eq_true h1
      have h2 : 0 < s.size := Nat.le_of_ble_eq_true h2
      have h3 := Nat.eq_of_beq_eq_true h3
      rcases open_slice ht h with ⟨hcs, _⟩ | ⟨a, len, cap, m, n, D, Pl, hcs, hb, hl, hm, hmm, hx, hi⟩
      · exact ⟨.arr [], _, [], hcs, rfl, by simp, .inl ⟨rfl, _, _, rfl⟩⟩
      · subst hx
        have hw' : (len + (m - len)) * P.bytesOf e ≤ reachBytes := hw _ (by simp [DataW.weights, ht])
        have hlm : len ≤ m := by rw [hmm]; split <;> omega
        rw [h1] at hi
        have each : ∀ i, i < len → ∃ xd, ∃ l : List Value, l.length = s.size ∧ (∀ j u, l[j]? = some u → w.cell? (a.add (i * s.size + j)) = some u) ∧ s.rd w l xd := fun i hil => by
          obtain ⟨cs', hc, ht'⟩ := hi i (by omega)
          obtain ⟨_, hcl, hat⟩ := World.cells?_some hc
          obtain ⟨dv, hdv⟩ := Sh.rd_of s h4 ht' (fun y hy => hw y (by
            simp only [DataW.weights, ht, List.mem_cons, List.mem_append]
            exact .inr (.inl (weightsAll_mem (List.mem_map.2 ⟨i, List.mem_range.2 hil, rfl⟩) y hy))))
          refine ⟨dv, cs', hcl, fun j u hu => ?_, hdv⟩
          have hjl : j < s.size := by have := (List.getElem?_eq_some_iff.1 hu).1; omega
          rw [← Go.Deep.add_add, hat j hjl]; exact hu
        obtain ⟨ds, hlen, hds⟩ := dvs_exist each
        refine ⟨.arr ds, _, ds, hcs, rfl, ?_, ?_⟩
        · rw [hlen, ← h3]
          exact Nat.le_trans (Nat.mul_le_mul_right _ (by omega)) hw'
        · by_cases h0 : len = 0
          · subst h0
            exact .inl ⟨List.length_eq_zero_iff.1 hlen, _, _, rfl⟩
          · obtain ⟨b, off, spot⟩ := a
            obtain ⟨l0, hl0, hc0, _⟩ := hds 0 _ (List.getElem?_eq_getElem (by omega))
            have hu0 : l0[0]? = some (l0[0]'(by omega)) := List.getElem?_eq_getElem (by omega)
            have hcell := hc0 0 _ hu0
            have hspot : spot = none := by simpa [Addr.add] using World.cell?_spot hcell
            subst hspot
            refine .inr ⟨b, off, cap, by rw [hlen], by omega, fun i xd hxd => ?_⟩
            obtain ⟨l, hl1, hl2, hl3⟩ := hds i xd hxd
            refine ⟨l, hl1, fun j u hu => ?_, hl3⟩
            have := hl2 j u hu
            rw [Addr.add_mk] at this
            exact this
    · cases hf
  | .agg ss, t, fuel, cs, x, hf, h, hw => by
    simp only [Sh.fits] at hf
    split at hf
    · rename_i fs ht
      simp only [Bool.and_eq_true] at hf
      obtain ⟨h1, h2⟩ := hf
      have h1 := Nat.eq_of_beq_eq_true h1
      obtain ⟨xs, n, _, hx, hcl, hxl, hfl⟩ := DataW.trod_struct ht h
      subst hx
      obtain ⟨ds, hds⟩ := Sh.rdL_of ss fs.toList 0 h2 (n := n) (cs := cs) (xs := xs) (by omega) (by simpa using hxl) (fun i f hf => hfl i f (by simpa using hf)) (fun y hy => hw y (by simpa [DataW.weights, ht] using hy))
      exact ⟨.agg ds, ds, rfl, by simpa using hds⟩
    · cases hf
theorem Sh.rdL_of : ∀ (ss : List Sh) (fs : List Field) (off : Nat), Sh.fitsL P ss fs off = true → ∀ {n : Nat} {cs : List Value} {xs : List (DataW H × List MemPlace)}, cs.length = off + Sh.sizeL ss → xs.length = fs.length →
    (∀ (i : Nat) (f : Field), fs[i]? = some f → DataW.trod enc P w 0 spare held n f.type ((cs.drop f.offset).take (P.cellsOf f.type)) = xs[i]?) → (∀ y ∈ DataW.weightsEach P (fs.map (·.type)) (xs.map (·.1)), y ≤ reachBytes) → ∃ ds, Sh.rdL w ss (cs.drop off) ds
  | [], [], off, _, n, cs, xs, hl, _, _, _ => ⟨[], by simp [Sh.sizeL] at hl; simp [hl], rfl⟩
  | [], _ :: _, off, hf, n, cs, xs, _, _, _, _ => by cases hf
  | _ :: _, [], off, hf, n, cs, xs, _, _, _, _ => by cases hf
  | s :: ss, f :: fs, off, hf, n, cs, xs, hl, hxl, hfl, hw => by
    simp only [Sh.fitsL, Bool.and_eq_true] at hf
    obtain ⟨⟨⟨h1, h2⟩, h3⟩, h4⟩ := hf
    have h1 := Nat.eq_of_beq_eq_true h1
    have h2 := Nat.eq_of_beq_eq_true h2
    cases xs with
    | nil => simp at hxl
    | cons x xs =>
      simp only [Sh.sizeL] at hl
      have hx := hfl 0 f rfl
      simp only [List.getElem?_cons_zero] at hx
      rw [h1, h2] at hx
      obtain ⟨dv, hdv⟩ := Sh.rd_of s h3 hx (fun y hy => hw y (by simp [DataW.weightsEach, hy]))
      obtain ⟨ds, hds⟩ := Sh.rdL_of ss fs (off + s.size) h4 (n := n) (cs := cs) (xs := xs) (by omega) (by simpa using hxl) (fun i f hf => by simpa using hfl (i + 1) f (by simpa using hf)) (fun y hy => hw y (by simp [DataW.weightsEach, hy]))
      refine ⟨dv :: ds, (cs.drop off).take s.size, cs.drop (off + s.size), dv, ds, ?_, rfl, ?_, hdv, hds⟩
      · rw [← List.drop_drop, List.take_append_drop]
      · rw [List.length_take, List.length_drop]; omega
end
end
/-- A row in the memory that came in. -/
def Base (w : World) (v : Value) (es n : Nat) (l : List Value) : Prop :=
  l.length = n * es ∧ (n = 0 ∧ (∃ a c, v = .slice a 0 c) ∨ ∃ b off c, v = .slice (some ⟨b, off, none⟩) n c ∧ n ≤ c ∧ ∀ k x, l[k]? = some x → w.cell? ⟨b, off + k, none⟩ = some x)
theorem Base.view {w0 : World} {v : Value} {es n : Nat} {l : List Value} {F : List HProp} (h : Base w0 v es n l) : Ent F (Go.Sx.view w0 v es n l :: F) := Ent.baseView h.1 h.2
theorem Base.form {w0 : World} {v : Value} {es n : Nat} {l : List Value} (h : Base w0 v es n l) : ∃ a c, v = .slice a n c := by
  rcases h.2 with ⟨rfl, a, c, rfl⟩ | ⟨b, off, c, rfl, _⟩
  · exact ⟨a, c, rfl⟩
  · exact ⟨_, c, rfl⟩
theorem Base.reads {w0 : World} {a : Option Addr} {c es n : Nat} {l : List Value} (h : Base w0 (.slice a n c) es n l) (hm : 0 < n) : ∃ ad, a = some ad ∧ ∀ H, ReadsL w0 H ad l := by
  rcases h.2 with ⟨rfl, _⟩ | ⟨b, off, c', hv, _, hr⟩
  · omega
  · injection hv with hv _ _
    exact ⟨_, hv, fun H j v hj => by rw [Addr.add_mk]; exact Reads.base (hr j v hj)⟩
theorem Base.rd1 {w0 : World} {a : Option Addr} {c n k : Nat} {l : List Value} {x : Value} (h : Base w0 (.slice a n c) 1 n l) (hk : l[k]? = some x) : ∃ b off, a = some ⟨b, off, none⟩ ∧ RdB w0 ⟨b, off + k * 1, none⟩ x := by
  rcases h.2 with ⟨rfl, _⟩ | ⟨b, off, c', hv, _, hr⟩
  · have := h.1
    have : l = [] := List.length_eq_zero_iff.1 (by omega)
    subst this; simp at hk
  · injection hv with hv _ _
    exact ⟨b, off, hv, ⟨fun H => by rw [Nat.mul_one]; exact Reads.base (hr k x hk)⟩⟩
theorem flat_one {α : Type} {enc : α → List Value} {f : α → Value} (he : ∀ x, enc x = [f x]) {xs : List α} {k : Nat} {x : α} (h : xs[k]? = some x) : (flat enc xs)[k]? = some (f x) := by
  have := flat_get (es := 1) (enc := enc) (fun x => by rw [he]; rfl) (j := 0) (v := f x) h (by rw [he]; rfl)
  simpa using this
theorem Base.rdF {α : Type} {enc : α → List Value} {w0 : World} {a : Option Addr} {c n k : Nat} {xs : List α} {x : α} (f : α → Value) (he : ∀ x, enc x = [f x]) (h : Base w0 (.slice a n c) 1 n (flat enc xs)) (hk : xs[k]? = some x) : ∃ b off, a = some ⟨b, off, none⟩ ∧ RdB w0 ⟨b, off + k * 1, none⟩ (f x) := h.rd1 (flat_one he hk)
theorem Base.rdS {α : Type} {enc : α → List Value} {es : Nat} {w0 : World} {a : Option Addr} {c n k : Nat} {xs : List α} {x : α} (h0 : 0 < es) (he : ∀ x, (enc x).length = es) (h : Base w0 (.slice a n c) es n (flat enc xs)) (hk : xs[k]? = some x) : ∃ b off, a = some ⟨b, off, none⟩ ∧ RdN w0 ⟨b, off + k * es, none⟩ es (enc x) ∧ ∀ (j : Nat) u, (enc x)[j]? = some u → RdB w0 ⟨b, off + k * es + j, none⟩ u := by
  rcases h.2 with ⟨rfl, _⟩ | ⟨b, off, c', hv, _, hr⟩
  · have h1 := h.1
    have hl := flat_length he xs
    have hkl := (List.getElem?_eq_some_iff.1 hk).1
    have : xs.length * es = 0 := by omega
    rcases Nat.mul_eq_zero.1 this with h | h <;> omega
  · injection hv with hv _ _
    have hg : ∀ (j : Nat) u, (enc x)[j]? = some u → (flat enc xs)[k * es + j]? = some u := fun j u hu => flat_get he hk hu
    refine ⟨b, off, hv, ⟨fun H => ⟨he x, fun j u hu => ?_⟩⟩, fun j u hu => ⟨fun H => ?_⟩⟩
    · rw [Addr.add_mk, Nat.add_assoc]; exact Reads.base (hr _ u (hg j u hu))
    · rw [Nat.add_assoc]; exact Reads.base (hr _ u (hg j u hu))
/-- A slice, its elements of a type of one's own. -/
theorem Sh.slice_of {α : Type} {w : World} {bs : Nat} {s : Sh} {v : Value} {d : DV} {enc : α → List Value} {p : α → Prop} (h : (Sh.slice bs s).rd w [v] d) (dec : ∀ l x, s.rd w l x → ∃ a, l = enc a ∧ p a) : ∃ xs : List α, xs.length * bs ≤ reachBytes ∧ (∀ a ∈ xs, p a) ∧ Base w v s.size xs.length (flat enc xs) := by
  obtain ⟨v', ds, hv, _, hbs, hr⟩ := h
  injection hv with hv _
  subst hv
  rcases hr with ⟨rfl, a, c, rfl⟩ | ⟨b, off, c, rfl, hc, hr⟩
  · exact ⟨[], by simp, (fun _ h => by cases h), by simp [flat], .inl ⟨rfl, a, c, rfl⟩⟩
  · have key : ∀ (ds : List DV) (k : Nat), (∀ i x, ds[i]? = some x → ∃ l : List Value, l.length = s.size ∧ (∀ j u, l[j]? = some u → w.cell? ⟨b, off + ((k + i) * s.size + j), none⟩ = some u) ∧ Sh.rd w s l x) → ∃ xs : List α, xs.length = ds.length ∧ (∀ a ∈ xs, p a ∧ (enc a).length = s.size) ∧ ∀ j u, (flat enc xs)[j]? = some u → w.cell? ⟨b, off + (k * s.size + j), none⟩ = some u := by
      intro ds
      induction ds with
      | nil => exact fun k _ => ⟨[], rfl, (fun _ h => by cases h), fun j u hj => by simp [flat] at hj⟩
      | cons x ds ih =>
        intro k hk
        obtain ⟨l, hl1, hl2, hl3⟩ := hk 0 x rfl
        obtain ⟨a, rfl, pa⟩ := dec l x hl3
        obtain ⟨xs, hx1, hx2, hx3⟩ := ih (k + 1) (fun i y hy => by
          obtain ⟨l', h1, h2, h3⟩ := hk (i + 1) y (by simpa using hy)
          exact ⟨l', h1, fun j u hu => by have := h2 j u hu; rwa [show k + 1 + i = k + (i + 1) by omega], h3⟩)
        refine ⟨a :: xs, by simp [hx1], fun y hy => ?_, fun j u hu => ?_⟩
        · rcases List.mem_cons.1 hy with rfl | hy
          · exact ⟨pa, hl1⟩
          · exact hx2 y hy
        · rw [flat_cons, List.getElem?_append] at hu
          split at hu
          · have := hl2 j u hu; rwa [Nat.add_zero] at this
          · rename_i hge
            have := hx3 _ u hu
            rw [hl1] at hge this
            rw [show k * s.size + j = (k + 1) * s.size + (j - s.size) by rw [Nat.add_mul]; omega]
            exact this
    obtain ⟨xs, h1, h2, h3⟩ := key ds 0 (fun i x hx => by simpa using hr i x hx)
    refine ⟨xs, by rw [h1]; exact hbs, fun a ha => (h2 a ha).1, ?_, .inr ⟨b, off, c, by rw [h1], by rw [h1]; exact hc, fun k x hx => by have := h3 k x hx; simpa using this⟩⟩
    have : ∀ xs : List α, (∀ a ∈ xs, p a ∧ (enc a).length = s.size) → (flat enc xs).length = xs.length * s.size := by
      intro xs
      induction xs with
      | nil => intro _; simp [flat]
      | cons a xs ih =>
        intro h
        rw [flat_cons, List.length_append, (h a (List.mem_cons_self ..)).2, ih (fun b hb => h b (List.mem_cons_of_mem _ hb)), List.length_cons, Nat.add_mul]; omega
    exact this xs h2
end Go.Sx

/- The statements on chunked bodies: ChunkBound. Conditions: none. -/
namespace Go.Proofs.YtngicmoadobgpaaDoor
open Go Go.Sx Go.ChunkM Go.StrM
variable {w0 : World} {F H : List HProp} {K : Value → List HProp → Prop}
def lenc (l : List UInt8) : List Value := [kS l]
theorem lenc_len : ∀ l, (lenc l).length = 1 := fun _ => rfl
theorem texts_of {v : Value} {d : DV} (h : (Sh.slice 16 .str).rd w0 [v] d) : ∃ xs : List (List UInt8), xs.length * 16 ≤ 140737488351232 ∧ (∀ s ∈ xs, s.length ≤ 140737488351232) ∧ Base w0 v 1 xs.length (flat lenc xs) := by
  obtain ⟨xs, h1, h2, h3⟩ := Sh.slice_of (enc := lenc) (p := fun s => s.length ≤ 140737488351232) h (fun l x hx => by
    obtain ⟨b, rfl, _, hw⟩ := hx; exact ⟨b.data.toList, rfl, by have : b.size ≤ reachBytes := hw; simpa [reachBytes] using this⟩)
  exact ⟨xs, by simpa [reachBytes] using h1, h2, h3⟩
set_option maxHeartbeats 1000000 in
set_option maxRecDepth 20000 in
theorem chunk_bound {m : Int} {v : Value} {d : DV} (hm : -9223372036854775808 ≤ m ∧ m ≤ 9223372036854775807) (h1 : (Sh.slice 16 .str).rd w0 [v] d) : Tri Tryd.prog 4 #[kI m, v] w0 F fun v _ => v = .bool true := by
  obtain ⟨ps, hal, hao, hab⟩ := texts_of h1
  obtain ⟨a, c, rfl⟩ := hab.form
  have hlim : lim (rdy m 0 0) := hm
  refine Tri.enterF Tryd.func4 Tryd.ntmps4 Tryd.results4 rfl rfl fun fr hfr => ?_
  repeat' (first | refine walk ?_ | exact trivial | refine Tw.mk ?_ ?_ | intro hy | (intro (b : Nat)) | refine canchor_spec ?_ | (exfalso; omega) | refine dnew_spec (fun b => ?_) | fail)
  refine XS.loopI (ι := Nat × DS × Int) (fun q => [(0, kI m), (5, ptr b), (6, kI q.2.2), (19, .slice a ps.length c), (20, kI ps.length), (21, kI q.1)]) (fun q => dec b q.2.1 :: F) (fun q => q.1 ≤ ps.length ∧ Ok q.2.1 ∧ q.2.1.most = m ∧ 0 ≤ q.2.2 ∧ q.2.2 ≤ q.2.1.size) (fun q => ps.length - q.1) (0, rdy m 0 0, 0)
    ⟨Nat.zero_le _, rdy_ok, rfl, Int.le_refl _, Int.le_refl _⟩ ⟨rfl, rfl, rfl, rfl, rfl, rfl, trivial⟩ entA ?_
  rintro ⟨i, D, n⟩ e ⟨hi, hD, hmo, hn0, hn⟩ ih
  simp only at hi hD hmo hn0 hn
  dsimp only
  by_cases hlt : i < ps.length
  · obtain ⟨p, hp⟩ : ∃ c, ps[i]? = some c := ⟨_, List.getElem?_eq_getElem hlt⟩
    have hpl := hao p (List.mem_of_getElem? hp)
    obtain ⟨g, off, rfl, hrd⟩ := hab.rdF kS (fun _ => rfl) hp
    have hf := feed_facts (fld := fieldOk) hD p
    generalize hB : feed fieldOk D p = B at hf
    obtain ⟨D1, o, k, t, er⟩ := B
    dsimp only at hf
    obtain ⟨f1, f2, f3, f4, f5, f6⟩ := hf
    have s0 := f1.s0
    have s1 := f1.s1
    rw [f2, hmo] at s1
    repeat' (first | refine walk ?_ | exact trivial | refine Tw.mk ?_ ?_ | intro hy | (exfalso; omega) | refine feed_at hB hpl hD (by unfold lim; rw [hmo]; exact hm) ?_ | (exfalso; exact absurd (f6 (by assumption)) (by assumption)) | exact ih (i + 1, D1, n + o.length) _ _ ⟨hlt, f1, f2.trans hmo, by simp only; omega, by simp only; omega⟩ (by simp only; omega) ⟨rfl, rfl, rfl, rfl, rfl, rfl, trivial⟩ entA | fail)
  · obtain rfl : i = ps.length := by omega
    repeat' (first | refine walk ?_ | exact trivial | refine Tw.mk ?_ ?_ | intro hy | (exfalso; omega) | exact Out.i rfl | fail)
end Go.Proofs.YtngicmoadobgpaaDoor

/- Contracts: a size is written in the base of sixteen. Conditions: the listed table's one cell that is read. -/
namespace Go.Proofs.YtngicmoadobgpaaDoor
open Go Go.Sx Go.ChunkM Go.StrM
variable {w0 : World} {F H : List HProp} {K : Value → List HProp → Prop}
/-- The cell of the table that TrailingZeros of 16 reads. -/
abbrev TZ (w0 : World) : Prop := RdB w0 ⟨2, 15, none⟩ (.int .u8 4)
theorem tz_spec (hz : TZ w0) (h : K (kI 4) F) : Tri Tryd.prog 107 #[.int .u64 16] w0 F K := by
  refine Tri.enterF Tryd.func107 Tryd.ntmps107 Tryd.results107 rfl rfl fun fr hfr => ?_
  repeat' (first | refine XS.seq ?_ | refine XS.region (T := TT) ?_ | refine XS.condF rfl ?_ | refine XS.skip ?_ | refine XO.negN (a := 16) TT_ok rfl rfl rfl rfl rfl (by decide) (by decide) ?_ | refine XO.andN 64 (a := 16) (b := 2 ^ 64 - 16) TT_ok rfl rfl rfl rfl rfl rfl rfl (by decide) (by decide) ?_ | refine XO.mulU (a := 16) (b := 285870213051353865) TT_ok rfl rfl rfl rfl rfl rfl ?_ | refine XO.shrN 58 (a := 16 * 285870213051353865 % 2 ^ 64) TT_ok rfl rfl rfl rfl rfl rfl (by decide) ?_ | refine XO.indexArrN (i := 15) TT_ok rfl rfl rfl rfl rfl rfl rfl (by decide) ?_ | refine XO.load TT_ok rfl rfl rfl rfl rfl rfl (RdB.r hz) ?_ | refine XO.pF TT_ok rfl rfl rfl rfl rfl ?_ | refine XO.convN 8 (a := 4) TT_ok rfl rfl rfl rfl rfl rfl rfl rfl (by decide) ?_ | refine XO.q TT_ok rfl rfl rfl rfl rfl ?_ | refine XO.nil ?_ | refine XS.ret1F TT_ok (by assumption) resA1 ?_)
  exact Out.i h
set_option maxRecDepth 20000 in
theorem tz0_spec (hz : TZ w0) (h : K (kI 4) F) : Tri Tryd.prog 97 #[.int .u64 16] w0 F K := by
  refine Tri.enterF Tryd.func97 Tryd.ntmps97 Tryd.results97 rfl rfl fun fr hfr => ?_
  repeat' (first | refine walk ?_ | exact trivial | refine Tw.mk ?_ ?_ | refine tz_spec hz ?_ | exact Out.i h | fail)
set_option maxRecDepth 20000 in
theorem pow2_spec (h : K (.bool true) F) : Tri Tryd.prog 96 #[kI 16] w0 F K := by
  refine Tri.enterF Tryd.func96 Tryd.ntmps96 Tryd.results96 rfl rfl fun fr hfr => ?_
  repeat' (first | refine walk ?_ | exact trivial | refine Tw.mk ?_ ?_ | (intro hy; exact absurd rfl hy) | intro hy | exact Out.i h | fail)
/-- The digits behind the noughts of the array. -/
def arr (i : Nat) (ds : List UInt8) : List Value := List.replicate i (.int .u8 0) ++ bys ds
theorem arr_len (i : Nat) (ds : List UInt8) : (arr i ds).length = i + ds.length := by simp [arr, bys_length]
theorem arr_wr (j : Nat) (ds : List UInt8) (c : UInt8) : wr (arr (j + 1) ds) (0 + j * 1) [kB c] = arr j (c :: ds) := by
  have e : 0 + j * 1 = j := by omega
  rw [e]
  show wr ((arr (j + 1) ds).set j (kB c)) (j + 1) [] = _
  show (arr (j + 1) ds).set j (kB c) = _
  unfold arr
  rw [List.replicate_succ', List.append_assoc, List.set_append_right _ _ (by simp)]
  simp [bys]
theorem arr_reads {b i : Nat} {t : TypeId} {ds : List UInt8} : ReadsL w0 (cel b t (arr i ds) :: F) ⟨b, i * 1, none⟩ (bys ds) := by
  have h := ReadsL.here (w0 := w0) (b := b) (t := t) (l := arr i ds) (F := F) (off := i * 1) ds.length
  have e : (((arr i ds).drop (i * 1)).take ds.length) = bys ds := by
    unfold arr
    rw [Nat.mul_one, List.drop_append_of_le_length (by simp), List.drop_of_length_le (by simp), List.nil_append, List.take_of_length_le (by simp [bys_length])]
  rw [e] at h; exact h
theorem digs_at : ∀ d : Nat, d < 16 → ([48, 49, 50, 51, 52, 53, 54, 55, 56, 57, 97, 98, 99, 100, 101, 102, 103, 104, 105, 106, 107, 108, 109, 110, 111, 112, 113, 114, 115, 116, 117, 118, 119, 120, 121, 122] : List UInt8)[d]? = some (dig d) := by decide
set_option maxHeartbeats 1000000 in
set_option maxRecDepth 20000 in
theorem fbits_spec {n : Nat} (hz : TZ w0) (h0 : n ≠ 0) (hn : n < 9223372036854775808) (h : K (.tuple #[.slice none 0 0, kS (hexE n)]) F) : Tri Tryd.prog 81 #[.slice none 0 0, .int .u64 n, kI 16, .bool false, .bool false] w0 F K := by
  have hlen : (hexE n).length ≤ 16 := hexE_len 16 n (by omega)
  refine Tri.enterF Tryd.func81 Tryd.ntmps81 Tryd.results81 rfl rfl fun fr hfr => ?_
  repeat' (first | refine walk ?_ | exact trivial | refine Tw.mk ?_ ?_ | intro hy | (intro (b : Nat)) | refine pow2_spec ?_ | refine tz0_spec hz ?_ | (exfalso; omega) | fail)
  rename_i b _ _
  refine XS.loopI (ι := Nat × Nat × List UInt8) (fun q => [(0, .slice none 0 0), (1, .int .u64 q.2.1), (3, .bool false), (4, .bool false), (10, .slice none 0 0), (11, kS []), (12, ptr b), (13, kI q.1), (14, .int .u64 4), (15, .int .u64 16), (16, .int .u64 15)]) (fun q => cel b 134 (arr q.1 q.2.2) :: F) (fun q => q.1 + q.2.2.length = 65 ∧ q.2.1 ≠ 0 ∧ q.2.1 ≤ n ∧ hexE n = hexE q.2.1 ++ q.2.2) (fun q => q.2.1) (65, n, [])
    ⟨rfl, h0, Nat.le_refl _, by simp⟩ ⟨rfl, rfl, rfl, rfl, rfl, rfl, rfl, rfl, rfl, rfl, rfl, trivial⟩ (Ent.refl _) ?_
  rintro ⟨i, u, ds⟩ e ⟨hi, hu0, hun, hx⟩ ih
  simp only at hi hu0 hun hx
  dsimp only
  have hl2 := congrArg List.length hx
  rw [List.length_append] at hl2
  obtain ⟨j, rfl⟩ : ∃ j, i = j + 1 := ⟨i - 1, by omega⟩
  by_cases hu : 16 ≤ u
  · have hd : ([48, 49, 50, 51, 52, 53, 54, 55, 56, 57, 97, 98, 99, 100, 101, 102, 103, 104, 105, 106, 107, 108, 109, 110, 111, 112, 113, 114, 115, 116, 117, 118, 119, 120, 121, 122] : List UInt8)[u &&& 15]? = some (dig (u % 16)) := by
      rw [show u &&& 15 = u % 16 from Nat.and_two_pow_sub_one_eq_mod u 4]; exact digs_at _ (Nat.mod_lt _ (by decide))
    have hux := hexE_pos hu0
    repeat' (first | refine walk ?_ | exact trivial | refine Tw.mk ?_ ?_ | intro hy | (exfalso; omega) | refine XO.idxArr j TT_ok rfl rfl rfl rfl rfl rfl rfl (by omega) (by omega) ?_ | refine XO.storeW (arr_wr j ds (dig (u % 16))) (by rw [arr_len]; show 0 + j * 1 + 1 ≤ _; omega) TT_ok trivial rfl rfl rfl rfl rfl rfl rfl rfl trivial ?_ | fail)
    exact ih (j, u / 2 ^ 4, dig (u % 16) :: ds) _ _ ⟨by simp only [List.length_cons]; omega, by simp only; omega, by simp only; omega, by simp only; rw [hx, hux, List.append_assoc]; rfl⟩ (by simp only; omega) ⟨rfl, rfl, rfl, rfl, rfl, rfl, rfl, congrArg kI (by omega), rfl, rfl, rfl, trivial⟩ entA
  · clear ih
    have hd := digs_at u (by omega)
    have hux : hexE u = [dig u] := by rw [hexE_pos hu0, show u / 16 = 0 by omega, hexE_zero, show u % 16 = u by omega]; rfl
    rw [hux] at hx
    rw [hx] at h
    repeat' (first | refine walk ?_ | exact trivial | refine Tw.mk ?_ ?_ | intro hy | (exfalso; omega) | refine XO.idxArr j TT_ok rfl rfl rfl rfl rfl rfl rfl (by omega) (by omega) ?_ | refine XO.storeW (arr_wr j ds (dig u)) (by rw [arr_len]; show 0 + j * 1 + 1 ≤ _; omega) TT_ok trivial rfl rfl rfl rfl rfl rfl rfl rfl trivial ?_ | refine XO.sliceArr (i := j) TT_ok rfl rfl rfl rfl rfl rfl rfl (by omega) (by omega) ?_ | refine XO.strAt (l := dig u :: ds) TT_ok trivial rfl rfl rfl rfl rfl rfl rfl (by simp only [List.length_cons]; omega) arr_reads ?_ | fail)
    exact Out.s0 h
end Go.Proofs.YtngicmoadobgpaaDoor

/- Contracts: a chunk is written, by the program and by the document. Conditions: the listed table's one cell that is read. -/
namespace Go.Proofs.YtngicmoadobgpaaDoor
open Go Go.Sx Go.ChunkM Go.StrM
variable {w0 : World} {F H : List HProp} {K : Value → List HProp → Prop}
set_option maxRecDepth 20000 in
theorem fint0_spec {n : Nat} (hz : TZ w0) (h0 : n ≠ 0) (hn : n < 9223372036854775808) (h : K (kS (hexE n)) F) : Tri Tryd.prog 63 #[kI n, kI 16] w0 F K := by
  refine Tri.enterF Tryd.func63 Tryd.ntmps63 Tryd.results63 rfl rfl fun fr hfr => ?_
  repeat' (first | refine walk ?_ | exact trivial | refine Tw.mk ?_ ?_ | (intro hy; exact absurd hy (by decide)) | intro hy | (exfalso; omega) | refine fbits_spec hz h0 hn ?_ | exact Out.i h | fail)
theorem fint_spec {n : Nat} (hz : TZ w0) (h0 : n ≠ 0) (hn : n < 9223372036854775808) (h : K (kS (hexE n)) F) : Tri Tryd.prog 40 #[kI n, kI 16] w0 F K := by
  refine Tri.enterF Tryd.func40 Tryd.ntmps40 Tryd.results40 rfl rfl fun fr hfr => ?_
  repeat' (first | refine walk ?_ | exact trivial | refine Tw.mk ?_ ?_ | refine fint0_spec hz h0 hn ?_ | exact Out.i h | fail)
theorem last_spec (h : K (kS [48, 13, 10, 13, 10]) F) : Tri Tryd.prog 17 #[] w0 F K := by
  refine Tri.enterF Tryd.func17 Tryd.ntmps17 Tryd.results17 rfl rfl fun fr hfr => ?_
  repeat' (first | refine walk ?_ | exact trivial | refine Tw.mk ?_ ?_ | exact Out.i h | fail)
theorem enc_spec {l : List UInt8} (hz : TZ w0) (hl : l.length ≤ 140737488351232) (h : K (kS (encT l)) F) : Tri Tryd.prog 16 #[kS l] w0 F K := by
  by_cases h0 : l = []
  · subst h0
    refine Tri.enterF Tryd.func16 Tryd.ntmps16 Tryd.results16 rfl rfl fun fr hfr => ?_
    repeat' (first | refine walk ?_ | exact trivial | refine Tw.mk ?_ ?_ | intro hy | exact Out.i h | fail)
  · have hp : 0 < l.length := List.length_pos_iff.2 h0
    have hb := hexE_len 16 l.length (by omega)
    have e1 : encT l = hexE l.length ++ [13, 10] ++ l ++ [13, 10] := by simp [encT, h0]
    rw [e1] at h
    refine Tri.enterF Tryd.func16 Tryd.ntmps16 Tryd.results16 rfl rfl fun fr hfr => ?_
    repeat' (first | refine walk ?_ | exact trivial | refine Tw.mk ?_ ?_ | intro hy | (exfalso; exact h0 (by assumption)) | refine fint_spec hz (by omega) (by omega) ?_ | exact Out.i h | fail)
end Go.Proofs.YtngicmoadobgpaaDoor

/- Contracts: the document's chunk; the document's Trim. Conditions: none. -/
namespace Go.Proofs.YtngicmoadobgpaaDoor
open Go Go.Sx Go.ChunkM Go.StrM
variable {w0 : World} {F H : List HProp} {K : Value → List HProp → Prop}
theorem row_of {a : Option Addr} {c n : Nat} {l : List UInt8} {vs : List Value} (hn : n = l.length) (hv : vs = bys l) : Ent (Row a c 5 1 n vs :: F) (bRow a c l :: F) := by subst hn hv; exact Ent.refl _
theorem dig_lo {x : Nat} (h : x ≤ 9) : ((48 : Int) + x) = ((dig x).toNat : Int) := by
  have : ∀ x : Nat, x < 10 → (dig x).toNat = 48 + x := by decide
  have := this x (by omega); omega
theorem dig_hi {x : Nat} (h : 9 < x) (h2 : x < 16) : ((97 : Int) + x - 10) = ((dig x).toNat : Int) := by
  have : ∀ x : Nat, x < 16 → 9 < x → (dig x).toNat = 87 + x := by decide
  have := this x h2 h; omega
theorem dig_any {x : Nat} (h : x < 16) : ((48 : Int) + x) = ((48 + x).toUInt8.toNat : Int) := by
  have : ∀ x : Nat, x < 16 → (48 + x).toUInt8.toNat = 48 + x := by decide
  have := this x h; omega
theorem bRow_snoc {a : Option Addr} {c : Nat} {l : List UInt8} {x : UInt8} : bRow a c (l ++ [x]) = Row a c 5 1 (l.length + 1) (bys l ++ [kB x]) := by simp [bRow, bys]
set_option maxHeartbeats 1000000 in
set_option maxRecDepth 20000 in
theorem renc_spec {l : List UInt8} (hl : l.length < 268435456) (h : ∀ a c, K (.slice a (encT l).length c) (bRow a c (encT l) :: F)) : Tri Tryd.prog 13 #[kS l] w0 F K := by
  refine Tri.enterF Tryd.func13 Tryd.ntmps13 Tryd.results13 rfl rfl fun fr hfr => ?_
  repeat' (first | refine walk ?_ | exact trivial | refine Tw.mk ?_ ?_ | fail)
  refine XS.loopI (ι := Nat × List UInt8 × Option Addr × Nat) (fun q => [(0, kS l), (3, .slice q.2.2.1 q.2.1.length q.2.2.2), (4, kI q.1)]) (fun q => bRow q.2.2.1 q.2.2.2 q.2.1 :: F) (fun q => (q.1 = 0 ∧ q.2.1 = hexE l.length) ∨ ∃ j, j ≤ 7 ∧ q.1 = 16 ^ j ∧ q.2.1 = hexE (l.length / 16 ^ (j + 1))) (fun q => q.1) (268435456, [], none, 0)
    (.inr ⟨7, by decide, by decide, by rw [show l.length / 16 ^ (7 + 1) = 0 by omega, hexE_zero]⟩) ⟨rfl, rfl, rfl, trivial⟩ (Row.nil 5 1 F) ?_
  rintro ⟨d, out, a, c⟩ e hp ih
  dsimp only at hp ⊢
  have hexl : ∀ m : Nat, m < 268435456 → (hexE m).length ≤ 8 := fun m hm => hexE_len 8 m (by omega)
  have ol : out.length ≤ 8 := by
    rcases hp with ⟨_, rfl⟩ | ⟨j, _, _, rfl⟩
    · exact hexl _ (by omega)
    · exact hexl _ (Nat.lt_of_le_of_lt (Nat.div_le_self ..) hl)
  by_cases hx : 0 < d ∧ 0 < l.length
  · obtain ⟨hd0, hL⟩ := hx
    obtain ⟨j, hj, rfl, ho⟩ : ∃ j, j ≤ 7 ∧ d = 16 ^ j ∧ out = hexE (l.length / 16 ^ (j + 1)) := by
      rcases hp with ⟨h0, _⟩ | h
      · omega
      · exact h
    have hq : l.length / 16 ^ (j + 1) = l.length / 16 ^ j / 16 := by rw [Nat.pow_succ, Nat.div_div_eq_div_mul]
    rw [hq] at ho
    have hnext : ∀ o2, o2 = hexE (l.length / 16 ^ j) → (16 ^ j / 16 = 0 ∧ o2 = hexE l.length) ∨ ∃ i, i ≤ 7 ∧ 16 ^ j / 16 = 16 ^ i ∧ o2 = hexE (l.length / 16 ^ (i + 1)) := by
      intro o2 h2
      cases j with
      | zero => left; exact ⟨by decide, by rw [h2]; simp⟩
      | succ i => right; exact ⟨i, by omega, by rw [Nat.pow_succ, Nat.mul_div_cancel _ (by decide)], h2⟩
    have hlt : 16 ^ j / 16 < 16 ^ j := by omega
    have hdl : 16 ^ j ≤ 268435456 := by
      have : 16 ^ j ≤ 16 ^ 7 := Nat.pow_le_pow_right (by decide) hj
      have h7 : 16 ^ 7 = 268435456 := by decide
      omega
    generalize hd : 16 ^ j = d at *
    have hx16 : l.length / d % 16 < 16 := Nat.mod_lt _ (by decide)
    by_cases hsk : l.length / d % 16 = 0 ∧ out.length = 0
    · have hq0 : l.length / d = 0 := by
        have : hexE (l.length / d / 16) = [] := by rw [← ho]; exact List.length_eq_zero_iff.1 hsk.2
        have h16 : l.length / d / 16 = 0 := by
          rcases Nat.eq_zero_or_pos (l.length / d / 16) with h | h
          · exact h
          · exact absurd this (hexE_ne (by omega))
        omega
      have hn := hnext out (by rw [hq0, hexE_zero]; exact List.length_eq_zero_iff.1 hsk.2)
      repeat' (first | refine walk ?_ | exact trivial | refine Tw.mk ?_ ?_ | intro hy | (exfalso; omega) | exact ih (d / 16, out, a, c) _ _ hn hlt ⟨rfl, rfl, rfl, trivial⟩ entA | fail)
    · have hq0 : l.length / d ≠ 0 := fun h0 => hsk ⟨by rw [h0], by rw [ho, h0, hexE_zero]; rfl⟩
      have hn := hnext (out ++ [dig (l.length / d % 16)]) (by rw [hexE_pos hq0, ← ho])
      have ol : out.length ≤ 8 := ol
      by_cases h9 : l.length / d % 16 ≤ 9
      · have hz1 := dig_lo h9
        repeat' (first | refine walk ?_ | exact trivial | refine Tw.mk ?_ ?_ | intro hy | (intro (bx : Nat)) | (exfalso; omega) | (refine XO.sel1 (c := bRow a c out) ?_; refine XO.append (m := 1) (N := 4294967296) (news := [kB (dig (l.length / d % 16))]) TT_ok trivial rfl rfl rfl rfl rfl rfl rfl rfl rfl rfl rfl (ReadsL.skip (ReadsL.here 1)) rfl (by decide) rfl (by omega) rfl rfl (fun _ _ => trivial) (fun a' c' => ?_)) | fail)
        all_goals (rename_i a' c'; exact ih (d / 16, out ++ [dig (l.length / d % 16)], a', c') _ _ hn hlt ⟨rfl, congrArg (fun n => Value.slice a' n c') (by simp), rfl, trivial⟩ (Ent.trans (row_of (by simp) (by simp [bys])) (Ent.cons _ (Ent.drop _ _))))
      · have hz1 := dig_any hx16
        have hz2 := dig_hi (by omega : 9 < l.length / d % 16) hx16
        repeat' (first | refine walk ?_ | exact trivial | refine Tw.mk ?_ ?_ | intro hy | (intro (bx : Nat)) | (exfalso; omega) | (refine XO.sel1 (c := bRow a c out) ?_; refine XO.append (m := 1) (N := 4294967296) (news := [kB (dig (l.length / d % 16))]) TT_ok trivial rfl rfl rfl rfl rfl rfl rfl rfl rfl rfl rfl (ReadsL.skip (ReadsL.here 1)) rfl (by decide) rfl (by omega) rfl rfl (fun _ _ => trivial) (fun a' c' => ?_)) | fail)
        all_goals (rename_i a' c'; exact ih (d / 16, out ++ [dig (l.length / d % 16)], a', c') _ _ hn hlt ⟨rfl, congrArg (fun n => Value.slice a' n c') (by simp), rfl, trivial⟩ (Ent.trans (row_of (by simp) (by simp [bys])) (Ent.cons _ (Ent.drop _ _))))
  · clear ih
    have fin : ∀ (a : Option Addr) (c n : Nat) (vs : List Value) (G : List HProp), n = (encT l).length → vs = bys (encT l) → Ent G F → Out K (.slice a n c) (Row a c 5 1 n vs :: G) := fun a c n vs G h1 h2 h3 => by
      subst h1 h2; exact Out.e (h a c) (Ent.cons _ h3)
    by_cases hL : l.length = 0
    · have hl0 := List.length_eq_zero_iff.1 hL
      have ho : out = [] := by
        rcases hp with ⟨_, rfl⟩ | ⟨j, _, _, rfl⟩
        · rw [hL, hexE_zero]
        · rw [hL, Nat.zero_div, hexE_zero]
      repeat' (first | refine walk ?_ | exact trivial | refine Tw.mk ?_ ?_ | intro hy | (exfalso; omega) | exact fin _ _ _ _ _ (by rw [ho, hl0]; rfl) (by rw [ho, hl0]; rfl) (Ent.refl _) | fail)
    · have ho : out = hexE l.length := by
        rcases hp with ⟨_, h⟩ | ⟨j, _, h, _⟩
        · exact h
        · exact absurd ⟨by rw [h]; exact Nat.pow_pos (by decide), by omega⟩ hx
      have hne : l ≠ [] := fun h => hL (by rw [h]; rfl)
      have e1 : encT l = out ++ [13, 10] ++ l ++ [13, 10] := by rw [ho]; simp [encT, hne]
      repeat' (first | refine walk ?_ | exact trivial | refine Tw.mk ?_ ?_ | intro hy | (intro (bx : Nat)) | (exfalso; omega) | (refine XO.sel1 (c := Row _ _ 5 1 _ _) ?_; refine XO.append (m := 1) (N := 4294967296) (news := [.int .u8 13]) TT_ok trivial rfl rfl rfl rfl rfl rfl rfl rfl rfl rfl rfl (ReadsL.skip (ReadsL.here 1)) rfl (by decide) rfl (by omega) rfl rfl (fun _ _ => trivial) (fun a' c' => ?_)) | (refine XO.sel1 (c := Row _ _ 5 1 _ _) ?_; refine XO.append (m := 1) (N := 4294967296) (news := [.int .u8 10]) TT_ok trivial rfl rfl rfl rfl rfl rfl rfl rfl rfl rfl rfl (ReadsL.skip (ReadsL.here 1)) rfl (by decide) rfl (by omega) rfl rfl (fun _ _ => trivial) (fun a' c' => ?_)) | (refine XO.sel1 (c := Row _ _ 5 1 _ _) ?_; refine XO.appendS TT_ok trivial rfl rfl rfl rfl rfl rfl rfl rfl rfl rfl rfl (by omega) (fun _ _ => trivial) (fun a' c' hn => ?_)) | fail)
      exact fin _ _ _ _ _ (by rw [e1]; simp only [List.length_append, List.length_cons, List.length_nil]) (by rw [e1]; simp [bys]) dropA
end Go.Proofs.YtngicmoadobgpaaDoor

/- Contracts: the document's Trim. Conditions: none. -/
namespace Go.Proofs.YtngicmoadobgpaaDoor
open Go Go.Sx Go.ChunkM Go.StrM
variable {w0 : World} {F H : List HProp} {K : Value → List HProp → Prop}
theorem blank_spec {c : UInt8} (h1 : isBl c = true → K (.bool true) F) (h2 : isBl c = false → K (.bool false) F) : Tri Tryd.prog 39 #[kB c] w0 F K := by
  have hi := isBl_iff c
  refine Tri.enterF Tryd.func39 Tryd.ntmps39 Tryd.results39 rfl rfl fun fr hfr => ?_
  repeat' (first | refine walk ?_ | exact trivial | refine Tw.mk ?_ ?_ | intro hy | fail)
  all_goals first
    | exact Out.i (h1 (hi.2 (by omega)))
    | exact Out.i (h2 (by cases hb : isBl c; rfl; have := hi.1 hb; omega))
set_option maxRecDepth 20000 in
theorem rtrim_spec {l : List UInt8} (hl : l.length ≤ 4611686018427387904) (h : K (kS (trim l)) F) : Tri Tryd.prog 14 #[kS l] w0 F K := by
  refine Tri.enterF Tryd.func14 Tryd.ntmps14 Tryd.results14 rfl rfl fun fr hfr => ?_
  refine walkn ?_
  refine ⟨?_, trivial⟩
  refine XS.joinM (ι := Nat) (fun i => [(0, kS l), (3, kI i), (4, kI l.length)]) (fun _ => F) (fun i => i ≤ l.length ∧ (∀ (j : Nat) c, j < i → l[j]? = some c → isBl c = true) ∧ (∀ c, l[i]? = some c → isBl c = false)) ?_ (fun hj => ?_)
  · rintro i e ⟨hi, hb, hn⟩
    repeat' (first | refine walk ?_ | exact trivial | refine Tw.mk ?_ ?_ | fail)
    refine XS.loopI (ι := Nat) (fun k => [(0, kS l), (3, kI i), (4, kI k)]) (fun _ => F) (fun k => i ≤ k ∧ k ≤ l.length ∧ ∀ (j : Nat) c, k ≤ j → l[j]? = some c → isBl c = true) (fun k => k) l.length ⟨hi, Nat.le_refl _, fun j c hj hc => absurd (List.getElem?_eq_some_iff.1 hc).1 (by omega)⟩ ⟨rfl, rfl, rfl, trivial⟩ entA ?_
    rintro k e ⟨k1, k2, k3⟩ ih
    have fin : (i < k → ∀ c, l[k - 1]? = some c → isBl c = false) → (l.drop i).take (k - i) = trim l := fun hc => trim_cut k1 k2 hb k3 (fun h => ⟨hn, hc h⟩)
    by_cases hlt : i < k
    · obtain ⟨m, rfl⟩ : ∃ m, k = m + 1 := ⟨k - 1, by omega⟩
      obtain ⟨c, hc⟩ : ∃ c, l[m]? = some c := ⟨_, List.getElem?_eq_getElem (by omega)⟩
      have hc2 : l[(((m + 1 : Nat) : Int) - 1).toNat]? = some c := by rw [show (((m + 1 : Nat) : Int) - 1).toNat = m by omega]; exact hc
      have hs : isBl c = true → ∀ (j : Nat) x, m ≤ j → l[j]? = some x → isBl x = true := fun hbl j x hj hx => by
        by_cases e : j = m
        · subst e; rw [hc] at hx; injection hx with hx; subst hx; exact hbl
        · exact k3 j x (by omega) hx
      have hf : isBl c = false → (l.drop i).take (m + 1 - i) = trim l := fun hbl => fin (fun _ x hx => by
        rw [show m + 1 - 1 = m by omega, hc] at hx; injection hx with hx; subst hx; exact hbl)
      repeat' (first | refine walk ?_ | exact trivial | refine Tw.mk ?_ ?_ | intro hy | (exfalso; omega) | refine blank_spec ?_ ?_ | exact ih m _ _ ⟨by omega, by omega, hs (by assumption)⟩ (by omega) ⟨rfl, rfl, congrArg kI (by omega), trivial⟩ entA | (rw [hf (by assumption)]; exact Out.i h) | fail)
    · have hf := fin (fun h => absurd h hlt)
      repeat' (first | refine walk ?_ | exact trivial | refine Tw.mk ?_ ?_ | intro hy | (exfalso; omega) | (rw [hf]; exact Out.i h) | fail)
  · refine XS.block ?_
    refine XS.loopI (ι := Nat) (fun i => [(0, kS l), (3, kI i), (4, kI l.length)]) (fun _ => F) (fun i => i ≤ l.length ∧ (∀ (j : Nat) c, j < i → l[j]? = some c → isBl c = true)) (fun i => l.length - i) 0 ⟨Nat.zero_le _, fun j c hj => absurd hj (by omega)⟩ ⟨rfl, rfl, rfl, trivial⟩ entA ?_
    rintro i e ⟨hi, hb⟩ ih
    by_cases hlt : i < l.length
    · obtain ⟨c, hc⟩ : ∃ c, l[i]? = some c := ⟨_, List.getElem?_eq_getElem hlt⟩
      have hn : isBl c = false → ∀ x, l[i]? = some x → isBl x = false := fun hbl x hx => by rw [hc] at hx; injection hx with hx; subst hx; exact hbl
      repeat' (first | refine walk ?_ | exact trivial | refine Tw.mk ?_ ?_ | intro hy | (exfalso; omega) | refine blank_spec ?_ ?_ | exact ih (i + 1) _ _ ⟨hlt, all_step hb hc (by assumption)⟩ (by omega) ⟨rfl, rfl, rfl, trivial⟩ entA | exact ⟨i, ⟨hi, hb, hn (by assumption)⟩, ⟨rfl, rfl, rfl, trivial⟩, entA⟩ | fail)
    · have hn : ∀ x, l[i]? = some x → isBl x = false := fun x hx => absurd (List.getElem?_eq_some_iff.1 hx).1 hlt
      repeat' (first | refine walk ?_ | exact trivial | refine Tw.mk ?_ ?_ | intro hy | (exfalso; omega) | exact ⟨i, ⟨hi, hb, hn⟩, ⟨rfl, rfl, rfl, trivial⟩, entA⟩ | fail)
end Go.Proofs.YtngicmoadobgpaaDoor

/- Contracts: small letters, the program's and the document's; alike. Conditions: none. -/
namespace Go.Proofs.YtngicmoadobgpaaDoor
open Go Go.Sx Go.ChunkM Go.StrM Go.EmitM
variable {w0 : World} {F H : List HProp} {K : Value → List HProp → Prop}
theorem low_step {l : List UInt8} {i : Nat} {c : UInt8} (h : l[i]? = some c) : (low (l.take i) ++ l.drop i).set i (lowB c) = low (l.take (i + 1)) ++ l.drop (i + 1) := by
  have hlt := (List.getElem?_eq_some_iff.1 h).1
  have e1 : (low (l.take i)).length = i := by rw [low_length, List.length_take]; omega
  have e2 : l.drop i = c :: l.drop (i + 1) := by rw [List.drop_eq_getElem_cons hlt, (List.getElem?_eq_some_iff.1 h).2]
  rw [List.set_append_right _ _ (by omega), e1, Nat.sub_self, e2, List.set_cons_zero, List.take_add_one, h]
  simp [low]
theorem low_same {l : List UInt8} {i : Nat} {c : UInt8} (h : l[i]? = some c) (hc : lowB c = c) : low (l.take i) ++ l.drop i = low (l.take (i + 1)) ++ l.drop (i + 1) := by
  rw [← low_step h, hc]; refine set_self ?_
  have hlt := (List.getElem?_eq_some_iff.1 h).1
  have e1 : (low (l.take i)).length = i := by rw [low_length, List.length_take]; omega
  rw [List.getElem?_append_right (by omega), e1, Nat.sub_self, List.getElem?_drop, Nat.add_zero, h]
theorem low_at {l : List UInt8} {i : Nat} {c : UInt8} (h : l[i]? = some c) : (low (l.take i) ++ l.drop i)[i]? = some c := by
  have hlt := (List.getElem?_eq_some_iff.1 h).1
  have e1 : (low (l.take i)).length = i := by rw [low_length, List.length_take]; omega
  rw [List.getElem?_append_right (by omega), e1, Nat.sub_self, List.getElem?_drop, Nat.add_zero, h]
theorem lower_spec {l : List UInt8} (hl : l.length ≤ 4611686018427387904) (h : K (kS (low l)) F) : Tri Tryd.prog 84 #[kS l] w0 F K := by
  refine Tri.enterF Tryd.func84 Tryd.ntmps84 Tryd.results84 rfl rfl fun fr hfr => ?_
  repeat' (first | refine walk ?_ | exact trivial | refine Tw.mk ?_ ?_ | refine XO.rowOfStr TT_ok trivial rfl rfl rfl rfl rfl rfl rfl (fun _ => trivial) (fun b cp => ?_) | fail)
  refine XS.loopI (ι := Nat) (fun i => [(3, .slice (some ⟨b, 0, none⟩) l.length cp), (8, .slice (some ⟨b, 0, none⟩) l.length cp), (9, kI l.length), (10, kI i)]) (fun i => FRow b 5 (low (l.take i) ++ l.drop i) :: F) (fun i => i ≤ l.length) (fun i => l.length - i) 0
    (Nat.zero_le _) ⟨rfl, rfl, rfl, rfl, trivial⟩ (by simp [low]; exact Ent.refl _) ?_
  rintro i e hi ih
  by_cases hlt : i < l.length
  · obtain ⟨c, hc⟩ : ∃ c, l[i]? = some c := ⟨_, List.getElem?_eq_getElem hlt⟩
    have hc2 := low_at hc
    have hll : (low (l.take i) ++ l.drop i).length = l.length := by rw [List.length_append, low_length, ← List.length_append, List.take_append_drop]
    by_cases hu : 65 ≤ c.toNat ∧ c.toNat ≤ 90
    · have ho : ((c.toNat ||| 32 : Nat) : Int) = (lowB c).toNat := by rw [lowB_up hu.1 hu.2, UInt8.toNat_or]; rfl
      have hst := low_step hc
      repeat' (first | refine walk ?_ | exact trivial | refine Tw.mk ?_ ?_ | intro hy | (exfalso; omega) | refine XO.load TT_ok rfl rfl rfl rfl rfl rfl (Reads.frowI i (Nat.mul_one i) hc2) ?_ | refine XO.storeF i (lowB c) (Nat.mul_one i) ho (by omega) TT_ok trivial rfl rfl rfl rfl rfl rfl trivial ?_ | exact ih (i + 1) _ _ hlt (by omega) ⟨rfl, rfl, rfl, rfl, trivial⟩ (by rw [hst]; exact Ent.refl _) | fail)
    · have hst := low_same hc (lowB_not hu)
      repeat' (first | refine walk ?_ | exact trivial | refine Tw.mk ?_ ?_ | intro hy | (exfalso; omega) | refine XO.load TT_ok rfl rfl rfl rfl rfl rfl (Reads.frowI i (Nat.mul_one i) hc2) ?_ | exact ih (i + 1) _ _ hlt (by omega) ⟨rfl, rfl, rfl, rfl, trivial⟩ (by rw [← hst]; exact Ent.refl _) | fail)
  · obtain rfl : i = l.length := by omega
    clear ih
    rw [List.take_length, List.drop_length, List.append_nil]
    repeat' (first | refine walk ?_ | exact trivial | refine Tw.mk ?_ ?_ | intro hy | (exfalso; omega) | refine XO.strOfF TT_ok trivial rfl rfl rfl rfl rfl rfl rfl (low_length l).symm ?_ | exact Out.s0 h | fail)
/-- The document's. -/
theorem rlower_spec {l : List UInt8} (hl : l.length ≤ 140737488351232) (h : K (kS (low l)) F) : Tri Tryd.prog 69 #[kS l] w0 F K := by
  refine Tri.enterF Tryd.func69 Tryd.ntmps69 Tryd.results69 rfl rfl fun fr hfr => ?_
  repeat' (first | refine walk ?_ | exact trivial | refine Tw.mk ?_ ?_ | fail)
  refine XS.loopI (ι := Nat × Option Addr × Nat) (fun q => [(0, kS l), (3, .slice q.2.1 q.1 q.2.2), (4, kI q.1)]) (fun q => bRow q.2.1 q.2.2 (low (l.take q.1)) :: F) (fun q => q.1 ≤ l.length) (fun q => l.length - q.1) (0, none, 0)
    (Nat.zero_le _) ⟨rfl, rfl, rfl, trivial⟩ (by simp [low]; exact Row.nil _ _ _) ?_
  rintro ⟨i, a, cp⟩ e hi ih
  simp only at hi
  dsimp only
  have hll : (low (l.take i)).length = i := by rw [low_length, List.length_take]; omega
  by_cases hlt : i < l.length
  · obtain ⟨c, hc⟩ : ∃ c, l[i]? = some c := ⟨_, List.getElem?_eq_getElem hlt⟩
    have hst : ∀ z : Int, z = ((lowB c).toNat : Int) → bys (low (l.take i)) ++ [.int .u8 z] = bys (low (l.take (i + 1))) := fun z hz => by subst hz; rw [List.take_add_one, hc]; simp [low, bys]
    have hl2 : (low (l.take (i + 1))).length = (low (l.take i)).length + 1 := by rw [low_length, low_length, List.length_take, List.length_take]; omega
    have hcp : Value.slice a i cp = Value.slice a (low (l.take i)).length cp := by rw [hll]
    by_cases hu : 65 ≤ c.toNat ∧ c.toNat ≤ 90
    · have ho := lowB_toNat hu.1 hu.2
      repeat' (first | refine walk ?_ | exact trivial | refine Tw.mk ?_ ?_ | intro hy | (exfalso; omega) | (refine XO.sel1 (c := bRow _ _ (low (l.take i))) ?_; refine XO.appendG (N := 140737488351233) (bys (low (l.take (i + 1)))) TT_ok trivial rfl rfl rfl rfl rfl rfl rfl rfl rfl hcp rfl rfl rfl (by omega) rfl rfl (hst _ (by omega)) (fun _ _ => trivial) (fun a' cap' => ?_)) | exact ih (i + 1, _, _) _ _ hlt (by simp only; omega) ⟨rfl, congrArg (Value.slice _ · _) (by simp only; omega), rfl, trivial⟩ (by dsimp only; rw [← hl2]; exact Ent.refl _) | fail)
    · have ho : (lowB c).toNat = c.toNat := by rw [lowB_not hu]
      repeat' (first | refine walk ?_ | exact trivial | refine Tw.mk ?_ ?_ | intro hy | (exfalso; omega) | (refine XO.sel1 (c := bRow _ _ (low (l.take i))) ?_; refine XO.appendG (N := 140737488351233) (bys (low (l.take (i + 1)))) TT_ok trivial rfl rfl rfl rfl rfl rfl rfl rfl rfl hcp rfl rfl rfl (by omega) rfl rfl (hst _ (by omega)) (fun _ _ => trivial) (fun a' cap' => ?_)) | exact ih (i + 1, _, _) _ _ hlt (by simp only; omega) ⟨rfl, congrArg (Value.slice _ · _) (by simp only; omega), rfl, trivial⟩ (by dsimp only; rw [← hl2]; exact Ent.refl _) | fail)
  · obtain rfl : i = l.length := by omega
    clear ih
    rw [List.take_length]
    repeat' (first | refine walk ?_ | exact trivial | refine Tw.mk ?_ ?_ | intro hy | (exfalso; omega) | (refine XO.strOfRow TT_ok trivial rfl rfl rfl rfl rfl rfl (congrArg (Value.slice a · cp) (low_length l).symm) ?_) | exact Out.s0 h | fail)
theorem alike_spec {a b : List UInt8} (ha : a.length ≤ 140737488351232) (h : K (.bool (alike a b)) F) : Tri Tryd.prog 66 #[kS a, kS b] w0 F K := by
  refine Tri.enterF Tryd.func66 Tryd.ntmps66 Tryd.results66 rfl rfl fun fr hfr => ?_
  by_cases hl : a.length = b.length
  · by_cases hab : low a = low b
    · rw [alike_iff.2 hab] at h
      repeat' (first | refine walk ?_ | exact trivial | refine Tw.mk ?_ ?_ | intro hy | (exfalso; omega) | refine lower_spec (by omega) ?_ | exact Out.i h | (exfalso; exact hy hab) | fail)
    · rw [show alike a b = false by simp [alike, hab]] at h
      repeat' (first | refine walk ?_ | exact trivial | refine Tw.mk ?_ ?_ | intro hy | (exfalso; omega) | refine lower_spec (by omega) ?_ | exact Out.i h | (exfalso; exact hab hy) | fail)
  · rw [show alike a b = false by cases hh : alike a b; rfl; exact absurd (alike_len hh) hl] at h
    repeat' (first | refine walk ?_ | exact trivial | refine Tw.mk ?_ ?_ | intro hy | (exfalso; omega) | exact Out.i h | fail)
theorem ralike_spec {a b : List UInt8} (ha : a.length ≤ 140737488351232) (hb : b.length ≤ 140737488351232) (h : K (.bool (alike a b)) F) : Tri Tryd.prog 58 #[kS a, kS b] w0 F K := by
  refine Tri.enterF Tryd.func58 Tryd.ntmps58 Tryd.results58 rfl rfl fun fr hfr => ?_
  by_cases hab : low a = low b
  · rw [alike_iff.2 hab] at h
    repeat' (first | refine walk ?_ | exact trivial | refine Tw.mk ?_ ?_ | intro hy | refine rlower_spec (by omega) ?_ | exact Out.i h | (exfalso; exact hy hab) | fail)
  · rw [show alike a b = false by simp [alike, hab]] at h
    repeat' (first | refine walk ?_ | exact trivial | refine Tw.mk ?_ ?_ | intro hy | refine rlower_spec (by omega) ?_ | exact Out.i h | (exfalso; exact hab hy) | fail)
end Go.Proofs.YtngicmoadobgpaaDoor
