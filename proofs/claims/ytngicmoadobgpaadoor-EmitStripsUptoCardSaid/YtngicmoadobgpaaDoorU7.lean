/- Some texts put together: lemmas and contracts for the law. Conditions: as each text says. -/
import Derived.Test.YtngicmoadobgpaaDoorU5
import Derived.Laws.MakeOwn
import Derived.MapKept
import Derived.Laws.Small
import Derived.Laws.Slices
/- Rules: slices made and appended to, rows of structs, chunks put together. Conditions: the table 'T' fits the program. -/
namespace Go.Sx
open Go Go.RowKit

/-! ### chunks put together -/
/-- A chunk with something in it that is not named. -/
def hex {ι : Sort _} (f : ι → HProp) : HProp := fun h => ∃ x, f x h
theorem Ent.hex {ι : Sort _} {f : ι → HProp} {F : List HProp} (x : ι) : Ent (f x :: F) (Go.Sx.hex f :: F) := fun _ ⟨h1, h2, d, l1, l2, hc, s⟩ => ⟨h1, h2, d, l1, l2, ⟨x, hc⟩, s⟩
theorem Rel.hex {ι : Sort _} {f : ι → HProp} {F : List HProp} {w0 w : World} (h : Rel w0 (Go.Sx.hex f :: F) w) : ∃ x, Rel w0 (f x :: F) w := by
  obtain ⟨y, ⟨h1, h2, d, l1, l2, ⟨x, hc⟩, s⟩, g⟩ := h.heap
  exact ⟨x, h.below, y, ⟨h1, h2, d, l1, l2, hc, s⟩, g⟩
theorem Ent.pack {L F : List HProp} : Ent (L ++ F) (stars L :: F) := Ent.close fun _ h => h
theorem Ent.unpack {L F : List HProp} : Ent (stars L :: F) (L ++ F) := Ent.open_ fun _ h => h
theorem Ent.pack2 {a b : HProp} {F : List HProp} : Ent (a :: b :: F) (stars [a, b] :: F) := Ent.pack (L := [a, b])
theorem Ent.unpack2 {a b : HProp} {F : List HProp} : Ent (stars [a, b] :: F) (a :: b :: F) := Ent.unpack (L := [a, b])
theorem Ent.pack3 {a b c : HProp} {F : List HProp} : Ent (a :: b :: c :: F) (stars [a, b, c] :: F) := Ent.pack (L := [a, b, c])
theorem Ent.unpack3 {a b c : HProp} {F : List HProp} : Ent (stars [a, b, c] :: F) (a :: b :: c :: F) := Ent.unpack (L := [a, b, c])

section
variable {P : Program} {w0 : World} {n : Nat} {b : Frame} {R : Value → List HProp → Prop} {k : List Item} {e : Env} {F : List HProp}
theorem XS.hex {ι : Sort _} {f : ι → HProp} (h : ∀ x, XS P w0 b n R k e (f x :: F)) : XS P w0 b n R k e (Go.Sx.hex f :: F) := .ex (fun _ hr => hr.hex) h
theorem XS.rowOpen {a : Option Addr} {cap : Nat} {t : TypeId} {es m : Nat} {l : List Value} (hm : 0 < m) (h : ∀ g, a = some ⟨g, 0, none⟩ → XS P w0 b n R k e (RowAt g cap t es m l :: F)) : XS P w0 b n R k e (Row a cap t es m l :: F) :=
  .ex (ι := { g : Nat // a = some ⟨g, 0, none⟩ }) (H' := fun g => RowAt g.1 cap t es m l :: F) (fun _ hr => let ⟨g, hg, h⟩ := hr.row_open hm; ⟨⟨g, hg⟩, h⟩) (fun g => h g.1 g.2)
end

/-! ### rows of structs -/
def flat {α : Type} (enc : α → List Value) (xs : List α) : List Value := (xs.map enc).flatten
section
variable {α : Type} {enc : α → List Value} {es : Nat}
theorem flat_nil : flat enc [] = [] := rfl
theorem flat_cons (x : α) (xs : List α) : flat enc (x :: xs) = enc x ++ flat enc xs := by simp [flat]
theorem flat_append (xs ys : List α) : flat enc (xs ++ ys) = flat enc xs ++ flat enc ys := by simp [flat]
theorem flat_snoc (xs : List α) (x : α) : flat enc (xs ++ [x]) = flat enc xs ++ enc x := by simp [flat]
theorem flat_length (he : ∀ x, (enc x).length = es) : ∀ xs : List α, (flat enc xs).length = xs.length * es
  | [] => by simp [flat]
  | x :: xs => by rw [flat_cons, List.length_append, flat_length he xs, he, List.length_cons, Nat.add_mul]; omega
theorem flat_get (he : ∀ x, (enc x).length = es) : ∀ {xs : List α} {i j : Nat} {x : α} {v : Value}, xs[i]? = some x → (enc x)[j]? = some v → (flat enc xs)[i * es + j]? = some v
  | [], i, j, x, v, h, _ => by simp at h
  | y :: xs, 0, j, x, v, h, hv => by
    simp at h; subst h
    rw [flat_cons, Nat.zero_mul, Nat.zero_add, List.getElem?_append_left (List.getElem?_eq_some_iff.1 hv).1]; exact hv
  | y :: xs, i + 1, j, x, v, h, hv => by
    rw [flat_cons, List.getElem?_append_right (by rw [he, Nat.add_mul]; omega), he, show (i + 1) * es + j - es = i * es + j from by rw [Nat.add_mul]; omega]
    exact flat_get he (by simpa using h) hv
theorem flat_zero (x : α) : ∀ k : Nat, flat enc (List.replicate k x) = zrow k (enc x)
  | 0 => rfl
  | k + 1 => by rw [List.replicate_succ, flat_cons, flat_zero x k]; rfl
theorem wr_skip : ∀ (vs a l : List Value) (o : Nat), a.length ≤ o → wr (a ++ l) o vs = a ++ wr l (o - a.length) vs
  | [], a, l, o, h => rfl
  | v :: vs, a, l, o, h => by
    simp only [wr]
    rw [List.set_append_right _ _ h, wr_skip vs a _ (o + 1) (by omega), show o + 1 - a.length = o - a.length + 1 from by omega]
theorem flat_wr (he : ∀ x, (enc x).length = es) {cs : List Value} {j : Nat} {x x' : α} : ∀ {xs : List α} {i : Nat}, xs[i]? = some x → j + cs.length ≤ es → wr (enc x) j cs = enc x' → wr (flat enc xs) (i * es + j) cs = flat enc (xs.set i x')
  | [], i, h, _, _ => by simp at h
  | y :: xs, 0, h, hj, hw => by
    simp at h; subst h
    rw [flat_cons, Nat.zero_mul, Nat.zero_add, wr_append _ _ _ _ (by rw [he]; exact hj), hw, List.set_cons_zero, flat_cons]
  | y :: xs, i + 1, h, hj, hw => by
    rw [flat_cons, wr_skip _ _ _ _ (by rw [he, Nat.add_mul]; omega), he, show (i + 1) * es + j - es = i * es + j from by rw [Nat.add_mul]; omega, flat_wr he (by simpa using h) hj hw, List.set_cons_succ, flat_cons]
end
theorem wrL_wr {xs l : List Value} {k : Nat} {l' : List Value} (h : wrL l k xs = some l') (hk : k ≤ l.length) : wr l k xs = l' := (wrL_eq h hk).2.symm
theorem all_one (xs : List Value) (h : xs.all (·.oneCell') = true) : ∀ u ∈ xs, u.oneCell' = true := fun u hu => List.all_eq_true.1 h u hu

section
variable {w0 : World} {α : Type} {enc : α → List Value} {es : Nat}
theorem ReadsL.flat {b : Nat} {t : TypeId} {xs : List α} {F : List HProp} {i : Nat} {x : α} (he : ∀ x, (enc x).length = es) (h : xs[i]? = some x) : ReadsL w0 (cel b t (Go.Sx.flat enc xs) :: F) ⟨b, i * es, none⟩ (enc x) := fun j v hj => by
  rw [Addr.add_mk]; exact Reads.here (flat_get he h hj)
theorem ReadsL.rowFlat {b cap n : Nat} {t : TypeId} {xs : List α} {F : List HProp} {i : Nat} {x : α} (he : ∀ x, (enc x).length = es) (h : xs[i]? = some x) : ReadsL w0 (RowAt b cap t es n (Go.Sx.flat enc xs) :: F) ⟨b, i * es, none⟩ (enc x) := fun j v hj => by
  rw [Addr.add_mk]; exact Reads.row (flat_get he h hj)
end

/-! ### slices are made, and appended to -/
theorem Rel.reRow {w0 w w' : World} {a a' : Option Addr} {cap cap' : Nat} {t t' : TypeId} {es es' n n' : Nat} {l l' : List Value} {F : List HProp} (h : Rel w0 (Row a cap t es n l :: F) w) (hos : w'.os = w.os) (ht : w'.tape = w.tape) (hout : w'.output = w.output)
    (hsz : w.heap.size ≤ w'.heap.size) {g : Nat} {tail : List Value} (ha : a' = some ⟨g, 0, none⟩) (hg : w'.heap[g]? = some (.cells ⟨l' ++ tail⟩ t' (0, 0))) (hl : (l' ++ tail).length = cap' * es') (hl' : l'.length = n' * es') (hn : n' ≤ cap') (hc : cap' ≤ maxLen)
    (hwhere : g = w.heap.size ∨ a = some ⟨g, 0, none⟩) (hne : ∀ k, k < w.heap.size → k ≠ g → w'.heap[k]? = w.heap[k]?) : Rel w0 (Row a' cap' t' es' n' l' :: F) w' := by
  obtain ⟨x, ⟨h1, h2, d, l1, l2, hc0, s⟩, gg⟩ := h.heap
  have hge : w0.heap.size ≤ g := by
    rcases hwhere with rfl | rfl
    · exact h.below.size
    · rcases hc0 with ⟨h0, _⟩ | ⟨b, hb, tl, hb2, _⟩
      · cases h0
      · cases hb; exact (gg _ _ (l1 _ _ hb2)).1
  have h2g : h2 g = none := by
    cases e : h2 g with
    | none => rfl
    | some o =>
      rcases hwhere with rfl | rfl
      · have := (gg _ _ (l2 _ _ e)).2
        rw [Array.getElem?_eq_none (Nat.le_refl _)] at this; cases this
      · rcases hc0 with ⟨h0, _⟩ | ⟨b, hb, tl, hb2, _⟩
        · cases h0
        · cases hb
          rcases d g with e' | e'
          · rw [hb2] at e'; cases e'
          · rw [e] at e'; cases e'
  refine ⟨⟨hos.trans h.below.os, ht.trans h.below.tape, hout.trans h.below.output, Nat.le_trans h.below.size hsz, fun k hk => ?_⟩, ?_⟩
  · rw [hne k (Nat.lt_of_lt_of_le hk h.below.size) (by omega)]; exact h.below.block k hk
  · refine ⟨fun k => if k = g then some (.cells ⟨l' ++ tail⟩ t' (0, 0)) else h2 k, ⟨fun k => if k = g then some (.cells ⟨l' ++ tail⟩ t' (0, 0)) else none, h2, ?_, ?_, ?_, ?_, s⟩, ?_⟩
    · intro k
      by_cases e : k = g
      · right; rw [e]; exact h2g
      · left; simp [e]
    · intro k o hk
      by_cases e : k = g
      · simpa [e] using hk
      · simp [e] at hk
    · intro k o hk
      have : k ≠ g := fun e => by rw [e, h2g] at hk; cases hk
      simp [this, hk]
    · exact .inr ⟨g, ha, tail, by simp, hl, hl', hn, hc⟩
    · intro k o hk
      by_cases e : k = g
      · subst e; simp at hk; subst hk; exact ⟨hge, hg⟩
      · simp [e] at hk
        obtain ⟨g1, g2⟩ := gg _ _ (l2 _ _ hk)
        refine ⟨g1, ?_⟩
        have hlt : k < w.heap.size := by
          rcases Nat.lt_or_ge k w.heap.size with h' | h'
          · exact h'
          · rw [Array.getElem?_eq_none h'] at g2; cases g2
        rw [hne k hlt e]; exact g2

theorem append_rel {P : Program} {w0 w : World} {t ty u : TypeId} {i : TypeInfo} {z : Value} (ht : P.underlying t = some (.slice u)) (hi : P.info? u = some i) (hz : i.zero = some z) (hzs : z.cells.size = i.size) (_hs0 : 0 < i.size)
    {a : Option Addr} {cap n : Nat} {l : List Value} {F : List HProp} (h : Rel w0 (Row a cap u i.size n l :: F) w) {ad : Addr} {m c : Nat} {news : List Value} (hl : news.length = m * i.size) (hm : 0 < m) (hnews : ∀ j v, news[j]? = some v → w.cell? (ad.add j) = some v) (h1 : ∀ v ∈ news, v.oneCell' = true)
    (h63 : n + m ≤ maxLen) (hbytes : (n + m) * i.bytes ≤ 140737488355328) :
    ∃ a' cap' w', (Builtin.append_ #[t, t] ty #[.slice a n cap, .slice (some ad) m c]).run P w = .ok (.slice a' (n + m) cap') w' ∧ Rel w0 (Row a' cap' u i.size (n + m) (l ++ news) :: F) w' := by
  have hlen : l.length = n * i.size := h.row_len
  have hlen2 : (l ++ news).length = (n + m) * i.size := by rw [List.length_append, hlen, hl, Nat.add_mul]
  have hsmall : n + m ≤ 9223372036854775807 := by simp only [maxLen] at h63; omega
  have grown : ∀ old, Rel w0 (Row (some ⟨w.heap.size, 0, none⟩) (grownCap w (n + m) old u) u i.size (n + m) (l ++ news) :: F) (w.drew.alloc (.cells (l.toArray ++ news.toArray ++ Builtin.zeroCells z.cells (grownCap w (n + m) old u - (n + m))) u)) := by
    intro old
    have hge := grownCap_ge w (n + m) old u
    have hcm : grownCap w (n + m) old u ≤ maxLen := grownCap_le_maxLen w (n + m) old u h63
    refine h.reRow (g := w.heap.size) (tail := (Builtin.zeroCells z.cells (grownCap w (n + m) old u - (n + m))).toList) rfl rfl rfl (by simp) rfl ?_ ?_ hlen2 hge hcm (.inl rfl) (fun k hk _ => heap_alloc_old w.drew _ hk)
    · have := heap_alloc_new w.drew (.cells (l.toArray ++ news.toArray ++ Builtin.zeroCells z.cells (grownCap w (n + m) old u - (n + m))) u)
      rw [show w.drew.heap.size = w.heap.size from rfl] at this
      rw [this]
      congr 2
      apply Array.ext'; simp
    · rw [List.length_append, hlen2, Array.length_toList, size_zeroCells, hzs, ← Nat.add_mul]
      congr 1; omega
  rcases a with _ | a
  · obtain ⟨rfl, rfl, rfl⟩ : n = 0 ∧ cap = 0 ∧ l = [] := by
      obtain ⟨x, ⟨h1, h2, d, l1, l2, hc, s⟩, g⟩ := h.heap
      rcases hc with ⟨_, rfl, rfl, rfl⟩ | ⟨b, hb, _⟩
      · exact ⟨rfl, rfl, rfl⟩
      · cases hb
    have hr := run_append_nil (P := P) w t ty u i z ht hi hz ad m c news hl hnews hm (by omega) (by have hb := hbytes; simp only [Nat.zero_add] at hb; omega)
    have g0 := grown 0
    simp only [Nat.zero_add, List.nil_append, Array.empty_append] at g0 ⊢
    exact ⟨_, _, _, hr, g0⟩
  · obtain ⟨g, ha, tail, hg, hcl, hnc, hcm⟩ : ∃ g, some a = some ⟨g, 0, none⟩ ∧ ∃ tail, w.heap[g]? = some (.cells ⟨l ++ tail⟩ u (0, 0)) ∧ (l ++ tail).length = cap * i.size ∧ n ≤ cap ∧ cap ≤ maxLen := by
      obtain ⟨x, ⟨h1, h2, d, l1, l2, hc, s⟩, gg⟩ := h.heap
      rcases hc with ⟨h0, _⟩ | ⟨b, hb, tail, hb2, h3, h4, h5, h6⟩
      · cases h0
      · exact ⟨b, hb, tail, (gg _ _ (l1 _ _ hb2)).2, h3, h5, h6⟩
    injection ha with ha
    subst ha
    by_cases hroom : n + m ≤ cap
    · have hfit : n * i.size + news.length ≤ (⟨l ++ tail⟩ : Array Value).size := by
        show _ ≤ (l ++ tail).length
        rw [hl, hcl, ← Nat.add_mul]; exact Nat.mul_le_mul_right _ hroom
      have hr := run_append_room (P := P) w t ty u i ht hi g n cap _ hg ad m c news hl hnews h1 hroom hfit
      refine ⟨_, _, _, hr, h.reRow (g := g) (tail := (l ++ tail).drop (n * i.size + news.length)) rfl rfl rfl (by simp [World.setRow]) rfl ?_ ?_ hlen2 hroom hcm (.inr rfl) (fun k _ hk => setRow_other w g k _ hk)⟩
      · rw [setRow_heap w g _ _ u _ hg]
        congr 2
        apply Array.ext'
        simp [← hlen]
      · have hf : n * i.size + news.length ≤ (l ++ tail).length := hfit
        rw [List.length_append, List.length_drop, hlen2, hcl]
        rw [hcl] at hf
        rw [hl, ← Nat.add_mul] at hf ⊢
        omega
    · have holds : ∀ j v, l[j]? = some v → w.cell? ((⟨g, 0, none⟩ : Addr).add j) = some v := fun j v hj => by
        rw [Addr.add_mk, Nat.zero_add, cell_of_row w g j _ u (0, 0) hg]
        have hlt := (List.getElem?_eq_some_iff.1 hj).1
        simp [List.getElem?_append_left hlt, hj]
      have hr := run_append_grow (P := P) w t ty u i z ht hi hz ⟨g, 0, none⟩ n cap l hlen holds ad m c news hl hnews (by omega) (by omega) (growslice_fits (by omega) hbytes)
      exact ⟨_, _, _, hr, grown cap⟩

section
variable {P : Program} {T : Tbl} {w0 : World} {n : Nat} {HL : Held} {ops : Array Oper} {J : Env → List HProp → Prop} {ix : Nat} {rest : List Oper} {o : Oper} {e : Env} {H : List HProp}

theorem XO.hex {ι : Sort _} {l : List Oper} {f : ι → HProp} {F : List HProp} (h : ∀ x, XO P T w0 n HL ops J ix l e (f x :: F)) : XO P T w0 n HL ops J ix l e (Go.Sx.hex f :: F) := .ex (fun _ hr => hr.hex) h
theorem XO.rowOpen {l : List Oper} {a : Option Addr} {cap : Nat} {t : TypeId} {es m : Nat} {ys : List Value} {F : List HProp} (hm : 0 < m) (h : ∀ g, a = some ⟨g, 0, none⟩ → XO P T w0 n HL ops J ix l e (RowAt g cap t es m ys :: F)) : XO P T w0 n HL ops J ix l e (Row a cap t es m ys :: F) :=
  .ex (ι := { g : Nat // a = some ⟨g, 0, none⟩ }) (H' := fun g => RowAt g.1 cap t es m ys :: F) (fun _ hr => let ⟨g, hg, h⟩ := hr.row_open hm; ⟨⟨g, hg⟩, h⟩) (fun g => h g.1 g.2)

/-- 'append(s, one or more)': the slice grows. -/
theorem XO.append {x y : Operand} {t u : TypeId} {a : Option Addr} {cap k m c s bs : Nat} {l news : List Value} {F : List HProp} {ad : Addr} {z : Value} {d : Nat} (hT : T.Ok P) (hk0 : Keeps w0 (Row a cap u s k l :: F) (keptBy HL ix)) (hg : wantedE ops e n o = true) (hd : o.dst = some d)
    (hop : o.op = .call { callee := .builtin .append, args := #[x, y], argTypes := #[t, t] }) (hu : T.und t = some (.slice u)) (hs : T.size u = some s) (hbs : T.bytes u = some bs) (hz : T.zero u = some z) (hzs : Nat.beq z.cells.size s = true) (hs0 : Nat.blt 0 s = true)
    (hx : e.ev n x = .slice a k cap) (hy : e.ev n y = .slice (some ad) m c) (hr : ReadsL w0 (Row a cap u s k l :: F) ad news) (hl : news.length = m * s) (hm : 0 < m) (h1 : news.all (·.oneCell') = true) {N : Nat} (hN : k + m ≤ N) (hn : Nat.ble (N * bs) 140737488355328 = true) (hn2 : Nat.ble N 9223372036854775807 = true)
    (hk : ∀ a' cap', Keeps w0 (Row a' cap' u s (k + m) (l ++ news) :: F) (keptBy HL ix)) (h : ∀ a' cap', XO P T w0 n HL ops J (ix + 1) rest (e.upd d (.slice a' (k + m) cap')) (Row a' cap' u s (k + m) (l ++ news) :: F)) : XO P T w0 n HL ops J ix (o :: rest) e (Row a cap u s k l :: F) := by
  refine .effOp hk0 hg (by rw [hop]; rfl) (fun w hrel => ?_)
  obtain ⟨i, hi, rfl⟩ := hT.size _ _ hs
  obtain ⟨i2, hi2, hb2⟩ := hT.bytes _ _ hbs
  obtain ⟨i3, hi3, hz3⟩ := hT.zero _ _ hz
  rw [hi] at hi2 hi3
  injection hi2 with hi2; subst hi2
  injection hi3 with hi3; subst hi3
  subst hb2
  have hzs' := Nat.eq_of_beq_eq_true hzs
  have hs0' : 0 < i.size := Nat.le_of_ble_eq_true hs0
  obtain ⟨a', cap', w', hrun, hrel'⟩ := append_rel (P := P) (ty := o.type) (hT.und _ _ hu) hi hz3 hzs' hs0' hrel (ad := ad) (m := m) (c := c) hl hm (fun j v hj => hr j v hj w hrel) (all_one _ h1) (by have := Nat.le_of_ble_eq_true hn2; simp only [maxLen]; omega) (Nat.le_trans (Nat.mul_le_mul_right _ hN) (Nat.le_of_ble_eq_true hn))
  refine ⟨_, w', _, .inl ?_, hrel', hk _ _, by rw [hd]; exact h a' cap'⟩
  simp only [execOp, hop, resolve, invoke, builtin, Sem.run_bind, Sem.run_pure, Result.andThen_ok, List.map_toArray, List.map_cons, List.map_nil, hx, hy, hrun]

/-- 'make' of a slice. -/
theorem XO.makeSlice {x y : Operand} {t u : TypeId} {s bs : Nat} {k : Nat} {z : Value} {zl : List Value} {d : Nat} (hT : T.Ok P) (hk0 : Keeps w0 H (keptBy HL ix)) (hg : wantedE ops e n o = true) (hd : o.dst = some d) (hop : o.op = .makeSlice t x y) (hu : T.und t = some (.slice u)) (hs : T.size u = some s) (hbs : T.bytes u = some bs)
    (hz : T.zero u = some z) (hzl : z.cells = ⟨zl⟩) (hzs : Nat.beq zl.length s = true) {kx ky : IntKind} (hx : e.ev n x = .int kx (k : Int)) (hy : e.ev n y = .int ky (k : Int)) {N : Nat} (hN : k ≤ N) (hn : Nat.ble (bs * N) 281474976710656 = true) (hn2 : Nat.ble N 9223372036854775807 = true)
    (hk : ∀ b, Keeps w0 (cel b u (zrow k zl) :: H) (keptBy HL ix)) (h : ∀ b, XO P T w0 n HL ops J (ix + 1) rest (e.upd d (.slice (some ⟨b, 0, none⟩) k k)) (cel b u (zrow k zl) :: H)) : XO P T w0 n HL ops J ix (o :: rest) e H := by
  refine .effOp hk0 hg (by rw [hop]; rfl) (fun w hrel => ?_)
  obtain ⟨i, hi, rfl⟩ := hT.size _ _ hs
  obtain ⟨i2, hi2, hb2⟩ := hT.bytes _ _ hbs
  obtain ⟨i3, hi3, hz3⟩ := hT.zero _ _ hz
  rw [hi] at hi2 hi3
  injection hi2 with hi2; subst hi2
  injection hi3 with hi3; subst hi3
  subst hb2
  have hzs' : zl.length = i.size := Nat.eq_of_beq_eq_true hzs
  refine ⟨_, _, _, .inl ?_, hrel.alloc (.cells ⟨zrow k zl⟩ u), hk _, by rw [hd]; exact h w.heap.size⟩
  have hb : (i.bytes : Int) * (k : Int) ≤ 281474976710656 := by
    have h0 : i.bytes * k ≤ 281474976710656 := Nat.le_trans (Nat.mul_le_mul_left _ hN) (Nat.le_of_ble_eq_true hn)
    have h : ((i.bytes * k : Nat) : Int) ≤ 281474976710656 := by omega
    rwa [Int.natCast_mul] at h
  have hr := run_make (P := P) w t u i z (hT.und _ _ hu) hi hz3 kx ky k k (by omega) (Int.le_refl _) hb (by have := Nat.le_of_ble_eq_true hn2; omega)
  have hm : madeCells z.cells (k * i.size) = ⟨zrow k zl⟩ := by
    rw [hzl, ← hzs', ← zeros_eq]; rfl
  simp only [execOp, hop, hx, hy, Sem.run_bind, hr, Result.andThen_ok, Sem.run_pure, Int.toNat_natCast, hm]
  rfl

/-- The address of an element of a row of one's own. -/
theorem XO.indexOwn {x y : Operand} {t u : TypeId} {b len c s i : Nat} {k : IntKind} {d : Nat} (hT : T.Ok P) (hg : wantedE ops e n o = true) (hd : o.dst = some d) (hop : o.op = .indexAddr t x y) (hu : T.und t = some (.slice u)) (hs : T.size u = some s)
    (hx : e.ev n x = .slice (some ⟨b, 0, none⟩) len c) (hy : e.ev n y = .int k (i : Int)) (h1 : i < len) (h : XO P T w0 n HL ops J (ix + 1) rest (e.upd d (.pointer (some ⟨b, i * s, none⟩))) H) : XO P T w0 n HL ops J ix (o :: rest) e H := by
  refine .indexAddr hT hg hd hop hu hs hx hy (by omega) (by omega) ?_
  simpa using h
end
/-! ### one element of a row, again and again -/
section
variable {P : Program} {T : Tbl} {w0 : World} {n : Nat} {HL : Held} {ops : Array Oper} {J : Env → List HProp → Prop} {ix : Nat} {rest : List Oper} {o : Oper} {e : Env} {F : List HProp} {α : Type} {enc : α → List Value} {es : Nat}
theorem set_self {xs : List α} {i : Nat} {x : α} (h : xs[i]? = some x) : xs = xs.set i x := by
  apply List.ext_getElem?
  intro j
  rw [List.getElem?_set]
  split
  · rename_i e; subst e
    have hlt := (List.getElem?_eq_some_iff.1 h).1
    rw [if_pos hlt, h]
  · rfl
theorem set_at {xs : List α} {i : Nat} (x : α) (h : i < xs.length) : (xs.set i x)[i]? = some x := by simp [h]
theorem Reads.setS {b i j : Nat} {t : TypeId} {xs : List α} {x : α} {v : Value} (he : ∀ x, (enc x).length = es) (hi : i < xs.length) (h : (enc x)[j]? = some v) : Reads w0 (cel b t (flat enc (xs.set i x)) :: F) ⟨b, i * es + j, none⟩ v :=
  Reads.here (flat_get he (set_at x hi) h)
theorem Reads.flat {b i j : Nat} {t : TypeId} {xs : List α} {x : α} {v : Value} (he : ∀ x, (enc x).length = es) (hi : xs[i]? = some x) (h : (enc x)[j]? = some v) : Reads w0 (cel b t (Go.Sx.flat enc xs) :: F) ⟨b, i * es + j, none⟩ v :=
  Reads.here (flat_get he hi h)
theorem Reads.rowFlat {b i j cap k : Nat} {t : TypeId} {xs : List α} {x : α} {v : Value} (he : ∀ x, (enc x).length = es) (hi : xs[i]? = some x) (h : (enc x)[j]? = some v) : Reads w0 (RowAt b cap t es k (Go.Sx.flat enc xs) :: F) ⟨b, i * es + j, none⟩ v :=
  Reads.row (flat_get he hi h)
theorem Reads.setS0 {b i : Nat} {t : TypeId} {xs : List α} {x : α} {v : Value} (he : ∀ x, (enc x).length = es) (hi : i < xs.length) (h : (enc x)[0]? = some v) : Reads w0 (cel b t (Go.Sx.flat enc (xs.set i x)) :: F) ⟨b, i * es, none⟩ v :=
  Reads.here (flat_get he (set_at x hi) h)
theorem Reads.flat0 {b i : Nat} {t : TypeId} {xs : List α} {x : α} {v : Value} (he : ∀ x, (enc x).length = es) (hi : xs[i]? = some x) (h : (enc x)[0]? = some v) : Reads w0 (cel b t (Go.Sx.flat enc xs) :: F) ⟨b, i * es, none⟩ v :=
  Reads.here (flat_get he hi h)
theorem Reads.rowFlat0 {b i cap k : Nat} {t : TypeId} {xs : List α} {x : α} {v : Value} (he : ∀ x, (enc x).length = es) (hi : xs[i]? = some x) (h : (enc x)[0]? = some v) : Reads w0 (RowAt b cap t es k (Go.Sx.flat enc xs) :: F) ⟨b, i * es, none⟩ v :=
  Reads.row (flat_get he hi h)
theorem XO.storeS {t tb : TypeId} {x y : Operand} {b i j : Nat} {xs : List α} {p p' : α} {cs : List Value} {v : Value} (he : ∀ x, (enc x).length = es) (hi : i < xs.length) (hT : T.Ok P) (hk0 : Keeps w0 (cel b tb (flat enc (xs.set i p)) :: F) (keptBy HL ix)) (hg : wantedE ops e n o = true) (hd : o.dst = none) (hop : o.op = .store t x y) (hx : e.ev n x = .pointer (some ⟨b, i * es + j, none⟩))
    (hy : Hd (e.ev n y) = some v) (hcs : v.cells = ⟨cs⟩) (hs : T.size t = some cs.length) (h1 : cs.all (·.oneCell') = true) (hj : Nat.ble (j + cs.length) es = true) (hw : wr (enc p) j cs = enc p')
    (hk : Keeps w0 (cel b tb (flat enc (xs.set i p')) :: F) (keptBy HL ix)) (h : XO P T w0 n HL ops J (ix + 1) rest e (cel b tb (flat enc (xs.set i p')) :: F)) : XO P T w0 n HL ops J ix (o :: rest) e (cel b tb (flat enc (xs.set i p)) :: F) := by
  have hj' := Nat.le_of_ble_eq_true hj
  have hq : wr (flat enc (xs.set i p)) (i * es + j) cs = flat enc (xs.set i p') := by
    rw [flat_wr he (set_at p hi) hj' hw, List.set_set]
  refine .store hT hk0 hg hd hop hx hy hcs hs h1 ?_ (by rw [hq]; exact hk) (by rw [hq]; exact h)
  have hlt : (i + 1) * es ≤ xs.length * es := Nat.mul_le_mul_right _ (by omega)
  rw [Nat.add_mul, Nat.one_mul] at hlt
  rw [flat_length he, List.length_set]
  omega
theorem XO.storeRowS {t tb : TypeId} {x y : Operand} {b i j cap k : Nat} {xs : List α} {p p' : α} {cs : List Value} {v : Value} (he : ∀ x, (enc x).length = es) (hi : i < xs.length) (hT : T.Ok P) (hk0 : Keeps w0 (RowAt b cap tb es k (flat enc (xs.set i p)) :: F) (keptBy HL ix)) (hg : wantedE ops e n o = true) (hd : o.dst = none) (hop : o.op = .store t x y) (hx : e.ev n x = .pointer (some ⟨b, i * es + j, none⟩))
    (hy : Hd (e.ev n y) = some v) (hcs : v.cells = ⟨cs⟩) (hs : T.size t = some cs.length) (h1 : cs.all (·.oneCell') = true) (hj : Nat.ble (j + cs.length) es = true) (hw : wr (enc p) j cs = enc p')
    (hk : Keeps w0 (RowAt b cap tb es k (flat enc (xs.set i p')) :: F) (keptBy HL ix)) (h : XO P T w0 n HL ops J (ix + 1) rest e (RowAt b cap tb es k (flat enc (xs.set i p')) :: F)) : XO P T w0 n HL ops J ix (o :: rest) e (RowAt b cap tb es k (flat enc (xs.set i p)) :: F) := by
  have hj' := Nat.le_of_ble_eq_true hj
  have hq : wr (flat enc (xs.set i p)) (i * es + j) cs = flat enc (xs.set i p') := by
    rw [flat_wr he (set_at p hi) hj' hw, List.set_set]
  refine .storeRow hT hk0 hg hd hop hx hy hcs hs h1 ?_ (by rw [hq]; exact hk) (by rw [hq]; exact h)
  have hlt : (i + 1) * es ≤ xs.length * es := Nat.mul_le_mul_right _ (by omega)
  rw [Nat.add_mul, Nat.one_mul] at hlt
  rw [flat_length he, List.length_set]
  omega
end
end Go.Sx

/- Rules: bags of chunks, what a call leaves. Conditions: none. -/
namespace Go.Sx
open Go Go.RowKit
variable {F : List HProp}
/-- Chunks of one kind, as many as there are names. -/
def bag {α : Type} (f : α → HProp) (xs : List α) : HProp := stars (xs.map f)
theorem perm_at {α : Type} : ∀ {xs : List α} {i : Nat} {x : α}, xs[i]? = some x → List.Perm xs (x :: xs.eraseIdx i)
  | [], i, x, h => by simp at h
  | y :: xs, 0, x, h => by simp at h; subst h; simp
  | y :: xs, i + 1, x, h => by
    simp at h
    simp only [List.eraseIdx_cons_succ]
    exact ((perm_at h).cons y).trans (List.Perm.swap x y _)
theorem erase_set {α : Type} : ∀ (xs : List α) (i : Nat) (x : α), (xs.set i x).eraseIdx i = xs.eraseIdx i
  | [], _, _ => rfl
  | _ :: _, 0, _ => rfl
  | y :: xs, i + 1, x => by simp [erase_set xs i x]
theorem bag_out {α : Type} {f : α → HProp} {xs : List α} {i : Nat} {x : α} (h : xs[i]? = some x) : Ent (bag f xs :: F) (f x :: bag f (xs.eraseIdx i) :: F) := by
  refine Ent.trans Ent.unpack ?_
  refine Ent.trans (Ent.perm (((perm_at h).map f).append_right F)) ?_
  exact Ent.cons _ Ent.pack
theorem bag_in {α : Type} {f : α → HProp} {xs : List α} {i : Nat} {x : α} (h : i < xs.length) : Ent (f x :: bag f (xs.eraseIdx i) :: F) (bag f (xs.set i x) :: F) := by
  refine Ent.trans (Ent.cons _ Ent.unpack) ?_
  refine Ent.trans ?_ Ent.pack
  have hp := (perm_at (set_at x h)).map f
  rw [erase_set] at hp
  exact Ent.perm ((hp.symm).append_right F)
theorem bag_back {α : Type} {f : α → HProp} {xs : List α} {i : Nat} {x : α} (h : xs[i]? = some x) : Ent (f x :: bag f (xs.eraseIdx i) :: F) (bag f xs :: F) := by
  have e := set_self h
  have := bag_in (F := F) (f := f) (x := x) (List.getElem?_eq_some_iff.1 h).1
  rwa [← e] at this
theorem bag_snoc {α : Type} {f : α → HProp} {xs : List α} {x : α} : Ent (f x :: bag f xs :: F) (bag f (xs ++ [x]) :: F) := by
  refine Ent.trans (Ent.cons _ Ent.unpack) ?_
  refine Ent.trans ?_ Ent.pack
  refine Ent.perm ?_
  rw [List.map_append]
  exact (List.perm_middle (l₁ := []) (a := f x) (l₂ := xs.map f)).symm.trans (List.perm_append_comm (l₁ := [f x]) (l₂ := xs.map f)) |>.append_right F
theorem bag_nil {α : Type} (f : α → HProp) : Ent F (bag f [] :: F) := Ent.pack (L := [])
theorem bag_mono {α : Type} {f g : α → HProp} (h : ∀ x y, f x y → g x y) : ∀ (xs : List α) (y : Hp), bag f xs y → bag g xs y
  | [], _, _ => trivial
  | _ :: xs, _, ⟨h1, h2, d, l1, l2, hc, s⟩ => ⟨h1, h2, d, l1, l2, h _ _ hc, bag_mono h xs _ s⟩
theorem bag_weak {α : Type} {f g : α → HProp} (h : ∀ x y, f x y → g x y) {xs : List α} : Ent (bag f xs :: F) (bag g xs :: F) := fun _ ⟨h1, h2, d, l1, l2, hc, s⟩ => ⟨h1, h2, d, l1, l2, bag_mono h xs _ hc, s⟩
section
variable {P : Program} {w0 : World}
/-- What a call leaves may be put otherwise. -/
theorem Tri.post {f : FuncId} {args : Array Value} {H : List HProp} {R : Value → List HProp → Prop} (h : Tri P f args w0 H fun v H' => ∃ H'', Ent H' H'' ∧ R v H'') : Tri P f args w0 H R :=
  ⟨fun w hr => (h.run w hr).mono fun _ _ ⟨v, _, he, hrel, H'', hx, hR⟩ => ⟨v, H'', he, hrel.ent hx, hR⟩⟩
end
end Go.Sx

/- Rules for maps whose keys are numbers or strings. Conditions: the table 'T' fits the program. -/
namespace Go.Sx
open Go Go.RowKit

/-- Keys of one kind. -/
structure KeyOk {κ : Type} [DecidableEq κ] (D : TypeDesc) (kv : κ → Value) : Prop where
  same : ∀ a b, Instr.sameNow D (kv a) (kv b) = some (decide (a = b))
  key : ∀ a, Go.MapKept.IsKey D (kv a)
  bits : ∀ a, Instr.sameBits 10000 (kv a) (kv a) = true
theorem keyI64 : KeyOk (.int .i64) (fun z : Int => Value.int .i64 z) := ⟨fun a b => by simp [Instr.sameNow, BEq.beq], fun a => by simp [Go.MapKept.IsKey], fun a => by simp [Instr.sameBits]⟩

/-- The entries of a map, each by its key and its value. -/
def mapc {κ : Type} (b : Nat) (kv : κ → Value) (es : List (κ × Value)) : HProp := fun h =>
  ∃ (arr : Array MapEntry) (clock : Nat), h b = some (.map arr clock) ∧ arr.toList.map (fun e => (e.key, e.val)) = es.map (fun p => (kv p.1, p.2)) ∧ MapKept.Stamped arr clock
def mget {κ : Type} [DecidableEq κ] : List (κ × Value) → κ → Option Value
  | [], _ => none
  | p :: l, k => if k = p.1 then some p.2 else mget l k
def mset {κ : Type} [DecidableEq κ] : List (κ × Value) → κ → Value → List (κ × Value)
  | [], k, v => [(k, v)]
  | p :: l, k, v => if k = p.1 then (p.1, v) :: l else p :: mset l k v
def mdel {κ : Type} [DecidableEq κ] : List (κ × Value) → κ → List (κ × Value)
  | [], _ => []
  | p :: l, k => if k = p.1 then l else p :: mdel l k

section
variable {κ : Type} [DecidableEq κ] {D : TypeDesc} {kv : κ → Value}
theorem findNow_none (hk : KeyOk D kv) {k : κ} : ∀ {l : List MapEntry} {es : List (κ × Value)} (n : Nat), l.map (fun e => (e.key, e.val)) = es.map (fun p => (kv p.1, p.2)) → mget es k = none → Instr.findNow D (kv k) l n = some none
  | [], [], n, _, _ => rfl
  | [], _ :: _, n, h, _ => by simp at h
  | _ :: _, [], n, h, _ => by simp at h
  | e :: l, p :: es, n, h, hg => by
    simp only [List.map_cons, List.cons.injEq, Prod.mk.injEq] at h
    obtain ⟨⟨h1, h2⟩, h3⟩ := h
    simp only [mget] at hg
    split at hg
    · cases hg
    · rename_i hne
      simp only [Instr.findNow, h1, hk.same, decide_eq_false hne]
      exact findNow_none hk (n + 1) h3 hg
theorem findNow_some (hk : KeyOk D kv) {k : κ} {v : Value} : ∀ {l : List MapEntry} {es : List (κ × Value)} (n : Nat), l.map (fun e => (e.key, e.val)) = es.map (fun p => (kv p.1, p.2)) → mget es k = some v →
    ∃ j e, Instr.findNow D (kv k) l n = some (some (n + j, v)) ∧ l[j]? = some e ∧ e.key = kv k ∧
      (∀ v' : Value, (l.modify j fun e => { e with key := kv k, val := v' }).map (fun e => (e.key, e.val)) = (mset es k v').map (fun p => (kv p.1, p.2))) ∧ (l.eraseIdx j).map (fun e => (e.key, e.val)) = (mdel es k).map (fun p => (kv p.1, p.2))
  | [], [], n, _, hg => by cases hg
  | [], _ :: _, n, h, _ => by simp at h
  | _ :: _, [], n, h, _ => by simp at h
  | e :: l, p :: es, n, h, hg => by
    simp only [List.map_cons, List.cons.injEq, Prod.mk.injEq] at h
    obtain ⟨⟨h1, h2⟩, h3⟩ := h
    simp only [mget] at hg
    split at hg
    · rename_i he
      injection hg with hg
      subst he
      refine ⟨0, e, by simp only [Instr.findNow, h1, hk.same, decide_true, h2, hg, Nat.add_zero], rfl, h1, fun v' => ?_, ?_⟩
      · simp [mset, h3]
      · simp [mdel, h3]
    · rename_i hne
      obtain ⟨j, e', g1, g2, g3, g4, g5⟩ := findNow_some hk (n + 1) h3 hg
      refine ⟨j + 1, e', by simp only [Instr.findNow, h1, hk.same, decide_eq_false hne, g1]; congr 3; omega, g2, g3, fun v' => ?_, ?_⟩
      · simp only [mset, if_neg hne, List.modify_succ_cons, List.map_cons, g4, h1, h2]
      · simp only [mdel, if_neg hne, List.eraseIdx_cons_succ, List.map_cons, g5, h1, h2]
theorem KeyOk.inj (hk : KeyOk D kv) {a b : κ} (h : kv a = kv b) : a = b := by
  have h1 := hk.same a b
  have h2 := hk.same b b
  rw [h, h2] at h1
  simpa using h1
theorem keys_other (hk : KeyOk D kv) {k : κ} {arr : Array MapEntry} {es : List (κ × Value)} (he : arr.toList.map (fun e => (e.key, e.val)) = es.map (fun p => (kv p.1, p.2))) (hm : mget es k = none) : ∀ x ∈ arr.toList, x.key ≠ kv k := by
  intro x hx
  have hx' : (x.key, x.val) ∈ es.map (fun p => (kv p.1, p.2)) := by rw [← he]; exact List.mem_map.2 ⟨x, hx, rfl⟩
  obtain ⟨p, hp, h1⟩ := List.mem_map.1 hx'
  simp only [Prod.mk.injEq] at h1
  rw [← h1.1]
  intro h
  have := hk.inj h
  clear he hx hx' h1 h
  induction es with
  | nil => cases hp
  | cons q es ih =>
    simp only [mget] at hm
    split at hm
    · cases hm
    · rename_i hne
      rcases List.mem_cons.1 hp with rfl | hp
      · exact hne this.symm
      · exact ih hm hp
theorem mset_new {k : κ} {v : Value} : ∀ {es : List (κ × Value)}, mget es k = none → mset es k v = es ++ [(k, v)]
  | [], _ => rfl
  | p :: es, h => by
    simp only [mget] at h
    split at h
    · cases h
    · rename_i hne
      simp only [mset, if_neg hne, mset_new h, List.cons_append]
theorem mdel_none {k : κ} : ∀ {es : List (κ × Value)}, mget es k = none → mdel es k = es
  | [], _ => rfl
  | p :: es, h => by
    simp only [mget] at h
    split at h
    · cases h
    · rename_i hne
      simp only [mdel, if_neg hne, mdel_none h]
omit [DecidableEq κ] in
theorem Rel.map_get {w0 w : World} {b : Nat} {es : List (κ × Value)} {F : List HProp} (h : Rel w0 (mapc b kv es :: F) w) :
    ∃ arr clock, w.heap[b]? = some (.map arr clock) ∧ arr.toList.map (fun e => (e.key, e.val)) = es.map (fun p => (kv p.1, p.2)) ∧ Rel w0 (blk b (.map arr clock) :: F) w ∧ MapKept.Stamped arr clock := by
  obtain ⟨x, ⟨h1, h2, d, l1, l2, ⟨arr, clock, hb, he, hs⟩, s⟩, g⟩ := h.heap
  exact ⟨arr, clock, (g _ _ (l1 _ _ hb)).2, he, ⟨h.below, x, ⟨h1, h2, d, l1, l2, hb, s⟩, g⟩, hs⟩
omit [DecidableEq κ] in
theorem Ent.mapc {b : Nat} {es : List (κ × Value)} {arr : Array MapEntry} {clock : Nat} {F : List HProp} (he : arr.toList.map (fun e => (e.key, e.val)) = es.map (fun p => (kv p.1, p.2))) (hs : MapKept.Stamped arr clock) : Ent (blk b (.map arr clock) :: F) (Go.Sx.mapc b kv es :: F) :=
  fun _ ⟨h1, h2, d, l1, l2, hc, s⟩ => ⟨h1, h2, d, l1, l2, ⟨arr, clock, hc, he, hs⟩, s⟩
omit [DecidableEq κ] in
theorem Rel.map_set {w0 w : World} {b : Nat} {arr arr' : Array MapEntry} {clock clock' : Nat} {es : List (κ × Value)} {F : List HProp} (h : Rel w0 (blk b (.map arr clock) :: F) w) (he : arr'.toList.map (fun e => (e.key, e.val)) = es.map (fun p => (kv p.1, p.2))) (hs : MapKept.Stamped arr' clock') :
    Rel w0 (mapc b kv es :: F) { w with heap := w.heap.setIfInBounds b (.map arr' clock') } := by
  have hb := h.get
  have hlt : b < w.heap.size := (Array.getElem?_eq_some_iff.1 hb).1
  refine (h.set (w' := { w with heap := w.heap.setIfInBounds b (.map arr' clock') }) (o' := .map arr' clock') rfl rfl rfl (by simp) (by simp [hlt]) (fun k hk => by simp [Ne.symm hk])).ent (Ent.mapc he hs)
end
section
variable {P : Program} {T : Tbl} {w0 : World} {n : Nat} {HL : Held} {ops : Array Oper} {J : Env → List HProp → Prop} {ix : Nat} {rest : List Oper} {o : Oper} {e : Env} {H F : List HProp} {κ : Type} [DecidableEq κ] {D : TypeDesc} {kv : κ → Value}
omit [DecidableEq κ] in
theorem XO.makeMap {t : TypeId} {d : Nat} (kv : κ → Value) (hk0 : Keeps w0 H (keptBy HL ix)) (hg : wantedE ops e n o = true) (hd : o.dst = some d) (hop : o.op = .makeMap t none)
    (hk : ∀ b, Keeps w0 (mapc b kv [] :: H) (keptBy HL ix)) (h : ∀ b, XO P T w0 n HL ops J (ix + 1) rest (e.upd d (.map (some b))) (mapc b kv [] :: H)) : XO P T w0 n HL ops J ix (o :: rest) e H := by
  refine .effOp hk0 hg (by rw [hop]; rfl) (fun w hrel => ?_)
  refine ⟨_, _, _, .inl ?_, (hrel.alloc (.map #[] 0)).ent (Ent.mapc (kv := kv) (es := []) rfl (MapKept.stamped_empty 0)), hk _, by rw [hd]; exact h w.heap.size⟩
  simp [execOp, hop, Instr.makeMap, newObj, Sem.run]
/-- 'v, ok := m[k]': the two ways. -/
theorem XO.lookupOk {t kt vt : TypeId} {x y : Operand} {b : Nat} {k : κ} {es : List (κ × Value)} {z : Value} {d : Nat} (hK : KeyOk D kv) (hT : T.Ok P) (hh : heldAt HL ix = none) (hg : wantedE ops e n o = true) (hd : o.dst = some d) (hop : o.op = .lookup t x y true) (hu : T.und t = some (.map kt vt)) (hkd : T.und kt = some D) (hz : T.zero vt = some z)
    (hx : e.ev n x = .map (some b)) (hy : e.ev n y = kv k) (hr : ∀ w, Rel w0 H w → ∃ F', Rel w0 (mapc b kv es :: F') w)
    (h1 : ∀ v, mget es k = some v → XO P T w0 n HL ops J (ix + 1) rest (e.upd d (.tuple #[v, .bool true])) H) (h2 : mget es k = none → XO P T w0 n HL ops J (ix + 1) rest (e.upd d (.tuple #[z, .bool false])) H) : XO P T w0 n HL ops J ix (o :: rest) e H := by
  cases hm : mget es k with
  | none =>
    refine .readOp (v := .tuple #[z, .bool false]) hh hg (by rw [hop]; rfl) (fun w hrel => ?_) (by rw [hd]; exact h2 hm)
    obtain ⟨F', hrel⟩ := hr w hrel
    obtain ⟨arr, clock, hb, he, _⟩ := hrel.map_get
    have hf := findNow_none hK 0 he hm
    simp only [execOp, hop, hx, hy, Instr.lookup, Sem.run_bind, run_und hT hu, Result.andThen_ok, MapKept.run_getObj_map hb, Sem.run_pure, MapKept.run_checkKey (hT.und _ _ hkd) (hK.key k), MapKept.run_findKey (hT.und _ _ hkd) hf, run_zero hT hz, if_true]
  | some v =>
    refine .readOp (v := .tuple #[v, .bool true]) hh hg (by rw [hop]; rfl) (fun w hrel => ?_) (by rw [hd]; exact h1 v hm)
    obtain ⟨F', hrel⟩ := hr w hrel
    obtain ⟨arr, clock, hb, he, _⟩ := hrel.map_get
    obtain ⟨j, e', hf, _⟩ := findNow_some hK 0 he hm
    simp only [execOp, hop, hx, hy, Instr.lookup, Sem.run_bind, run_und hT hu, Result.andThen_ok, MapKept.run_getObj_map hb, Sem.run_pure, MapKept.run_checkKey (hT.und _ _ hkd) (hK.key k), MapKept.run_findKey (hT.und _ _ hkd) hf, if_true]
omit [DecidableEq κ] in
theorem XO.lenMap {t kt vt : TypeId} {x : Operand} {b : Nat} {es : List (κ × Value)} {d : Nat} (hT : T.Ok P) (hh : heldAt HL ix = none) (hg : wantedE ops e n o = true) (hd : o.dst = some d) (hop : o.op = .call { callee := .builtin .len, args := #[x], argTypes := #[t] }) (hu : T.und t = some (.map kt vt))
    (hx : e.ev n x = .map (some b)) (hr : ∀ w, Rel w0 H w → ∃ F', Rel w0 (mapc b kv es :: F') w) (h : XO P T w0 n HL ops J (ix + 1) rest (e.upd d (.int .i64 es.length)) H) : XO P T w0 n HL ops J ix (o :: rest) e H := by
  refine .readOp (v := .int .i64 es.length) hh hg (by rw [hop]; simp [cls, hu]) (fun w hrel => ?_) (by rw [hd]; exact h)
  obtain ⟨F', hrel⟩ := hr w hrel
  obtain ⟨arr, clock, hb, he, _⟩ := hrel.map_get
  have hl : arr.size = es.length := by have := congrArg List.length he; simpa using this
  simp [execOp, hop, resolve, invoke, builtin, Builtin.len_, run_und hT hu, hx, goInt, MapKept.run_getObj_map hb, hl]
theorem XO.mapSet {t kt vt : TypeId} {x y z : Operand} {b : Nat} {k : κ} {v : Value} {es : List (κ × Value)} (hK : KeyOk D kv) (hT : T.Ok P) (hk0 : Keeps w0 (mapc b kv es :: F) (keptBy HL ix)) (hg : wantedE ops e n o = true) (hd : o.dst = none) (hop : o.op = .mapUpdate t x y z) (hu : T.und t = some (.map kt vt)) (hkd : T.und kt = some D)
    (hx : e.ev n x = .map (some b)) (hy : e.ev n y = kv k) (hz : Hd (e.ev n z) = some v) (hk : Keeps w0 (mapc b kv (mset es k v) :: F) (keptBy HL ix)) (h : XO P T w0 n HL ops J (ix + 1) rest e (mapc b kv (mset es k v) :: F)) : XO P T w0 n HL ops J ix (o :: rest) e (mapc b kv es :: F) := by
  rw [Hd_eq] at hz
  injection hz with hz
  refine .effOp hk0 hg (by rw [hop]; rfl) (fun w hrel => ?_)
  obtain ⟨arr, clock, hb, he, hrel2, hst⟩ := hrel.map_get
  cases hm : mget es k with
  | none =>
    have hf := findNow_none hK 0 he hm
    refine ⟨undef, _, _, .inr ⟨?_, rfl⟩, hrel2.map_set (arr' := arr.push { key := kv k, val := v, born := clock }) (clock' := clock + 1) (es := mset es k v) ?_ (MapKept.stamped_push hst (keys_other hK he hm)), hk, by rw [hd]; exact h⟩
    · simp only [execOp, hop, hx, hy, hz, Instr.mapUpdate, Sem.run_bind, run_und hT hu, Result.andThen_ok, MapKept.run_getObj_map hb, MapKept.run_checkKey (hT.und _ _ hkd) (hK.key k), MapKept.run_findKey (hT.und _ _ hkd) hf, MapKept.run_setObj_map _ hb, Sem.run_pure]
    · rw [mset_new hm]; simp [he]
  | some v0 =>
    obtain ⟨j, e', hf, hj, hkey, hmod, _⟩ := findNow_some hK 0 he hm
    have hj' : arr[j]? = some e' := by simpa using hj
    refine ⟨undef, _, _, .inr ⟨?_, rfl⟩, hrel2.map_set (arr' := arr.modify j fun e => { e with key := kv k, val := v }) (clock' := clock) (es := mset es k v) ?_ (MapKept.stamped_modify hst j _ (fun _ _ => rfl) (fun e _ hej => by rw [hj'] at hej; injection hej with hej; subst hej; exact hkey.symm)), hk, by rw [hd]; exact h⟩
    · simp only [execOp, hop, hx, hy, hz, Instr.mapUpdate, Sem.run_bind, run_und hT hu, Result.andThen_ok, MapKept.run_getObj_map hb, MapKept.run_checkKey (hT.und _ _ hkd) (hK.key k), MapKept.run_findKey (hT.und _ _ hkd) hf, Nat.zero_add, hj', Option.map_some, Option.getD_some, hkey, Instr.keyThatStays, hK.bits, if_true, Sem.run_pure, MapKept.run_setObj_map _ hb]
    · have := hmod v
      simpa using this
theorem XO.mapDel {t kt vt t2 : TypeId} {x y : Operand} {b : Nat} {k : κ} {es : List (κ × Value)} (hK : KeyOk D kv) (hT : T.Ok P) (hk0 : Keeps w0 (mapc b kv es :: F) (keptBy HL ix)) (hg : wantedE ops e n o = true) (hd : o.dst = none) (hop : o.op = .call { callee := .builtin .delete, args := #[x, y], argTypes := #[t, t2] }) (hu : T.und t = some (.map kt vt)) (hkd : T.und kt = some D)
    (hx : e.ev n x = .map (some b)) (hy : e.ev n y = kv k) (hk : Keeps w0 (mapc b kv (mdel es k) :: F) (keptBy HL ix)) (h : XO P T w0 n HL ops J (ix + 1) rest e (mapc b kv (mdel es k) :: F)) : XO P T w0 n HL ops J ix (o :: rest) e (mapc b kv es :: F) := by
  refine .effOp hk0 hg (by rw [hop]; rfl) (fun w hrel => ?_)
  obtain ⟨arr, clock, hb, he, hrel2, hst⟩ := hrel.map_get
  cases hm : mget es k with
  | none =>
    have hf := findNow_none hK 0 he hm
    refine ⟨.tuple #[], _, _, .inl ?_, hrel2.map_set (arr' := arr) (clock' := clock) (es := mdel es k) (by rw [mdel_none hm]; exact he) hst, hk, by rw [hd]; exact h⟩
    simp [execOp, hop, resolve, invoke, builtin, Builtin.delete_, hx, hy, run_und hT hu, MapKept.run_getObj_map hb, MapKept.run_checkKey (hT.und _ _ hkd) (hK.key k), MapKept.run_findKey (hT.und _ _ hkd) hf, MapKept.run_setObj_map _ hb]
  | some v0 =>
    obtain ⟨j, e', hf, hj, hkey, _, hdel⟩ := findNow_some hK 0 he hm
    refine ⟨.tuple #[], _, _, .inl ?_, hrel2.map_set (arr' := arr.eraseIdxIfInBounds j) (clock' := clock) (es := mdel es k) (by simpa using hdel) (MapKept.stamped_erase hst j), hk, by rw [hd]; exact h⟩
    simp [execOp, hop, resolve, invoke, builtin, Builtin.delete_, hx, hy, run_und hT hu, MapKept.run_getObj_map hb, MapKept.run_checkKey (hT.und _ _ hkd) (hK.key k), MapKept.run_findKey (hT.und _ _ hkd) hf, MapKept.run_setObj_map _ hb]
end
/-! ### sets -/
section
variable {P : Program} {T : Tbl} {w0 : World} {n : Nat} {HL : Held} {ops : Array Oper} {J : Env → List HProp → Prop} {ix : Nat} {rest : List Oper} {o : Oper} {e : Env} {H F : List HProp} {κ : Type} [DecidableEq κ] {D : TypeDesc} {kv : κ → Value}
/-- A map all of whose values are one. -/
def setc (b : Nat) (kv : κ → Value) (u : Value) (ids : List κ) : HProp := mapc b kv (ids.map fun z => (z, u))
def insS (ids : List κ) (k : κ) : List κ := if k ∈ ids then ids else ids ++ [k]
theorem mget_set {u : Value} {k : κ} : ∀ {ids : List κ}, mget (ids.map fun z => (z, u)) k = if k ∈ ids then some u else none
  | [] => by simp [mget]
  | z :: ids => by
    simp only [List.map_cons, mget, mget_set, List.mem_cons]
    by_cases h : k = z
    · simp [h]
    · simp [h]
theorem mset_set {u : Value} {k : κ} : ∀ {ids : List κ}, mset (ids.map fun z => (z, u)) k u = (insS ids k).map fun z => (z, u)
  | [] => by simp [mset, insS]
  | z :: ids => by
    have ih := mset_set (u := u) (k := k) (ids := ids)
    by_cases h : k = z
    · simp [mset, insS, h]
    · simp only [List.map_cons, mset, ih, insS, List.mem_cons, if_neg h]
      by_cases h2 : k ∈ ids
      · rw [if_pos h2, if_pos (.inr h2)]; rfl
      · rw [if_neg h2, if_neg (by simp [h, h2])]; rfl
theorem mdel_set {u : Value} {k : κ} : ∀ {ids : List κ}, mdel (ids.map fun z => (z, u)) k = (ids.erase k).map fun z => (z, u)
  | [] => rfl
  | z :: ids => by
    have ih := mdel_set (u := u) (k := k) (ids := ids)
    by_cases h : k = z
    · simp [mdel, h]
    · simp only [List.map_cons, mdel, if_neg h, ih]
      rw [List.erase_cons_tail (by simpa using Ne.symm h)]; rfl
theorem XO.lookupSet {t kt vt : TypeId} {x y : Operand} {b : Nat} {k : κ} {ids : List κ} {z u : Value} {d : Nat} (hK : KeyOk D kv) (hT : T.Ok P) (hh : heldAt HL ix = none) (hg : wantedE ops e n o = true) (hd : o.dst = some d) (hop : o.op = .lookup t x y true) (hu : T.und t = some (.map kt vt)) (hkd : T.und kt = some D) (hz : T.zero vt = some z)
    (hx : e.ev n x = .map (some b)) (hy : e.ev n y = kv k) (hr : ∀ w, Rel w0 H w → ∃ F', Rel w0 (setc b kv u ids :: F') w)
    (h1 : k ∈ ids → XO P T w0 n HL ops J (ix + 1) rest (e.upd d (.tuple #[u, .bool true])) H) (h2 : k ∉ ids → XO P T w0 n HL ops J (ix + 1) rest (e.upd d (.tuple #[z, .bool false])) H) : XO P T w0 n HL ops J ix (o :: rest) e H := by
  refine .lookupOk (es := ids.map fun z => (z, u)) hK hT hh hg hd hop hu hkd hz hx hy hr (fun v hv => ?_) (fun hv => ?_)
  · rw [mget_set] at hv
    split at hv
    · injection hv with hv; subst hv; exact h1 (by assumption)
    · cases hv
  · rw [mget_set] at hv
    split at hv
    · cases hv
    · exact h2 (by assumption)
theorem XO.setAdd {t kt vt : TypeId} {x y z : Operand} {b : Nat} {k : κ} {u : Value} {ids : List κ} (hK : KeyOk D kv) (hT : T.Ok P) (hk0 : Keeps w0 (setc b kv u ids :: F) (keptBy HL ix)) (hg : wantedE ops e n o = true) (hd : o.dst = none) (hop : o.op = .mapUpdate t x y z) (hu : T.und t = some (.map kt vt)) (hkd : T.und kt = some D)
    (hx : e.ev n x = .map (some b)) (hy : e.ev n y = kv k) (hz : Hd (e.ev n z) = some u) (hk : Keeps w0 (setc b kv u (insS ids k) :: F) (keptBy HL ix)) (h : XO P T w0 n HL ops J (ix + 1) rest e (setc b kv u (insS ids k) :: F)) : XO P T w0 n HL ops J ix (o :: rest) e (setc b kv u ids :: F) := by
  refine .mapSet (es := ids.map fun z => (z, u)) hK hT hk0 hg hd hop hu hkd hx hy hz ?_ ?_
  · rw [mset_set]; exact hk
  · rw [mset_set]; exact h
theorem XO.setDel {t kt vt t2 : TypeId} {x y : Operand} {b : Nat} {k : κ} {u : Value} {ids : List κ} (hK : KeyOk D kv) (hT : T.Ok P) (hk0 : Keeps w0 (setc b kv u ids :: F) (keptBy HL ix)) (hg : wantedE ops e n o = true) (hd : o.dst = none) (hop : o.op = .call { callee := .builtin .delete, args := #[x, y], argTypes := #[t, t2] }) (hu : T.und t = some (.map kt vt)) (hkd : T.und kt = some D)
    (hx : e.ev n x = .map (some b)) (hy : e.ev n y = kv k) (hk : Keeps w0 (setc b kv u (ids.erase k) :: F) (keptBy HL ix)) (h : XO P T w0 n HL ops J (ix + 1) rest e (setc b kv u (ids.erase k) :: F)) : XO P T w0 n HL ops J ix (o :: rest) e (setc b kv u ids :: F) := by
  refine .mapDel (es := ids.map fun z => (z, u)) hK hT hk0 hg hd hop hu hkd hx hy ?_ ?_
  · rw [mdel_set]; exact hk
  · rw [mdel_set]; exact h
omit [DecidableEq κ] in
theorem XO.lenSet {t kt vt : TypeId} {x : Operand} {b : Nat} {u : Value} {ids : List κ} {d : Nat} (hT : T.Ok P) (hh : heldAt HL ix = none) (hg : wantedE ops e n o = true) (hd : o.dst = some d) (hop : o.op = .call { callee := .builtin .len, args := #[x], argTypes := #[t] }) (hu : T.und t = some (.map kt vt))
    (hx : e.ev n x = .map (some b)) (hr : ∀ w, Rel w0 H w → ∃ F', Rel w0 (setc b kv u ids :: F') w) (h : XO P T w0 n HL ops J (ix + 1) rest (e.upd d (.int .i64 ids.length)) H) : XO P T w0 n HL ops J ix (o :: rest) e H := by
  refine .lenMap (es := ids.map fun z => (z, u)) hT hh hg hd hop hu hx hr ?_
  rw [List.length_map]; exact h
omit [DecidableEq κ] in
/-- 'min' of two numbers. -/
theorem XO.minI {x y : Operand} {ts : Array TypeId} {a b : Int} {k k' : IntKind} {d : Nat} (hg : wantedE ops e n o = true) (hd : o.dst = some d) (hop : o.op = .call { callee := .builtin .min, args := #[x, y], argTypes := ts }) (hx : e.ev n x = .int k a) (hy : e.ev n y = .int k' b)
    (h1 : a ≤ b → XO P T w0 n HL ops J (ix + 1) rest (e.upd d (.int k a)) H) (h2 : b < a → XO P T w0 n HL ops J (ix + 1) rest (e.upd d (.int k b)) H) : XO P T w0 n HL ops J ix (o :: rest) e H := by
  by_cases h : b < a
  · refine .pureOp (v := .int k b) hg (by rw [hop]; rfl) (fun w => ?_) (by rw [hd]; exact h2 h)
    simp [execOp, hop, resolve, invoke, builtin, hx, hy, run_min_int2, h]
  · refine .pureOp (v := .int k a) hg (by rw [hop]; rfl) (fun w => ?_) (by rw [hd]; exact h1 (by omega))
    simp [execOp, hop, resolve, invoke, builtin, hx, hy, run_min_int2, h]
end
end Go.Sx

/- Rules: parts of slices, appending nothing. Conditions: the table 'T' fits the program. -/
namespace Go.Sx
open Go Go.RowKit
section
variable {P : Program} {T : Tbl} {w0 : World} {n : Nat} {HL : Held} {ops : Array Oper} {J : Env → List HProp → Prop} {ix : Nat} {rest : List Oper} {o : Oper} {e : Env} {H F : List HProp}
theorem Addr.add0 (a : Addr) : a.add 0 = a := by simp [Addr.add]
/-- 's[:h]'. -/
theorem XO.sliceHi {x z : Operand} {t u : TypeId} {a : Option Addr} {k c s h : Nat} {kz : IntKind} {d : Nat} (hT : T.Ok P) (hg : wantedE ops e n o = true) (hd : o.dst = some d) (hop : o.op = .slice t x none (some z) none) (hu : T.und t = some (.slice u)) (hs : T.size u = some s)
    (hx : e.ev n x = .slice a k c) (hz : e.ev n z = .int kz (h : Int)) (h1 : h ≤ c) (hh : XO P T w0 n HL ops J (ix + 1) rest (e.upd d (.slice a h c)) H) : XO P T w0 n HL ops J ix (o :: rest) e H := by
  refine .pureOp (v := .slice a h c) hg (by rw [hop]; rfl) (fun w => ?_) (by rw [hd]; exact hh)
  have e0 : (if c = 0 then a else a.map (·.add (0 * s))) = a := by
    split
    · rfl
    · cases a <;> simp [Addr.add0]
  simp [execOp, hop, hx, hz, Instr.sliceAt, Instr.slice, run_und hT hu, run_size hT hs, Instr.sliceBounds, run_sliceBound, h1]
  simpa using e0
/-- 's[l:]'. -/
theorem XO.sliceLo {x z : Operand} {t u : TypeId} {b off k c s l : Nat} {kz : IntKind} {d : Nat} (hT : T.Ok P) (hg : wantedE ops e n o = true) (hd : o.dst = some d) (hop : o.op = .slice t x (some z) none none) (hu : T.und t = some (.slice u)) (hs : T.size u = some s)
    (hx : e.ev n x = .slice (some ⟨b, off, none⟩) k c) (hz : e.ev n z = .int kz (l : Int)) (h1 : l ≤ k) (h2 : k ≤ c) (hh : ∀ ad : Addr, (l < k → ad = ⟨b, off + l * s, none⟩) → XO P T w0 n HL ops J (ix + 1) rest (e.upd d (.slice (some ad) (k - l) (c - l))) H) : XO P T w0 n HL ops J ix (o :: rest) e H := by
  refine .pureOp (v := .slice (some (if c = l then ⟨b, off, none⟩ else ⟨b, off + l * s, none⟩)) (k - l) (c - l)) hg (by rw [hop]; rfl) (fun w => ?_) (by rw [hd]; exact hh _ (fun hl => by rw [if_neg (by omega)]))
  simp [execOp, hop, hx, hz, Instr.sliceAt, Instr.slice, run_und hT hu, run_size hT hs, Instr.sliceBounds, run_sliceBound, h1, Addr.add_mk]
  split <;> rfl
theorem append0_run {P : Program} {w0 w : World} {t ty u : TypeId} {i : TypeInfo} (ht : P.underlying t = some (.slice u)) (hi : P.info? u = some i) {a : Option Addr} {cap m : Nat} {l : List Value} (h : Rel w0 (Row a cap u i.size m l :: F) w) {ay : Option Addr} {c : Nat} :
    (Builtin.append_ #[t, t] ty #[.slice a m cap, .slice ay 0 c]).run P w = .ok (.slice a m cap) w := by
  have hmc : m ≤ cap := by
    obtain ⟨x, ⟨h1, h2, d, l1, l2, hc, s⟩, g⟩ := h.heap
    rcases hc with ⟨_, rfl, rfl, _⟩ | ⟨b, _, tail, _, _, _, h3, _⟩
    · exact Nat.le_refl _
    · exact h3
  have hf : (Builtin.firstCells i.size 0 (.slice ay 0 c)).run P w = .ok #[] w := by
    cases ay with
    | none => simp [Builtin.firstCells]
    | some ad => exact run_firstCells_some (P := P) w i.size 0 ad 0 c [] (by simp) (fun j v hj => by simp at hj)
  cases a with
  | none =>
    obtain ⟨rfl, rfl⟩ : m = 0 ∧ cap = 0 := by
      obtain ⟨x, ⟨h1, h2, d, l1, l2, hc, s⟩, g⟩ := h.heap
      rcases hc with ⟨_, rfl, rfl, _⟩ | ⟨b, hb, _⟩
      · exact ⟨rfl, rfl⟩
      · cases hb
    simp [Builtin.append_, run_underlying ht, sizeOf, typeInfo, hi, Builtin.lenOf, hf]
  | some ad =>
    simp [Builtin.append_, run_underlying ht, sizeOf, typeInfo, hi, Builtin.lenOf, hf, hmc, storeCells]
/-- 'append' of nothing. -/
theorem XO.append0 {x y : Operand} {t u : TypeId} {a ay : Option Addr} {cap k c s : Nat} {l : List Value} {d : Nat} (hT : T.Ok P) (hk0 : Keeps w0 (Row a cap u s k l :: F) (keptBy HL ix)) (hg : wantedE ops e n o = true) (hd : o.dst = some d)
    (hop : o.op = .call { callee := .builtin .append, args := #[x, y], argTypes := #[t, t] }) (hu : T.und t = some (.slice u)) (hs : T.size u = some s)
    (hx : e.ev n x = .slice a k cap) (hy : e.ev n y = .slice ay 0 c) (h : XO P T w0 n HL ops J (ix + 1) rest (e.upd d (.slice a k cap)) (Row a cap u s k l :: F)) : XO P T w0 n HL ops J ix (o :: rest) e (Row a cap u s k l :: F) := by
  refine .effOp hk0 hg (by rw [hop]; rfl) (fun w hrel => ?_)
  obtain ⟨i, hi, rfl⟩ := hT.size _ _ hs
  refine ⟨_, w, _, .inl ?_, hrel, hk0, by rw [hd]; exact h⟩
  have hrun := append0_run (P := P) (ty := o.type) (ay := ay) (c := c) (hT.und _ _ hu) hi hrel
  simp only [execOp, hop, resolve, invoke, builtin, Sem.run_bind, Sem.run_pure, Result.andThen_ok, List.map_toArray, List.map_cons, List.map_nil, hx, hy, hrun]
end
section
variable {w0 : World} {α : Type} {enc : α → List Value} {es : Nat}
theorem ReadsL.rowDrop {b cap n : Nat} {t : TypeId} {xs : List α} {F : List HProp} (i : Nat) (he : ∀ x, (enc x).length = es) : ReadsL w0 (RowAt b cap t es n (Go.Sx.flat enc xs) :: F) ⟨b, i * es, none⟩ (Go.Sx.flat enc (xs.drop i)) := fun j v hj => by
  rw [Addr.add_mk]; refine Reads.row ?_
  by_cases hi : i ≤ xs.length
  · have e : Go.Sx.flat enc xs = Go.Sx.flat enc (xs.take i) ++ Go.Sx.flat enc (xs.drop i) := by rw [← flat_append, List.take_append_drop]
    have hl : (Go.Sx.flat enc (xs.take i)).length = i * es := by rw [flat_length he, List.length_take, Nat.min_eq_left hi]
    rw [e, List.getElem?_append_right (by omega), hl, Nat.add_sub_cancel_left]; exact hj
  · rw [List.drop_eq_nil_of_le (by omega)] at hj; simp [Go.Sx.flat] at hj
theorem ReadsL.rowTake {b cap n : Nat} {t : TypeId} {xs : List α} {F : List HProp} (i : Nat) : ReadsL w0 (RowAt b cap t es n (Go.Sx.flat enc xs) :: F) ⟨b, 0, none⟩ (Go.Sx.flat enc (xs.take i)) := fun j v hj => by
  rw [Addr.add_mk]; refine Reads.row ?_
  have e : Go.Sx.flat enc xs = Go.Sx.flat enc (xs.take i) ++ Go.Sx.flat enc (xs.drop i) := by rw [← flat_append, List.take_append_drop]
  have hj' : j < (Go.Sx.flat enc (xs.take i)).length := by
    rcases Nat.lt_or_ge j (Go.Sx.flat enc (xs.take i)).length with h | h
    · exact h
    · rw [List.getElem?_eq_none h] at hj; cases hj
  rw [e, Nat.zero_add, List.getElem?_append_left hj']; exact hj
end
section
variable {P : Program} {T : Tbl} {w0 : World} {n : Nat} {HL : Held} {ops : Array Oper} {J : Env → List HProp → Prop} {ix : Nat} {rest : List Oper} {o : Oper} {e : Env} {H F : List HProp}
theorem flat_all {α : Type} {enc : α → List Value} (h : ∀ x, (enc x).all (·.oneCell') = true) : ∀ xs : List α, (flat enc xs).all (·.oneCell') = true
  | [] => rfl
  | x :: xs => by rw [flat_cons, List.all_append, h x, flat_all h xs]; rfl
/-- 'append' of any number. -/
theorem XO.appendN {x y : Operand} {t u : TypeId} {a ay : Option Addr} {cap k m c s bs : Nat} {l news : List Value} {F : List HProp} {z : Value} {d : Nat} (hT : T.Ok P) (hk0 : Keeps w0 (Row a cap u s k l :: F) (keptBy HL ix)) (hg : wantedE ops e n o = true) (hd : o.dst = some d)
    (hop : o.op = .call { callee := .builtin .append, args := #[x, y], argTypes := #[t, t] }) (hu : T.und t = some (.slice u)) (hs : T.size u = some s) (hbs : T.bytes u = some bs) (hz : T.zero u = some z) (hzs : Nat.beq z.cells.size s = true) (hs0 : Nat.blt 0 s = true)
    (hx : e.ev n x = .slice a k cap) (hy : e.ev n y = .slice ay m c) (hr : 0 < m → ∃ ad, ay = some ad ∧ ReadsL w0 (Row a cap u s k l :: F) ad news) (hl : news.length = m * s) (h1 : news.all (·.oneCell') = true) {N : Nat} (hN : k + m ≤ N) (hn : Nat.ble (N * bs) 140737488355328 = true) (hn2 : Nat.ble N 9223372036854775807 = true)
    (hk : ∀ a' cap', Keeps w0 (Row a' cap' u s (k + m) (l ++ news) :: F) (keptBy HL ix)) (h : ∀ a' cap', XO P T w0 n HL ops J (ix + 1) rest (e.upd d (.slice a' (k + m) cap')) (Row a' cap' u s (k + m) (l ++ news) :: F)) : XO P T w0 n HL ops J ix (o :: rest) e (Row a cap u s k l :: F) := by
  rcases Nat.eq_zero_or_pos m with hm | hm
  · subst hm
    have hnil : news = [] := List.eq_nil_of_length_eq_zero (by omega)
    subst hnil
    have h' := h a cap
    rw [List.append_nil, Nat.add_zero] at h'
    exact XO.append0 hT hk0 hg hd hop hu hs hx hy h'
  · obtain ⟨ad, rfl, hr'⟩ := hr hm
    exact XO.append hT hk0 hg hd hop hu hs hbs hz hzs hs0 hx hy hr' hl hm h1 hN hn hn2 hk h
theorem XO.rowLe {l : List Oper} {g cap : Nat} {t : TypeId} {es m : Nat} {ys : List Value} {F : List HProp} (h : m ≤ cap → XO P T w0 n HL ops J ix l e (RowAt g cap t es m ys :: F)) : XO P T w0 n HL ops J ix l e (RowAt g cap t es m ys :: F) :=
  .ex (ι := { _u : Unit // m ≤ cap }) (H' := fun _ => RowAt g cap t es m ys :: F) (fun _ hr => let ⟨_, _, _, _, h3, _⟩ := hr.rowAt_blk; ⟨⟨(), h3⟩, hr⟩) (fun u => h u.2)
end
end Go.Sx
