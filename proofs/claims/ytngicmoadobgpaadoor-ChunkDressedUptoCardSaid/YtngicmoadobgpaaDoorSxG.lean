/- Rules: slices made and appended to, rows of structs, chunks put together. Conditions: the table 'T' fits the program. -/
import Derived.Test.YtngicmoadobgpaaDoorSxF
import Derived.Laws.MakeOwn
namespace Go.Sx
open Go Go.RowKit

/-! ### chunks put together -/
/-- A chunk with something in it that is not named. -/
def hex {ι : Sort _} (f : ι → HProp) : HProp := fun h => ∃ x, f x h
theorem Ent.hex {ι : Sort _} {f : ι → HProp} {F : List HProp} (x : ι) : Ent (f x :: F) (Go.Sx.hex f :: F) := fun _ ⟨h1, h2, d, l1, l2, hc, s⟩ => ⟨h1, h2, d, l1, l2, ⟨x, hc⟩, s⟩
theorem Rel.hex {ι : Sort _} {f : ι → HProp} {F : List HProp} {w0 w : World} (h : Rel w0 (Go.Sx.hex f :: F) w) : ∃ x, Rel w0 (f x :: F) w := by
  obtain ⟨y, ⟨h1, h2, d, l1, l2, ⟨x, hc⟩, s⟩, g⟩ := h.heap
  exact ⟨x, h.below, y, ⟨h1, h2, d, l1, l2, hc, s⟩, g⟩
theorem Ent.pack {L F : List HProp} : Ent (L ++ F) (stars L :: F) := Ent.close fun _ h => h
theorem Ent.unpack {L F : List HProp} : Ent (stars L :: F) (L ++ F) := Ent.open_ fun _ h => h
theorem Ent.pack2 {a b : HProp} {F : List HProp} : Ent (a :: b :: F) (stars [a, b] :: F) := Ent.pack (L := [a, b])
theorem Ent.unpack2 {a b : HProp} {F : List HProp} : Ent (stars [a, b] :: F) (a :: b :: F) := Ent.unpack (L := [a, b])
theorem Ent.pack3 {a b c : HProp} {F : List HProp} : Ent (a :: b :: c :: F) (stars [a, b, c] :: F) := Ent.pack (L := [a, b, c])
theorem Ent.unpack3 {a b c : HProp} {F : List HProp} : Ent (stars [a, b, c] :: F) (a :: b :: c :: F) := Ent.unpack (L := [a, b, c])

section
variable {P : Program} {w0 : World} {n : Nat} {b : Frame} {R : Value → List HProp → Prop} {k : List Item} {e : Env} {F : List HProp}
theorem XS.hex {ι : Sort _} {f : ι → HProp} (h : ∀ x, XS P w0 b n R k e (f x :: F)) : XS P w0 b n R k e (Go.Sx.hex f :: F) := .ex (fun _ hr => hr.hex) h
theorem XS.rowOpen {a : Option Addr} {cap : Nat} {t : TypeId} {es m : Nat} {l : List Value} (hm : 0 < m) (h : ∀ g, a = some ⟨g, 0, none⟩ → XS P w0 b n R k e (RowAt g cap t es m l :: F)) : XS P w0 b n R k e (Row a cap t es m l :: F) :=
  .ex (ι := { g : Nat // a = some ⟨g, 0, none⟩ }) (H' := fun g => RowAt g.1 cap t es m l :: F) (fun _ hr => let ⟨g, hg, h⟩ := hr.row_open hm; ⟨⟨g, hg⟩, h⟩) (fun g => h g.1 g.2)
end

/-! ### rows of structs -/
def flat {α : Type} (enc : α → List Value) (xs : List α) : List Value := (xs.map enc).flatten
section
variable {α : Type} {enc : α → List Value} {es : Nat}
theorem flat_nil : flat enc [] = [] := rfl
theorem flat_cons (x : α) (xs : List α) : flat enc (x :: xs) = enc x ++ flat enc xs := by simp [flat]
theorem flat_append (xs ys : List α) : flat enc (xs ++ ys) = flat enc xs ++ flat enc ys := by simp [flat]
theorem flat_snoc (xs : List α) (x : α) : flat enc (xs ++ [x]) = flat enc xs ++ enc x := by simp [flat]
theorem flat_length (he : ∀ x, (enc x).length = es) : ∀ xs : List α, (flat enc xs).length = xs.length * es
  | [] => by simp [flat]
  | x :: xs => by rw [flat_cons, List.length_append, flat_length he xs, he, List.length_cons, Nat.add_mul]; omega
theorem flat_get (he : ∀ x, (enc x).length = es) : ∀ {xs : List α} {i j : Nat} {x : α} {v : Value}, xs[i]? = some x → (enc x)[j]? = some v → (flat enc xs)[i * es + j]? = some v
  | [], i, j, x, v, h, _ => by simp at h
  | y :: xs, 0, j, x, v, h, hv => by
    simp at h; subst h
    rw [flat_cons, Nat.zero_mul, Nat.zero_add, List.getElem?_append_left (List.getElem?_eq_some_iff.1 hv).1]; exact hv
  | y :: xs, i + 1, j, x, v, h, hv => by
    rw [flat_cons, List.getElem?_append_right (by rw [he, Nat.add_mul]; omega), he, show (i + 1) * es + j - es = i * es + j from by rw [Nat.add_mul]; omega]
    exact flat_get he (by simpa using h) hv
theorem flat_zero (x : α) : ∀ k : Nat, flat enc (List.replicate k x) = zrow k (enc x)
  | 0 => rfl
  | k + 1 => by rw [List.replicate_succ, flat_cons, flat_zero x k]; rfl
theorem wr_skip : ∀ (vs a l : List Value) (o : Nat), a.length ≤ o → wr (a ++ l) o vs = a ++ wr l (o - a.length) vs
  | [], a, l, o, h => rfl
  | v :: vs, a, l, o, h => by
    simp only [wr]
    rw [List.set_append_right _ _ h, wr_skip vs a _ (o + 1) (by omega), show o + 1 - a.length = o - a.length + 1 from by omega]
theorem flat_wr (he : ∀ x, (enc x).length = es) {cs : List Value} {j : Nat} {x x' : α} : ∀ {xs : List α} {i : Nat}, xs[i]? = some x → j + cs.length ≤ es → wr (enc x) j cs = enc x' → wr (flat enc xs) (i * es + j) cs = flat enc (xs.set i x')
  | [], i, h, _, _ => by simp at h
  | y :: xs, 0, h, hj, hw => by
    simp at h; subst h
    rw [flat_cons, Nat.zero_mul, Nat.zero_add, wr_append _ _ _ _ (by rw [he]; exact hj), hw, List.set_cons_zero, flat_cons]
  | y :: xs, i + 1, h, hj, hw => by
    rw [flat_cons, wr_skip _ _ _ _ (by rw [he, Nat.add_mul]; omega), he, show (i + 1) * es + j - es = i * es + j from by rw [Nat.add_mul]; omega, flat_wr he (by simpa using h) hj hw, List.set_cons_succ, flat_cons]
end
theorem wrL_wr {xs l : List Value} {k : Nat} {l' : List Value} (h : wrL l k xs = some l') (hk : k ≤ l.length) : wr l k xs = l' := (wrL_eq h hk).2.symm
theorem all_one (xs : List Value) (h : xs.all (·.oneCell') = true) : ∀ u ∈ xs, u.oneCell' = true := fun u hu => List.all_eq_true.1 h u hu

section
variable {w0 : World} {α : Type} {enc : α → List Value} {es : Nat}
theorem ReadsL.flat {b : Nat} {t : TypeId} {xs : List α} {F : List HProp} {i : Nat} {x : α} (he : ∀ x, (enc x).length = es) (h : xs[i]? = some x) : ReadsL w0 (cel b t (Go.Sx.flat enc xs) :: F) ⟨b, i * es, none⟩ (enc x) := fun j v hj => by
  rw [Addr.add_mk]; exact Reads.here (flat_get he h hj)
theorem ReadsL.rowFlat {b cap n : Nat} {t : TypeId} {xs : List α} {F : List HProp} {i : Nat} {x : α} (he : ∀ x, (enc x).length = es) (h : xs[i]? = some x) : ReadsL w0 (RowAt b cap t es n (Go.Sx.flat enc xs) :: F) ⟨b, i * es, none⟩ (enc x) := fun j v hj => by
  rw [Addr.add_mk]; exact Reads.row (flat_get he h hj)
end

/-! ### slices are made, and appended to -/
theorem Rel.reRow {w0 w w' : World} {a a' : Option Addr} {cap cap' : Nat} {t t' : TypeId} {es es' n n' : Nat} {l l' : List Value} {F : List HProp} (h : Rel w0 (Row a cap t es n l :: F) w) (hos : w'.os = w.os) (ht : w'.tape = w.tape) (hout : w'.output = w.output)
    (hsz : w.heap.size ≤ w'.heap.size) {g : Nat} {tail : List Value} (ha : a' = some ⟨g, 0, none⟩) (hg : w'.heap[g]? = some (.cells ⟨l' ++ tail⟩ t' (0, 0))) (hl : (l' ++ tail).length = cap' * es') (hl' : l'.length = n' * es') (hn : n' ≤ cap') (hc : cap' ≤ maxLen)
    (hwhere : g = w.heap.size ∨ a = some ⟨g, 0, none⟩) (hne : ∀ k, k < w.heap.size → k ≠ g → w'.heap[k]? = w.heap[k]?) : Rel w0 (Row a' cap' t' es' n' l' :: F) w' := by
  obtain ⟨x, ⟨h1, h2, d, l1, l2, hc0, s⟩, gg⟩ := h.heap
  have hge : w0.heap.size ≤ g := by
    rcases hwhere with rfl | rfl
    · exact h.below.size
    · rcases hc0 with ⟨h0, _⟩ | ⟨b, hb, tl, hb2, _⟩
      · cases h0
      · cases hb; exact (gg _ _ (l1 _ _ hb2)).1
  have h2g : h2 g = none := by
    cases e : h2 g with
    | none => rfl
    | some o =>
      rcases hwhere with rfl | rfl
      · have := (gg _ _ (l2 _ _ e)).2
        rw [Array.getElem?_eq_none (Nat.le_refl _)] at this; cases this
      · rcases hc0 with ⟨h0, _⟩ | ⟨b, hb, tl, hb2, _⟩
        · cases h0
        · cases hb
          rcases d g with e' | e'
          · rw [hb2] at e'; cases e'
          · rw [e] at e'; cases e'
  refine ⟨⟨hos.trans h.below.os, ht.trans h.below.tape, hout.trans h.below.output, Nat.le_trans h.below.size hsz, fun k hk => ?_⟩, ?_⟩
  · rw [hne k (Nat.lt_of_lt_of_le hk h.below.size) (by omega)]; exact h.below.block k hk
  · refine ⟨fun k => if k = g then some (.cells ⟨l' ++ tail⟩ t' (0, 0)) else h2 k, ⟨fun k => if k = g then some (.cells ⟨l' ++ tail⟩ t' (0, 0)) else none, h2, ?_, ?_, ?_, ?_, s⟩, ?_⟩
    · intro k
      by_cases e : k = g
      · right; rw [e]; exact h2g
      · left; simp [e]
    · intro k o hk
      by_cases e : k = g
      · simpa [e] using hk
      · simp [e] at hk
    · intro k o hk
      have : k ≠ g := fun e => by rw [e, h2g] at hk; cases hk
      simp [this, hk]
    · exact .inr ⟨g, ha, tail, by simp, hl, hl', hn, hc⟩
    · intro k o hk
      by_cases e : k = g
      · subst e; simp at hk; subst hk; exact ⟨hge, hg⟩
      · simp [e] at hk
        obtain ⟨g1, g2⟩ := gg _ _ (l2 _ _ hk)
        refine ⟨g1, ?_⟩
        have hlt : k < w.heap.size := by
          rcases Nat.lt_or_ge k w.heap.size with h' | h'
          · exact h'
          · rw [Array.getElem?_eq_none h'] at g2; cases g2
        rw [hne k hlt e]; exact g2

theorem append_rel {P : Program} {w0 w : World} {t ty u : TypeId} {i : TypeInfo} {z : Value} (ht : P.underlying t = some (.slice u)) (hi : P.info? u = some i) (hz : i.zero = some z) (hzs : z.cells.size = i.size) (_hs0 : 0 < i.size)
    {a : Option Addr} {cap n : Nat} {l : List Value} {F : List HProp} (h : Rel w0 (Row a cap u i.size n l :: F) w) {ad : Addr} {m c : Nat} {news : List Value} (hl : news.length = m * i.size) (hm : 0 < m) (hnews : ∀ j v, news[j]? = some v → w.cell? (ad.add j) = some v) (h1 : ∀ v ∈ news, v.oneCell' = true)
    (h63 : n + m ≤ maxLen) (hbytes : (n + m) * i.bytes ≤ 140737488355328) :
    ∃ a' cap' w', (Builtin.append_ #[t, t] ty #[.slice a n cap, .slice (some ad) m c]).run P w = .ok (.slice a' (n + m) cap') w' ∧ Rel w0 (Row a' cap' u i.size (n + m) (l ++ news) :: F) w' := by
  have hlen : l.length = n * i.size := h.row_len
  have hlen2 : (l ++ news).length = (n + m) * i.size := by rw [List.length_append, hlen, hl, Nat.add_mul]
  have hsmall : n + m ≤ 9223372036854775807 := by simp only [maxLen] at h63; omega
  have grown : ∀ old, Rel w0 (Row (some ⟨w.heap.size, 0, none⟩) (grownCap w (n + m) old u) u i.size (n + m) (l ++ news) :: F) (w.drew.alloc (.cells (l.toArray ++ news.toArray ++ Builtin.zeroCells z.cells (grownCap w (n + m) old u - (n + m))) u)) := by
    intro old
    have hge := grownCap_ge w (n + m) old u
    have hcm : grownCap w (n + m) old u ≤ maxLen := grownCap_le_maxLen w (n + m) old u h63
    refine h.reRow (g := w.heap.size) (tail := (Builtin.zeroCells z.cells (grownCap w (n + m) old u - (n + m))).toList) rfl rfl rfl (by simp) rfl ?_ ?_ hlen2 hge hcm (.inl rfl) (fun k hk _ => heap_alloc_old w.drew _ hk)
    · have := heap_alloc_new w.drew (.cells (l.toArray ++ news.toArray ++ Builtin.zeroCells z.cells (grownCap w (n + m) old u - (n + m))) u)
      rw [show w.drew.heap.size = w.heap.size from rfl] at this
      rw [this]
      congr 2
      apply Array.ext'; simp
    · rw [List.length_append, hlen2, Array.length_toList, size_zeroCells, hzs, ← Nat.add_mul]
      congr 1; omega
  rcases a with _ | a
  · obtain ⟨rfl, rfl, rfl⟩ : n = 0 ∧ cap = 0 ∧ l = [] := by
      obtain ⟨x, ⟨h1, h2, d, l1, l2, hc, s⟩, g⟩ := h.heap
      rcases hc with ⟨_, rfl, rfl, rfl⟩ | ⟨b, hb, _⟩
      · exact ⟨rfl, rfl, rfl⟩
      · cases hb
    have hr := run_append_nil (P := P) w t ty u i z ht hi hz ad m c news hl hnews hm (by omega) (by have hb := hbytes; simp only [Nat.zero_add] at hb; omega)
    have g0 := grown 0
    simp only [Nat.zero_add, List.nil_append, Array.empty_append] at g0 ⊢
    exact ⟨_, _, _, hr, g0⟩
  · obtain ⟨g, ha, tail, hg, hcl, hnc, hcm⟩ : ∃ g, some a = some ⟨g, 0, none⟩ ∧ ∃ tail, w.heap[g]? = some (.cells ⟨l ++ tail⟩ u (0, 0)) ∧ (l ++ tail).length = cap * i.size ∧ n ≤ cap ∧ cap ≤ maxLen := by
      obtain ⟨x, ⟨h1, h2, d, l1, l2, hc, s⟩, gg⟩ := h.heap
      rcases hc with ⟨h0, _⟩ | ⟨b, hb, tail, hb2, h3, h4, h5, h6⟩
      · cases h0
      · exact ⟨b, hb, tail, (gg _ _ (l1 _ _ hb2)).2, h3, h5, h6⟩
    injection ha with ha
    subst ha
    by_cases hroom : n + m ≤ cap
    · have hfit : n * i.size + news.length ≤ (⟨l ++ tail⟩ : Array Value).size := by
        show _ ≤ (l ++ tail).length
        rw [hl, hcl, ← Nat.add_mul]; exact Nat.mul_le_mul_right _ hroom
      have hr := run_append_room (P := P) w t ty u i ht hi g n cap _ hg ad m c news hl hnews h1 hroom hfit
      refine ⟨_, _, _, hr, h.reRow (g := g) (tail := (l ++ tail).drop (n * i.size + news.length)) rfl rfl rfl (by simp [World.setRow]) rfl ?_ ?_ hlen2 hroom hcm (.inr rfl) (fun k _ hk => setRow_other w g k _ hk)⟩
      · rw [setRow_heap w g _ _ u _ hg]
        congr 2
        apply Array.ext'
        simp [← hlen]
      · have hf : n * i.size + news.length ≤ (l ++ tail).length := hfit
        rw [List.length_append, List.length_drop, hlen2, hcl]
        rw [hcl] at hf
        rw [hl, ← Nat.add_mul] at hf ⊢
        omega
    · have holds : ∀ j v, l[j]? = some v → w.cell? ((⟨g, 0, none⟩ : Addr).add j) = some v := fun j v hj => by
        rw [Addr.add_mk, Nat.zero_add, cell_of_row w g j _ u (0, 0) hg]
        have hlt := (List.getElem?_eq_some_iff.1 hj).1
        simp [List.getElem?_append_left hlt, hj]
      have hr := run_append_grow (P := P) w t ty u i z ht hi hz ⟨g, 0, none⟩ n cap l hlen holds ad m c news hl hnews (by omega) (by omega) (growslice_fits (by omega) hbytes)
      exact ⟨_, _, _, hr, grown cap⟩

section
variable {P : Program} {T : Tbl} {w0 : World} {n : Nat} {HL : Held} {ops : Array Oper} {J : Env → List HProp → Prop} {ix : Nat} {rest : List Oper} {o : Oper} {e : Env} {H : List HProp}

theorem XO.hex {ι : Sort _} {l : List Oper} {f : ι → HProp} {F : List HProp} (h : ∀ x, XO P T w0 n HL ops J ix l e (f x :: F)) : XO P T w0 n HL ops J ix l e (Go.Sx.hex f :: F) := .ex (fun _ hr => hr.hex) h
theorem XO.rowOpen {l : List Oper} {a : Option Addr} {cap : Nat} {t : TypeId} {es m : Nat} {ys : List Value} {F : List HProp} (hm : 0 < m) (h : ∀ g, a = some ⟨g, 0, none⟩ → XO P T w0 n HL ops J ix l e (RowAt g cap t es m ys :: F)) : XO P T w0 n HL ops J ix l e (Row a cap t es m ys :: F) :=
  .ex (ι := { g : Nat // a = some ⟨g, 0, none⟩ }) (H' := fun g => RowAt g.1 cap t es m ys :: F) (fun _ hr => let ⟨g, hg, h⟩ := hr.row_open hm; ⟨⟨g, hg⟩, h⟩) (fun g => h g.1 g.2)

/-- 'append(s, one or more)': the slice grows. -/
theorem XO.append {x y : Operand} {t u : TypeId} {a : Option Addr} {cap k m c s bs : Nat} {l news : List Value} {F : List HProp} {ad : Addr} {z : Value} {d : Nat} (hT : T.Ok P) (hk0 : Keeps w0 (Row a cap u s k l :: F) (keptBy HL ix)) (hg : wantedE ops e n o = true) (hd : o.dst = some d)
    (hop : o.op = .call { callee := .builtin .append, args := #[x, y], argTypes := #[t, t] }) (hu : T.und t = some (.slice u)) (hs : T.size u = some s) (hbs : T.bytes u = some bs) (hz : T.zero u = some z) (hzs : Nat.beq z.cells.size s = true) (hs0 : Nat.blt 0 s = true)
    (hx : e.ev n x = .slice a k cap) (hy : e.ev n y = .slice (some ad) m c) (hr : ReadsL w0 (Row a cap u s k l :: F) ad news) (hl : news.length = m * s) (hm : 0 < m) (h1 : news.all (·.oneCell') = true) {N : Nat} (hN : k + m ≤ N) (hn : Nat.ble (N * bs) 140737488355328 = true) (hn2 : Nat.ble N 9223372036854775807 = true)
    (hk : ∀ a' cap', Keeps w0 (Row a' cap' u s (k + m) (l ++ news) :: F) (keptBy HL ix)) (h : ∀ a' cap', XO P T w0 n HL ops J (ix + 1) rest (e.upd d (.slice a' (k + m) cap')) (Row a' cap' u s (k + m) (l ++ news) :: F)) : XO P T w0 n HL ops J ix (o :: rest) e (Row a cap u s k l :: F) := by
  refine .effOp hk0 hg (by rw [hop]; rfl) (fun w hrel => ?_)
  obtain ⟨i, hi, rfl⟩ := hT.size _ _ hs
  obtain ⟨i2, hi2, hb2⟩ := hT.bytes _ _ hbs
  obtain ⟨i3, hi3, hz3⟩ := hT.zero _ _ hz
  rw [hi] at hi2 hi3
  injection hi2 with hi2; subst hi2
  injection hi3 with hi3; subst hi3
  subst hb2
  have hzs' := Nat.eq_of_beq_eq_true hzs
  have hs0' : 0 < i.size := Nat.le_of_ble_eq_true hs0
  obtain ⟨a', cap', w', hrun, hrel'⟩ := append_rel (P := P) (ty := o.type) (hT.und _ _ hu) hi hz3 hzs' hs0' hrel (ad := ad) (m := m) (c := c) hl hm (fun j v hj => hr j v hj w hrel) (all_one _ h1) (by have := Nat.le_of_ble_eq_true hn2; simp only [maxLen]; omega) (Nat.le_trans (Nat.mul_le_mul_right _ hN) (Nat.le_of_ble_eq_true hn))
  refine ⟨_, w', _, .inl ?_, hrel', hk _ _, by rw [hd]; exact h a' cap'⟩
  simp only [execOp, hop, resolve, invoke, builtin, Sem.run_bind, Sem.run_pure, Result.andThen_ok, List.map_toArray, List.map_cons, List.map_nil, hx, hy, hrun]

/-- 'make' of a slice. -/
theorem XO.makeSlice {x y : Operand} {t u : TypeId} {s bs : Nat} {k : Nat} {z : Value} {zl : List Value} {d : Nat} (hT : T.Ok P) (hk0 : Keeps w0 H (keptBy HL ix)) (hg : wantedE ops e n o = true) (hd : o.dst = some d) (hop : o.op = .makeSlice t x y) (hu : T.und t = some (.slice u)) (hs : T.size u = some s) (hbs : T.bytes u = some bs)
    (hz : T.zero u = some z) (hzl : z.cells = ⟨zl⟩) (hzs : Nat.beq zl.length s = true) {kx ky : IntKind} (hx : e.ev n x = .int kx (k : Int)) (hy : e.ev n y = .int ky (k : Int)) {N : Nat} (hN : k ≤ N) (hn : Nat.ble (bs * N) 281474976710656 = true) (hn2 : Nat.ble N 9223372036854775807 = true)
    (hk : ∀ b, Keeps w0 (cel b u (zrow k zl) :: H) (keptBy HL ix)) (h : ∀ b, XO P T w0 n HL ops J (ix + 1) rest (e.upd d (.slice (some ⟨b, 0, none⟩) k k)) (cel b u (zrow k zl) :: H)) : XO P T w0 n HL ops J ix (o :: rest) e H := by
  refine .effOp hk0 hg (by rw [hop]; rfl) (fun w hrel => ?_)
  obtain ⟨i, hi, rfl⟩ := hT.size _ _ hs
  obtain ⟨i2, hi2, hb2⟩ := hT.bytes _ _ hbs
  obtain ⟨i3, hi3, hz3⟩ := hT.zero _ _ hz
  rw [hi] at hi2 hi3
  injection hi2 with hi2; subst hi2
  injection hi3 with hi3; subst hi3
  subst hb2
  have hzs' : zl.length = i.size := Nat.eq_of_beq_eq_true hzs
  refine ⟨_, _, _, .inl ?_, hrel.alloc (.cells ⟨zrow k zl⟩ u), hk _, by rw [hd]; exact h w.heap.size⟩
  have hb : (i.bytes : Int) * (k : Int) ≤ 281474976710656 := by
    have h0 : i.bytes * k ≤ 281474976710656 := Nat.le_trans (Nat.mul_le_mul_left _ hN) (Nat.le_of_ble_eq_true hn)
    have h : ((i.bytes * k : Nat) : Int) ≤ 281474976710656 := by omega
    rwa [Int.natCast_mul] at h
  have hr := run_make (P := P) w t u i z (hT.und _ _ hu) hi hz3 kx ky k k (by omega) (Int.le_refl _) hb (by have := Nat.le_of_ble_eq_true hn2; omega)
  have hm : madeCells z.cells (k * i.size) = ⟨zrow k zl⟩ := by
    rw [hzl, ← hzs', ← zeros_eq]; rfl
  simp only [execOp, hop, hx, hy, Sem.run_bind, hr, Result.andThen_ok, Sem.run_pure, Int.toNat_natCast, hm]
  rfl

/-- The address of an element of a row of one's own. -/
theorem XO.indexOwn {x y : Operand} {t u : TypeId} {b len c s i : Nat} {k : IntKind} {d : Nat} (hT : T.Ok P) (hg : wantedE ops e n o = true) (hd : o.dst = some d) (hop : o.op = .indexAddr t x y) (hu : T.und t = some (.slice u)) (hs : T.size u = some s)
    (hx : e.ev n x = .slice (some ⟨b, 0, none⟩) len c) (hy : e.ev n y = .int k (i : Int)) (h1 : i < len) (h : XO P T w0 n HL ops J (ix + 1) rest (e.upd d (.pointer (some ⟨b, i * s, none⟩))) H) : XO P T w0 n HL ops J ix (o :: rest) e H := by
  refine .indexAddr hT hg hd hop hu hs hx hy (by omega) (by omega) ?_
  simpa using h
end
/-! ### one element of a row, again and again -/
section
variable {P : Program} {T : Tbl} {w0 : World} {n : Nat} {HL : Held} {ops : Array Oper} {J : Env → List HProp → Prop} {ix : Nat} {rest : List Oper} {o : Oper} {e : Env} {F : List HProp} {α : Type} {enc : α → List Value} {es : Nat}
theorem set_self {xs : List α} {i : Nat} {x : α} (h : xs[i]? = some x) : xs = xs.set i x := by
  apply List.ext_getElem?
  intro j
  rw [List.getElem?_set]
  split
  · rename_i e; subst e
    have hlt := (List.getElem?_eq_some_iff.1 h).1
    rw [if_pos hlt, h]
  · rfl
theorem set_at {xs : List α} {i : Nat} (x : α) (h : i < xs.length) : (xs.set i x)[i]? = some x := by simp [h]
theorem Reads.setS {b i j : Nat} {t : TypeId} {xs : List α} {x : α} {v : Value} (he : ∀ x, (enc x).length = es) (hi : i < xs.length) (h : (enc x)[j]? = some v) : Reads w0 (cel b t (flat enc (xs.set i x)) :: F) ⟨b, i * es + j, none⟩ v :=
  Reads.here (flat_get he (set_at x hi) h)
theorem Reads.flat {b i j : Nat} {t : TypeId} {xs : List α} {x : α} {v : Value} (he : ∀ x, (enc x).length = es) (hi : xs[i]? = some x) (h : (enc x)[j]? = some v) : Reads w0 (cel b t (Go.Sx.flat enc xs) :: F) ⟨b, i * es + j, none⟩ v :=
  Reads.here (flat_get he hi h)
theorem Reads.rowFlat {b i j cap k : Nat} {t : TypeId} {xs : List α} {x : α} {v : Value} (he : ∀ x, (enc x).length = es) (hi : xs[i]? = some x) (h : (enc x)[j]? = some v) : Reads w0 (RowAt b cap t es k (Go.Sx.flat enc xs) :: F) ⟨b, i * es + j, none⟩ v :=
  Reads.row (flat_get he hi h)
theorem Reads.setS0 {b i : Nat} {t : TypeId} {xs : List α} {x : α} {v : Value} (he : ∀ x, (enc x).length = es) (hi : i < xs.length) (h : (enc x)[0]? = some v) : Reads w0 (cel b t (Go.Sx.flat enc (xs.set i x)) :: F) ⟨b, i * es, none⟩ v :=
  Reads.here (flat_get he (set_at x hi) h)
theorem Reads.flat0 {b i : Nat} {t : TypeId} {xs : List α} {x : α} {v : Value} (he : ∀ x, (enc x).length = es) (hi : xs[i]? = some x) (h : (enc x)[0]? = some v) : Reads w0 (cel b t (Go.Sx.flat enc xs) :: F) ⟨b, i * es, none⟩ v :=
  Reads.here (flat_get he hi h)
theorem Reads.rowFlat0 {b i cap k : Nat} {t : TypeId} {xs : List α} {x : α} {v : Value} (he : ∀ x, (enc x).length = es) (hi : xs[i]? = some x) (h : (enc x)[0]? = some v) : Reads w0 (RowAt b cap t es k (Go.Sx.flat enc xs) :: F) ⟨b, i * es, none⟩ v :=
  Reads.row (flat_get he hi h)
theorem XO.storeS {t tb : TypeId} {x y : Operand} {b i j : Nat} {xs : List α} {p p' : α} {cs : List Value} {v : Value} (he : ∀ x, (enc x).length = es) (hi : i < xs.length) (hT : T.Ok P) (hk0 : Keeps w0 (cel b tb (flat enc (xs.set i p)) :: F) (keptBy HL ix)) (hg : wantedE ops e n o = true) (hd : o.dst = none) (hop : o.op = .store t x y) (hx : e.ev n x = .pointer (some ⟨b, i * es + j, none⟩))
    (hy : Hd (e.ev n y) = some v) (hcs : v.cells = ⟨cs⟩) (hs : T.size t = some cs.length) (h1 : cs.all (·.oneCell') = true) (hj : Nat.ble (j + cs.length) es = true) (hw : wr (enc p) j cs = enc p')
    (hk : Keeps w0 (cel b tb (flat enc (xs.set i p')) :: F) (keptBy HL ix)) (h : XO P T w0 n HL ops J (ix + 1) rest e (cel b tb (flat enc (xs.set i p')) :: F)) : XO P T w0 n HL ops J ix (o :: rest) e (cel b tb (flat enc (xs.set i p)) :: F) := by
  have hj' := Nat.le_of_ble_eq_true hj
  have hq : wr (flat enc (xs.set i p)) (i * es + j) cs = flat enc (xs.set i p') := by
    rw [flat_wr he (set_at p hi) hj' hw, List.set_set]
  refine .store hT hk0 hg hd hop hx hy hcs hs h1 ?_ (by rw [hq]; exact hk) (by rw [hq]; exact h)
  have hlt : (i + 1) * es ≤ xs.length * es := Nat.mul_le_mul_right _ (by omega)
  rw [Nat.add_mul, Nat.one_mul] at hlt
  rw [flat_length he, List.length_set]
  omega
theorem XO.storeRowS {t tb : TypeId} {x y : Operand} {b i j cap k : Nat} {xs : List α} {p p' : α} {cs : List Value} {v : Value} (he : ∀ x, (enc x).length = es) (hi : i < xs.length) (hT : T.Ok P) (hk0 : Keeps w0 (RowAt b cap tb es k (flat enc (xs.set i p)) :: F) (keptBy HL ix)) (hg : wantedE ops e n o = true) (hd : o.dst = none) (hop : o.op = .store t x y) (hx : e.ev n x = .pointer (some ⟨b, i * es + j, none⟩))
    (hy : Hd (e.ev n y) = some v) (hcs : v.cells = ⟨cs⟩) (hs : T.size t = some cs.length) (h1 : cs.all (·.oneCell') = true) (hj : Nat.ble (j + cs.length) es = true) (hw : wr (enc p) j cs = enc p')
    (hk : Keeps w0 (RowAt b cap tb es k (flat enc (xs.set i p')) :: F) (keptBy HL ix)) (h : XO P T w0 n HL ops J (ix + 1) rest e (RowAt b cap tb es k (flat enc (xs.set i p')) :: F)) : XO P T w0 n HL ops J ix (o :: rest) e (RowAt b cap tb es k (flat enc (xs.set i p)) :: F) := by
  have hj' := Nat.le_of_ble_eq_true hj
  have hq : wr (flat enc (xs.set i p)) (i * es + j) cs = flat enc (xs.set i p') := by
    rw [flat_wr he (set_at p hi) hj' hw, List.set_set]
  refine .storeRow hT hk0 hg hd hop hx hy hcs hs h1 ?_ (by rw [hq]; exact hk) (by rw [hq]; exact h)
  have hlt : (i + 1) * es ≤ xs.length * es := Nat.mul_le_mul_right _ (by omega)
  rw [Nat.add_mul, Nat.one_mul] at hlt
  rw [flat_length he, List.length_set]
  omega
end
end Go.Sx
