/- Rules: an empty slice written out; rows that are only read. Conditions: the table 'T' fits the program. -/
import Derived.Test.YtngicmoadobgpaaDoorSxY
import Derived.Test.YtngicmoadobgpaaDoorSxT
namespace Go.Sx
open Go Go.RowKit
section
variable {P : Program} {T : Tbl} {w0 : World} {n : Nat} {HL : Held} {ops : Array Oper} {J : Env → List HProp → Prop} {ix : Nat} {rest : List Oper} {o : Oper} {e : Env} {H F : List HProp}
/-- '[]T{}'. -/
theorem XO.buildSlice0 {t u : TypeId} {s d : Nat} (hT : T.Ok P) (hk0 : Keeps w0 H (keptBy HL ix)) (hg : wantedE ops e n o = true) (hd : o.dst = some d) (hop : o.op = .buildSlice t 0 #[]) (hu : T.und t = some (.slice u)) (hs : T.size u = some s)
    (hk : ∀ b, Keeps w0 (Row (some ⟨b, 0, none⟩) 0 u s 0 [] :: H) (keptBy HL ix)) (h : ∀ b, XO P T w0 n HL ops J (ix + 1) rest (e.upd d (.slice (some ⟨b, 0, none⟩) 0 0)) (Row (some ⟨b, 0, none⟩) 0 u s 0 [] :: H)) : XO P T w0 n HL ops J ix (o :: rest) e H := by
  refine .effOp hk0 hg (by rw [hop]; rfl) (fun w hrel => ?_)
  refine ⟨_, _, _, .inl ?_, (hrel.alloc (.cells ⟨[]⟩ u)).ent (Ent.trans (RowAt.of_cel (n := 0) (es := s) (by simp) (by simp [maxLen])) Row.of_at), hk _, by rw [hd]; exact h w.heap.size⟩
  simp [execOp, hop, Instr.buildSlice, run_und hT hu, run_size hT hs, Instr.fill, newRow]
  congr 2
  apply Array.ext'
  simp
/-- A row that is only read: it lies in the memory that came in, or is somebody's own. -/
def view (w0 : World) (v : Value) (es n : Nat) (l : List Value) : HProp := fun h =>
  l.length = n * es ∧ ((n = 0 ∧ ∃ a c, v = .slice a 0 c) ∨ ∃ b off c, v = .slice (some ⟨b, off, none⟩) n c ∧ n ≤ c ∧ ((∀ k x, l[k]? = some x → w0.cell? ⟨b, off + k, none⟩ = some x) ∨ off = 0 ∧ ∃ t tail, h b = some (.cells ⟨l ++ tail⟩ t (0, 0))))
def viewAt (w0 : World) (b off es n : Nat) (l : List Value) : HProp := fun h =>
  l.length = n * es ∧ ((∀ k x, l[k]? = some x → w0.cell? ⟨b, off + k, none⟩ = some x) ∨ off = 0 ∧ ∃ t tail, h b = some (.cells ⟨l ++ tail⟩ t (0, 0)))
theorem view_form {v : Value} {es n : Nat} {l : List Value} {w : World} (h : Rel w0 (view w0 v es n l :: F) w) : ∃ a c, v = .slice a n c := by
  obtain ⟨x, ⟨h1, h2, d, l1, l2, hc, s⟩, g⟩ := h.heap
  rcases hc with ⟨_, ⟨rfl, a, c, rfl⟩ | ⟨b, off, c, rfl, _⟩⟩
  · exact ⟨a, c, rfl⟩
  · exact ⟨_, c, rfl⟩
theorem Rel.view_open {b off c es n : Nat} {l : List Value} {w : World} (hn : 0 < n) (h : Rel w0 (view w0 (.slice (some ⟨b, off, none⟩) n c) es n l :: F) w) : Rel w0 (viewAt w0 b off es n l :: F) w := by
  obtain ⟨x, ⟨h1, h2, d, l1, l2, hc, s⟩, g⟩ := h.heap
  refine ⟨h.below, x, ⟨h1, h2, d, l1, l2, ?_, s⟩, g⟩
  obtain ⟨hl, ⟨rfl, _⟩ | ⟨b', off', c', hv, _, hr⟩⟩ := hc
  · omega
  · injection hv with hv1 hv2 hv3
    injection hv1 with hv1
    injection hv1 with hb ho
    subst hb ho
    exact ⟨hl, hr⟩
theorem view_at {v : Value} {es n : Nat} {l : List Value} {w : World} (hn : 0 < n) (h : Rel w0 (view w0 v es n l :: F) w) : ∃ b off c, v = .slice (some ⟨b, off, none⟩) n c ∧ n ≤ c := by
  obtain ⟨x, ⟨h1, h2, d, l1, l2, hc, s⟩, g⟩ := h.heap
  obtain ⟨hl, ⟨rfl, _⟩ | ⟨b', off', c', hv, hle, hr⟩⟩ := hc
  · omega
  · exact ⟨b', off', c', hv, hle⟩
theorem Ent.viewAt {b off c es n : Nat} {l : List Value} (hc : n ≤ c) : Ent (viewAt w0 b off es n l :: F) (view w0 (.slice (some ⟨b, off, none⟩) n c) es n l :: F) := fun _ ⟨h1, h2, d, l1, l2, hv, s⟩ =>
  ⟨h1, h2, d, l1, l2, ⟨hv.1, .inr ⟨b, off, c, rfl, hc, hv.2⟩⟩, s⟩
theorem Reads.view {b off es m k : Nat} {l : List Value} {x : Value} (h : l[k]? = some x) : Reads w0 (viewAt w0 b off es m l :: F) ⟨b, off + k, none⟩ x := fun w hr => by
  obtain ⟨y, ⟨h1, h2, d, l1, l2, hc, s⟩, g⟩ := hr.heap
  obtain ⟨_, hv | ⟨rfl, t, tail, hb⟩⟩ := hc
  · exact Reads.base (hv k x h) w hr
  · have := (g b _ (l1 _ _ hb)).2
    have hk := (List.getElem?_eq_some_iff.1 h).1
    simp only [World.cell?, this, Nat.zero_add]
    simp [List.getElem?_append_left hk, h]
/-- A row of one's own, read from now on. -/
theorem Ent.rowView {a : Option Addr} {cap es n : Nat} {t : TypeId} {l : List Value} : Ent (Row a cap t es n l :: F) (Go.Sx.view w0 (.slice a n cap) es n l :: F) := fun _ ⟨h1, h2, d, l1, l2, hc, s⟩ =>
  ⟨h1, h2, d, l1, l2, by
    rcases hc with ⟨rfl, rfl, rfl, rfl⟩ | ⟨b, rfl, tail, hb, _, hl, hle, _⟩
    · exact ⟨by simp, .inl ⟨rfl, _, _, rfl⟩⟩
    · exact ⟨hl, .inr ⟨b, 0, cap, rfl, hle, .inr ⟨rfl, t, tail, hb⟩⟩⟩, s⟩
theorem Ent.celView {b es n : Nat} {t : TypeId} {l : List Value} (hl : l.length = n * es) (hn : n ≤ maxLen) : Ent (cel b t l :: F) (Go.Sx.view w0 (.slice (some ⟨b, 0, none⟩) n n) es n l :: F) := Ent.trans (RowAt.of_cel hl hn) (Ent.trans Row.of_at Ent.rowView)
theorem Ent.nilView (es : Nat) (a : Option Addr) (c : Nat) : Ent F (Go.Sx.view w0 (.slice a 0 c) es 0 [] :: F) := fun h' s =>
  ⟨fun _ => none, h', fun _ => .inl rfl, (fun _ _ e => by cases e), Hp.le_refl _, ⟨by simp, .inl ⟨rfl, a, c, rfl⟩⟩, s⟩
/-- A row in the memory that came in. -/
theorem Ent.baseView {v : Value} {es : Nat} {l : List Value} {n : Nat} (hl : l.length = n * es) (h : n = 0 ∧ (∃ a c, v = .slice a 0 c) ∨ ∃ b off c, v = .slice (some ⟨b, off, none⟩) n c ∧ n ≤ c ∧ (∀ k x, l[k]? = some x → w0.cell? ⟨b, off + k, none⟩ = some x)) : Ent F (Go.Sx.view w0 v es n l :: F) := fun h' s =>
  ⟨fun _ => none, h', fun _ => .inl rfl, (fun _ _ e => by cases e), Hp.le_refl _, ⟨hl, h.imp id fun ⟨b, off, c, hv, hc, hr⟩ => ⟨b, off, c, hv, hc, .inl hr⟩⟩, s⟩
theorem XS.viewOpen {b : Frame} {R : Value → List HProp → Prop} {k : List Item} {v : Value} {es m : Nat} {l : List Value} (hm : 0 < m) (h : ∀ g off c, v = .slice (some ⟨g, off, none⟩) m c → m ≤ c → XS P w0 b n R k e (viewAt w0 g off es m l :: F)) : XS P w0 b n R k e (view w0 v es m l :: F) :=
  .ex (ι := { q : Nat × Nat × Nat // v = .slice (some ⟨q.1, q.2.1, none⟩) m q.2.2 ∧ m ≤ q.2.2 }) (H' := fun q => viewAt w0 q.1.1 q.1.2.1 es m l :: F) (fun w hr => by
    obtain ⟨b, off, c, rfl, hc⟩ := view_at hm hr
    exact ⟨⟨(b, off, c), rfl, hc⟩, hr.view_open hm⟩) (fun q => h _ _ _ q.2.1 q.2.2)
theorem XO.viewOpen {l0 : List Oper} {v : Value} {es m : Nat} {l : List Value} (hm : 0 < m) (h : ∀ g off c, v = .slice (some ⟨g, off, none⟩) m c → m ≤ c → XO P T w0 n HL ops J ix l0 e (viewAt w0 g off es m l :: F)) : XO P T w0 n HL ops J ix l0 e (view w0 v es m l :: F) :=
  .ex (ι := { q : Nat × Nat × Nat // v = .slice (some ⟨q.1, q.2.1, none⟩) m q.2.2 ∧ m ≤ q.2.2 }) (H' := fun q => viewAt w0 q.1.1 q.1.2.1 es m l :: F) (fun w hr => by
    obtain ⟨b, off, c, rfl, hc⟩ := view_at hm hr
    exact ⟨⟨(b, off, c), rfl, hc⟩, hr.view_open hm⟩) (fun q => h _ _ _ q.2.1 q.2.2)
theorem Tri.viewForm {f : FuncId} {R : Value → List HProp → Prop} {args : Value → Array Value} {v : Value} {es m : Nat} {l : List Value} (h : ∀ a c, v = .slice a m c → Tri P f (args (.slice a m c)) w0 (view w0 (.slice a m c) es m l :: F) R) : Tri P f (args v) w0 (view w0 v es m l :: F) R :=
  ⟨fun w hr => by obtain ⟨a, c, rfl⟩ := view_form hr; exact (h a c rfl).run w hr⟩
end
end Go.Sx
