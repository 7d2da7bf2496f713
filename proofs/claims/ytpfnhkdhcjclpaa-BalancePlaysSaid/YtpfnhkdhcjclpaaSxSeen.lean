/- A chunk that can be read as a row, whoever owns it. Conditions: none. -/
import Derived.Test.YtpfnhkdhcjclpaaSxZ
namespace Go.Sx
open Go Go.RowKit
/-- Whatever X is, it can be read as a row. -/
def Seen (w0 : World) (X : HProp) (v : Value) (es n : Nat) (l : List Value) : Prop := ∀ h, X h → view w0 v es n l h
theorem Seen.row {w0 : World} {a : Option Addr} {cap es n : Nat} {t : TypeId} {l : List Value} : Seen w0 (Row a cap t es n l) (.slice a n cap) es n l := fun h hx => by
  rcases hx with ⟨rfl, rfl, rfl, rfl⟩ | ⟨b, rfl, tail, hb, _, hl, hle, _⟩
  · exact ⟨by simp, .inl ⟨rfl, _, _, rfl⟩⟩
  · exact ⟨hl, .inr ⟨b, 0, cap, rfl, hle, .inr ⟨rfl, t, tail, hb⟩⟩⟩
section
variable {P : Program} {T : Tbl} {w0 : World} {X : HProp} {v : Value} {es m : Nat} {l : List Value} {F : List HProp}
theorem Seen.ent (hX : Seen w0 X v es m l) : Ent (X :: F) (view w0 v es m l :: F) := fun _ ⟨h1, h2, d, l1, l2, hc, s⟩ => ⟨h1, h2, d, l1, l2, hX _ hc, s⟩
theorem Seen.form {w : World} (hX : Seen w0 X v es m l) (h : Rel w0 (X :: F) w) : ∃ a c, v = .slice a m c := view_form (h.ent hX.ent)
theorem XS.seen {n : Nat} {b : Frame} {R : Value → List HProp → Prop} {k : List Item} {e : Env} (hX : Seen w0 X v es m l) (hm : 0 < m) (h : ∀ g off c, v = .slice (some ⟨g, off, none⟩) m c → (∀ j x F, l[j]? = some x → Reads w0 (X :: F) ⟨g, off + j, none⟩ x) → XS P w0 b n R k e (X :: F)) : XS P w0 b n R k e (X :: F) :=
  .ex (ι := { q : Nat × Nat × Nat // v = .slice (some ⟨q.1, q.2.1, none⟩) m q.2.2 }) (H' := fun _ => X :: F) (fun w hr => by
    obtain ⟨g, off, c, rfl, hc⟩ := view_at hm (hr.ent hX.ent)
    exact ⟨⟨(g, off, c), rfl⟩, hr⟩) (fun q => h _ _ _ q.2 (fun j x F' hj w hr => by
      have h2 := hr.ent hX.ent
      rw [q.2] at h2
      exact Reads.view hj w (h2.view_open hm)))
theorem Tri.seenForm {f : FuncId} {R : Value → List HProp → Prop} {args : Value → Array Value} (hX : Seen w0 X v es m l) (h : ∀ a c, v = .slice a m c → Tri P f (args (.slice a m c)) w0 (X :: F) R) : Tri P f (args v) w0 (X :: F) R :=
  ⟨fun w hr => by obtain ⟨a, c, rfl⟩ := hX.form hr; exact (h a c rfl).run w hr⟩
end
end Go.Sx
