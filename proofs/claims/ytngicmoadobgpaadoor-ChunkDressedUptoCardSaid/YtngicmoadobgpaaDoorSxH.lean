/- Rules: bags of chunks, what a call leaves. Conditions: none. -/
import Derived.Test.YtngicmoadobgpaaDoorSxG
namespace Go.Sx
open Go Go.RowKit
variable {F : List HProp}
/-- Chunks of one kind, as many as there are names. -/
def bag {α : Type} (f : α → HProp) (xs : List α) : HProp := stars (xs.map f)
theorem perm_at {α : Type} : ∀ {xs : List α} {i : Nat} {x : α}, xs[i]? = some x → List.Perm xs (x :: xs.eraseIdx i)
  | [], i, x, h => by simp at h
  | y :: xs, 0, x, h => by simp at h; subst h; simp
  | y :: xs, i + 1, x, h => by
    simp at h
    simp only [List.eraseIdx_cons_succ]
    exact ((perm_at h).cons y).trans (List.Perm.swap x y _)
theorem erase_set {α : Type} : ∀ (xs : List α) (i : Nat) (x : α), (xs.set i x).eraseIdx i = xs.eraseIdx i
  | [], _, _ => rfl
  | _ :: _, 0, _ => rfl
  | y :: xs, i + 1, x => by simp [erase_set xs i x]
theorem bag_out {α : Type} {f : α → HProp} {xs : List α} {i : Nat} {x : α} (h : xs[i]? = some x) : Ent (bag f xs :: F) (f x :: bag f (xs.eraseIdx i) :: F) := by
  refine Ent.trans Ent.unpack ?_
  refine Ent.trans (Ent.perm (((perm_at h).map f).append_right F)) ?_
  exact Ent.cons _ Ent.pack
theorem bag_in {α : Type} {f : α → HProp} {xs : List α} {i : Nat} {x : α} (h : i < xs.length) : Ent (f x :: bag f (xs.eraseIdx i) :: F) (bag f (xs.set i x) :: F) := by
  refine Ent.trans (Ent.cons _ Ent.unpack) ?_
  refine Ent.trans ?_ Ent.pack
  have hp := (perm_at (set_at x h)).map f
  rw [erase_set] at hp
  exact Ent.perm ((hp.symm).append_right F)
theorem bag_back {α : Type} {f : α → HProp} {xs : List α} {i : Nat} {x : α} (h : xs[i]? = some x) : Ent (f x :: bag f (xs.eraseIdx i) :: F) (bag f xs :: F) := by
  have e := set_self h
  have := bag_in (F := F) (f := f) (x := x) (List.getElem?_eq_some_iff.1 h).1
  rwa [← e] at this
theorem bag_snoc {α : Type} {f : α → HProp} {xs : List α} {x : α} : Ent (f x :: bag f xs :: F) (bag f (xs ++ [x]) :: F) := by
  refine Ent.trans (Ent.cons _ Ent.unpack) ?_
  refine Ent.trans ?_ Ent.pack
  refine Ent.perm ?_
  rw [List.map_append]
  exact (List.perm_middle (l₁ := []) (a := f x) (l₂ := xs.map f)).symm.trans (List.perm_append_comm (l₁ := [f x]) (l₂ := xs.map f)) |>.append_right F
theorem bag_nil {α : Type} (f : α → HProp) : Ent F (bag f [] :: F) := Ent.pack (L := [])
theorem bag_mono {α : Type} {f g : α → HProp} (h : ∀ x y, f x y → g x y) : ∀ (xs : List α) (y : Hp), bag f xs y → bag g xs y
  | [], _, _ => trivial
  | _ :: xs, _, ⟨h1, h2, d, l1, l2, hc, s⟩ => ⟨h1, h2, d, l1, l2, h _ _ hc, bag_mono h xs _ s⟩
theorem bag_weak {α : Type} {f g : α → HProp} (h : ∀ x y, f x y → g x y) {xs : List α} : Ent (bag f xs :: F) (bag g xs :: F) := fun _ ⟨h1, h2, d, l1, l2, hc, s⟩ => ⟨h1, h2, d, l1, l2, bag_mono h xs _ hc, s⟩
section
variable {P : Program} {w0 : World}
/-- What a call leaves may be put otherwise. -/
theorem Tri.post {f : FuncId} {args : Array Value} {H : List HProp} {R : Value → List HProp → Prop} (h : Tri P f args w0 H fun v H' => ∃ H'', Ent H' H'' ∧ R v H'') : Tri P f args w0 H R :=
  ⟨fun w hr => (h.run w hr).mono fun _ _ ⟨v, _, he, hrel, H'', hx, hR⟩ => ⟨v, H'', he, hrel.ent hx, hR⟩⟩
end
end Go.Sx
