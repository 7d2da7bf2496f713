/- From a contract of the kit's own to a triple. Conditions: none. -/
import Derived.Test.YtngicmoadobgpaaDoorSxP
namespace Go.Sx
open Go
variable {P : Program} {w0 : World} {f : FuncId} {args : Array Value} {H : List HProp} {R : Value → List HProp → Prop} {v : Value}
/-- A callee that leaves the world as it is. -/
theorem Tri.ofCalls (h : ∀ w, Rel w0 H w → Calls P f args w fun e w' => e = .returned v ∧ w' = w) (hR : R v H) : Tri P f args w0 H R :=
  ⟨fun w hr => (h w hr).mono fun _ _ ⟨he, hw⟩ => ⟨v, H, he, by rw [hw]; exact hr, hR⟩⟩
/-- A callee that writes one block. -/
theorem Tri.ofSet {b : Nat} {o o' : Obj} {F : List HProp} (h : ∀ w, Rel w0 (blk b o :: F) w → Calls P f args w fun e w' => e = .returned v ∧ w'.os = w.os ∧ w'.tape = w.tape ∧ w'.output = w.output ∧ w'.heap.size = w.heap.size ∧ w'.heap[b]? = some o' ∧ ∀ k, k ≠ b → w'.heap[k]? = w.heap[k]?) (hR : R v (blk b o' :: F)) : Tri P f args w0 (blk b o :: F) R :=
  ⟨fun w hr => (h w hr).mono fun _ _ ⟨he, h1, h2, h3, h4, h5, h6⟩ => ⟨v, _, he, hr.set h1 h2 h3 h4 h5 h6, hR⟩⟩
end Go.Sx
