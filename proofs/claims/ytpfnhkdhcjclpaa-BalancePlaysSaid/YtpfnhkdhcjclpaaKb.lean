/- Short words for values. Conditions: none. -/
import Derived.Test.YtpfnhkdhcjclpaaWk
namespace Go.Proofs.Ytpfnhkdhcjclpaa
open Go Go.Sx
abbrev kI (z : Int) : Value := .int .i64 z
abbrev kU (z : Int) : Value := .int .u64 z
abbrev ptr (b : Nat) : Value := .pointer (some ⟨b, 0, none⟩)
def ienc (z : Int) : List Value := [kI z]
theorem ienc_len : ∀ x, (ienc x).length = 1 := fun _ => rfl
theorem ienc_all : ∀ x, (ienc x).all (·.oneCell') = true := fun _ => rfl
end Go.Proofs.Ytpfnhkdhcjclpaa
