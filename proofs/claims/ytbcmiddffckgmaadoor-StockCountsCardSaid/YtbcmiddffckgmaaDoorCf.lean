/- The abstract machine: the seat's configuration. -/
import Derived.Test.YtbcmiddffckgmaaDoorTy
set_option linter.unusedVariables false
set_option linter.unusedSimpArgs false
set_option linter.unnecessarySimpa false
namespace Go.Proofs.YtbcmiddffckgmaaDoor.Am
open Go
/-- Which functions run in their caller's frame. -/
def inlF (f : Nat) : Bool := f == 42 || f == 45 || f == 56 || f == 84 || f == 73 || f == 63 || f == 74 || f == 90
noncomputable def C : Cfg := { P := Tryd.prog, inl := inlF, orc := fun _ => none, deep := 6 }
theorem C_P : C.P = PP := rfl
theorem C_deep : C.deep = 6 := rfl
end Go.Proofs.YtbcmiddffckgmaaDoor.Am
