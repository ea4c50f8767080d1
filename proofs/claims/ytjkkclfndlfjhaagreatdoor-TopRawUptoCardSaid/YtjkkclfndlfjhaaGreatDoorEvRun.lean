/- The closed run, by the kernel. -/
import Derived.Test.YtjkkclfndlfjhaaGreatDoorEvTab
set_option linter.all false
namespace Go.Proofs.YtjkkclfndlfjhaaGreatDoor
open Go Ev
set_option maxRecDepth 100000
theorem awake_run : isTrue ((evRec tyTab.get fnTab.get keepOf prims 3000).call 5 [] { heap := .e, next := 0 }) = true := by kernel_rfl
end Go.Proofs.YtjkkclfndlfjhaaGreatDoor
