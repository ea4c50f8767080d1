/- The closed facts of TopRaw's row, each checked by itself. -/
import Derived.Test.YtjkkclfndlfjhaaGreatDoorCards
import Derived.Test.YtjkkclfndlfjhaaGreatDoorTie
import Derived.Deep.DeepHandedRow
import Derived.JoinedCond
import Derived.WalkKit
set_option linter.all false
namespace Go.Proofs.YtjkkclfndlfjhaaGreatDoor

theorem and_bool {a b : Bool} (h1 : a = true) (h2 : b = true) : (a && b) = true := by rw [h1, h2]; rfl
set_option maxRecDepth 100000 in
set_option maxHeartbeats 6400000 in
theorem raw_closed : joinedFacts Tryz.prog 4 Tryz.f4 (Rows.OpenSpec.upto Rows.topRawSpec).bare Rows.topRawUptoRow = true := by
  unfold joinedFacts
  repeat' with_reducible refine and_bool ?_ ?_
  all_goals as_aux_lemma => kernel_rfl
theorem raw_named : Tryz.prog.funcNamed "tephra/tephratop.TopRaw" = some 4 := by kernel_rfl
theorem raw_instance : Tryz.f4.isInstance Tryz.prog Rows.topRawUptoRow.origin Rows.topRawUptoRow.targs := of_decide_eq_true (by kernel_rfl)
theorem raw_wrapper : Tryz.f4.isWrapper Tryz.prog Rows.topRawUptoRow.wrapper Rows.topRawUptoRow.mainSum := by
  unfold Func.isWrapper
  first
    | (rw [if_pos (by decide +kernel)]; kernel_rfl)
    | (rw [if_neg (by decide +kernel)]; exact ⟨rfl, rfl⟩)
end Go.Proofs.YtjkkclfndlfjhaaGreatDoor
