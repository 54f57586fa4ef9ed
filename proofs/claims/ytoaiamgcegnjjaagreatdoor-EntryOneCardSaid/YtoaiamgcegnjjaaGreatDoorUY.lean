/- The facts of EntryOne's row that the kernel counts over the whole program, each by itself, so that none needs much memory. No condition. -/
import Derived.Test.YtoaiamgcegnjjaaGreatDoorCards
import Derived.Test.YtoaiamgcegnjjaaGreatDoorTie
import Derived.SevenTiedAt
namespace Go.Proofs.YtoaiamgcegnjjaaGreatDoor
set_option maxRecDepth 100000
theorem one_fact1 : (Rows.entryOneRow.inPlace == Program.inPlace Tryz.pinned.checked.prog 6) = true := by kernel_rfl
theorem one_fact2 : (Rows.entryOneRow.unfollowed == Program.unfollowed Tryz.pinned.checked.prog 6) = true := by kernel_rfl
theorem one_fact3 : (Rows.entryOneRow.recurses == Program.recurses Tryz.pinned.checked.prog 6) = true := by kernel_rfl
theorem one_fact4 : (Rows.entryOneRow.named == Program.varsNamed Tryz.pinned.checked.prog 6) = true := by kernel_rfl
theorem entryOne_closed : joinedFacts Tryz.pinned.checked.prog 6 Tryz.f6 Rows.entryOneSpec Rows.entryOneRow = true := by
  unfold joinedFacts
  rw [one_fact1, one_fact2, one_fact3, one_fact4]
  kernel_rfl
end Go.Proofs.YtoaiamgcegnjjaaGreatDoor
