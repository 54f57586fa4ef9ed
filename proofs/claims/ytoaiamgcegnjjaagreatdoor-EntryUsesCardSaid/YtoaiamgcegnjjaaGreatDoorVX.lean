/- The facts of EntryUses' row that the kernel counts over the whole program, each by itself, so that none needs much memory. No condition. -/
import Derived.Test.YtoaiamgcegnjjaaGreatDoorCards
import Derived.Test.YtoaiamgcegnjjaaGreatDoorTie
import Derived.SevenTiedAt
namespace Go.Proofs.YtoaiamgcegnjjaaGreatDoor
set_option maxRecDepth 100000
theorem uses_fact1 : (Rows.entryUsesRow.inPlace == Program.inPlace Tryz.pinned.checked.prog 7) = true := by kernel_rfl
theorem uses_fact2 : (Rows.entryUsesRow.unfollowed == Program.unfollowed Tryz.pinned.checked.prog 7) = true := by kernel_rfl
theorem uses_fact3 : (Rows.entryUsesRow.recurses == Program.recurses Tryz.pinned.checked.prog 7) = true := by kernel_rfl
theorem uses_fact4 : (Rows.entryUsesRow.named == Program.varsNamed Tryz.pinned.checked.prog 7) = true := by kernel_rfl
theorem entryUses_closed : joinedFacts Tryz.pinned.checked.prog 7 Tryz.f7 Rows.entryUsesSpec Rows.entryUsesRow = true := by
  unfold joinedFacts
  rw [uses_fact1, uses_fact2, uses_fact3, uses_fact4]
  kernel_rfl
end Go.Proofs.YtoaiamgcegnjjaaGreatDoor
