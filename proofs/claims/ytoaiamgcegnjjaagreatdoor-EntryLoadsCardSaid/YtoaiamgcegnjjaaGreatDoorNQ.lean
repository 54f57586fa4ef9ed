/- The facts of EntryLoads's row that the kernel counts over the whole program, each by itself, so that none needs much memory. No condition. -/
import Derived.Test.YtoaiamgcegnjjaaGreatDoorCards
import Derived.Test.YtoaiamgcegnjjaaGreatDoorTie
import Derived.SevenTiedAt
namespace Go.Proofs.YtoaiamgcegnjjaaGreatDoor
set_option maxRecDepth 100000
theorem loads_fact1 : (Rows.entryLoadsRow.inPlace == Program.inPlace Tryz.pinned.checked.prog 4) = true := by kernel_rfl
theorem loads_fact2 : (Rows.entryLoadsRow.unfollowed == Program.unfollowed Tryz.pinned.checked.prog 4) = true := by kernel_rfl
theorem loads_fact3 : (Rows.entryLoadsRow.recurses == Program.recurses Tryz.pinned.checked.prog 4) = true := by kernel_rfl
theorem loads_fact4 : (Rows.entryLoadsRow.named == Program.varsNamed Tryz.pinned.checked.prog 4) = true := by kernel_rfl
theorem entryLoads_closed : joinedFacts Tryz.pinned.checked.prog 4 Tryz.f4 Rows.entryLoadsSpec Rows.entryLoadsRow = true := by
  unfold joinedFacts
  rw [loads_fact1, loads_fact2, loads_fact3, loads_fact4]
  kernel_rfl
end Go.Proofs.YtoaiamgcegnjjaaGreatDoor
