/- The facts of EntryCovers' row that the kernel counts over the whole program, each by itself, so that none needs much memory. No condition. -/
import Derived.Test.YtoaiamgcegnjjaaGreatDoorCards
import Derived.Test.YtoaiamgcegnjjaaGreatDoorTie
import Derived.SevenTiedAt
namespace Go.Proofs.YtoaiamgcegnjjaaGreatDoor
set_option maxRecDepth 100000
theorem covers_fact1 : (Rows.entryCoversRow.inPlace == Program.inPlace Tryz.pinned.checked.prog 5) = true := by kernel_rfl
theorem covers_fact2 : (Rows.entryCoversRow.unfollowed == Program.unfollowed Tryz.pinned.checked.prog 5) = true := by kernel_rfl
theorem covers_fact3 : (Rows.entryCoversRow.recurses == Program.recurses Tryz.pinned.checked.prog 5) = true := by kernel_rfl
theorem covers_fact4 : (Rows.entryCoversRow.named == Program.varsNamed Tryz.pinned.checked.prog 5) = true := by kernel_rfl
theorem entryCovers_closed : joinedFacts Tryz.pinned.checked.prog 5 Tryz.f5 Rows.entryCoversSpec Rows.entryCoversRow = true := by
  unfold joinedFacts
  rw [covers_fact1, covers_fact2, covers_fact3, covers_fact4]
  kernel_rfl
end Go.Proofs.YtoaiamgcegnjjaaGreatDoor
