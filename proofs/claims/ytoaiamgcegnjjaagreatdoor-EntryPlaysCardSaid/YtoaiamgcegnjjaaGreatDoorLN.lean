/- The facts of EntryPlays' row that the kernel counts over the whole program, each by itself, so that none needs much memory. No condition. -/
import Derived.Test.YtoaiamgcegnjjaaGreatDoorCards
import Derived.Test.YtoaiamgcegnjjaaGreatDoorTie
import Derived.SevenTiedAt
namespace Go.Proofs.YtoaiamgcegnjjaaGreatDoor
set_option maxRecDepth 100000
theorem plays_fact1 : (Rows.entryPlaysRow.inPlace == Program.inPlace Tryz.pinned.checked.prog 3) = true := by kernel_rfl
theorem plays_fact2 : (Rows.entryPlaysRow.unfollowed == Program.unfollowed Tryz.pinned.checked.prog 3) = true := by kernel_rfl
theorem plays_fact3 : (Rows.entryPlaysRow.recurses == Program.recurses Tryz.pinned.checked.prog 3) = true := by kernel_rfl
theorem plays_fact4 : (Rows.entryPlaysRow.named == Program.varsNamed Tryz.pinned.checked.prog 3) = true := by kernel_rfl
theorem entryPlays_closed : joinedFacts Tryz.pinned.checked.prog 3 Tryz.f3 Rows.entryPlaysSpec Rows.entryPlaysRow = true := by
  unfold joinedFacts
  rw [plays_fact1, plays_fact2, plays_fact3, plays_fact4]
  kernel_rfl
end Go.Proofs.YtoaiamgcegnjjaaGreatDoor
