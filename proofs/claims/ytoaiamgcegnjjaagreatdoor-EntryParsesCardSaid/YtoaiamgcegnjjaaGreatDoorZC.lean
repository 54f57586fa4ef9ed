/- The facts of the rows of EntryTexts and EntryParses that the kernel counts over the whole program, each by itself, so that none needs much memory. No condition. -/
import Derived.Test.YtoaiamgcegnjjaaGreatDoorCards
import Derived.Test.YtoaiamgcegnjjaaGreatDoorTie
import Derived.SevenTiedAt
namespace Go.Proofs.YtoaiamgcegnjjaaGreatDoor
set_option maxRecDepth 100000
theorem texts_fact1 : (Rows.entryTextsRow.inPlace == Program.inPlace Tryz.pinned.checked.prog 9) = true := by kernel_rfl
theorem texts_fact2 : (Rows.entryTextsRow.unfollowed == Program.unfollowed Tryz.pinned.checked.prog 9) = true := by kernel_rfl
theorem texts_fact3 : (Rows.entryTextsRow.recurses == Program.recurses Tryz.pinned.checked.prog 9) = true := by kernel_rfl
theorem texts_fact4 : (Rows.entryTextsRow.named == Program.varsNamed Tryz.pinned.checked.prog 9) = true := by kernel_rfl
theorem entryTexts_closed : joinedFacts Tryz.pinned.checked.prog 9 Tryz.f9 Rows.entryTextsSpec Rows.entryTextsRow = true := by
  unfold joinedFacts
  rw [texts_fact1, texts_fact2, texts_fact3, texts_fact4]
  kernel_rfl
theorem parses_fact1 : (Rows.entryParsesRow.inPlace == Program.inPlace Tryz.pinned.checked.prog 10) = true := by kernel_rfl
theorem parses_fact2 : (Rows.entryParsesRow.unfollowed == Program.unfollowed Tryz.pinned.checked.prog 10) = true := by kernel_rfl
theorem parses_fact3 : (Rows.entryParsesRow.recurses == Program.recurses Tryz.pinned.checked.prog 10) = true := by kernel_rfl
theorem parses_fact4 : (Rows.entryParsesRow.named == Program.varsNamed Tryz.pinned.checked.prog 10) = true := by kernel_rfl
theorem entryParses_closed : joinedFacts Tryz.pinned.checked.prog 10 Tryz.f10 Rows.entryParsesSpec Rows.entryParsesRow = true := by
  unfold joinedFacts
  rw [parses_fact1, parses_fact2, parses_fact3, parses_fact4]
  kernel_rfl
end Go.Proofs.YtoaiamgcegnjjaaGreatDoor
