/- What the rows over acts want: a slice of acts that came in is opened to its cells. No condition. -/
import Derived.Test.YtmgmfnimaafkdaaGreatDoorUM
import Derived.Test.YtmgmfnimaafkdaaGreatDoorUA
import Derived.Deep.Slices
namespace Go.Proofs.YtmgmfnimaafkdaaGreatDoor
open Go.ChangeShapes Go.WideShapes Go.ChangeAt Go.WideMaps Go.WideElems Go.RowKit Go.Deep
set_option maxRecDepth 100000

theorem list_of {α : Type} {P : Nat → α → Prop} : ∀ (n : Nat), (∀ i, i < n → ∃ x, P i x) → ∃ l : List α, l.length = n ∧ ∀ i (h : i < l.length), P i l[i]
 | 0, _ => ⟨[], rfl, fun i h => absurd h (by simp)⟩
 | n + 1, h => by
  obtain ⟨l, hl, hp⟩ := list_of n (fun i hi => h i (by omega))
  obtain ⟨x, hx⟩ := h n (by omega)
  refine ⟨l ++ [x], by simp [hl], fun i hi => ?_⟩
  by_cases hil : i < l.length
  ·rw [List.getElem_append_left hil]
   exact hp i hil
  ·have : i = n := by simp at hi; omega
   subst this
   rw [List.getElem_append_right (by omega)]
   simpa [hl] using hx
theorem addr_add_add (a : Addr) (i j : Nat) : a.add (i + j) = (a.add i).add j := by
 obtain ⟨b, off, spot⟩ := a
 by_cases hi : i = 0 <;> by_cases hj : j = 0 <;> simp [Addr.add, hi, hj, Nat.add_assoc]
section
variable {H : Type} {enc : TypeId × Value → H} {w : World} {base : Nat} {spare : Nat → Bool} {held : Bool}
end
end Go.Proofs.YtmgmfnimaafkdaaGreatDoor
