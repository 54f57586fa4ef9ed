/- Short names for three laws, and a fact kept out of sight. -/
import Derived.Below
namespace Go.Proofs.YtmgmfnimaafkdaaGreatDoor
open Go.RowKit
def Qb (p : Prop) : Prop := p
theorem Qb.o {p : Prop} (h : Qb p) : p := h
theorem Qa {p : Prop} (h : p) : Qb p := h
theorem bR {n : Nat} {w : World} : Below n w w := Below.refl n w
theorem nR {n : Nat} : n ≤ n := Nat.le_refl n
theorem eX {α : Sort _} (a : α) : ∃ x, x = a := ⟨a, rfl⟩
theorem gB {b n : Nat} (h : b ≤ n) : ∀ k, some n = some k → b ≤ k := fun k e => by injection e with e; omega
end Go.Proofs.YtmgmfnimaafkdaaGreatDoor
