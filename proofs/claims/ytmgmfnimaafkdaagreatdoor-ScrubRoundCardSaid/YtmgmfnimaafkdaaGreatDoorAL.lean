/- Short names for three laws. -/
import Derived.Lib.Hide
import Derived.Below
namespace Go.Proofs.YtmgmfnimaafkdaaGreatDoor
open Go.RowKit
theorem hZ9 {p : Prop} (h : p) : Hid p := Lib.hid h
theorem bR0 {n : Nat} {w : World} : Below n w w := Below.refl n w
theorem nR0 {n : Nat} : n ≤ n := Nat.le_refl n
end Go.Proofs.YtmgmfnimaafkdaaGreatDoor
