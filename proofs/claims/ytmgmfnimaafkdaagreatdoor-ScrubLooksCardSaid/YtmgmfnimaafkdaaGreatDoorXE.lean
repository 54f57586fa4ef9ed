/- The reference's numerals. -/
import Derived.Test.YtmgmfnimaafkdaaGreatDoorXC
import Derived.Lib.ItoaLen
import Derived.Deep.RegionLaw
import Derived.Deep.RegionHeld3
namespace Go.Proofs.YtmgmfnimaafkdaaGreatDoor
open Go.RowKit Go.Maps
set_option maxRecDepth 100000

def itoaB (n : Int) : ByteArray := ⟨(Lib.itoa n).toArray⟩
theorem ba_ext {a b : ByteArray} (h : a.data.toList = b.data.toList) : a = b := by
 cases a; cases b; simp at h; simp [h]
theorem ret_strr {a b : ByteArray} (h : a = b) : Ending.returned (.string a) = .returned (.string b) := by rw [h]
theorem dig_conv (w : World) (d : Nat) (hd : d < 10) (z : Int) (hz : z = 48 + (d : Int)) : (convert 43 9 (.slice (some ⟨w.heap.size, 0, none⟩) 1 1)).run Tryz.prog (w.alloc (.cells #[.int .u8 z] 5)) = .ok (.string (itoaB d)) (w.alloc (.cells #[.int .u8 z] 5)) := by
 subst hz
 have h := run_convert_bytes_back (P := Tryz.prog) (w.alloc (.cells #[.int .u8 (48 + (d : Int))] 5)) 43 9 5 ⟨w.heap.size, 0, none⟩ 1 [UInt8.ofNat (48 + d)] under43 Tryz.underlying5 Tryz.underlying9 (fun j hj => by
  have hj0 : j = 0 := by simp at hj; omega
  subst hj0
  have hk : Blk (w.alloc (.cells #[.int .u8 (48 + (d : Int))] 5)) w.heap.size 5 #[.int .u8 (48 + (d : Int))] := Blk.new _ _ _
  have hc := hk.cell 0
  rw [show (⟨w.heap.size, 0, none⟩ : Addr).add 0 = ⟨w.heap.size, 0, none⟩ from rfl, hc]
  show some (Value.int .u8 (48 + (d : Int))) = some (Value.int .u8 (((UInt8.ofNat (48 + d)).toNat : Nat) : Int))
  rw [dig_nat hd]
  simp)
 have e : itoaB (d : Int) = ⟨#[UInt8.ofNat (48 + d)]⟩ := by
  unfold itoaB Lib.itoa
  rw [if_neg (by omega), Int.toNat_natCast, Lib.decDigits_one hd]
 rw [e]
 exact h
theorem itoaB_big {u : Nat} (hu : ¬ u < 10) : itoaB ((u / 10 : Nat) : Int) ++ itoaB ((u % 10 : Nat) : Int) = itoaB (u : Int) := by
 unfold itoaB Lib.itoa
 rw [if_neg (by omega), if_neg (by omega), if_neg (by omega), Int.toNat_natCast, Int.toNat_natCast, Int.toNat_natCast, Lib.decDigits_one (by omega : u % 10 < 10)]
 conv => rhs; rw [Lib.decDigits, dif_neg hu]
 exact ba_ext (by simp)

theorem itoaB_size {n : Int} (h0 : -9223372036854775808 ≤ n) (h1 : n ≤ 9223372036854775807) : (itoaB n).size ≤ 21 := by
 have := Lib.itoa_length_le n h0 h1
 unfold itoaB
 show (Lib.itoa n).toArray.size ≤ 21
 simpa using this
theorem digits_any : ∀ (k : Nat) (u : Nat) (w : World), u ≤ k → u ≤ 9223372036854775807 →
  Calls Tryz.prog 157 #[.int .i64 u] w fun e w' => e = .returned (.string (itoaB u)) ∧ Below w.heap.size w w' := by
 intro k
 induction k with
 | zero =>
  intro u w h1 h2
  obtain rfl : u = 0 := by omega
  have hcv := dig_conv w 0 (by omega) 48 (by simp)
  have e0 : ((0 : Nat) : Int) = 0 := rfl
  rw [e0] at hcv ⊢
  generalize itoaB 0 = s at *
  clear h1 h2 e0
  go_enter Tryz.func157, Tryz.ntmps157
  go_wp2
  go_ret
  exact ⟨rfl, bR0.alloc nR0 _⟩
 | succ k ih =>
  intro u w h1 h2
  have hcv := dig_conv w (u % 10) (by omega) (48 + (u : Int) % 10) (by omega)
  have hb0 : Below w.heap.size w (w.alloc (.cells #[.int .u8 (48 + ((u : Int) % 10))] 5)) := bR0.alloc nR0 _
  have hq : ((u / 10 : Nat) : Int) = (u : Int) / 10 := by omega
  have IH := hZ9 (ih (u / 10) (w.alloc (.cells #[.int .u8 (48 + ((u : Int) % 10))] 5)) (by omega) (by omega))
  rw [hq] at IH
  have HB := hZ9 hb0
  have EB := hZ9 (@itoaB_big u)
  rw [hq] at EB
  have ES : Hid (u < 10 → itoaB ((u % 10 : Nat) : Int) = itoaB (u : Int)) := by
   show u < 10 → _
   intro h
   rw [Nat.mod_eq_of_lt h]
  have zs : (itoaB ((u % 10 : Nat) : Int)).size ≤ 21 := itoaB_size (by omega) (by omega)
  have zq : (itoaB ((u : Int) / 10)).size ≤ 21 := itoaB_size (by omega) (by omega)
  generalize itoaB ((u % 10 : Nat) : Int) = s at *
  clear hb0 hq ih h1
  have u0 : (0 : Int) ≤ (u : Int) := by omega
  have u1 : (u : Int) ≤ 9223372036854775807 := by omega
  by_cases hlt : (u : Int) < 10
  ·have EE := hZ9 (ES.out (by omega))
   go_enter Tryz.func157, Tryz.ntmps157
   go_wp2
   go_ret
   exact ⟨ret_strr EE.out, HB.out⟩
  ·have EE := hZ9 (EB.out (by omega))
   go_enter Tryz.func157, Tryz.ntmps157
   go_wp2_with (go_at_call 157; refine IH.out.mono ?_; rintro en w2 ⟨rfl, hb2⟩; have HB2 := hZ9 (HB.out.trans (hb2.mono HB.out.size)); clear hb2)
   go_ret
   exact ⟨ret_strr EE.out, HB2.out⟩
theorem itoa_neg {n : Int} (h : n < 0) : (⟨#[45]⟩ : ByteArray) ++ itoaB (-n) = itoaB n := by
 unfold itoaB Lib.itoa
 rw [if_neg (by omega), if_pos h, show (-n).toNat = n.natAbs by omega]
 exact ba_ext (by simp)
theorem rdig_any (n : Int) (h0 : -9223372036854775808 ≤ n) (h1 : n ≤ 9223372036854775807) (w : World) :
  Calls Tryz.prog 102 #[.int .i64 n] w fun e w' => e = .returned (.string (itoaB n)) ∧ Below w.heap.size w w' := by
 by_cases hn : n < 0
 ·by_cases hm : n = -9223372036854775808
  ·subst hm
   have E : Hid ((⟨#[45, 57, 50, 50, 51, 51, 55, 50, 48, 51, 54, 56, 53, 52, 55, 55, 53, 56, 48, 56]⟩ : ByteArray) = itoaB (-9223372036854775808)) := by
    show (⟨#[45, 57, 50, 50, 51, 51, 55, 50, 48, 51, 54, 56, 53, 52, 55, 55, 53, 56, 48, 56]⟩ : ByteArray) = _
    kernel_rfl
   rw [← E.out]
   go_enter Tryz.func102, Tryz.ntmps102
   go_wp2_with fail
   go_ret
   exact ⟨rfl, bR0⟩
  ·obtain ⟨u, hu⟩ : ∃ u : Nat, (u : Int) = -n := ⟨(-n).toNat, by omega⟩
   have HD := hZ9 (digits_any u u w nR0 (by omega))
   have EN := hZ9 (itoa_neg hn)
   have zs : (itoaB (u : Int)).size ≤ 21 := itoaB_size (by omega) (by omega)
   rw [← hu] at EN
   have a1 : ¬ (n ≥ 0) := by omega
   have a3 : IntKind.i64.wrap (-n) = (u : Int) := by rw [IntKind.wrap_i64]; omega
   generalize itoaB (u : Int) = s at *
   rw [hu] at HD
   go_enter Tryz.func102, Tryz.ntmps102
   go_wp2_with (go_at_call 157; refine HD.out.mono ?_; rintro en w2 ⟨rfl, hb2⟩; have HB2 := hZ9 hb2; clear hb2)
   go_ret
   exact ⟨ret_strr EN.out, HB2.out⟩
 ·obtain ⟨u, rfl⟩ : ∃ u : Nat, n = u := ⟨n.toNat, by omega⟩
  have HD := hZ9 (digits_any u u w nR0 (by omega))
  generalize itoaB (u : Int) = s at *
  go_enter Tryz.func102, Tryz.ntmps102
  go_wp2_with (go_at_call 157; refine HD.out.mono ?_; rintro en w2 ⟨rfl, hb2⟩; have HB2 := hZ9 hb2; clear hb2)
  go_ret
  exact ⟨rfl, HB2.out⟩
end Go.Proofs.YtmgmfnimaafkdaaGreatDoor
