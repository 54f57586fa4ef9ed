/- A put refused: wrong arguments, a slice that is there, no room. -/
import Derived.Test.YtmgmfnimaafkdaaGreatDoorVV
import Derived.Test.YtmgmfnimaafkdaaGreatDoorUC
namespace Go.Proofs.YtmgmfnimaafkdaaGreatDoor
open Go.RowKit Go.Maps Go.Shelf Go.Sort
set_option maxRecDepth 100000

theorem MapR.grown2 {w w' : World} {base M g : Nat} {m : MapV} (h : MapR w base M m) (hg : w.grownBy w' (some g)) (hM : M ≠ g) (hf : m.free ≠ [] → FreeIn w M (· ≠ g)) : MapR w' base M m := by
 by_cases he : m.free = []
 ·obtain ⟨a1, a2, a3, a4, a5, A, c, h3, h4, h6⟩ := h
  have h0 : m.free.length = 0 := by rw [he]; rfl
  exact ⟨a1, a2, a3, a4, a5, A, c, h3.grown hg (by intro e; injection e with e; exact hM e.symm), h4, ⟨⟨h6.1.1, fun hn => absurd hn (by omega)⟩, fun hn => absurd hn (by omega)⟩⟩
 ·exact h.grown hg hM (hf he)
attribute [local go_sem ↓] st140_fold
set_option maxHeartbeats 16000000 in
theorem putArg_any {w : World} {base Sb : Nat} {s : StV} {m : StM} {n : NameV} {b : List UInt8} (h : StR w base Sb s m) (hn : rightB n.1 = false ∨ rightB n.2 = false ∨ b.length < 1 ∨ 1048576 < b.length) (A : Option Addr) (c : Nat) :
  Calls Tryz.prog 53 #[.pointer (some ⟨Sb, 0, none⟩), nameV n, .slice A b.length c] w fun e w' => e = .returned (.int .i64 1) ∧ StR w' base Sb s m ∧ KeepS base m m w w' := by
 have HH := hZ9 h
 have hlt := h.lt
 have hsl := h.blk.lt
 obtain ⟨n1, n2⟩ := n
 clear h
 unfold nameV
 simp only at hn ⊢
 have hb0 : Below w.heap.size w ((w.alloc (.cells #[.pointer (some ⟨Sb, 0, none⟩)] 28)).alloc (.cells #[.int .i64 n1, .int .i64 n2] 73)) := (bR0.alloc nR0 _).alloc (by simp) _
 have HB0 := hZ9 hb0
 have HX3 := hZ9 (show Blk ((w.alloc (.cells #[.pointer (some ⟨Sb, 0, none⟩)] 28)).alloc (.cells #[.int .i64 n1, .int .i64 n2] 73)) w.heap.size 28 #[.pointer (some ⟨Sb, 0, none⟩)] from (Blk.new _ _ _).alloc _)
 have HX4 := hZ9 (show Blk ((w.alloc (.cells #[.pointer (some ⟨Sb, 0, none⟩)] 28)).alloc (.cells #[.int .i64 n1, .int .i64 n2] 73)) (w.heap.size + 1) 73 #[.int .i64 n1, .int .i64 n2] from Blk.new_eq0 (by simp))
 have R1 := hZ9 (fun wy => show Calls Tryz.prog 104 #[.int .i64 n1] wy fun e w' => e = .returned (.bool (rightB n1)) ∧ wy = w' from right_any n1 wy)
 have R2 := hZ9 (fun wy => show Calls Tryz.prog 104 #[.int .i64 n2] wy fun e w' => e = .returned (.bool (rightB n2)) ∧ wy = w' from right_any n2 wy)
 clear hb0
 go_enter Tryz.func53, Tryz.ntmps53
 go_upto_region 1 with fail
 generalize hw1e : (w.alloc (.cells #[.pointer (some ⟨Sb, 0, none⟩)] 28)).alloc (.cells #[.int .i64 n1, .int .i64 n2] 73) = w1 at *
 clear hw1e
 have hw1 := HB0.out.size
 have c3 : w1.cell? ⟨w.heap.size, 0, none⟩ = some (.pointer (some ⟨Sb, 0, none⟩)) := HX3.out.cell 0
 have c40 : w1.cell? ⟨w.heap.size + 1, 0, none⟩ = some (.int .i64 n1) := HX4.out.cell 0
 have c41 : w1.cell? ⟨w.heap.size + 1, 1, none⟩ = some (.int .i64 n2) := HX4.out.cell 1
 have l3 := HX3.out.lt
 have l4 := HX4.out.lt
 have hend := hZ9 (show StR w1 base Sb s m ∧ KeepS base m m w w1 from ⟨HH.out.below HB0.out, KeepS.of_below HB0.out hlt⟩)
 by_cases h1 : rightB n1 = false
 ·rw [h1] at R1
  clear R2
  go_wp2_with (go_at_call 104; refine (R1.out _).mono ?_; rintro en w' ⟨rfl, rfl⟩)
  all_goals
   go_ret
   exact ⟨rfl, hend.out.1, hend.out.2⟩
 ·have h1' : rightB n1 = true := by simpa using h1
  rw [h1'] at R1
  by_cases h2 : rightB n2 = false
  ·rw [h2] at R2
   go_wp2_with (first
    | ((fail_if_success (have := RR)); go_at_call 104; refine (R1.out _).mono ?_; rintro en w' ⟨rfl, rfl⟩; (have RR := hZ9 (show True from trivial)))
    | (go_at_call 104; refine (R2.out _).mono ?_; rintro en w' ⟨rfl, rfl⟩))
   go_ret
   exact ⟨rfl, hend.out⟩
  ·have h2' : rightB n2 = true := by simpa using h2
   rw [h2'] at R2
   by_cases h3 : b.length < 1
   ·have h3' : (b.length : Int) < 1 := by omega
    go_wp2_with (first
     | ((fail_if_success (have := RR)); go_at_call 104; refine (R1.out _).mono ?_; rintro en w' ⟨rfl, rfl⟩; (have RR := hZ9 (show True from trivial)))
     | (go_at_call 104; refine (R2.out _).mono ?_; rintro en w' ⟨rfl, rfl⟩))
    go_ret
    exact ⟨rfl, hend.out⟩
   ·have h3' : ¬ ((b.length : Int) < 1) := by omega
    have h4 : 1048576 < b.length := by
     rcases hn with e | e | e | e
     ·exact absurd e h1
     ·exact absurd e h2
     ·exact absurd e h3
     ·exact e
    have h4' : (b.length : Int) > 1048576 := by omega
    go_wp2_with (first
     | ((fail_if_success (have := RR)); go_at_call 104; refine (R1.out _).mono ?_; rintro en w' ⟨rfl, rfl⟩; (have RR := hZ9 (show True from trivial)))
     | (go_at_call 104; refine (R2.out _).mono ?_; rintro en w' ⟨rfl, rfl⟩))
    go_ret
    exact ⟨rfl, hend.out⟩
section
attribute [local go_sem ↓] stSlot_fold
set_option maxHeartbeats 16000000 in
theorem putTwice_any {w : World} {base Sb : Nat} {s : StV} {m : StM} {n : NameV} {b : List UInt8} {x : SlotV} (h : StR w base Sb s m) (hr1 : rightB n.1 = true) (hr2 : rightB n.2 = true) (hb1 : 1 ≤ b.length) (hb2 : b.length ≤ 1048576) (hnew0 : getL s.slices n = some x) (A : Option Addr) (c : Nat) :
  Calls Tryz.prog 53 #[.pointer (some ⟨Sb, 0, none⟩), nameV n, .slice A b.length c] w fun e w' => e = .returned (.int .i64 7) ∧ StR w' base Sb s m ∧ KeepS base m m w w' := by
 have HH := hZ9 h
 have hlt := h.lt
 have hsl := h.blk.lt
 obtain ⟨n1, n2⟩ := n
 have hwn : wfN (n1, n2) := ⟨wfI_right hr1, wfI_right hr2⟩
 obtain ⟨at', len, by', mk⟩ := x
 have hnew := hZ9 hnew0
 clear h hnew0
 unfold nameV
 simp only at hr1 hr2 ⊢
 have hb0 : Below w.heap.size w ((w.alloc (.cells #[.pointer (some ⟨Sb, 0, none⟩)] 28)).alloc (.cells #[.int .i64 n1, .int .i64 n2] 73)) := (bR0.alloc nR0 _).alloc (by simp) _
 have HB0 := hZ9 hb0
 have HX3 := hZ9 (show Blk ((w.alloc (.cells #[.pointer (some ⟨Sb, 0, none⟩)] 28)).alloc (.cells #[.int .i64 n1, .int .i64 n2] 73)) w.heap.size 28 #[.pointer (some ⟨Sb, 0, none⟩)] from (Blk.new _ _ _).alloc _)
 have HX4 := hZ9 (show Blk ((w.alloc (.cells #[.pointer (some ⟨Sb, 0, none⟩)] 28)).alloc (.cells #[.int .i64 n1, .int .i64 n2] 73)) (w.heap.size + 1) 73 #[.int .i64 n1, .int .i64 n2] from Blk.new_eq0 (by simp))
 have R1 := hZ9 (fun wy => show Calls Tryz.prog 104 #[.int .i64 n1] wy fun e w' => e = .returned (.bool true) ∧ wy = w' from by have := right_any n1 wy; rw [hr1] at this; exact this)
 have R2 := hZ9 (fun wy => show Calls Tryz.prog 104 #[.int .i64 n2] wy fun e w' => e = .returned (.bool true) ∧ wy = w' from by have := right_any n2 wy; rw [hr2] at this; exact this)
 clear hb0 hr1 hr2
 go_enter Tryz.func53, Tryz.ntmps53
 go_upto_region 1 with fail
 generalize hw1e : (w.alloc (.cells #[.pointer (some ⟨Sb, 0, none⟩)] 28)).alloc (.cells #[.int .i64 n1, .int .i64 n2] 73) = w1 at *
 clear hw1e
 have hw1 := HB0.out.size
 have c3 : w1.cell? ⟨w.heap.size, 0, none⟩ = some (.pointer (some ⟨Sb, 0, none⟩)) := HX3.out.cell 0
 have c40 : w1.cell? ⟨w.heap.size + 1, 0, none⟩ = some (.int .i64 n1) := HX4.out.cell 0
 have c41 : w1.cell? ⟨w.heap.size + 1, 1, none⟩ = some (.int .i64 n2) := HX4.out.cell 1
 have l3 := HX3.out.lt
 have l4 := HX4.out.lt
 have hb1' : ¬ ((b.length : Int) < 1) := by omega
 have hb2' : ¬ ((b.length : Int) > 1048576) := by omega
 go_upto_region 5 with (first
  | ((fail_if_success (have := RR)); go_at_call 104; refine (R1.out _).mono ?_; rintro en w' ⟨rfl, rfl⟩; (have RR := hZ9 (show True from trivial)))
  | (go_at_call 104; refine (R2.out _).mono ?_; rintro en w' ⟨rfl, rfl⟩))
 clear c3 c40 c41 RR hb1' hb2' R1 R2
 have SKb := hZ9 (show ∀ wy, Keeps base [121, 165, 167, 216, 137, 129, 220] w1 wy → wy.cell? ⟨w.heap.size, 0, none⟩ = some (.pointer (some ⟨Sb, 0, none⟩)) ∧ wy.cell? ⟨w.heap.size + 1, 0, none⟩ = some (.int .i64 n1) ∧ wy.cell? ⟨w.heap.size + 1, 1, none⟩ = some (.int .i64 n2) from fun wy hy => by
  have a3 := HX3.out.keeps hy (by decide)
  have a4 := HX4.out.keeps hy (by decide)
  exact ⟨a3.cell 0, a4.cell 0, a4.cell 1⟩)
 have hbw1 : base ≤ w1.heap.size := by omega
 go_cut [7, 8] (fun _ v8 wx => v8 = .bool true ∧ Below w1.heap.size w1 wx)
 case first => as_aux_lemma =>
  have SK := hZ9 (show ∀ wy, Below w1.heap.size w1 wy → (wy.cell? ⟨w.heap.size, 0, none⟩ = some (.pointer (some ⟨Sb, 0, none⟩)) ∧ wy.cell? ⟨w.heap.size + 1, 0, none⟩ = some (.int .i64 n1) ∧ wy.cell? ⟨w.heap.size + 1, 1, none⟩ = some (.int .i64 n2)) ∧ wy.cell? ⟨Sb, 5, none⟩ = some (.map (some m.Pb)) ∧ (Instr.lookup 125 (.map (some m.Pb)) (.agg #[.int .i64 n1, .int .i64 n2]) true).run Tryz.prog wy = .ok (.tuple #[.agg #[.int .i64 at', .int .i64 len, .int .i64 by', .int .i64 mk], .bool true]) wy from fun wy hy => by
   have hh := HH.out.below (HB0.out.trans (hy.mono hw1))
   refine ⟨SKb.out _ (Keeps.of_below hy hbw1), hh.blk.cell 5, ?_⟩
   have := hh.pmap.look_ok (x := (n1, n2)) hwn
   rw [hnew.out] at this
   exact this)
  have S0 := hZ9 (SK.out _ bR0.drew)
  have HBZ : Hid (Below w1.heap.size w1 ((w1.alloc (.cells #[.int .i64 0, .int .i64 0, .int .i64 0, .int .i64 0] 142)).drew.setRow w1.heap.size #[.int .i64 at', .int .i64 len, .int .i64 by', .int .i64 mk])) :=
   (bR0.alloc nR0 _).drew.trans (grown_below (setRow_gby _ _ _) (by simp) (fun k hk => by injection hk with hk; omega))
  have zs : (stSlot (.pointer (some ⟨w1.heap.size, 0, none⟩)) (.agg #[.int .i64 at', .int .i64 len, .int .i64 by', .int .i64 mk])).run Tryz.prog (w1.alloc (.cells #[.int .i64 0, .int .i64 0, .int .i64 0, .int .i64 0] 142)).drew = .ok () ((w1.alloc (.cells #[.int .i64 0, .int .i64 0, .int .i64 0, .int .i64 0] 142)).drew.setRow w1.heap.size #[.int .i64 at', .int .i64 len, .int .i64 by', .int .i64 mk]) := run_stSlot (Blk.new w1 142 _).drew rfl rfl (by simp [Value.oneCell'])
  have S3 := hZ9 (SK.out _ HBZ.out)
  go_region_held3 (fun wy => (wy.cell? ⟨w.heap.size, 0, none⟩ = some (.pointer (some ⟨Sb, 0, none⟩)) ∧ wy.cell? ⟨w.heap.size + 1, 0, none⟩ = some (.int .i64 n1) ∧ wy.cell? ⟨w.heap.size + 1, 1, none⟩ = some (.int .i64 n2)) ∧ wy.cell? ⟨Sb, 5, none⟩ = some (.map (some m.Pb)) ∧ (Instr.lookup 125 (.map (some m.Pb)) (.agg #[.int .i64 n1, .int .i64 n2]) true).run Tryz.prog wy = .ok (.tuple #[.agg #[.int .i64 at', .int .i64 len, .int .i64 by', .int .i64 mk], .bool true]) wy)
   (first | exact S0.out | exact S3.out | exact SK.out _ (bR0.drew.alloc nR0 _) | exact SK.out _ ((bR0.alloc nR0 _).drew))
   (fail)
  all_goals
   go_wp2_with fail
   go_meet
   exact ⟨rfl, HBZ.out⟩
 case rest =>
  obtain ⟨rfl, hb2⟩ := hcut
  have hend := hZ9 (show StR wc base Sb s m ∧ KeepS base m m w wc from ⟨HH.out.below (HB0.out.trans (hb2.mono hw1)), KeepS.of_below (HB0.out.trans (hb2.mono hw1)) hlt⟩)
  clear hb2
  go_wp2_with fail
  go_ret
  exact ⟨rfl, hend.out⟩
end
set_option maxHeartbeats 16000000 in
theorem putFull_any {w : World} {base Sb et : Nat} {s : StV} {m : StM} {n : NameV} {b : List UInt8} (h : StR w base Sb s m) (ok : StOK s) (hr1 : rightB n.1 = true) (hr2 : rightB n.2 = true) (hb1 : 1 ≤ b.length) (hb2 : b.length ≤ 1048576) (hnew0 : getL s.slices n = none) (htk0 : takeM s.map (needP s.d.size b.length) = (et, (0, 0), s.map)) (het : et ≠ 0) (A : Option Addr) (c : Nat) :
  Calls Tryz.prog 53 #[.pointer (some ⟨Sb, 0, none⟩), nameV n, .slice A b.length c] w fun e w' => e = .returned (.int .i64 et) ∧ StR w' base Sb s m ∧ KeepS base m m w w' := by
 have HH := hZ9 h
 have HK := hZ9 ok
 have hlt := h.lt
 have hsl := h.blk.lt
 obtain ⟨n1, n2⟩ := n
 have hwn : wfN (n1, n2) := ⟨wfI_right hr1, wfI_right hr2⟩
 have hnew := hZ9 hnew0
 have htk := hZ9 htk0
 clear h ok hnew0 htk0
 unfold nameV
 simp only at hr1 hr2 ⊢
 have hb0 : Below w.heap.size w ((w.alloc (.cells #[.pointer (some ⟨Sb, 0, none⟩)] 28)).alloc (.cells #[.int .i64 n1, .int .i64 n2] 73)) := (bR0.alloc nR0 _).alloc (by simp) _
 have HB0 := hZ9 hb0
 have HX3 := hZ9 (show Blk ((w.alloc (.cells #[.pointer (some ⟨Sb, 0, none⟩)] 28)).alloc (.cells #[.int .i64 n1, .int .i64 n2] 73)) w.heap.size 28 #[.pointer (some ⟨Sb, 0, none⟩)] from (Blk.new _ _ _).alloc _)
 have HX4 := hZ9 (show Blk ((w.alloc (.cells #[.pointer (some ⟨Sb, 0, none⟩)] 28)).alloc (.cells #[.int .i64 n1, .int .i64 n2] 73)) (w.heap.size + 1) 73 #[.int .i64 n1, .int .i64 n2] from Blk.new_eq0 (by simp))
 have R1 := hZ9 (fun wy => show Calls Tryz.prog 104 #[.int .i64 n1] wy fun e w' => e = .returned (.bool true) ∧ wy = w' from by have := right_any n1 wy; rw [hr1] at this; exact this)
 have R2 := hZ9 (fun wy => show Calls Tryz.prog 104 #[.int .i64 n2] wy fun e w' => e = .returned (.bool true) ∧ wy = w' from by have := right_any n2 wy; rw [hr2] at this; exact this)
 clear hb0 hr1 hr2
 go_enter Tryz.func53, Tryz.ntmps53
 go_upto_region 1 with fail
 generalize hw1e : (w.alloc (.cells #[.pointer (some ⟨Sb, 0, none⟩)] 28)).alloc (.cells #[.int .i64 n1, .int .i64 n2] 73) = w1 at *
 clear hw1e
 have hw1 := HB0.out.size
 have c3 : w1.cell? ⟨w.heap.size, 0, none⟩ = some (.pointer (some ⟨Sb, 0, none⟩)) := HX3.out.cell 0
 have c40 : w1.cell? ⟨w.heap.size + 1, 0, none⟩ = some (.int .i64 n1) := HX4.out.cell 0
 have c41 : w1.cell? ⟨w.heap.size + 1, 1, none⟩ = some (.int .i64 n2) := HX4.out.cell 1
 have l3 := HX3.out.lt
 have l4 := HX4.out.lt
 have hb1' : ¬ ((b.length : Int) < 1) := by omega
 have hb2' : ¬ ((b.length : Int) > 1048576) := by omega
 go_upto_region 5 with (first
  | ((fail_if_success (have := RR)); go_at_call 104; refine (R1.out _).mono ?_; rintro en w' ⟨rfl, rfl⟩; (have RR := hZ9 (show True from trivial)))
  | (go_at_call 104; refine (R2.out _).mono ?_; rintro en w' ⟨rfl, rfl⟩))
 clear c3 c40 c41 RR hb1' hb2' R1 R2
 have SKb := hZ9 (show ∀ wy, Keeps base [121, 165, 167, 216, 137, 129, 220] w1 wy → wy.cell? ⟨w.heap.size, 0, none⟩ = some (.pointer (some ⟨Sb, 0, none⟩)) ∧ wy.cell? ⟨w.heap.size + 1, 0, none⟩ = some (.int .i64 n1) ∧ wy.cell? ⟨w.heap.size + 1, 1, none⟩ = some (.int .i64 n2) from fun wy hy => by
  have a3 := HX3.out.keeps hy (by decide)
  have a4 := HX4.out.keeps hy (by decide)
  exact ⟨a3.cell 0, a4.cell 0, a4.cell 1⟩)
 have hbw1 : base ≤ w1.heap.size := by omega
 go_cut [7, 8] (fun _ v8 wx => v8 = .bool false ∧ Below w1.heap.size w1 wx)
 case first => as_aux_lemma =>
  have SK := hZ9 (show ∀ wy, Below w1.heap.size w1 wy → (wy.cell? ⟨w.heap.size, 0, none⟩ = some (.pointer (some ⟨Sb, 0, none⟩)) ∧ wy.cell? ⟨w.heap.size + 1, 0, none⟩ = some (.int .i64 n1) ∧ wy.cell? ⟨w.heap.size + 1, 1, none⟩ = some (.int .i64 n2)) ∧ wy.cell? ⟨Sb, 5, none⟩ = some (.map (some m.Pb)) ∧ (Instr.lookup 125 (.map (some m.Pb)) (.agg #[.int .i64 n1, .int .i64 n2]) true).run Tryz.prog wy = .ok (.tuple #[.agg #[.int .i64 0, .int .i64 0, .int .i64 0, .int .i64 0], .bool false]) wy from fun wy hy => by
   have hh := HH.out.below (HB0.out.trans (hy.mono hw1))
   refine ⟨SKb.out _ (Keeps.of_below hy hbw1), hh.blk.cell 5, ?_⟩
   have := hh.pmap.look_ok (x := (n1, n2)) hwn
   rw [hnew.out] at this
   exact this)
  have S0 := hZ9 (SK.out _ bR0.drew)
  go_region_held3 (fun wy => (wy.cell? ⟨w.heap.size, 0, none⟩ = some (.pointer (some ⟨Sb, 0, none⟩)) ∧ wy.cell? ⟨w.heap.size + 1, 0, none⟩ = some (.int .i64 n1) ∧ wy.cell? ⟨w.heap.size + 1, 1, none⟩ = some (.int .i64 n2)) ∧ wy.cell? ⟨Sb, 5, none⟩ = some (.map (some m.Pb)) ∧ (Instr.lookup 125 (.map (some m.Pb)) (.agg #[.int .i64 n1, .int .i64 n2]) true).run Tryz.prog wy = .ok (.tuple #[.agg #[.int .i64 0, .int .i64 0, .int .i64 0, .int .i64 0], .bool false]) wy)
   (first | exact S0.out | exact SK.out _ (bR0.drew.alloc nR0 _) | exact SK.out _ ((bR0.alloc nR0 _).drew))
   (fail)
  all_goals
   go_wp2_with fail
   go_meet
   exact ⟨rfl, (bR0.alloc nR0 _).drew⟩
 case rest =>
  obtain ⟨rfl, hb2⟩ := hcut
  have hh2 : StR wc base Sb s m := HH.out.below (HB0.out.trans (hb2.mono hw1))
  have hmm : ∀ {w2 : World}, Keeps base [220] wc w2 → MapR w2 base m.M s.map → StR w2 base Sb s m := fun k9 m9 => HH.out.below (HB0.out.trans (hb2.mono hw1)) |>.mapped k9 m9
  have HH2 := hZ9 hh2
  have hsl2 := hh2.blk.lt
  have hbw2 := hh2.lt
  have hsz2 := hb2.size
  have HB2 := hZ9 hb2
  have hnd : s.d.size ≤ 4096 := by obtain ⟨m', hm⟩ := hh2.dsk; exact hm.sz.2
  have HN := hZ9 (show ∀ wy, Calls Tryz.prog 56 #[.int .i64 s.d.size, .int .i64 b.length] wy fun e w' => e = .returned (.int .i64 (needP s.d.size b.length : Nat)) ∧ wy = w' from fun wy => pageNeed_any s.d.size b.length (by omega) (by omega) wy)
  have HTK := hZ9 (show ∀ wy, Below wc.heap.size wc wy → Calls Tryz.prog 105 #[.pointer (some ⟨m.M, 0, none⟩), .int .i64 (needP s.d.size b.length : Nat)] wy fun e w' => TakeOutF wy w' base m.M (et, (0, 0), s.map) e from fun wy hy => by
   have := takeF_any (HH2.out.below hy).map HK.out.map (Nat.le_trans hbw2 hy.size) (needP s.d.size b.length) (needP_bound _ _)
   rw [htk.out] at this
   exact this)
  have SK := hZ9 (show ∀ wy, Keeps base [220] wc wy → wy.cell? ⟨w.heap.size, 0, none⟩ = some (.pointer (some ⟨Sb, 0, none⟩)) ∧ wy.cell? ⟨Sb, 3, none⟩ = some (.pointer (some ⟨m.M, 0, none⟩)) ∧ wy.cell? ⟨Sb, 1, none⟩ = some (.int .i64 s.d.size) from fun wy hy => by
   have hh := HH2.out.blk.keeps hy (by decide)
   exact ⟨(SKb.out _ ((Keeps.of_below HB2.out hbw1).trans (hy.mono nR0 (by simp)))).1, hh.cell 3, hh.cell 1⟩)
  clear hh2 hb2
  generalize needP s.d.size b.length = nd at *
  go_upto_region 8 with fail
  go_cut [9, 10] (fun v9 v10 wx => ∃ k, v9 = .pointer (some ⟨k, 0, none⟩) ∧ v10 = .int .i64 et ∧ Blk wx k 140 #[.int .i64 0, .int .i64 0] ∧ w1.heap.size ≤ k ∧ StR wx base Sb s m ∧ Keeps base [121, 165, 167, 216, 137, 129, 220] w1 wx)
  case first => as_aux_lemma =>
   have kd := hZ9 (Keeps.of_below (base := base) (ts := [220]) bR0.drew hbw2)
   have bz : Below wc.heap.size wc (wc.alloc (.cells #[.int .i64 0, .int .i64 0] 140)).drew := (bR0.alloc nR0 _).drew
   have BZ := hZ9 bz
   have kz := hZ9 (Keeps.of_below (base := base) (ts := [220]) bz hbw2)
   obtain ⟨d1, d2, d3⟩ := SK.out _ kd.out
   obtain ⟨d4, d5, d6⟩ := SK.out _ kz.out
   have ZA := hZ9 (show ∀ w4, Keeps base [220] (wc.alloc (.cells #[.int .i64 0, .int .i64 0] 140)).drew w4 → Blk w4 wc.heap.size 140 #[.int .i64 0, .int .i64 0] ∧ (st140 (.pointer (some ⟨wc.heap.size, 0, none⟩)) (.agg #[.int .i64 0, .int .i64 0])).run Tryz.prog w4 = .ok () (w4.setRow wc.heap.size #[.int .i64 0, .int .i64 0]) from fun w4 hk => by
    have hb := (Blk.new wc 140 #[.int .i64 0, .int .i64 0]).drew.keeps hk (by decide)
    exact ⟨hb, run_st140 hb rfl rfl (by simp [Value.oneCell'])⟩)
   have ZB := hZ9 (show ∀ w4 : World, (st140 (.pointer (some ⟨w4.heap.size, 0, none⟩)) (.agg #[.int .i64 0, .int .i64 0])).run Tryz.prog (w4.alloc (.cells #[.int .i64 0, .int .i64 0] 140)) = .ok () ((w4.alloc (.cells #[.int .i64 0, .int .i64 0] 140)).setRow w4.heap.size #[.int .i64 0, .int .i64 0]) from fun w4 => run_st140 (Blk.new w4 140 _) rfl rfl (by simp [Value.oneCell']))
   clear bz
   go_region_law (first
     | (go_at_call 56; refine (HN.out _).mono ?_; rintro en w' ⟨rfl, rfl⟩)
     | (go_at_call 105; refine (HTK.out _ BZ.out).mono ?_; rintro en w4 ⟨rfl, hm3, hk3, hf3⟩; (have HM3 := hZ9 hm3); (have HF3 := hZ9 hf3); (have K4 := hZ9 (kz.out.trans hk3)); (have HZA := hZ9 (ZA.out _ hk3)); (have zs := HZA.out.2); clear hm3 hk3 hf3)
     | (go_at_call 105; refine (HTK.out _ bR0.drew).mono ?_; rintro en w4 ⟨rfl, hm3, hk3, hf3⟩; (have HM3 := hZ9 hm3); (have HF3 := hZ9 hf3); (have K4 := hZ9 (kd.out.trans hk3)); (have zs := ZB.out w4); clear hm3 hk3 hf3)
     | (go_simp; go_at_call 56; refine (HN.out _).mono ?_; rintro en w' ⟨rfl, rfl⟩)
     | (go_simp; go_at_call 105; refine (HTK.out _ BZ.out).mono ?_; rintro en w4 ⟨rfl, hm3, hk3, hf3⟩; (have HM3 := hZ9 hm3); (have HF3 := hZ9 hf3); (have K4 := hZ9 (kz.out.trans hk3)); (have HZA := hZ9 (ZA.out _ hk3)); (have zs := HZA.out.2); clear hm3 hk3 hf3)
     | (go_simp; go_at_call 105; refine (HTK.out _ bR0.drew).mono ?_; rintro en w4 ⟨rfl, hm3, hk3, hf3⟩; (have HM3 := hZ9 hm3); (have HF3 := hZ9 hf3); (have K4 := hZ9 (kd.out.trans hk3)); (have zs := ZB.out w4); clear hm3 hk3 hf3))
   all_goals
    go_wp2_with fail
    go_meet
   all_goals first
    | (have hz9 := HZA.out.1
       have hgb := setRow_gby w4 wc.heap.size #[.int .i64 0, .int .i64 0]
       have hks := K4.out.grown_new hgb hbw2 nR0
       have hml := HH2.out.map.lt
       have hm4 := HM3.out.grown2 hgb (Nat.ne_of_lt hml) (fun hne a1 n1 c1 h1 => by
        have hfr : FreeIn (wc.alloc (.cells #[.int .i64 0, .int .i64 0] 140)).drew m.M (· < wc.heap.size) := fun a2 n2 c2 h2 => HH2.out.map.freeIn hne a2 n2 c2 ((BZ.out.cell hml).symm.trans h2)
        rcases HF3.out _ hfr a1 n1 c1 h1 with h5 | h5
        ·exact Nat.ne_of_lt h5
        ·simp at h5; omega)
       exact ⟨wc.heap.size, rfl, rfl, setRow_blk HZA.out.1 _, hsz2, hmm hks hm4, (Keeps.of_below HB2.out hbw1).trans (hks.mono nR0 (by simp))⟩)
    | (have hm4 := hmm K4.out HM3.out
       have ba : Below w4.heap.size w4 ((w4.alloc (.cells #[.int .i64 0, .int .i64 0] 140)).setRow w4.heap.size #[.int .i64 0, .int .i64 0]) := (bR0.alloc nR0 _).trans (grown_below (setRow_gby _ _ _) (by simp) (fun k hk => by injection hk with hk; omega))
       exact ⟨w4.heap.size, rfl, rfl, setRow_blk (Blk.new w4 140 _) _, Nat.le_trans hsz2 K4.out.below.size, hm4.below ba, ((Keeps.of_below HB2.out hbw1).trans (K4.out.mono nR0 (by simp))).trans (Keeps.of_below ba (Nat.le_trans hbw2 K4.out.below.size))⟩)
  case rest =>
   obtain ⟨k, rfl, rfl, hbk, hkl, hs3, hk3⟩ := hcut
   have he' : ((et : Int) != 0) = true := by simp; omega
   have hend := hZ9 (show StR wc base Sb s m ∧ KeepS base m m w wc from ⟨hs3, (KeepS.of_below (m := m) HB0.out hlt).trans (KeepS.of hk3 (by simp))⟩)
   clear hbk hs3 hk3 hkl
   go_wp2_with fail
   go_ret
   exact ⟨rfl, hend.out⟩
end Go.Proofs.YtmgmfnimaafkdaaGreatDoor
