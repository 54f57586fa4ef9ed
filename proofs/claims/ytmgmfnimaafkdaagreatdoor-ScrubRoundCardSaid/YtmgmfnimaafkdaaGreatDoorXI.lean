/- Names as the reference has them; nothing found in no store. -/
import Derived.Test.YtmgmfnimaafkdaaGreatDoorVT
import Derived.Test.YtmgmfnimaafkdaaGreatDoorVJ
import Derived.BigQuiet
import Derived.Deep.WholeRow
namespace Go.Proofs.YtmgmfnimaafkdaaGreatDoor
open Go.RowKit Go.Maps
set_option maxRecDepth 100000

theorem under100 : Tryz.prog.underlying 100 = some (.slice 105) := by kernel_rfl
theorem info105 : (Tryz.prog.info? 105).map (fun i => (i.zero, i.size, i.bytes)) = some (some (.agg #[.int .i64 0, .int .i64 0]), 2, 16) := by kernel_rfl
set_option maxHeartbeats 4000000 in
theorem lnames_any {w : World} (l : List NameV) (A : Option Addr) (c : Nat) (h : Rd w w.heap.size 2 A l.length (nameRows l)) (hl : l.length ≤ 100000) :
  Calls Tryz.prog 44 #[.slice A l.length c] w fun e w' => ∃ A' c', e = .returned (.slice A' l.length c') ∧ Sl w' 105 2 A' l.length (nameRows l) ∧ Below w.heap.size w w' := by
 have H := hZ9 h
 obtain ⟨i5, hi5, hz0, hz1, hz2⟩ := info_parts info105
 have hb0 : Below w.heap.size w w := bR0
 clear h
 go_enter Tryz.func44, Tryz.ntmps44
 go_wp2_with fail
 go_loopw [3, 8] (fun out i wr => ∃ j : Nat, j ≤ l.length ∧ i = .int .i64 (j : Nat) ∧ wr.ownsRow w.heap.size 105 2 out j (nameRows (l.take j)) ∧ Below w.heap.size w wr) (fun _ i _ => l.length - (intOf i).toNat)
 case atStart => exact ⟨0, Nat.zero_le _, rfl, by rw [List.take_zero]; exact own_nil _ _ _ _, hb0⟩
 case round =>
  obtain ⟨j, hj, rfl, ho, hb⟩ := hrel
  have hsz := hb.size
  obtain ⟨A5, c5, rfl, hc5⟩ := own_form ho
  by_cases hlt : j < l.length
  ·obtain ⟨bb, oo, hA, hbl, hcc⟩ := H.out.2 (by omega)
   have hp := pair_cells (fun x : NameV => Value.int .i64 x.1) (fun x => .int .i64 x.2) l j hlt
   obtain ⟨p1, p2⟩ := hp
   have l1 : j * 2 < (nameRows l).length := by rw [nameRows_len]; omega
   have l2 : j * 2 + 1 < (nameRows l).length := by rw [nameRows_len]; omega
   have q0 : wr.cell? ⟨bb, oo + j * 2, none⟩ = some (.int .i64 l[j].1) := (hb.cell (p := ⟨bb, oo + j * 2, none⟩) hbl).trans (by rw [hcc _ l1, ← p1]; exact (List.getElem?_eq_getElem l1).symm)
   have q1 : wr.cell? ⟨bb, oo + j * 2 + 1, none⟩ = some (.int .i64 l[j].2) := (hb.cell (p := ⟨bb, oo + j * 2 + 1, none⟩) hbl).trans (by rw [Nat.add_assoc, hcc _ l2, ← p2]; exact (List.getElem?_eq_getElem l2).symm)
   have htk : l.take (j + 1) = l.take j ++ [l[j]] := List.take_succ_eq_append_getElem hlt
   subst hA
   generalize l[j] = x at *
   obtain ⟨n1, n2⟩ := x
   simp only at q0 q1
   have hbx : Below w.heap.size w ((wr.alloc (.cells #[.int .i64 n1, .int .i64 n2] 73)).alloc (.cells #[.int .i64 n1, .int .i64 n2] 105)) := (hb.alloc hsz _).alloc (by simp; omega) _
   have HOW := hZ9 (own_keep_alloc (own_keep_alloc ho (.cells #[.int .i64 n1, .int .i64 n2] 73)) (.cells #[.int .i64 n1, .int .i64 n2] 105))
   have HRD : Hid (Rd ((wr.alloc (.cells #[.int .i64 n1, .int .i64 n2] 73)).alloc (.cells #[.int .i64 n1, .int .i64 n2] 105)) ((wr.alloc (.cells #[.int .i64 n1, .int .i64 n2] 73)).alloc (.cells #[.int .i64 n1, .int .i64 n2] 105)).heap.size 2 (some ⟨wr.heap.size + 1, 0, none⟩) 1 [.int .i64 n1, .int .i64 n2]) :=
    sl_rd (Sl.of_blk (sz := 2) (n := 1) (xs := [.int .i64 n1, .int .i64 n2]) (Blk.new_eq0 (by simp)) rfl)
   have H1C : Hid (∀ u ∈ ([.int .i64 n1, .int .i64 n2] : List Value), u.oneCell' = true) := hZ9 (by intro u hu; simp at hu; rcases hu with rfl | rfl <;> rfl)
   have HBX := hZ9 hbx
   have HTK := hZ9 htk
   have j1 : (j : Int) < (l.length : Int) := by omega
   have j2 : (0 : Int) ≤ (j : Int) := by omega
   clear ho hbx htk hb hcc p1 p2
   go_wp2_with (at_builtin; refine wpList_append_rd _ rfl _ _ 100 rfl w.heap.size 105 i5 _ 2 16 under100 hi5 hz0 hz1 hz2 rfl (by decide) (.slice A5 j c5) j (nameRows (l.take j)) rfl HOW.out (some ⟨wr.heap.size + 1, 0, none⟩) 1 1 _ [.int .i64 n1, .int .i64 n2] rfl HRD.out H1C.out (by unfold maxLen; omega) (by omega) (by simp; omega) ?_; intro A4 c4 w4 hown4 hgr4 hnc4 hat4; (have HO4 := hZ9 hown4); (have HB4 := hZ9 (HBX.out.trans (grown_below hgr4 HBX.out.size (fun q hq => by rcases HOW.out.2 with ⟨hv, _⟩ | ⟨g', cap, cur, hv, hbg, _, _⟩ <;> (rw [hv] at hq; simp [Value.ownBlock] at hq) <;> omega)))); clear hown4 hgr4 hat4)
   go_roundw
   case rel => exact ⟨j + 1, by omega, by go_num, by rw [HTK.out, nameRows_append]; exact HO4.out, HB4.out⟩
   case measure => simp [intOf]; omega
  ·obtain rfl : j = l.length := by omega
   rw [List.take_length] at ho
   have HO := hZ9 (Sl.of_own ho)
   have HB := hZ9 hb
   clear ho hb
   go_wp2_with fail
   go_ret
   exact ⟨A5, c5, rfl, HO.out, HB.out⟩
end Go.Proofs.YtmgmfnimaafkdaaGreatDoor
