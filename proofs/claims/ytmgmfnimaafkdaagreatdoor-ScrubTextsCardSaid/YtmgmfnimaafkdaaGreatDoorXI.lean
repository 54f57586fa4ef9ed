/- Names as the reference has them; nothing found in no store.  -/
import Derived.Test.YtmgmfnimaafkdaaGreatDoorVT
import Derived.Test.YtmgmfnimaafkdaaGreatDoorVY
import Derived.BigQuiet
import Derived.Deep.WholeRow
namespace Go.Proofs.YtmgmfnimaafkdaaGreatDoor
open Go.RowKit Go.Maps
set_option maxRecDepth 100000

theorem under100 : Tryz.prog.underlying 100 = some (.slice 105) := by kernel_rfl
theorem info105 : (Tryz.prog.info? 105).map (fun i => (i.zero, i.size, i.bytes)) = some (some (.agg #[.int .i64 0, .int .i64 0]), 2, 16) := by kernel_rfl
set_option maxHeartbeats 4000000 in
theorem lnames_any {w : World} (l : List NameV) (A : Option Addr) (c : Nat) (h : Rd w w.heap.size 2 A l.length (nameRows l)) (hl : l.length ≤ 100000) :
    Calls Tryz.prog 44 #[.slice A l.length c] w fun e w' => ∃ A' c', e = .returned (.slice A' l.length c') ∧ Sl w' 105 2 A' l.length (nameRows l) ∧ Below w.heap.size w w' := by
  have H := Lib.hid h
  obtain ⟨i5, hi5, hz0, hz1, hz2⟩ := info_parts info105
  have hb0 : Below w.heap.size w w := Below.refl _ _
  clear h
  go_enter Tryz.func44, Tryz.ntmps44
  go_wp2_with fail
  go_loopw [3, 8] (fun out i wr => ∃ j : Nat, j ≤ l.length ∧ i = .int .i64 (j : Nat) ∧ wr.ownsRow w.heap.size 105 2 out j (nameRows (l.take j)) ∧ Below w.heap.size w wr) (fun _ i _ => l.length - (intOf i).toNat)
  case atStart => exact ⟨0, Nat.zero_le _, rfl, by rw [List.take_zero]; exact own_nil _ _ _ _, hb0⟩
  case round =>
    obtain ⟨j, hj, rfl, ho, hb⟩ := hrel
    have hsz := hb.size
    obtain ⟨A5, c5, rfl, hc5⟩ := own_form ho
    by_cases hlt : j < l.length
    · obtain ⟨bb, oo, hA, hbl, hcc⟩ := H.out.2 (by omega)
      have hp := pair_cells (fun x : NameV => Value.int .i64 x.1) (fun x => .int .i64 x.2) l j hlt
      obtain ⟨p1, p2⟩ := hp
      have l1 : j * 2 < (nameRows l).length := by rw [nameRows_len]; omega
      have l2 : j * 2 + 1 < (nameRows l).length := by rw [nameRows_len]; omega
      have q0 : wr.cell? ⟨bb, oo + j * 2, none⟩ = some (.int .i64 l[j].1) := (hb.cell (p := ⟨bb, oo + j * 2, none⟩) hbl).trans (by rw [hcc _ l1, ← p1]; exact (List.getElem?_eq_getElem l1).symm)
      have q1 : wr.cell? ⟨bb, oo + j * 2 + 1, none⟩ = some (.int .i64 l[j].2) := (hb.cell (p := ⟨bb, oo + j * 2 + 1, none⟩) hbl).trans (by rw [Nat.add_assoc, hcc _ l2, ← p2]; exact (List.getElem?_eq_getElem l2).symm)
      have htk : l.take (j + 1) = l.take j ++ [l[j]] := List.take_succ_eq_append_getElem hlt
      subst hA
      generalize l[j] = x at *
      obtain ⟨n1, n2⟩ := x
      simp only at q0 q1
      have hbx : Below w.heap.size w ((wr.alloc (.cells #[.int .i64 n1, .int .i64 n2] 73)).alloc (.cells #[.int .i64 n1, .int .i64 n2] 105)) := (hb.alloc hsz _).alloc (by simp; omega) _
      have HOW := Lib.hid (own_keep_alloc (own_keep_alloc ho (.cells #[.int .i64 n1, .int .i64 n2] 73)) (.cells #[.int .i64 n1, .int .i64 n2] 105))
      have HRD : Hid (Rd ((wr.alloc (.cells #[.int .i64 n1, .int .i64 n2] 73)).alloc (.cells #[.int .i64 n1, .int .i64 n2] 105)) ((wr.alloc (.cells #[.int .i64 n1, .int .i64 n2] 73)).alloc (.cells #[.int .i64 n1, .int .i64 n2] 105)).heap.size 2 (some ⟨wr.heap.size + 1, 0, none⟩) 1 [.int .i64 n1, .int .i64 n2]) :=
        sl_rd (Sl.of_blk (sz := 2) (n := 1) (xs := [.int .i64 n1, .int .i64 n2]) (Blk.new_eq0 (by simp)) rfl)
      have H1C : Hid (∀ u ∈ ([.int .i64 n1, .int .i64 n2] : List Value), u.oneCell' = true) := Lib.hid (by intro u hu; simp at hu; rcases hu with rfl | rfl <;> rfl)
      have HBX := Lib.hid hbx
      have HTK := Lib.hid htk
      have j1 : (j : Int) < (l.length : Int) := by omega
      have j2 : (0 : Int) ≤ (j : Int) := by omega
      clear ho hbx htk hb hcc p1 p2
      go_wp2_with (at_builtin; refine wpList_append_rd _ rfl _ _ 100 rfl w.heap.size 105 i5 _ 2 16 under100 hi5 hz0 hz1 hz2 rfl (by decide) (.slice A5 j c5) j (nameRows (l.take j)) rfl HOW.out (some ⟨wr.heap.size + 1, 0, none⟩) 1 1 _ [.int .i64 n1, .int .i64 n2] rfl HRD.out H1C.out (by unfold maxLen; omega) (by omega) (by simp; omega) ?_; intro A4 c4 w4 hown4 hgr4 hnc4 hat4; (have HO4 := Lib.hid hown4); (have HB4 := Lib.hid (HBX.out.trans (grown_below hgr4 HBX.out.size (fun q hq => by rcases HOW.out.2 with ⟨hv, _⟩ | ⟨g', cap, cur, hv, hbg, _, _⟩ <;> (rw [hv] at hq; simp [Value.ownBlock] at hq) <;> omega)))); clear hown4 hgr4 hat4)
      go_roundw
      case rel => exact ⟨j + 1, by omega, by go_num, by rw [HTK.out, nameRows_append]; exact HO4.out, HB4.out⟩
      case measure => simp [intOf]; omega
    · obtain rfl : j = l.length := by omega
      rw [List.take_length] at ho
      have HO := Lib.hid (Sl.of_own ho)
      have HB := Lib.hid hb
      clear ho hb
      go_wp2_with fail
      go_ret
      exact ⟨A5, c5, rfl, HO.out, HB.out⟩
abbrev nil4 : Value := .agg #[.slice none 0 0, .slice none 0 0, .slice none 0 0, .slice none 0 0]
theorem size96 : (Tryz.prog.info? 96).map (·.size) = some 4 := by kernel_rfl
set_option maxHeartbeats 4000000 in
theorem look_nil (w : World) : Calls Tryz.prog 42 #[.pointer none] w fun e w' => e = .returned nil4 ∧ Below w.heap.size w w' := by
  have HB0 : Hid (Below w.heap.size w ((w.alloc (.cells #[.slice none 0 0, .slice none 0 0, .slice none 0 0, .slice none 0 0] 96)).alloc (.cells #[.slice none 0 0, .slice none 0 0, .slice none 0 0, .slice none 0 0] 96))) := ((Below.refl _ _).alloc (Nat.le_refl _) _).alloc (by simp) _
  have HX2 := Lib.hid (show Blk ((w.alloc (.cells #[.slice none 0 0, .slice none 0 0, .slice none 0 0, .slice none 0 0] 96)).alloc (.cells #[.slice none 0 0, .slice none 0 0, .slice none 0 0, .slice none 0 0] 96)) w.heap.size 96 #[.slice none 0 0, .slice none 0 0, .slice none 0 0, .slice none 0 0] from (Blk.new _ _ _).alloc _)
  have HX := Lib.hid (show Blk ((w.alloc (.cells #[.slice none 0 0, .slice none 0 0, .slice none 0 0, .slice none 0 0] 96)).alloc (.cells #[.slice none 0 0, .slice none 0 0, .slice none 0 0, .slice none 0 0] 96)) (w.heap.size + 1) 96 #[.slice none 0 0, .slice none 0 0, .slice none 0 0, .slice none 0 0] from Blk.new_eq0 (by simp))
  have HI : Hid ((Tryz.prog.info? 96).map (·.size) = some 4) := size96
  go_enter Tryz.func42, Tryz.ntmps42
  go_upto_region 3 with fail
  generalize (w.alloc (.cells #[.slice none 0 0, .slice none 0 0, .slice none 0 0, .slice none 0 0] 96)).alloc (.cells #[.slice none 0 0, .slice none 0 0, .slice none 0 0, .slice none 0 0] 96) = w0 at *
  go_wp2_with (go_at_call 35; refine (names_nil _).mono ?_; rintro en w' ⟨rfl, rfl⟩)
  go_loopw [4, 20] (fun o i wr => o = .slice none 0 0 ∧ i = .int .i64 0 ∧ wr = w0) (fun _ _ _ => 0)
  case atStart => exact ⟨rfl, rfl, rfl⟩
  case round =>
    obtain ⟨rfl, rfl, rfl⟩ := hrel
    go_wp2_with (go_at_call 36; refine (notes_nil _).mono ?_; rintro en w' ⟨rfl, rfl⟩)
    obtain ⟨w1, hw1⟩ : ∃ w1, w1 = wr := ⟨_, rfl⟩
    rw [← hw1] at HB0 HX2 HX ⊢
    clear hw1
    go_loopw [63] (fun i wr => i = .int .i64 0 ∧ wr = w1) (fun _ _ => 0)
    case atStart => exact ⟨rfl, rfl⟩
    case round =>
      obtain ⟨rfl, rfl⟩ := hrel
      go_wp2_with fail
      obtain ⟨w2, hw2⟩ : ∃ w2, w2 = wr := ⟨_, rfl⟩
      rw [← hw2] at HB0 HX2 HX ⊢
      clear hw2
      go_loopw [84] (fun i wr => i = .int .i64 0 ∧ wr = w2) (fun _ _ => 0)
      case atStart => exact ⟨rfl, rfl⟩
      case round =>
        obtain ⟨rfl, rfl⟩ := hrel
        go_wp2_with (first
          | (refine wpList_load_row rfl 96 _ rfl (w.heap.size + 1) rfl 96 #[.slice none 0 0, .slice none 0 0, .slice none 0 0, .slice none 0 0] (0, 0) _ HX.out Tryz.underlying96 rfl HI.out ?_)
          | (refine wpList_store_row rfl 96 _ _ rfl w.heap.size #[.slice none 0 0, .slice none 0 0, .slice none 0 0, .slice none 0 0] rfl rfl 96 _ HX2.out HI.out rfl (by simp [Value.oneCell']) ?_))
        refine bodyPost_ret (v := nil4) (results_cell_row Tryz.results42 _ _ w.heap.size 96 _ (0, 0) _ rfl (setRow_blk HX2.out _) Tryz.underlying96 rfl HI.out) rfl ?_
        exact ⟨rfl, HB0.out.trans (grown_below (setRow_gby _ _ _) HB0.out.size (fun k hk => by injection hk with hk; omega))⟩
set_option maxHeartbeats 4000000 in
theorem heal_nil (w : World) : Calls Tryz.prog 52 #[.pointer none] w fun e w' => e = .returned (.tuple #[nil4, .int .i64 0]) ∧ Below w.heap.size w w' := by
  have HB0 : Hid (Below w.heap.size w (w.alloc (.cells #[.slice none 0 0, .slice none 0 0, .slice none 0 0, .slice none 0 0] 96))) := (Below.refl _ _).alloc (Nat.le_refl _) _
  have HX2 := Lib.hid (Blk.new w 96 #[.slice none 0 0, .slice none 0 0, .slice none 0 0, .slice none 0 0])
  have HI : Hid ((Tryz.prog.info? 96).map (·.size) = some 4) := size96
  go_enter Tryz.func52, Tryz.ntmps52
  go_upto_region 1 with fail
  generalize w.alloc (.cells #[.slice none 0 0, .slice none 0 0, .slice none 0 0, .slice none 0 0] 96) = w0 at *
  go_upto_region 2 with (go_at_call 42; refine (look_nil _).mono ?_; rintro en w1 ⟨rfl, hb1⟩; (have HB1 := Lib.hid (HB0.out.trans (hb1.mono HB0.out.size))); (have HX1 := Lib.hid (HX2.out.below hb1 HX2.out.lt)); clear hb1)
  have HB2 : Hid (Below w.heap.size w (w1.alloc (.cells #[.slice none 0 0, .slice none 0 0, .slice none 0 0, .slice none 0 0] 96))) := HB1.out.alloc HB1.out.size _
  have HXA := Lib.hid (HX1.out.alloc (.cells #[.slice none 0 0, .slice none 0 0, .slice none 0 0, .slice none 0 0] 96))
  have HXB := Lib.hid (Blk.new w1 96 #[.slice none 0 0, .slice none 0 0, .slice none 0 0, .slice none 0 0])
  generalize w1.alloc (.cells #[.slice none 0 0, .slice none 0 0, .slice none 0 0, .slice none 0 0] 96) = w2 at *
  obtain ⟨G, hG⟩ : ∃ G, G = w1.heap.size := ⟨_, rfl⟩
  rw [← hG] at HXB ⊢
  clear hG
  have x1 : w2.cell? ⟨G, 1, none⟩ = some (.slice none 0 0) := HXB.out.cell 1
  have x2 : w2.cell? ⟨G, 2, none⟩ = some (.slice none 0 0) := HXB.out.cell 2
  have xl := HXB.out.lt
  go_wp2_with fail
  go_loopw [16] (fun i wr => i = .int .i64 0 ∧ wr = w2) (fun _ _ => 0)
  case atStart => exact ⟨rfl, rfl⟩
  case round =>
    obtain ⟨rfl, rfl⟩ := hrel
    go_wp2_with fail
    obtain ⟨w3, hw3⟩ : ∃ w3, w3 = wr := ⟨_, rfl⟩
    rw [← hw3] at HB2 HXA HXB x1 x2 xl ⊢
    clear hw3
    go_loopw [36] (fun i wr => i = .int .i64 0 ∧ wr = w3) (fun _ _ => 0)
    case atStart => exact ⟨rfl, rfl⟩
    case round =>
      obtain ⟨rfl, rfl⟩ := hrel
      clear x1 x2
      go_wp2_with (first
        | (refine wpList_load_row rfl 96 _ rfl G rfl 96 #[.slice none 0 0, .slice none 0 0, .slice none 0 0, .slice none 0 0] (0, 0) _ HXB.out Tryz.underlying96 rfl HI.out ?_)
        | (refine wpList_store_row rfl 96 _ _ rfl w.heap.size #[.slice none 0 0, .slice none 0 0, .slice none 0 0, .slice none 0 0] rfl rfl 96 _ HXA.out HI.out rfl (by simp [Value.oneCell']) ?_))
      refine bodyPost_ret (v := .tuple #[nil4, .int .i64 0]) (results_cell_tmp Tryz.results52 _ _ w.heap.size 96 _ (0, 0) _ rfl (setRow_blk HXA.out _) Tryz.underlying96 rfl HI.out) rfl ?_
      exact ⟨rfl, HB2.out.trans (grown_below (setRow_gby _ _ _) HB2.out.size (fun k hk => by injection hk with hk; omega))⟩
theorem size73 : (Tryz.prog.info? 73).map (·.size) = some 2 := by kernel_rfl
set_option maxHeartbeats 4000000 in
theorem next_nil (w : World) : Calls Tryz.prog 45 #[.pointer none, .agg #[.int .i64 3, .int .i64 4], .int .i64 5] w fun e w' => e = .returned (.tuple #[.agg #[.int .i64 3, .int .i64 4], .slice none 0 0]) ∧ Below w.heap.size w w' := by
  have HB0 : Hid (Below w.heap.size w ((w.alloc (.cells #[.int .i64 3, .int .i64 4] 73)).alloc (.cells #[.int .i64 0, .int .i64 0] 73))) := ((Below.refl _ _).alloc (Nat.le_refl _) _).alloc (by simp) _
  have HX := Lib.hid (show Blk ((w.alloc (.cells #[.int .i64 3, .int .i64 4] 73)).alloc (.cells #[.int .i64 0, .int .i64 0] 73)) w.heap.size 73 #[.int .i64 3, .int .i64 4] from (Blk.new _ _ _).alloc _)
  have HX2 := Lib.hid (show Blk ((w.alloc (.cells #[.int .i64 3, .int .i64 4] 73)).alloc (.cells #[.int .i64 0, .int .i64 0] 73)) (w.heap.size + 1) 73 #[.int .i64 0, .int .i64 0] from Blk.new_eq0 (by simp))
  have HI : Hid ((Tryz.prog.info? 73).map (·.size) = some 2) := size73
  go_enter Tryz.func45, Tryz.ntmps45
  go_upto_region 3 with (go_at_call 35; refine (names_nil _).mono ?_; rintro en w' ⟨rfl, rfl⟩)
  generalize (w.alloc (.cells #[.int .i64 3, .int .i64 4] 73)).alloc (.cells #[.int .i64 0, .int .i64 0] 73) = w0 at *
  go_loopw [9] (fun i wr => i = .int .i64 0 ∧ wr = w0) (fun _ _ => 0)
  case atStart => exact ⟨rfl, rfl⟩
  case round =>
    obtain ⟨rfl, rfl⟩ := hrel
    have hd : decide ((0 : Int) < 0) = false := by decide
    go_upto_region 1 with fail
    go_quiet (fail)
    generalize hw1 : World.drewN wr _ = w1
    have HB1 : Hid (Below w.heap.size w w1) := by rw [← hw1]; exact bl_drewN HB0.out _
    have HX1 : Hid (Blk w1 w.heap.size 73 #[.int .i64 3, .int .i64 4]) := by rw [← hw1]; exact HX.out.drewN _
    have HY1 : Hid (Blk w1 (w.heap.size + 1) 73 #[.int .i64 0, .int .i64 0]) := by rw [← hw1]; exact HX2.out.drewN _
    have HN1 := Lib.hid (Blk.new w1 73 #[.int .i64 0, .int .i64 0])
    clear hw1 HB0 HX HX2
    go_wp2_with (first
      | (refine wpList_load_row rfl 73 _ rfl w.heap.size rfl 73 #[.int .i64 3, .int .i64 4] (0, 0) _ HX1.out Tryz.underlying73 rfl HI.out ?_)
      | (refine wpList_store_row rfl 73 _ _ rfl w1.heap.size #[.int .i64 3, .int .i64 4] rfl rfl 73 _ HN1.out HI.out rfl (by simp [Value.oneCell']) ?_))
    have HB2 : Hid (Below w.heap.size w (w1.alloc (.cells #[.int .i64 3, .int .i64 4] 73))) := HB1.out.alloc HB1.out.size _
    have HY2 := Lib.hid (HY1.out.alloc (.cells #[.int .i64 3, .int .i64 4] 73))
    have HN2 := Lib.hid (Blk.new w1 73 #[.int .i64 3, .int .i64 4])
    have hs := World.setRow_alloc_new w1 #[.int .i64 0, .int .i64 0] #[.int .i64 3, .int .i64 4] 73
    rw [hs]
    clear hs HX1 HY1 HN1 HB1
    generalize w1.alloc (.cells #[.int .i64 3, .int .i64 4] 73) = w2 at *
    generalize w1.heap.size = G at *
    go_loopw [11, 36] (fun t i wr => t = .slice none 0 0 ∧ i = .int .i64 0 ∧ wr = w2) (fun _ _ _ => 0)
    case atStart => exact ⟨rfl, rfl, rfl⟩
    case round =>
      obtain ⟨rfl, rfl, rfl⟩ := hrel
      go_wp2_with (first
        | (refine wpList_load_row rfl 73 _ rfl G rfl 73 #[.int .i64 3, .int .i64 4] (0, 0) _ HN2.out Tryz.underlying73 rfl HI.out ?_)
        | (refine wpList_store_row rfl 73 _ _ rfl (w.heap.size + 1) #[.int .i64 3, .int .i64 4] rfl rfl 73 _ HY2.out HI.out rfl (by simp [Value.oneCell']) ?_))
      refine bodyPost_ret (v := .tuple #[.agg #[.int .i64 3, .int .i64 4], .slice none 0 0]) (results_cell_tmp Tryz.results45 _ _ (w.heap.size + 1) 73 #[.int .i64 3, .int .i64 4] (0, 0) _ rfl (setRow_blk HY2.out #[.int .i64 3, .int .i64 4]) Tryz.underlying73 rfl HI.out) rfl ?_
      exact ⟨rfl, HB2.out.trans (grown_below (setRow_gby _ _ _) HB2.out.size (fun k hk => by injection hk with hk; omega))⟩
end Go.Proofs.YtmgmfnimaafkdaaGreatDoor
