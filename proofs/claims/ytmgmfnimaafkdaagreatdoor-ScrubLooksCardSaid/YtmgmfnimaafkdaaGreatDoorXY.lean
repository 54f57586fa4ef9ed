/- What is found in any store is what the document says, and its text: the law's own walk. -/
import Derived.Test.YtmgmfnimaafkdaaGreatDoorXX
import Derived.Test.YtmgmfnimaafkdaaGreatDoorXT
import Derived.Test.YtmgmfnimaafkdaaGreatDoorXI
import Derived.Test.YtmgmfnimaafkdaaGreatDoorXH
namespace Go.Proofs.YtmgmfnimaafkdaaGreatDoor
open Go.RowKit Go.Maps
set_option maxRecDepth 100000

theorem right_inI {v : Int} (h : rightB v = true) : inI v := by
 unfold rightB at h
 simp only [Bool.and_eq_true, decide_eq_true_eq] at h
 exact ⟨by omega, by omega⟩
theorem look_bounds {s : StV} {lo E : Nat} {ts : List (NameV × List UInt8)} (ha : StAll s lo E ts) : (∀ n ∈ goodL s, inI n.1 ∧ inI n.2) ∧ (∀ n ∈ badNs s, inI n.1 ∧ inI n.2) ∧ (∀ v ∈ lostVs s, inI v) ∧ (∀ v ∈ bareVs s, inI v) := by
 have hn : ∀ n ∈ namesL s, inI n.1 ∧ inI n.2 := fun n hn => by
  obtain ⟨x, hx, rfl⟩ := List.mem_map.1 hn
  obtain ⟨r1, r2⟩ := ha.right x hx
  exact ⟨right_inI r1, right_inI r2⟩
 refine ⟨fun n h => hn n (List.mem_filter.1 h).1, fun n h => hn n (List.mem_filter.1 h).1, fun v h => ?_, fun v h => ?_⟩
 ·obtain ⟨n, h1, rfl⟩ := ((versL_ok (namesL s) (List.pairwise_map.2 ha.srtS)).2.2 v).1 (List.mem_filter.1 h).1
  exact (hn n h1).1
 ·obtain ⟨x, hx, rfl⟩ := List.mem_map.1 (List.mem_filter.1 h).1
  exact right_inI (ha.txt x hx).1
theorem look_few (s : StV) (h1 : s.slices.length ≤ 20) (h2 : s.notes.length ≤ 20) : (goodL s).length + (badNs s).length + (lostVs s).length + (bareVs s).length ≤ 60 := by
 have g1 := good_bad s
 have g2 : (namesL s).length = s.slices.length := by simp [namesL]
 have g3 : (lostVs s).length ≤ (versL (namesL s)).length := List.length_filter_le _ _
 have g4 := versL_len (namesL s)
 have g5 : (bareVs s).length ≤ (notesL s).length := List.length_filter_le _ _
 have g6 : (notesL s).length = s.notes.length := by simp [notesL]
 omega
set_option maxHeartbeats 16000000 in
theorem scrubLooks_any {w : World} (hT : TabsB w.heap.size w) (hb2 : 2 < w.heap.size) (A : Option Addr) (n c : Nat) (l : List OpW) (hrd : Rd w w.heap.size 5 A n (l.flatMap OpW.cells)) (hok : ∀ o ∈ l, OpOK w o) :
  Calls Tryz.prog 11 #[.slice A n c] w fun e w' => e = .returned (.bool true) ∧ Below w.heap.size w w' := by
 have HT := hZ9 hT
 have AW := hZ9 (awake_at hT hb2)
 have HMD := hZ9 (made_any hT hb2 A n c l hrd hok)
 clear hT hrd hok
 go_enter Tryz.func11, Tryz.ntmps11
 go_wp2_with (go_at_call 40; refine HMD.out.mono ?_; rintro en w1 ⟨hb, rfl | ⟨base, Sb, B, m, K, s, ts, puts, T, A', c', rfl, hK, hM⟩⟩ <;> refine Hid.out ?_)
 ·refine hZ9 ?_
  have HB1 := hZ9 hb
  clear hb HMD
  go_wp2_with (go_at_call 41; refine (AW.out _ HB1.out).mono ?_; rintro en w2 ⟨rfl, hb, _⟩; (have HB2 := hZ9 hb); clear hb)
  go_ret
  exact ⟨rfl, HB2.out⟩
 ·refine hZ9 ?_
  have HB1 := hZ9 hb
  have HM := hZ9 hM
  obtain ⟨hnum, hl1, hl2, hl3⟩ := hM.look hK
  have HLK := hZ9 (look_any hM.str hM.inv.all hnum (by omega) (by omega))
  have HSO := hZ9 (fun (wy : World) (hy : Below w1.heap.size w1 wy) => sorted_any (hM.str.below hy) hM.inv.all hnum (by omega) (by omega))
  have hgb := good_bad s
  have hnl : (namesL s).length = s.slices.length := by simp [namesL]
  have hfew := look_few s hl1 hl2
  have HBO := hZ9 (look_bounds hM.inv.all)
  have HI : Hid ((Tryz.prog.info? 96).map (·.size) = some 4) := sizeR96
  obtain ⟨gl, hgl⟩ : ∃ gl, gl = goodL s := ⟨_, rfl⟩
  obtain ⟨bl, hbl⟩ : ∃ bl, bl = badNs s := ⟨_, rfl⟩
  obtain ⟨ll, hll⟩ : ∃ ll, ll = lostVs s := ⟨_, rfl⟩
  obtain ⟨rl, hrl⟩ : ∃ rl, rl = bareVs s := ⟨_, rfl⟩
  rw [← hgl, ← hbl, ← hll, ← hrl] at HLK HSO HBO hfew
  have HF := hZ9 hfew
  clear hb hM hnum hl1 hl2 hl3 hnl hgb hgl hbl hll hrl HMD hK hfew
  go_upto_region 5 with (first
   | (go_at_call 42; refine HLK.out.mono ?_; rintro en w2 ⟨A1, c1, A2, c2, A3, c3, A4, c4, rfl, hs1, hs2, hs3, hs4, hb⟩; (have HS1 := hZ9 hs1); (have HS2 := hZ9 hs2); (have HS3 := hZ9 hs3); (have HS4 := hZ9 hs4); (have HB2 := hZ9 hb); (have HX2 := hZ9 (Blk.new w2 96 #[.slice none 0 0, .slice none 0 0, .slice none 0 0, .slice none 0 0])); clear hs1 hs2 hs3 hs4 hb)
   | (refine wpList_store_row rfl 96 _ _ rfl w2.heap.size #[.slice A1 gl.length c1, .slice A2 bl.length c2, .slice A3 ll.length c3, .slice A4 rl.length c4] rfl rfl 96 _ HX2.out HI.out rfl (by simp [Value.oneCell']) ?_))
  rw [World.setRow_alloc_new]
  have HBA : Hid (Below w2.heap.size w2 (w2.alloc (.cells #[.slice A1 gl.length c1, .slice A2 bl.length c2, .slice A3 ll.length c3, .slice A4 rl.length c4] 96))) := bR0.alloc nR0 _
  have HB3 := hZ9 (HB2.out.trans (HBA.out.mono HB2.out.size))
  have HXX := hZ9 (Blk.new w2 96 #[.slice A1 gl.length c1, .slice A2 bl.length c2, .slice A3 ll.length c3, .slice A4 rl.length c4])
  have HT1 := hZ9 (HS1.out.below HBA.out)
  have HT2 := hZ9 (HS2.out.below HBA.out)
  have HT3 := hZ9 (HS3.out.below HBA.out)
  have HT4 := hZ9 (HS4.out.below HBA.out)
  generalize w2.alloc (.cells #[.slice A1 gl.length c1, .slice A2 bl.length c2, .slice A3 ll.length c3, .slice A4 rl.length c4] 96) = w3 at *
  generalize w2.heap.size = G at *
  clear HX2 HB2 HS1 HS2 HS3 HS4 HBA HLK HI
  have hw1 := HB1.out.size
  go_upto_region 6 with (go_at_call 48; refine (HSO.out _ HB3.out).mono ?_; rintro en w4 ⟨B1, e1, B2, e2, B3, e3, B4, e4, rfl, hs1, hs2, hs3, hs4, hb⟩; (have HS1 := hZ9 hs1); (have HS2 := hZ9 hs2); (have HS3 := hZ9 hs3); (have HS4 := hZ9 hs4); (have HU1 := hZ9 (HT1.out.below hb)); (have HU2 := hZ9 (HT2.out.below hb)); (have HU3 := hZ9 (HT3.out.below hb)); (have HU4 := hZ9 (HT4.out.below hb)); (have HB4 := hZ9 (HB1.out.trans ((HB3.out.trans (hb.mono HB3.out.size)).mono hw1))); (have HXX := hZ9 (HXX.out.below hb HXX.out.lt)); clear hs1 hs2 hs3 hs4 hb)
  have hf := HF.out
  have NM1 := hZ9 (fun (wy : World) (hy : Below w4.heap.size w4 wy) => lnames_any gl A1 c1 (HU1.out.below hy).1 (by omega))
  have NM2 := hZ9 (fun (wy : World) (hy : Below w4.heap.size w4 wy) => lnames_any bl A2 c2 (HU2.out.below hy).1 (by omega))
  have SM1 := hZ9 (fun (wy : World) (D : Option Addr) (d : Nat) (hy : Below w4.heap.size w4 wy) (hd : Sl wy 105 2 D gl.length (nameRows gl)) => same_any gl D B1 d e1 hd (HS1.out.below hy) (by omega))
  have SM2 := hZ9 (fun (wy : World) (D : Option Addr) (d : Nat) (hy : Below w4.heap.size w4 wy) (hd : Sl wy 105 2 D bl.length (nameRows bl)) => same_any bl D B2 d e2 hd (HS2.out.below hy) (by omega))
  have NU3 := hZ9 (fun (wy : World) (hy : Below w4.heap.size w4 wy) => numbersSame_any ll A3 B3 c3 e3 (HU3.out.below hy) (HS3.out.below hy) (by omega))
  have NU4 := hZ9 (fun (wy : World) (hy : Below w4.heap.size w4 wy) => numbersSame_any rl A4 B4 c4 e4 (HU4.out.below hy) (HS4.out.below hy) (by omega))
  obtain ⟨b1, b2, b3, b4⟩ := HBO.out
  have T50 := hZ9 (fun (wy : World) (hy : Below w4.heap.size w4 wy) => text_any gl bl ll rl A1 A2 A3 A4 c1 c2 c3 c4 (HU1.out.below hy).1 (HU2.out.below hy).1 (HU3.out.below hy).1 (HU4.out.below hy).1 b1 b2 b3 b4 (tabs_above HT.out (HB4.out.trans (hy.mono HB4.out.size))) HF.out)
  have T51 := hZ9 (fun (wy : World) (hy : Below w4.heap.size w4 wy) => rtext_any gl bl ll rl B1 B2 B3 B4 e1 e2 e3 e4 (HS1.out.below hy).1 (HS2.out.below hy).1 (HS3.out.below hy).1 (HS4.out.below hy).1 b1 b2 b3 b4 HF.out)
  have SK := hZ9 (show ∀ wy, Below w4.heap.size w4 wy → wy.cell? ⟨G, 0, none⟩ = some (.slice A1 gl.length c1) ∧ wy.cell? ⟨G, 1, none⟩ = some (.slice A2 bl.length c2) ∧ wy.cell? ⟨G, 2, none⟩ = some (.slice A3 ll.length c3) ∧ wy.cell? ⟨G, 3, none⟩ = some (.slice A4 rl.length c4) from fun wy hy => by
   have h1 := HXX.out.below hy HXX.out.lt
   exact ⟨h1.cell 0, h1.cell 1, h1.cell 2, h1.cell 3⟩)
  have HBL : Hid (Below w4.heap.size w4 w4) := bR0
  obtain ⟨z0, z1, z2, z3⟩ := SK.out _ HBL.out
  generalize textS gl bl ll rl = txt at *
  clear b1 b2 b3 b4 hf HF HBO HS1 HS2 HS3 HS4 HU1 HU2 HU3 HU4 HT1 HT2 HT3 HT4 HSO HM HB3 HB1 hw1
  go_upto_region 8 with (first
   | ((fail_if_success (have := HD1)); go_at_call 44; refine (NM1.out _ HBL.out).mono ?_; rintro en w5 ⟨D1, d1, rfl, hs, hb⟩; (have HD1 := hZ9 hs); (have HBL := hZ9 (HBL.out.trans (hb.mono HBL.out.size))); (obtain ⟨z0, z1, z2, z3⟩ := SK.out _ HBL.out); clear hs hb)
   | ((have := HD1); go_at_call 44; refine (NM2.out _ HBL.out).mono ?_; rintro en w5 ⟨D2, d2, rfl, hs, hb⟩; (have HD2 := hZ9 hs); (have HBL := hZ9 (HBL.out.trans (hb.mono HBL.out.size))); (obtain ⟨z0, z1, z2, z3⟩ := SK.out _ HBL.out); clear hs hb)
   | (go_at_call 47; refine (SM2.out _ _ _ HBL.out HD2.out).mono ?_; rintro en w5 ⟨rfl, hb⟩; (have HBL := hZ9 (HBL.out.trans (hb.mono HBL.out.size))); (obtain ⟨z0, z1, z2, z3⟩ := SK.out _ HBL.out); clear hb)
   | ((fail_if_success (have := HD2)); go_at_call 47; refine (SM1.out _ _ _ HBL.out HD1.out).mono ?_; rintro en w5 ⟨rfl, hb⟩; (have HBL := hZ9 (HBL.out.trans (hb.mono HBL.out.size))); (obtain ⟨z0, z1, z2, z3⟩ := SK.out _ HBL.out); clear hb)
   | ((fail_if_success (have := HN3)); go_at_call 49; refine (NU3.out _ HBL.out).mono ?_; rintro en w5 ⟨rfl, hb⟩; (have HN3 := hZ9 (show True from trivial)); (have HBL := hZ9 (HBL.out.trans (hb.mono HBL.out.size))); (obtain ⟨z0, z1, z2, z3⟩ := SK.out _ HBL.out); clear hb)
   | ((have := HN3); go_at_call 49; refine (NU4.out _ HBL.out).mono ?_; rintro en w5 ⟨rfl, hb⟩; (have HBL := hZ9 (HBL.out.trans (hb.mono HBL.out.size))); (obtain ⟨z0, z1, z2, z3⟩ := SK.out _ HBL.out); clear hb))
  have hw4 := HB4.out.size
  go_wp2_with (first
   | (go_at_call 50; refine (T50.out _ HBL.out).mono ?_; rintro en w5 ⟨rfl, hb⟩; (have HBL := hZ9 (HBL.out.trans (hb.mono HBL.out.size))); clear hb)
   | (go_at_call 51; refine (T51.out _ HBL.out).mono ?_; rintro en w5 ⟨rfl, hb⟩; (have HBL := hZ9 (HBL.out.trans (hb.mono HBL.out.size))); clear hb)
   | (go_at_call 41; refine (AW.out _ (HB4.out.trans (HBL.out.mono hw4))).mono ?_; rintro en w5 ⟨rfl, hz, hb⟩; (have HBZ := hZ9 hz); clear hz hb))
  go_ret
  exact ⟨by simp, HBZ.out⟩
end Go.Proofs.YtmgmfnimaafkdaaGreatDoor
