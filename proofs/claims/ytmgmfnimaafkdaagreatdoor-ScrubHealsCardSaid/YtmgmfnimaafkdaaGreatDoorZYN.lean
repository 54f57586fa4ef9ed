/- What is healed is told as it was found; behind it nothing is bad, or lost: the law's own walk. -/
import Derived.Test.YtmgmfnimaafkdaaGreatDoorXX
import Derived.Test.YtmgmfnimaafkdaaGreatDoorXZ
import Derived.Test.YtmgmfnimaafkdaaGreatDoorXI
namespace Go.Proofs.YtmgmfnimaafkdaaGreatDoor
open Go.RowKit Go.Maps
set_option maxRecDepth 100000

theorem any_mem (l : List Int) (x : Int) : l.any (fun v => decide (v = x)) = decide (x ∈ l) := by
 induction l with
 | nil => rfl
 | cons a l ih =>
  rw [List.any_cons, ih]
  by_cases e : a = x
  ·simp [e]
  ·have : ¬ x = a := fun h => e h.symm
   simp [e, this]
theorem healed_look {w wr : World} {base Sb B K T : Nat} {m : StM} {s s' : StV} {ts' puts : List (NameV × List UInt8)} {out : Value} {E : Nat} {ts : List (NameV × List UInt8)} (h : MadeL w wr base Sb B m K s' ts' puts T out) (hK : K ≤ 60) (ha : StAll s 32 E ts) (hL : Less s s' (healP s) (healQ s)) :
  (∀ wy, Below wr.heap.size wr wy → Calls Tryz.prog 42 #[.pointer (some ⟨Sb, 0, none⟩)] wy fun e w' => ∃ A1 c1 A2 c2 A3 c3 A4 n4 c4, e = .returned (.agg #[.slice A1 (wantL s).length c1, .slice A2 0 c2, .slice A3 0 c3, .slice A4 n4 c4]) ∧ Sl w' 73 2 A1 (wantL s).length (nameRows (wantL s)) ∧ Below wy.heap.size wy w') ∧
  (∀ (wy : World) (A1 : Option Addr) (c1 : Nat) (A' : Option Addr) (c' : Nat), out = .slice A' puts.length c' → Below wr.heap.size wr wy → Sl wy 73 2 A1 (wantL s).length (nameRows (wantL s)) → Calls Tryz.prog 43 #[.pointer (some ⟨Sb, 0, none⟩), .slice A1 (wantL s).length c1, .slice A' puts.length c'] wy fun e w' => e = .returned (.bool true) ∧ Below wy.heap.size wy w') := by
 have hok := h.inv.ok hK
 obtain ⟨g1, g2, g3⟩ := hL.healed ha hok.srtS
 refine ⟨fun wy hy => ?_, fun wy A1 c1 A' c' ho hy h1 => ?_⟩
 ·refine (look_any (h.str.below hy) h.inv.all hok.l.num hok.nS hok.nN).mono fun e w' ⟨A1, c1, A2, c2, A3, c3, A4, c4, k1, k2, k3, k4, k5, k6⟩ => ?_
  rw [g1, g2, g3] at k1
  rw [g1] at k2
  exact ⟨A1, c1, A2, c2, A3, c3, A4, _, c4, k1, k2, k6⟩
 ·have hrow := h.row
  rw [ho] at hrow
  have hpl := h.inv.pl
  have hfew := h.inv.few
  have hw : (wantL s).length ≤ 100000 := by
   have e1 : (wantL s).length ≤ (namesL s').length := by rw [← g1]; exact List.length_filter_le _ _
   have e2 : (namesL s').length = s'.slices.length := by simp [namesL]
   have := hok.nS
   omega
  exact as_any (h.str.below hy) h.inv.all (wantL s) (fun n hn => by rw [g1]; exact hn) h.inv.last A1 A' c1 c' h1 ((Sl.of_own hrow).below hy) (by omega) hw
set_option maxHeartbeats 16000000 in
theorem scrubHeals_any {w : World} (hT : TabsB w.heap.size w) (hb2 : 2 < w.heap.size) (A : Option Addr) (n c : Nat) (l : List OpW) (hrd : Rd w w.heap.size 5 A n (l.flatMap OpW.cells)) (hok : ∀ o ∈ l, OpOK w o) :
  Calls Tryz.prog 12 #[.slice A n c] w fun e w' => e = .returned (.bool true) ∧ Below w.heap.size w w' := by
 have AW := hZ9 (awake_at hT hb2)
 have HMD := hZ9 (made_any hT hb2 A n c l hrd hok)
 obtain ⟨i105, hi105, hz0, hz1, hz2⟩ := info_parts info105s
 clear hT hrd hok
 go_enter Tryz.func12, Tryz.ntmps12
 go_wp2_with (go_at_call 40; refine HMD.out.mono ?_; rintro en w1 ⟨hb, rfl | ⟨base, Sb, B, m, K, s, ts, puts, T, A', c', rfl, hK, hM⟩⟩ <;> refine Hid.out ?_)
 ·refine hZ9 ?_
  have HB1 := hZ9 hb
  clear hb HMD
  go_wp2_with (go_at_call 41; refine (AW.out _ HB1.out).mono ?_; rintro en w2 ⟨rfl, hb, _⟩; (have HB2 := hZ9 hb); clear hb)
  go_ret
  exact ⟨rfl, HB2.out⟩
 ·refine hZ9 ?_
  have HB1 := hZ9 hb
  have HM := hZ9 hM
  obtain ⟨hnum, hl1, hl2, hl3⟩ := hM.look hK
  have HSO := hZ9 (sorted_any hM.str hM.inv.all hnum (by omega) (by omega))
  have HHE := hZ9 (fun (wy : World) (hy : Below w1.heap.size w1 wy) => heal_any (hM.below hy) hK)
  have HHL := hZ9 (fun (wr : World) (K' : Nat) (m' : StM) (s' : StV) (ts' : List (NameV × List UInt8)) (h : MadeL w wr base Sb B m' K' s' ts' puts T (.slice A' puts.length c')) hk hL => healed_look (s := s) h hk hM.inv.all hL)
  have hgb := good_bad s
  have hnl : (namesL s).length = s.slices.length := by simp [namesL]
  have hfew : (goodL s).length ≤ 20 ∧ (badNs s).length ≤ 20 ∧ (lostVs s).length ≤ 20 ∧ (bareVs s).length ≤ 20 := by
   have g3 : (lostVs s).length ≤ (versL (namesL s)).length := List.length_filter_le _ _
   have g4 := versL_len (namesL s)
   have g5 : (bareVs s).length ≤ (notesL s).length := List.length_filter_le _ _
   have g6 : (notesL s).length = s.notes.length := by simp [notesL]
   omega
  have HI : Hid ((Tryz.prog.info? 96).map (·.size) = some 4) := sizeR96
  have HWL : Hid (wantL s = (goodL s).filter fun n => !decide (n.1 ∈ lostVs s)) := rfl
  obtain ⟨gl, hgl⟩ : ∃ gl, gl = goodL s := ⟨_, rfl⟩
  obtain ⟨bl, hbl⟩ : ∃ bl, bl = badNs s := ⟨_, rfl⟩
  obtain ⟨ll, hll⟩ : ∃ ll, ll = lostVs s := ⟨_, rfl⟩
  obtain ⟨rl, hrl⟩ : ∃ rl, rl = bareVs s := ⟨_, rfl⟩
  obtain ⟨wl, hwl⟩ : ∃ wl, wl = wantL s := ⟨_, rfl⟩
  rw [← hgl, ← hbl, ← hll, ← hrl] at HSO HHE hfew
  rw [← hwl, ← hgl, ← hll] at HWL
  rw [← hwl] at HHL
  obtain ⟨f1, f2, f3, f4⟩ := hfew
  have HFW := hZ9 (show wl.length ≤ 20 from by rw [HWL.out]; exact Nat.le_trans (List.length_filter_le _ _) f1)
  clear hb hM hnum hl1 hl2 hl3 hnl hgb hgl hbl hll hrl hwl HMD hK
  have hw1 := HB1.out.size
  go_upto_region 6 with (first
   | (go_at_call 48; refine HSO.out.mono ?_; rintro en w2 ⟨B1, e1, B2, e2, B3, e3, B4, e4, rfl, hs1, hs2, hs3, hs4, hb⟩; (have HS := hZ9 (And.intro hs1 (And.intro hs2 (And.intro hs3 hs4)))); (have HB2 := hZ9 hb); clear hs1 hs2 hs3 hs4 hb)
   | (go_at_call 52; refine (HHE.out _ HB2.out).mono ?_; rintro en w3 ⟨A1, c1, A2, c2, A3, c3, A4, c4, rfl, hs1, hs2, hs3, hs4, m', K', s', ts', hm3, hk3, hl3, hfr⟩; (have HT := hZ9 (And.intro hs1 (And.intro hs2 (And.intro hs3 hs4)))); (have HM3 := hZ9 hm3); (have HC := hZ9 (HHL.out w3 K' m' s' ts' hm3 hk3 hl3)); (have HS := hZ9 (show Sl w3 105 2 B1 gl.length (nameRows gl) ∧ Sl w3 105 2 B2 bl.length (nameRows bl) ∧ Sl w3 2 1 B3 ll.length (numVs ll) ∧ Sl w3 2 1 B4 rl.length (numVs rl) from ⟨hfr _ _ _ _ _ (.inl rfl) HS.out.1, hfr _ _ _ _ _ (.inl rfl) HS.out.2.1, hfr _ _ _ _ _ (.inr rfl) HS.out.2.2.1, hfr _ _ _ _ _ (.inr rfl) HS.out.2.2.2⟩)); (have HX3 := hZ9 (Blk.new w3 96 #[.slice none 0 0, .slice none 0 0, .slice none 0 0, .slice none 0 0])); clear hs1 hs2 hs3 hs4 hm3 hk3 hl3 hfr)
   | (refine wpList_store_row rfl 96 _ _ rfl w3.heap.size #[.slice A1 gl.length c1, .slice A2 bl.length c2, .slice A3 ll.length c3, .slice A4 rl.length c4] rfl rfl 96 _ HX3.out HI.out rfl (by simp [Value.oneCell']) ?_))
  rw [World.setRow_alloc_new]
  have HBA : Hid (Below w3.heap.size w3 (w3.alloc (.cells #[.slice A1 gl.length c1, .slice A2 bl.length c2, .slice A3 ll.length c3, .slice A4 rl.length c4] 96))) := bR0.alloc nR0 _
  have HXX := hZ9 (Blk.new w3 96 #[.slice A1 gl.length c1, .slice A2 bl.length c2, .slice A3 ll.length c3, .slice A4 rl.length c4])
  have HBW := hZ9 (HM3.out.bel.trans (HBA.out.mono HM3.out.bel.size))
  have HU := hZ9 (show Sl (w3.alloc (.cells #[.slice A1 gl.length c1, .slice A2 bl.length c2, .slice A3 ll.length c3, .slice A4 rl.length c4] 96)) 73 2 A1 gl.length (nameRows gl) ∧ Sl (w3.alloc (.cells #[.slice A1 gl.length c1, .slice A2 bl.length c2, .slice A3 ll.length c3, .slice A4 rl.length c4] 96)) 73 2 A2 bl.length (nameRows bl) ∧ Sl (w3.alloc (.cells #[.slice A1 gl.length c1, .slice A2 bl.length c2, .slice A3 ll.length c3, .slice A4 rl.length c4] 96)) 2 1 A3 ll.length (numVs ll) ∧ Sl (w3.alloc (.cells #[.slice A1 gl.length c1, .slice A2 bl.length c2, .slice A3 ll.length c3, .slice A4 rl.length c4] 96)) 2 1 A4 rl.length (numVs rl) from ⟨HT.out.1.below HBA.out, HT.out.2.1.below HBA.out, HT.out.2.2.1.below HBA.out, HT.out.2.2.2.below HBA.out⟩)
  have HV := hZ9 (show Sl (w3.alloc (.cells #[.slice A1 gl.length c1, .slice A2 bl.length c2, .slice A3 ll.length c3, .slice A4 rl.length c4] 96)) 105 2 B1 gl.length (nameRows gl) ∧ Sl (w3.alloc (.cells #[.slice A1 gl.length c1, .slice A2 bl.length c2, .slice A3 ll.length c3, .slice A4 rl.length c4] 96)) 105 2 B2 bl.length (nameRows bl) ∧ Sl (w3.alloc (.cells #[.slice A1 gl.length c1, .slice A2 bl.length c2, .slice A3 ll.length c3, .slice A4 rl.length c4] 96)) 2 1 B3 ll.length (numVs ll) ∧ Sl (w3.alloc (.cells #[.slice A1 gl.length c1, .slice A2 bl.length c2, .slice A3 ll.length c3, .slice A4 rl.length c4] 96)) 2 1 B4 rl.length (numVs rl) from ⟨HS.out.1.below HBA.out, HS.out.2.1.below HBA.out, HS.out.2.2.1.below HBA.out, HS.out.2.2.2.below HBA.out⟩)
  have HGS := hZ9 HBA.out.size
  have HWG := hZ9 HM3.out.bel.size
  generalize w3.alloc (.cells #[.slice A1 gl.length c1, .slice A2 bl.length c2, .slice A3 ll.length c3, .slice A4 rl.length c4] 96) = w4 at *
  generalize w3.heap.size = G at *
  clear HX3 HT HS HSO HHE HHL HB2 HM HB1
  have NM1 := hZ9 (fun (wy : World) (hy : Below w4.heap.size w4 wy) => lnames_any gl A1 c1 (HU.out.1.below hy).1 (by omega))
  have NM2 := hZ9 (fun (wy : World) (hy : Below w4.heap.size w4 wy) => lnames_any bl A2 c2 (HU.out.2.1.below hy).1 (by omega))
  have SM1 := hZ9 (fun (wy : World) (D : Option Addr) (d : Nat) (hy : Below w4.heap.size w4 wy) (hd : Sl wy 105 2 D gl.length (nameRows gl)) => same_any gl D B1 d e1 hd (HV.out.1.below hy) (by omega))
  have SM2 := hZ9 (fun (wy : World) (D : Option Addr) (d : Nat) (hy : Below w4.heap.size w4 wy) (hd : Sl wy 105 2 D bl.length (nameRows bl)) => same_any bl D B2 d e2 hd (HV.out.2.1.below hy) (by omega))
  have NU3 := hZ9 (fun (wy : World) (hy : Below w4.heap.size w4 wy) => numbersSame_any ll A3 B3 c3 e3 (HU.out.2.2.1.below hy) (HV.out.2.2.1.below hy) (by omega))
  have NU4 := hZ9 (fun (wy : World) (hy : Below w4.heap.size w4 wy) => numbersSame_any rl A4 B4 c4 e4 (HU.out.2.2.2.below hy) (HV.out.2.2.2.below hy) (by omega))
  have SK := hZ9 (show ∀ wy, Below w4.heap.size w4 wy → wy.cell? ⟨G, 0, none⟩ = some (.slice A1 gl.length c1) ∧ wy.cell? ⟨G, 1, none⟩ = some (.slice A2 bl.length c2) ∧ wy.cell? ⟨G, 2, none⟩ = some (.slice A3 ll.length c3) ∧ wy.cell? ⟨G, 3, none⟩ = some (.slice A4 rl.length c4) from fun wy hy => by
   have h1 := HXX.out.below hy HXX.out.lt
   exact ⟨h1.cell 0, h1.cell 1, h1.cell 2, h1.cell 3⟩)
  have HBL : Hid (Below w4.heap.size w4 w4) := bR0
  obtain ⟨z0, z1, z2, z3⟩ := SK.out _ HBL.out
  clear HU
  go_upto_region 9 with (first
   | ((fail_if_success (have := HD1)); go_at_call 44; refine (NM1.out _ HBL.out).mono ?_; rintro en w5 ⟨D1, d1, rfl, hs, hb⟩; (have HD1 := hZ9 hs); (have HBL := hZ9 (HBL.out.trans (hb.mono HBL.out.size))); (obtain ⟨z0, z1, z2, z3⟩ := SK.out _ HBL.out); clear hs hb)
   | ((have := HD1); go_at_call 44; refine (NM2.out _ HBL.out).mono ?_; rintro en w5 ⟨D2, d2, rfl, hs, hb⟩; (have HD2 := hZ9 hs); (have HBL := hZ9 (HBL.out.trans (hb.mono HBL.out.size))); (obtain ⟨z0, z1, z2, z3⟩ := SK.out _ HBL.out); clear hs hb)
   | (go_at_call 47; refine (SM2.out _ _ _ HBL.out HD2.out).mono ?_; rintro en w5 ⟨rfl, hb⟩; (have HBL := hZ9 (HBL.out.trans (hb.mono HBL.out.size))); (obtain ⟨z0, z1, z2, z3⟩ := SK.out _ HBL.out); clear hb)
   | ((fail_if_success (have := HD2)); go_at_call 47; refine (SM1.out _ _ _ HBL.out HD1.out).mono ?_; rintro en w5 ⟨rfl, hb⟩; (have HBL := hZ9 (HBL.out.trans (hb.mono HBL.out.size))); (obtain ⟨z0, z1, z2, z3⟩ := SK.out _ HBL.out); clear hb)
   | ((fail_if_success (have := HN3)); go_at_call 49; refine (NU3.out _ HBL.out).mono ?_; rintro en w5 ⟨rfl, hb⟩; (have HN3 := hZ9 (show True from trivial)); (have HBL := hZ9 (HBL.out.trans (hb.mono HBL.out.size))); (obtain ⟨z0, z1, z2, z3⟩ := SK.out _ HBL.out); clear hb)
   | ((have := HN3); go_at_call 49; refine (NU4.out _ HBL.out).mono ?_; rintro en w5 ⟨rfl, hb⟩; (have HBL := hZ9 (HBL.out.trans (hb.mono HBL.out.size))); (obtain ⟨z0, z1, z2, z3⟩ := SK.out _ HBL.out); clear hb))
  clear NM1 NM2 SM1 SM2 NU3 NU4 SK z0 z1 z2 z3 HN3 HD1 HD2
  have HVB := hZ9 (HV.out.1.below HBL.out)
  have HVL := hZ9 (HV.out.2.2.1.below HBL.out)
  obtain ⟨w6, hw6⟩ : ∃ w6, w6 = w5 := ⟨_, rfl⟩
  rw [← hw6] at HVB HVL HBL ⊢
  clear hw6 HV HXX
  obtain ⟨gn, hgn⟩ : ∃ gn, gn = gl.length := ⟨_, rfl⟩
  have HGN := hZ9 hgn
  rw [← hgn] at HVB
  obtain ⟨ln, hln⟩ : ∃ ln, ln = ll.length := ⟨_, rfl⟩
  have HLN := hZ9 hln
  rw [← hln] at HVL
  have hgn6 : gn ≤ 20 := by omega
  have hln6 : ln ≤ 20 := by omega
  go_wp2_with fail
  rw [← hgn, ← hln]
  clear hgn hln
  go_loopw [12, 74] (fun v12 i wr => ∃ j : Nat, j ≤ gn ∧ i = .int .i64 (j : Nat) ∧ Below w6.heap.size w6 wr ∧ wr.ownsRow w6.heap.size 105 2 v12 ((gl.take j).filter fun n => !decide (n.1 ∈ ll)).length (nameRows ((gl.take j).filter fun n => !decide (n.1 ∈ ll)))) (fun _ i _ => gn - (intOf i).toNat)
  case atStart => exact ⟨0, Nat.zero_le _, rfl, bR0, own_nil _ _ _ _⟩
  case round =>
   obtain ⟨j, hj, rfl, hb, ho⟩ := hrel
   have HB := hZ9 hb
   have HO := hZ9 ho
   clear hb ho
   by_cases hlt : j < gn
   ·have hjl : j < gl.length := by have := HGN.out; omega
    obtain ⟨b, o, rfl, hbl, q0, q1⟩ := names_rd (HVB.out.below HB.out).1 j hjl HGN.out
    have htk : gl.take (j + 1) = gl.take j ++ [gl[j]] := by rw [List.take_succ_eq_append_getElem hjl]
    have hfl : ((gl.take j).filter fun n => !decide (n.1 ∈ ll)).length ≤ 100000 := by have := List.length_filter_le (fun n : NameV => !decide (n.1 ∈ ll)) (gl.take j); rw [List.length_take] at this; omega
    have hf1 : (gl.take (j + 1)).filter (fun n => !decide (n.1 ∈ ll)) = (gl.take j).filter (fun n => !decide (n.1 ∈ ll)) ++ [gl[j]].filter (fun n => !decide (n.1 ∈ ll)) := by rw [htk, List.filter_append]
    generalize gl[j] = nm at *
    obtain ⟨n1, n2⟩ := nm
    simp only at q0 q1
    have HF1 := hZ9 hf1
    generalize (gl.take j).filter (fun n => !decide (n.1 ∈ ll)) = ls at *
    have j1 : (j : Int) < (gn : Int) := by omega
    have j2 : (0 : Int) ≤ (j : Int) := by omega
    have hba : Below wr.heap.size wr (wr.alloc (.cells #[.int .i64 n1, .int .i64 n2] 105)) := bR0.alloc nR0 _
    have HB7 := hZ9 (HB.out.trans (hba.mono HB.out.size))
    have HO7 := hZ9 (own_keeps HO.out (Keeps.of_below (base := w6.heap.size) (ts := []) hba HB.out.size) (by simp))
    have HZ := hZ9 (Blk.new wr 105 #[.int .i64 n1, .int .i64 n2])
    clear htk hf1 hjl hba
    go_upto_region 12 with fail
    generalize wr.alloc (.cells #[.int .i64 n1, .int .i64 n2] 105) = w7 at *
    generalize wr.heap.size = g at *
    clear q0 q1 hbl HB HO
    have HBQ : Hid (Below w7.heap.size w7 w7) := bR0
    go_wp2_with fail
    go_loopw [15, 80] (fun v15 i wq => ∃ p : Nat, p ≤ ln ∧ i = .int .i64 (p : Nat) ∧ v15 = .bool ((ll.take p).any fun v => decide (v = n1)) ∧ Below w7.heap.size w7 wq) (fun _ i _ => ln - (intOf i).toNat)
    case atStart => exact ⟨0, Nat.zero_le _, rfl, rfl, HBQ.out⟩
    case round =>
     obtain ⟨p, hp, rfl, rfl, hb⟩ := hrel
     have HB := hZ9 hb
     clear hb HBQ
     by_cases hlt2 : p < ln
     ·have hpl : p < ll.length := by have := HLN.out; omega
      obtain ⟨b7, o7, rfl, hbl7, q0⟩ := nums_rd ((HVL.out.below HB7.out).below HB.out).1 p hpl HLN.out
      have htk : ll.take (p + 1) = ll.take p ++ [ll[p]] := by rw [List.take_succ_eq_append_getElem hpl]
      have hany : (ll.take (p + 1)).any (fun v => decide (v = n1)) = ((ll.take p).any (fun v => decide (v = n1)) || decide (ll[p] = n1)) := by rw [htk, List.any_append]; simp
      generalize ll[p] = x at *
      generalize (ll.take p).any (fun v => decide (v = n1)) = ab at *
      have HAN := hZ9 hany
      have p1 : (p : Int) < (ln : Int) := by omega
      have p2 : (0 : Int) ≤ (p : Int) := by omega
      have y0 : wr.cell? ⟨g, 0, none⟩ = some (.int .i64 n1) := (HZ.out.below HB.out HZ.out.lt).cell 0
      have yl := (HZ.out.below HB.out HZ.out.lt).lt
      clear hany htk hpl
      cases ab with
      | true =>
       go_wp2_with fail
       go_roundw
       case rel => exact ⟨p + 1, by omega, by go_num, by rw [HAN.out]; rfl, HB.out⟩
       case measure => simp [intOf]; omega
      | false =>
       by_cases hx : x = n1
       ·have a1 : (x == n1) = true := beq_iff_eq.2 hx
        have HX := hZ9 hx
        clear hx
        go_wp2_with fail
        go_roundw
        case rel => exact ⟨p + 1, by omega, by go_num, by rw [HAN.out, HX.out]; simp, HB.out⟩
        case measure => simp [intOf]; omega
       ·have a1 : (x == n1) = false := beq_eq_false_iff_ne.2 hx
        go_wp2_with fail
        go_roundw
        case rel => exact ⟨p + 1, by omega, by go_num, by rw [HAN.out]; simp [hx], HB.out⟩
        case measure => simp [intOf]; omega
     ·obtain rfl : p = ln := by omega
      have hta : ll.take p = ll := List.take_of_length_le (by have := HLN.out; omega)
      rw [hta, any_mem ll n1]
      have HO6 := hZ9 (own_keeps HO7.out (Keeps.of_below (base := w6.heap.size) (ts := []) HB.out HB7.out.size) (by simp))
      have HB6 := hZ9 (HB7.out.trans (HB.out.mono HB7.out.size))
      have HZ6 := hZ9 (HZ.out.below HB.out HZ.out.lt)
      clear HO7 HB7 HB hta HZ
      by_cases hx : n1 ∈ ll
      ·rw [decide_eq_true hx]
       go_wp2_with fail
       go_roundw
       case rel => exact ⟨j + 1, by omega, by go_num, HB6.out, by rw [HF1.out]; simp [hx]; exact HO6.out⟩
       case measure => simp [intOf]; omega
      ·rw [decide_eq_false hx]
       obtain ⟨A8, c8, hv8, hc8⟩ := own_form HO6.out
       subst hv8
       have y0 : wr.cell? ⟨g, 0, none⟩ = some (.int .i64 n1) := HZ6.out.cell 0
       have y1 : wr.cell? ⟨g, 1, none⟩ = some (.int .i64 n2) := HZ6.out.cell 1
       have yl := HZ6.out.lt
       have HOW := hZ9 (own_keep_alloc HO6.out (.cells #[.int .i64 n1, .int .i64 n2] 105))
       have HRD : Hid (Rd (wr.alloc (.cells #[.int .i64 n1, .int .i64 n2] 105)) (wr.alloc (.cells #[.int .i64 n1, .int .i64 n2] 105)).heap.size 2 (some ⟨wr.heap.size, 0, none⟩) 1 [.int .i64 n1, .int .i64 n2]) := sl_rd (Sl.of_blk (sz := 2) (n := 1) (xs := [.int .i64 n1, .int .i64 n2]) (Blk.new wr 105 _) rfl)
       have H1C : Hid (∀ u ∈ ([.int .i64 n1, .int .i64 n2] : List Value), u.oneCell' = true) := hZ9 (by intro u hu; simp at hu; rcases hu with rfl | rfl <;> rfl)
       have hs5 : w6.heap.size ≤ wr.heap.size := HB6.out.size
       have HBX : Hid (Below w6.heap.size w6 (wr.alloc (.cells #[.int .i64 n1, .int .i64 n2] 105))) := HB6.out.alloc hs5 _
       go_wp2_with (at_builtin; refine wpList_append_rd _ rfl _ _ 100 rfl w6.heap.size 105 i105 _ 2 16 under100s hi105 hz0 hz1 hz2 rfl (by decide) (.slice A8 ls.length c8) ls.length (nameRows ls) rfl HOW.out (some ⟨wr.heap.size, 0, none⟩) 1 1 _ [.int .i64 n1, .int .i64 n2] rfl HRD.out H1C.out (by unfold maxLen; omega) (by omega) (by simp; omega) ?_; intro A9 c9 w9 hown9 hgr9 hnc9 hat9; (have HO9 := hZ9 hown9); (have HB9 := hZ9 (HBX.out.trans (grown_below hgr9 HBX.out.size (own_low HOW.out)))); clear hown9 hgr9 hat9)
       go_roundw
       case rel => exact ⟨j + 1, by omega, by go_num, HB9.out, by rw [HF1.out]; simp [hx, nameRows_append, nameRows_one]; exact HO9.out⟩
       case measure => simp [intOf]; omega
   ·obtain rfl : j = gn := by omega
    have hta : gl.take j = gl := List.take_of_length_le (by have := HGN.out; omega)
    rw [hta, ← HWL.out] at HO
    obtain ⟨A8, c8, hv8, hc8⟩ := own_form HO.out
    subst hv8
    have hw4 := HBL.out.size
    have HBR := hZ9 (HBL.out.trans (HB.out.mono hw4))
    have HSW := hZ9 (Sl.of_own HO.out)
    have hf := HFW.out
    have hG3 := HGS.out
    clear hta HVB HVL HGN HLN HO hc8
    have HB3 := hZ9 (HBA.out.trans (HBR.out.mono hG3))
    go_upto_region 22 with (first
     | (go_at_call 42; refine (HC.out.1 _ HB3.out).mono ?_; rintro en w8 ⟨D1, d1, D2, d2, D3, d3, D4, n4, d4, rfl, hs, hb⟩; (have HN1 := hZ9 hs); (have HB8 := hZ9 hb); (have HX8 := hZ9 (Blk.new w8 96 #[.slice none 0 0, .slice none 0 0, .slice none 0 0, .slice none 0 0])); clear hs hb)
     | (refine wpList_store_row rfl 96 _ _ rfl w8.heap.size #[.slice D1 wl.length d1, .slice D2 0 d2, .slice D3 0 d3, .slice D4 n4 d4] rfl rfl 96 _ HX8.out HI.out rfl (by simp [Value.oneCell']) ?_))
    rw [World.setRow_alloc_new]
    have HBB : Hid (Below w8.heap.size w8 (w8.alloc (.cells #[.slice D1 wl.length d1, .slice D2 0 d2, .slice D3 0 d3, .slice D4 n4 d4] 96))) := bR0.alloc nR0 _
    have HXY := hZ9 (Blk.new w8 96 #[.slice D1 wl.length d1, .slice D2 0 d2, .slice D3 0 d3, .slice D4 n4 d4])
    have HN9 := hZ9 (HN1.out.below HBB.out)
    have HW9 := hZ9 ((HSW.out.below HB8.out).below HBB.out)
    have HB9 := hZ9 (HB3.out.trans ((HB8.out.trans (HBB.out.mono HB8.out.size)).mono (Nat.le_trans HGS.out HBR.out.size)))
    have HBS := hZ9 (Nat.le_trans HB8.out.size HBB.out.size)
    generalize w8.alloc (.cells #[.slice D1 wl.length d1, .slice D2 0 d2, .slice D3 0 d3, .slice D4 n4 d4] 96) = w9 at *
    generalize w8.heap.size = G9 at *
    have hw9 : G ≤ w9.heap.size := Nat.le_trans (Nat.le_trans HGS.out HBR.out.size) HBS.out
    clear HX8 HBB HN1 HSW HB8 HB3 HBR HBL HB HI
    have SK9 := hZ9 (show ∀ wy, Below w9.heap.size w9 wy → wy.cell? ⟨G9, 0, none⟩ = some (.slice D1 wl.length d1) ∧ wy.cell? ⟨G9, 1, none⟩ = some (.slice D2 0 d2) ∧ wy.cell? ⟨G9, 2, none⟩ = some (.slice D3 0 d3) from fun wy hy => by
     have h1 := HXY.out.below hy HXY.out.lt
     exact ⟨h1.cell 0, h1.cell 1, h1.cell 2⟩)
    have HBL : Hid (Below w9.heap.size w9 w9) := bR0
    obtain ⟨z0, z1, z2⟩ := SK9.out _ HBL.out
    have NMW := hZ9 (lnames_any wl D1 d1 HN9.out.1 (by omega))
    have SMW := hZ9 (fun (wy : World) (D : Option Addr) (d : Nat) (hy : Below w9.heap.size w9 wy) (hd : Sl wy 105 2 D wl.length (nameRows wl)) => same_any wl D A8 d c8 hd (HW9.out.below hy) (by omega))
    go_upto_region 24 with (first
     | (go_at_call 44; refine NMW.out.mono ?_; rintro en w5 ⟨F1, f1, rfl, hs, hb⟩; (have HF9 := hZ9 hs); (have HBL := hZ9 (HBL.out.trans (hb.mono HBL.out.size))); (obtain ⟨z0, z1, z2⟩ := SK9.out _ HBL.out); clear hs hb)
     | (go_at_call 47; refine (SMW.out _ _ _ HBL.out HF9.out).mono ?_; rintro en w5 ⟨rfl, hb⟩; (have HBL := hZ9 (HBL.out.trans (hb.mono HBL.out.size))); (obtain ⟨z0, z1, z2⟩ := SK9.out _ HBL.out); clear hb))
    go_wp2_with (first
     | (go_at_call 43; refine (HC.out.2 _ _ _ _ _ rfl (HB9.out.trans (HBL.out.mono hw9)) (HN9.out.below HBL.out)).mono ?_; rintro en w5 ⟨rfl, hb⟩; (have HBL := hZ9 (HBL.out.trans (hb.mono HBL.out.size))); clear hb)
     | (go_at_call 41; refine (AW.out _ (HM3.out.bel.trans ((HB9.out.trans (HBL.out.mono hw9)).mono HWG.out))).mono ?_; rintro en w5 ⟨rfl, hz, hb⟩; (have HBZ := hZ9 hz); clear hz hb))
    go_ret
    exact ⟨by simp, HBZ.out⟩
end Go.Proofs.YtmgmfnimaafkdaaGreatDoor
