/- Looked through some at a time, round and round: the law's own walk. -/
import Derived.Test.YtmgmfnimaafkdaaGreatDoorZYT
import Derived.Test.YtmgmfnimaafkdaaGreatDoorXT
import Derived.Test.YtmgmfnimaafkdaaGreatDoorXI
namespace Go.Proofs.YtmgmfnimaafkdaaGreatDoor
open Go.RowKit Go.Maps
set_option maxRecDepth 100000

theorem turns_rot {l : List NameV} (hs : l.Pairwise fun x y => ltN x y = true) (f : NameV) (m : Nat) : turnsL l f m 2 = (rotL l f).take m := by
 rw [rot_filter hs]
 rfl
theorem OpOK.up {w w' : World} {o : OpW} (h : OpOK w o) (hb : Below w.heap.size w w') : OpOK w' o := ⟨h.k, h.v, h.n, h.b, (h.byt.below hb).up hb.size, h.cap⟩
theorem sz105 : (Tryz.prog.info? 105).map (·.size) = some 2 := by kernel_rfl
theorem field96_run (a b c d : Value) (w : World) : (Instr.field 96 (.agg #[a, b, c, d]) 1).run Tryz.prog w = .ok b w := rfl
theorem bad_mem (s : StV) (n : NameV) (hn : n ∈ namesL s) : decide (n ∈ badNs s) = !goodN s n := by
 cases hg : goodN s n with
 | true => exact decide_eq_false (fun h => by have := (List.mem_filter.1 h).2; rw [hg] at this; cases this)
 | false => exact decide_eq_true (List.mem_filter.2 ⟨hn, by rw [hg]; rfl⟩)
def wrongL (V bl : List NameV) (j q : Nat) : List NameV := (V.take j).filter (fun n => decide (n ∈ bl)) ++ ((V[j]?.toList).filter fun n => decide (n ∈ bl.take q))
theorem wrong_zero (V bl : List NameV) (j : Nat) : wrongL V bl j 0 = (V.take j).filter (fun n => decide (n ∈ bl)) := by
 unfold wrongL
 simp
theorem wrong_all (V bl : List NameV) (j : Nat) (hj : j < V.length) : wrongL V bl j bl.length = (V.take (j + 1)).filter (fun n => decide (n ∈ bl)) := by
 unfold wrongL
 rw [List.take_length, List.take_succ_eq_append_getElem hj, List.filter_append, List.getElem?_eq_getElem hj]
 rfl
theorem wrong_step (V bl : List NameV) (hnd : bl.Nodup) (j q : Nat) (hj : j < V.length) (hq : q < bl.length) : wrongL V bl j (q + 1) = if bl[q] = V[j] then wrongL V bl j q ++ [V[j]] else wrongL V bl j q := by
 have htk : bl.take (q + 1) = bl.take q ++ [bl[q]] := List.take_succ_eq_append_getElem hq
 have hno : bl[q] ∉ bl.take q := fun hc => by
  obtain ⟨i, hi, he⟩ := List.mem_iff_getElem.1 hc
  rw [List.getElem_take] at he
  rw [List.length_take] at hi
  exact (List.pairwise_iff_getElem.1 hnd) i q (by omega) hq (by omega) he
 unfold wrongL
 rw [List.getElem?_eq_getElem hj]
 simp only [Option.toList_some]
 generalize V[j] = v at *
 by_cases e : bl[q] = v
 ·rw [if_pos e]
  subst e
  have h1 : [bl[q]].filter (fun n => decide (n ∈ bl.take (q + 1))) = [bl[q]] := by rw [List.filter_eq_self]; intro x hx; rw [List.mem_singleton] at hx; subst hx; exact decide_eq_true (by rw [htk]; exact List.mem_append.2 (.inr (List.mem_singleton.2 rfl)))
  have h2 : [bl[q]].filter (fun n => decide (n ∈ bl.take q)) = [] := by rw [List.filter_eq_nil_iff]; intro x hx; rw [List.mem_singleton] at hx; subst hx; simpa using hno
  rw [h1, h2, List.append_nil]
 ·rw [if_neg e]
  congr 1
  refine List.filter_congr fun x hx => ?_
  rw [List.mem_singleton] at hx
  subst hx
  refine decide_eq_decide.2 ?_
  rw [htk, List.mem_append, List.mem_singleton]
  exact ⟨fun h => h.resolve_right fun h2 => e h2.symm, .inl⟩
theorem lnamesK_any {w : World} (l : List NameV) (k : Nat) (hk : k = l.length) (A : Option Addr) (c : Nat) (h : Sl w 73 2 A k (nameRows l)) (hl : k ≤ 100000) :
  Calls Tryz.prog 44 #[.slice A k c] w fun e w' => ∃ A' c', e = .returned (.slice A' k c') ∧ Sl w' 105 2 A' k (nameRows l) ∧ Below w.heap.size w w' := by
 subst hk
 exact lnames_any l A c h.1 hl
structure RoundX (w1 w5 wr : World) (G : Nat) (last : NameV) (b : List NameV) (v : Value) : Prop where
 bel : Below w1.heap.size w1 wr
 blk : Blk wr G 105 #[.int .i64 last.1, .int .i64 last.2]
 own : wr.ownsRow w5.heap.size 105 2 v b.length (nameRows b)
 sz : w5.heap.size ≤ wr.heap.size
theorem RoundX.below {w1 w5 wr w' : World} {G : Nat} {last : NameV} {b : List NameV} {v : Value} (h : RoundX w1 w5 wr G last b v) (hb : Below wr.heap.size wr w') : RoundX w1 w5 w' G last b v :=
 ⟨h.bel.trans (hb.mono h.bel.size), h.blk.below hb h.blk.lt, own_keeps h.own (Keeps.of_below (base := w5.heap.size) (ts := []) hb h.sz) (by simp), Nat.le_trans h.sz hb.size⟩
theorem RoundX.stored {w1 w5 wr : World} {G : Nat} {last : NameV} {b : List NameV} {v : Value} (h : RoundX w1 w5 wr G last b v) (hG : w1.heap.size ≤ G) (hG5 : G < w5.heap.size) (n : NameV) : RoundX w1 w5 (wr.setRow G #[.int .i64 n.1, .int .i64 n.2]) G n b v :=
 ⟨h.bel.trans (grown_below (setRow_gby _ _ _) h.bel.size (fun k hk => by injection hk with hk; omega)), setRow_blk h.blk _, own_kept h.own (setRow_gby _ _ _) (fun k hk e => by injection e with e; have := own_lowR h.own k hk; omega), by rw [show (wr.setRow G #[.int .i64 n.1, .int .i64 n.2]).heap.size = wr.heap.size by simp [World.setRow]]; exact h.sz⟩
theorem RoundX.put {w1 w5 wr w' : World} {G c : Nat} {last n : NameV} {b : List NameV} {v : Value} {A : Option Addr} (h : RoundX w1 w5 wr G last b v) (h15 : w1.heap.size ≤ w5.heap.size) (hG5 : G < w5.heap.size)
  (hown : w'.ownsRow w5.heap.size 105 2 (.slice A (b.length + 1) c) (b.length + 1) (nameRows b ++ [.int .i64 n.1, .int .i64 n.2])) (hgr : wr.grownBy w' v.ownBlock) : RoundX w1 w5 w' G last (b ++ [n]) (.slice A (b.length + 1) c) := by
 have hlow := own_lowR h.own
 refine ⟨h.bel.trans (grown_below hgr h.bel.size (fun k hk => Nat.le_trans h15 (hlow k hk))), h.blk.grown hgr (fun e => by have := hlow _ e; omega), ?_, Nat.le_trans h.sz (grown_below hgr h.sz hlow).size⟩
 rw [nameRows_append, nameRows_one, List.length_append, List.length_singleton]; exact hown
set_option maxHeartbeats 32000000 in
theorem scrubRound_any {w : World} (hT : TabsB w.heap.size w) (hb2 : 2 < w.heap.size) (A : Option Addr) (n c : Nat) (l : List OpW) (hrd : Rd w w.heap.size 5 A n (l.flatMap OpW.cells)) (hok : ∀ o ∈ l, OpOK w o) (f1 f2 many : Int) :
  Calls Tryz.prog 10 #[.slice A n c, .agg #[.int .i64 f1, .int .i64 f2], .int .i64 many] w fun e w' => e = .returned (.bool true) ∧ Below w.heap.size w w' := by
 have AW := hZ9 (awake_at hT hb2)
 obtain ⟨i105, hi105, hz0, hz1, hz2⟩ := info_parts info105r
 have HB0 : Hid (Below w.heap.size w (w.alloc (.cells #[.int .i64 f1, .int .i64 f2] 73))) := bR0.alloc nR0 _
 have HX0 := hZ9 (Blk.new w 73 #[.int .i64 f1, .int .i64 f2])
 have HMD := hZ9 (made_any (tabs_above hT HB0.out) (Nat.lt_of_lt_of_le hb2 HB0.out.size) A n c l (hrd.below HB0.out HB0.out.size) (fun o ho => (hok o ho).up HB0.out))
 clear hT hrd hok
 go_enter Tryz.func10, Tryz.ntmps10
 go_upto_region 1 with fail
 generalize w.alloc (.cells #[.int .i64 f1, .int .i64 f2] 73) = w0 at *
 obtain ⟨g4, hg4⟩ : ∃ g, g = w.heap.size := ⟨_, rfl⟩
 rw [← hg4] at HX0 ⊢
 have hg40 := HX0.out.lt
 clear hg4
 have hw0 := HB0.out.size
 go_wp2_with (go_at_call 40; refine HMD.out.mono ?_; rintro en w1 ⟨hb, rfl | ⟨base, Sb, B, m, K, s, ts, puts, T, A', c', rfl, hK, hM⟩⟩ <;> refine Hid.out ?_)
 ·refine hZ9 ?_
  have HB1 := hZ9 (HB0.out.trans (hb.mono hw0))
  clear hb HMD
  go_wp2_with (go_at_call 41; refine (AW.out _ HB1.out).mono ?_; rintro en w2 ⟨rfl, hb, _⟩; (have HB2 := hZ9 hb); clear hb)
  go_ret
  exact ⟨rfl, HB2.out⟩
 ·refine hZ9 ?_
  have HB1 := hZ9 (HB0.out.trans (hb.mono hw0))
  have HX1 := hZ9 (HX0.out.below hb hg40)
  have hg41 := HX1.out.lt
  have HM := hZ9 hM
  obtain ⟨hnum, hl1, hl2, hl3⟩ := hM.look hK
  have hnl : (namesL s).length = s.slices.length := by simp [namesL]
  have HNA := hZ9 (show ∀ wy, Below w1.heap.size w1 wy → Calls Tryz.prog 35 #[.pointer (some ⟨Sb, 0, none⟩)] wy fun e w' => ∃ A c, e = .returned (.slice A (namesL s).length c) ∧ Sl w' 73 2 A (namesL s).length (nameRows (namesL s)) ∧ Below wy.heap.size wy w' from fun wy hy => (names_any (hM.str.below hy) hM.inv.all.srtS hnum (by omega)).mono fun e w' ⟨A, c, h1, h2, h3⟩ => ⟨A, c, by rw [hnl]; exact h1, by rw [hnl]; exact Sl.of_own h2, h3⟩)
  have HLK := hZ9 (show ∀ wy, Below w1.heap.size w1 wy → Calls Tryz.prog 42 #[.pointer (some ⟨Sb, 0, none⟩)] wy fun e w' => ∃ a1 A2 c2 a3 a4, e = .returned (.agg #[a1, .slice A2 (badNs s).length c2, a3, a4]) ∧ Sl w' 73 2 A2 (badNs s).length (nameRows (badNs s)) ∧ Below wy.heap.size wy w' from fun wy hy => (look_any (hM.str.below hy) hM.inv.all hnum (by omega) (by omega)).mono fun e w' ⟨A1, c1, A2, c2, A3, c3, A4, c4, k1, k2, k3, k4, k5, k6⟩ => ⟨_, A2, c2, _, _, k1, k3, k6⟩)
  have HNX := hZ9 (show ∀ wy (g1 g2 mm : Int), Below w1.heap.size w1 wy → Calls Tryz.prog 45 #[.pointer (some ⟨Sb, 0, none⟩), .agg #[.int .i64 g1, .int .i64 g2], .int .i64 mm] wy fun e w' => NextTold wy w' ((rotL (namesL s) (g1, g2)).take mm.toNat) (g1, g2) (fun n => !goodN s n) e from fun wy g1 g2 mm hy => nextS_any (hM.str.below hy) hM.inv.all hnum (by omega) g1 g2 mm)
  have hsrt : (namesL s).Pairwise fun x y => ltN x y = true := List.pairwise_map.2 hM.inv.all.srtS
  have hbnd : (badNs s).Nodup := List.Pairwise.filter _ hM.inv.all.srtS.nodup
  have hb20 : (badNs s).length ≤ 20 := by have := good_bad s; omega
  have hk20 : (namesL s).length ≤ 20 := by omega
  have HBM := hZ9 (bad_mem s)
  have HBL2 : Hid ((badNs s).length = ((namesL s).filter fun n => !goodN s n).length) := rfl
  generalize hbn : badNs s = bl at *
  generalize hln : namesL s = ls at *
  generalize goodN s = gd at *
  have HTR := hZ9 (turns_rot hsrt (f1, f2) many.toNat)
  have HRN := hZ9 (fun g t ht => rot_next hsrt g t ht)
  have HWS := hZ9 (fun V j q hj hq => wrong_step V bl hbnd j q hj hq)
  obtain ⟨V, hV⟩ : ∃ V, V = (rotL ls (f1, f2)).take many.toNat := ⟨_, rfl⟩
  have hV20 : V.length ≤ 20 := by rw [hV, List.length_take, rot_len]; omega
  have HVM := hZ9 (show V.filter (fun n => decide (n ∈ bl)) = V.filter (fun n => !gd n) from List.filter_congr fun n hn => HBM.out n (rot_mem ls (f1, f2) (List.mem_of_mem_take (by rw [← hV]; exact hn))))
  rw [← hV] at HTR
  have HV := hZ9 hV
  obtain ⟨k, hk⟩ : ∃ k, k = ls.length := ⟨_, rfl⟩
  have HKL := hZ9 hk
  rw [← hk] at HNA hk20
  obtain ⟨bn, hbn2⟩ : ∃ bn, bn = bl.length := ⟨_, rfl⟩
  have HBN := hZ9 hbn2
  rw [← hbn2] at HLK hb20
  clear hb hM hnum hl1 hl2 hl3 hnl hbn hln HMD hK hsrt hbnd HBM hk hV hbn2 HM
  have hw1 := HB1.out.size
  have HBL : Hid (Below w1.heap.size w1 w1) := bR0
  have x0 : w1.cell? ⟨g4, 0, none⟩ = some (.int .i64 f1) := HX1.out.cell 0
  have x1 : w1.cell? ⟨g4, 1, none⟩ = some (.int .i64 f2) := HX1.out.cell 1
  go_upto_region 5 with (first
   | ((fail_if_success (have := HN1)); go_at_call 35; refine (HNA.out _ HBL.out).mono ?_; rintro en w2 ⟨A1, c1, rfl, hs, hb⟩; (have HN1 := hZ9 hs); (have HBL := hZ9 (HBL.out.trans (hb.mono HBL.out.size))); clear hs hb)
   | ((fail_if_success (have := HN2)); go_at_call 44; refine (lnamesK_any ls k HKL.out A1 c1 HN1.out (by omega)).mono ?_; rintro en w2 ⟨B1, e1, rfl, hs, hb⟩; (have HN2 := hZ9 hs); (have HBL := hZ9 (HBL.out.trans (hb.mono HBL.out.size))); clear hs hb)
   | (go_at_call 42; refine (HLK.out _ HBL.out).mono ?_; rintro en w2 ⟨a1, A2, c2, a3, a4, rfl, hs, hb⟩; (have HN3 := hZ9 hs); (have HN2 := hZ9 (HN2.out.below hb)); (have HFR := hZ9 (field96_run a1 (.slice A2 bn c2) a3 a4 w2)); (have hfr := HFR.out); (have HBL := hZ9 (HBL.out.trans (hb.mono HBL.out.size))); clear hs hb)
   | ((have := HN3); go_at_call 44; refine (lnamesK_any bl bn HBN.out A2 c2 HN3.out (by omega)).mono ?_; rintro en w2 ⟨B2, e2, rfl, hs, hb⟩; (have HN4 := hZ9 hs); (have HN2 := hZ9 (HN2.out.below hb)); (have HBL := hZ9 (HBL.out.trans (hb.mono HBL.out.size))); clear hs hb))
  have HXC := hZ9 (HX1.out.below HBL.out hg41)
  have y0 : w2.cell? ⟨g4, 0, none⟩ = some (.int .i64 f1) := HXC.out.cell 0
  have y1 : w2.cell? ⟨g4, 1, none⟩ = some (.int .i64 f2) := HXC.out.cell 1
  have yl := HXC.out.lt
  have HNT := hZ9 (HNX.out w2 f1 f2 many HBL.out)
  rw [← HV.out] at HNT
  have HI : Hid ((Tryz.prog.info? 73).map (·.size) = some 2) := sz73
  have HI5 : Hid ((Tryz.prog.info? 105).map (·.size) = some 2) := sz105
  obtain ⟨ga, hga⟩ : ∃ ga, ga = lastN V (f1, f2) := ⟨_, rfl⟩
  have HGA := hZ9 hga
  unfold NextTold at HNT
  rw [← hga] at HNT
  clear hga x0 x1 HN1 HN3 HFR hfr HNA HLK
  obtain ⟨g1, g2⟩ := ga
  simp only at HNT
  go_upto_region 6 with (first
   | (go_at_call 45; refine HNT.out.mono ?_; rintro en w3 ⟨D, d, rfl, hs, hb⟩; (have HF3 := hZ9 hs); (have HB3 := hZ9 hb); (have HZ3 := hZ9 (Blk.new w3 73 #[.int .i64 0, .int .i64 0])); clear hs hb)
   | (refine wpList_store_row rfl 73 _ _ rfl w3.heap.size #[.int .i64 g1, .int .i64 g2] rfl rfl 73 _ HZ3.out HI.out rfl (by simp [Value.oneCell']) ?_))
  rw [World.setRow_alloc_new]
  have hba : Below w3.heap.size w3 (w3.alloc (.cells #[.int .i64 g1, .int .i64 g2] 73)) := bR0.alloc nR0 _
  have HB4 := hZ9 (HB3.out.trans (hba.mono HB3.out.size))
  have HF4 := hZ9 (HF3.out.below hba)
  have HT4 := hZ9 (Blk.new w3 73 #[.int .i64 g1, .int .i64 g2])
  have hG12 : w1.heap.size ≤ w3.heap.size := Nat.le_trans HBL.out.size HB3.out.size
  generalize w3.alloc (.cells #[.int .i64 g1, .int .i64 g2] 73) = w4 at *
  obtain ⟨G12, hg12⟩ : ∃ g, g = w3.heap.size := ⟨_, rfl⟩
  rw [← hg12] at HT4 hG12 ⊢
  have HN24 := hZ9 (HN2.out.below HB4.out)
  have HN44 := hZ9 (HN4.out.below HB4.out)
  have HBL4 := hZ9 (HBL.out.trans (HB4.out.mono HBL.out.size))
  have HX4 := hZ9 (HXC.out.below HB4.out yl)
  clear hg12 hba HZ3 HF3 HB3 HNT y0 y1 yl HN2 HN4 HXC
  have y0 : w4.cell? ⟨g4, 0, none⟩ = some (.int .i64 f1) := HX4.out.cell 0
  have y1 : w4.cell? ⟨g4, 1, none⟩ = some (.int .i64 f2) := HX4.out.cell 1
  have yl := HX4.out.lt
  have HRO := hZ9 (show Calls Tryz.prog 46 #[.slice B1 k e1, .agg #[.int .i64 f1, .int .i64 f2], .int .i64 many] w4 fun e w' => RoundTold w4 w' V e from by
   have := round_any ls B1 e1 f1 f2 many (by have h := HN24.out; rwa [HKL.out] at h) (by have := HKL.out; omega)
   rw [HTR.out, ← HKL.out] at this
   exact this)
  unfold RoundTold at HRO
  go_upto_region 7 with (go_at_call 46; refine HRO.out.mono ?_; rintro en w5 ⟨D5, d5, rfl, hs, hb⟩; (have HW5 := hZ9 hs); (have HB5 := hZ9 hb); clear hs hb)
  have HX5 := hZ9 (HX4.out.below HB5.out yl)
  have HT5 := hZ9 (HT4.out.below HB5.out HT4.out.lt)
  have HF5 := hZ9 (HF4.out.below HB5.out)
  have HN45 := hZ9 (HN44.out.below HB5.out)
  have HBL5 := hZ9 (HBL4.out.trans (HB5.out.mono HBL4.out.size))
  clear y0 y1 yl HRO HX4 HT4 HF4 HN44 HBL4 HB5 HN24 HB4
  have y0 : w5.cell? ⟨g4, 0, none⟩ = some (.int .i64 f1) := HX5.out.cell 0
  have y1 : w5.cell? ⟨g4, 1, none⟩ = some (.int .i64 f2) := HX5.out.cell 1
  have yl := HX5.out.lt
  go_upto_region 8 with fail
  have hba : Below w5.heap.size w5 (w5.alloc (.cells #[.int .i64 f1, .int .i64 f2] 105)) := bR0.alloc nR0 _
  have HT6 := hZ9 (Blk.new w5 105 #[.int .i64 f1, .int .i64 f2])
  have hG156 := HT6.out.lt
  have HB6 := hZ9 hba
  generalize w5.alloc (.cells #[.int .i64 f1, .int .i64 f2] 105) = w6 at *
  obtain ⟨G15, hg15⟩ : ∃ g, g = w5.heap.size := ⟨_, rfl⟩
  have hG15 : w5.heap.size ≤ G15 := by omega
  rw [← hg15] at HT6 hG156 ⊢
  have hw56 := HB6.out.size
  clear hg15 hba y0 y1 yl HX5
  obtain ⟨vn, hvn⟩ : ∃ vn, vn = V.length := ⟨_, rfl⟩
  have HVN := hZ9 hvn
  have hvn20 : vn ≤ 20 := by omega
  rw [← hvn] at HW5
  go_wp2_with fail
  rw [← hvn]
  clear hvn
  go_loopw [16, 62] (fun v16 i wr => ∃ j : Nat, j ≤ vn ∧ i = .int .i64 (j : Nat) ∧ RoundX w5 w6 wr G15 (lastN (V.take j) (f1, f2)) ((V.take j).filter fun n => decide (n ∈ bl)) v16) (fun _ i _ => vn - (intOf i).toNat)
  case atStart => exact ⟨0, Nat.zero_le _, rfl, HB6.out, HT6.out, own_nil _ _ _ _, nR0⟩
  case round =>
   obtain ⟨j, hj, rfl, hX⟩ := hrel
   have HX := hZ9 hX
   clear hX
   by_cases hlt : j < vn
   ·have hjl : j < V.length := by have := HVN.out; omega
    obtain ⟨b, o, rfl, hbl, q0, q1⟩ := names_rd (HW5.out.below HX.out.bel).1 j hjl HVN.out
    obtain ⟨nm, hnm⟩ : ∃ nm, nm = V[j] := ⟨_, rfl⟩
    rw [← hnm] at q0 q1
    have hls : lastN (V.take (j + 1)) (f1, f2) = nm := by rw [List.take_succ_eq_append_getElem hjl, lastN_snoc, hnm]
    have HLS := hZ9 hls
    have HWZ := hZ9 (wrong_zero V bl j)
    have HWA := hZ9 (wrong_all V bl j hjl)
    have HST := hZ9 (fun q (hq : q < bl.length) => show wrongL V bl j (q + 1) = if bl[q] = nm then wrongL V bl j q ++ [nm] else wrongL V bl j q from by rw [hnm]; exact HWS.out V j q hjl hq)
    have HLW := hZ9 (show ∀ q, (wrongL V bl j q).length ≤ 100 from fun q => by
     unfold wrongL
     rw [List.length_append]
     have g1 := List.length_filter_le (fun n => decide (n ∈ bl)) (V.take j)
     have g2 := List.length_filter_le (fun n => decide (n ∈ bl.take q)) (V[j]?.toList)
     rw [List.getElem?_eq_getElem hjl] at g2 ⊢
     rw [List.length_take] at g1
     simp only [Option.toList_some, List.length_singleton] at g2 ⊢
     omega)
    clear hnm hls
    obtain ⟨n1, n2⟩ := nm
    simp only at q0 q1
    have j1 : (j : Int) < (vn : Int) := by omega
    have j2 : (0 : Int) ≤ (j : Int) := by omega
    have hba : Below wr.heap.size wr (wr.alloc (.cells #[.int .i64 n1, .int .i64 n2] 105)) := bR0.alloc nR0 _
    have HX7 := hZ9 (HX.out.below hba)
    have HZ := hZ9 (Blk.new wr 105 #[.int .i64 n1, .int .i64 n2])
    have hszr := HX.out.sz
    clear hba
    go_upto_region 12 with fail
    generalize wr.alloc (.cells #[.int .i64 n1, .int .i64 n2] 105) = w7 at *
    obtain ⟨g, hg⟩ : ∃ g, g = wr.heap.size := ⟨_, rfl⟩
    rw [← hg] at HZ ⊢
    have hgG : g ≠ G15 := by omega
    have HNE := hZ9 (show u16.ownBlock ≠ some g from fun e => by have := tyOf_lt (own_ty HX.out.own e); omega)
    clear q0 q1 hbl HX hg
    have z0 : w7.cell? ⟨g, 0, none⟩ = some (.int .i64 n1) := HZ.out.cell 0
    have z1 : w7.cell? ⟨g, 1, none⟩ = some (.int .i64 n2) := HZ.out.cell 1
    have zl := HZ.out.lt
    have HBG := hZ9 HX7.out.blk
    have HX8 := hZ9 (HX7.out.stored hG15 hG156 (n1, n2))
    have HZ8 : Hid (Blk (w7.setRow G15 #[.int .i64 n1, .int .i64 n2]) g 105 #[.int .i64 n1, .int .i64 n2]) := HZ.out.grown (setRow_gby _ _ _) (fun e => by injection e with e; exact hgG e.symm)
    go_upto_region 13 with (refine wpList_store_row rfl 105 _ _ rfl G15 #[.int .i64 n1, .int .i64 n2] rfl rfl 105 _ HBG.out HI5.out rfl (by simp [Value.oneCell']) ?_)
    generalize w7.setRow G15 #[.int .i64 n1, .int .i64 n2] = w8 at *
    clear HBG HX7 HZ z0 z1 zl
    rw [← HWZ.out] at HX8
    go_wp2_with fail
    go_loopw [16, 69] (fun v16 i wq => ∃ q : Nat, q ≤ bn ∧ i = .int .i64 (q : Nat) ∧ RoundX w5 w6 wq G15 (n1, n2) (wrongL V bl j q) v16 ∧ Blk wq g 105 #[.int .i64 n1, .int .i64 n2] ∧ v16.ownBlock ≠ some g) (fun _ i _ => bn - (intOf i).toNat)
    case atStart => exact ⟨0, Nat.zero_le _, rfl, HX8.out, HZ8.out, HNE.out⟩
    case round =>
     obtain ⟨q, hq, rfl, hX, hZ, hne⟩ := hrel
     have HNE := hZ9 hne
     clear hne
     have HX := hZ9 hX
     have HZ := hZ9 hZ
     clear hX hZ HX8 HZ8
     by_cases hlt2 : q < bn
     ·have hql : q < bl.length := by have := HBN.out; omega
      obtain ⟨b7, o7, rfl, hbl7, q0, q1⟩ := names_rd ((HN45.out.below HX.out.bel)).1 q hql HBN.out
      have hst := HST.out q hql
      have hlw := HLW.out q
      generalize bl[q] = bm at *
      obtain ⟨b1, b2⟩ := bm
      simp only at q0 q1
      have HS := hZ9 hst
      generalize wrongL V bl j q = W at *
      have p1 : (q : Int) < (bn : Int) := by omega
      have p2 : (0 : Int) ≤ (q : Int) := by omega
      have hba : Below wr.heap.size wr (wr.alloc (.cells #[.int .i64 b1, .int .i64 b2] 105)) := bR0.alloc nR0 _
      have HXA := hZ9 (HX.out.below hba)
      have HZA := hZ9 (HZ.out.below hba HZ.out.lt)
      have HBB := hZ9 (Blk.new wr 105 #[.int .i64 b1, .int .i64 b2])
      clear hst hba hql
      go_upto_region 16 with fail
      generalize wr.alloc (.cells #[.int .i64 b1, .int .i64 b2] 105) = wx at *
      generalize wr.heap.size = gb at *
      clear q0 q1 hbl7 HX HZ
      have z0 : wx.cell? ⟨g, 0, none⟩ = some (.int .i64 n1) := HZA.out.cell 0
      have z1 : wx.cell? ⟨g, 1, none⟩ = some (.int .i64 n2) := HZA.out.cell 1
      have zl := HZA.out.lt
      have y0 : wx.cell? ⟨gb, 0, none⟩ = some (.int .i64 b1) := HBB.out.cell 0
      have y1 : wx.cell? ⟨gb, 1, none⟩ = some (.int .i64 b2) := HBB.out.cell 1
      have yl := HBB.out.lt
      have hs5 : w6.heap.size ≤ wx.heap.size := HXA.out.sz
      by_cases h1 : b1 = n1
      ·by_cases h2 : b2 = n2
       ·subst h1; subst h2
        have e : wrongL V bl j (q + 1) = W ++ [(b1, b2)] := by rw [HS.out, if_pos rfl]
        have HE := hZ9 e
        clear e
        obtain ⟨A8, c8, hv8, hc8⟩ := own_form HXA.out.own
        subst hv8
        have HXB := hZ9 (HXA.out.below (bR0.alloc nR0 (.cells #[.int .i64 b1, .int .i64 b2] 105)))
        have HZB := hZ9 (HZA.out.alloc (.cells #[.int .i64 b1, .int .i64 b2] 105))
        have HOW := hZ9 HXB.out.own
        have HRD : Hid (Rd (wx.alloc (.cells #[.int .i64 b1, .int .i64 b2] 105)) (wx.alloc (.cells #[.int .i64 b1, .int .i64 b2] 105)).heap.size 2 (some ⟨wx.heap.size, 0, none⟩) 1 [.int .i64 b1, .int .i64 b2]) := sl_rd (Sl.of_blk (sz := 2) (n := 1) (xs := [.int .i64 b1, .int .i64 b2]) (Blk.new wx 105 _) rfl)
        have H1C : Hid (∀ u ∈ ([.int .i64 b1, .int .i64 b2] : List Value), u.oneCell' = true) := hZ9 (by intro u hu; simp at hu; rcases hu with rfl | rfl <;> rfl)
        have hglt := HZA.out.lt
        go_wp2_with (at_builtin; refine wpList_append_rd _ rfl _ _ 100 rfl w6.heap.size 105 i105 _ 2 16 under100r hi105 hz0 hz1 hz2 rfl (by decide) (.slice A8 W.length c8) W.length (nameRows W) rfl HOW.out (some ⟨wx.heap.size, 0, none⟩) 1 1 _ [.int .i64 b1, .int .i64 b2] rfl HRD.out H1C.out (by unfold maxLen; omega) (by omega) (by simp; omega) ?_; intro A9 c9 w9 hown9 hgr9 hnc9 hat9; (have HX9 := hZ9 (RoundX.put (n := (b1, b2)) HXB.out hw56 hG156 hown9 hgr9)); (have HZ9 := hZ9 (HZB.out.grown hgr9 HNE.out)); (have HN9 := hZ9 (show (Value.slice A9 (W.length + 1) c9).ownBlock ≠ some g from fun e => by (rcases hat9 with h | h); (· exact HNE.out (h.symm.trans e)); (rw [h] at e; injection e with e; simp at e; omega))); clear hown9 hgr9 hat9)
        go_roundw
        case rel => exact ⟨q + 1, by omega, by go_num, by rw [HE.out]; exact HX9.out, HZ9.out, HN9.out⟩
        case measure => simp [intOf]; omega
       ·have e : wrongL V bl j (q + 1) = W := by rw [HS.out]; exact if_neg (fun h => by injection h with _ h; exact h2 h)
        have HE := hZ9 e
        clear e
        go_wp2_with fail
        go_roundw
        case rel => exact ⟨q + 1, by omega, by go_num, by rw [HE.out]; exact HXA.out, HZA.out, HNE.out⟩
        case measure => simp [intOf]; omega
      ·have e : wrongL V bl j (q + 1) = W := by rw [HS.out]; exact if_neg (fun h => by injection h with h _; exact h1 h)
       have HE := hZ9 e
       clear e
       go_wp2_with fail
       go_roundw
       case rel => exact ⟨q + 1, by omega, by go_num, by rw [HE.out]; exact HXA.out, HZA.out, HNE.out⟩
       case measure => simp [intOf]; omega
     ·obtain rfl : q = bn := by omega
      rw [HBN.out, HWA.out] at HX
      go_wp2_with fail
      go_roundw
      case rel => exact ⟨j + 1, by omega, by go_num, by rw [HLS.out]; exact HX.out⟩
      case measure => simp [intOf]; omega
   ·obtain rfl : j = vn := by omega
    have hta : V.take j = V := List.take_of_length_le (by have := HVN.out; omega)
    rw [hta, HVM.out, ← HGA.out] at HX
    obtain ⟨A8, c8, hv8, hc8⟩ := own_form HX.out.own
    subst hv8
    have HT8 := hZ9 (HT5.out.below HX.out.bel HT5.out.lt)
    have HF8 := hZ9 (HF5.out.below HX.out.bel)
    have HB8 := hZ9 (HBL5.out.trans (HX.out.bel.mono HBL5.out.size))
    have hwl : (V.filter fun n => !gd n).length ≤ 100000 := by have := List.length_filter_le (fun n => !gd n) V; omega
    clear hta HT5 HF5 HN45 HW5 HWS
    generalize hW : V.filter (fun n => !gd n) = W at *
    have z0 : wr.cell? ⟨G12, 0, none⟩ = some (.int .i64 g1) := HT8.out.cell 0
    have z1 : wr.cell? ⟨G12, 1, none⟩ = some (.int .i64 g2) := HT8.out.cell 1
    have zl := HT8.out.lt
    have y0 : wr.cell? ⟨G15, 0, none⟩ = some (.int .i64 g1) := HX.out.blk.cell 0
    have y1 : wr.cell? ⟨G15, 1, none⟩ = some (.int .i64 g2) := HX.out.blk.cell 1
    have yl := HX.out.blk.lt
    have HLN := hZ9 (lnamesK_any W W.length rfl D d HF8.out hwl)
    have HOWN := hZ9 (Sl.of_own HX.out.own)
    go_upto_region 22 with (first
     | (go_at_call 44; refine HLN.out.mono ?_; rintro en w9 ⟨D9, d9, rfl, hs, hb⟩; (have HD9 := hZ9 hs); (have HB9 := hZ9 hb); (have HSM := hZ9 (same_any W D9 A8 d9 c8 hs (HOWN.out.below hb) hwl)); clear hs hb)
     | (go_at_call 47; refine HSM.out.mono ?_; rintro en w10 ⟨rfl, hb⟩; (have HB10 := hZ9 (HB9.out.trans (hb.mono HB9.out.size))); clear hb))
    have HBW := hZ9 (HB8.out.trans (HB10.out.mono HB8.out.size))
    have HTW := hZ9 (HT8.out.below HB10.out zl)
    clear z0 z1 zl y0 y1 yl HLN HOWN HD9 HB9 HSM HB10 HT8 HF8 HB8 HX hW hwl
    have HRN2 := hZ9 (show ∀ (t : Nat) (r : NameV), (rotL ls (g1, g2))[t]? = some r → (rotL ls (lastN ((rotL ls (g1, g2)).take t) (g1, g2))).take 1 = [r] from fun t r hr => by
     obtain ⟨h, rfl⟩ := List.getElem?_eq_some_iff.1 hr
     exact HRN.out (g1, g2) t (by rwa [rot_len] at h))
    have HRL := hZ9 (rot_len ls (g1, g2))
    have HRF := hZ9 (show ((rotL ls (g1, g2)).filter fun n => !gd n).length = bn from by rw [rot_filter_len, ← HBL2.out, HBN.out])
    have HNZ := hZ9 (show ∀ (wy : World) (a1 a2 r1 r2 : Int), Below w1.heap.size w1 wy → (rotL ls (a1, a2)).take 1 = [(r1, r2)] → Calls Tryz.prog 45 #[.pointer (some ⟨Sb, 0, none⟩), .agg #[.int .i64 a1, .int .i64 a2], .int .i64 1] wy fun e w' => ∃ D d, e = .returned (.tuple #[.agg #[.int .i64 r1, .int .i64 r2], .slice D ([(r1, r2)].filter fun n => !gd n).length d]) ∧ Below wy.heap.size wy w' from fun wy a1 a2 r1 r2 hy hr => by
     have := HNX.out wy a1 a2 1 hy
     unfold NextTold at this
     rw [show (1 : Int).toNat = 1 from rfl, hr] at this
     exact this.mono fun e w' ⟨D, d, h1, _, h3⟩ => ⟨D, d, h1, h3⟩)
    generalize rotL ls (g1, g2) = R at *
    clear HRN HNX HBL2 HVM HTR HV HGA HBL HBL5 HB6 HT6 HX1 hw56 hG15 hG156
    go_wp2_with fail
    go_loopw [21, 103] (fun v21 i wq => ∃ t : Nat, t ≤ k ∧ i = .int .i64 (t : Nat) ∧ v21 = .int .i64 (((R.take t).filter fun n => !gd n).length : Nat) ∧ Below w1.heap.size w1 wq ∧ Blk wq G12 73 #[.int .i64 (lastN (R.take t) (g1, g2)).1, .int .i64 (lastN (R.take t) (g1, g2)).2]) (fun _ i _ => k - (intOf i).toNat)
    case atStart => exact ⟨0, Nat.zero_le _, rfl, rfl, HBW.out, HTW.out⟩
    case round =>
     obtain ⟨t, ht, rfl, rfl, hb, hT⟩ := hrel
     have HB := hZ9 hb
     have HT := hZ9 hT
     clear hb hT HBW HTW
     by_cases hlt : t < k
     ·have htl : t < ls.length := by have := HKL.out; omega
      have htR : t < R.length := by have := HRL.out; omega
      have hnx := HRN2.out t R[t] (List.getElem?_eq_getElem htR)
      have htk : R.take (t + 1) = R.take t ++ [R[t]] := List.take_succ_eq_append_getElem htR
      have hfl : ((R.take t).filter fun n => !gd n).length ≤ 100 := by have := List.length_filter_le (fun n => !gd n) (R.take t); rw [List.length_take] at this; omega
      have hf1 : ((R.take (t + 1)).filter fun n => !gd n).length = ((R.take t).filter fun n => !gd n).length + ([R[t]].filter fun n => !gd n).length := by rw [htk, List.filter_append, List.length_append]
      have hl1 : lastN (R.take (t + 1)) (g1, g2) = R[t] := by rw [htk, lastN_snoc]
      have hf2 : ([R[t]].filter fun n => !gd n).length ≤ 1 := List.length_filter_le _ _
      generalize R[t] = rt at *
      generalize lastN (R.take t) (g1, g2) = la at *
      obtain ⟨r1, r2⟩ := rt
      obtain ⟨a1, a2⟩ := la
      have HF1 := hZ9 hf1
      have HL1 := hZ9 hl1
      have HNZ1 := hZ9 (HNZ.out wr a1 a2 r1 r2 HB.out hnx)
      have z0 : wr.cell? ⟨G12, 0, none⟩ = some (.int .i64 a1) := HT.out.cell 0
      have z1 : wr.cell? ⟨G12, 1, none⟩ = some (.int .i64 a2) := HT.out.cell 1
      have zl := HT.out.lt
      generalize ((R.take t).filter fun n => !gd n).length = fn at *
      generalize ([(r1, r2)].filter fun n => !gd n).length = f1n at *
      have t1 : (t : Int) < (k : Int) := by omega
      have t2 : (0 : Int) ≤ (t : Int) := by omega
      have a3 : IntKind.i64.wrap ((fn : Int) + (f1n : Int)) = (fn : Int) + (f1n : Int) := by rw [IntKind.wrap_i64]; omega
      clear htk hf1 hl1 hnx htl htR
      go_upto_region 26 with (first
       | (go_at_call 45; refine HNZ1.out.mono ?_; rintro en w3 ⟨D3, d3, rfl, hb⟩; (have HB3 := hZ9 hb); (have HZ3 := hZ9 (Blk.new w3 73 #[.int .i64 0, .int .i64 0])); clear hb)
       | (refine wpList_store_row rfl 73 _ _ rfl w3.heap.size #[.int .i64 r1, .int .i64 r2] rfl rfl 73 _ HZ3.out HI.out rfl (by simp [Value.oneCell']) ?_))
      rw [World.setRow_alloc_new]
      have hba : Below wr.heap.size wr (w3.alloc (.cells #[.int .i64 r1, .int .i64 r2] 73)) := HB3.out.alloc HB3.out.size _
      have HB4 := hZ9 (HB.out.trans (hba.mono HB.out.size))
      have HT4 := hZ9 (HT.out.below hba zl)
      have HN4 := hZ9 (Blk.new w3 73 #[.int .i64 r1, .int .i64 r2])
      generalize w3.alloc (.cells #[.int .i64 r1, .int .i64 r2] 73) = w4x at *
      generalize w3.heap.size = G22 at *
      clear z0 z1 zl hba HZ3 HB3 HNZ1 HB HT
      have y0 : w4x.cell? ⟨G22, 0, none⟩ = some (.int .i64 r1) := HN4.out.cell 0
      have y1 : w4x.cell? ⟨G22, 1, none⟩ = some (.int .i64 r2) := HN4.out.cell 1
      have yl := HN4.out.lt
      go_wp2_with (refine wpList_store_row rfl 73 _ _ rfl G12 #[.int .i64 r1, .int .i64 r2] rfl rfl 73 _ HT4.out HI.out rfl (by simp [Value.oneCell']) ?_)
      go_roundw
      case rel => exact ⟨t + 1, by omega, by go_num, by rw [HF1.out]; go_num, HB4.out.trans (grown_below (setRow_gby _ _ _) HB4.out.size (fun k hk => by injection hk with hk; omega)), by rw [HL1.out]; exact setRow_blk HT4.out _⟩
      case measure => simp [intOf]; omega
     ·obtain rfl : t = k := by omega
      have hta : R.take t = R := List.take_of_length_le (by have := HRL.out; have := HKL.out; omega)
      rw [hta, HRF.out]
      go_wp2_with (go_at_call 41; refine (AW.out _ (HB1.out.trans (HB.out.mono hw1))).mono ?_; rintro en w5 ⟨rfl, hz, hb⟩; (have HBZ := hZ9 hz); clear hz hb)
      go_ret
      exact ⟨by simp, HBZ.out⟩
end Go.Proofs.YtmgmfnimaafkdaaGreatDoor
