/- What is found in a store: the walk. -/
import Derived.Test.YtmgmfnimaafkdaaGreatDoorXB
import Derived.Test.YtmgmfnimaafkdaaGreatDoorVS
import Derived.Deep.CutRange
namespace Go.Proofs.YtmgmfnimaafkdaaGreatDoor
open Go.RowKit Go.Maps
set_option maxRecDepth 100000

set_option maxHeartbeats 4000000 in
theorem good_any {w : World} {base Sb lo E : Nat} {s : StV} {m : StM} {ts : List (NameV × List UInt8)} (h : StR w base Sb s m) (ha : StAll s lo E ts) (n : NameV) (hn : n ∈ namesL s) :
  Calls Tryz.prog 93 #[.pointer (some ⟨Sb, 0, none⟩), nameV n] w fun e w' => e = .returned (.bool (goodN s n)) ∧ Below w.heap.size w w' := by
 obtain ⟨⟨⟨n1, n2⟩, x⟩, hy, rfl⟩ := List.mem_map.1 hn
 obtain ⟨q, hq, hye, hS⟩ := ha.side.mem _ hy
 have hgt : getL s.slices (n1, n2) = some x := getL_in ha.srtS.nodup hy
 obtain ⟨a, h1, h2, h3⟩ := hS.mark ha.log.s1 ha.log.s2 ha.log.on
 obtain ⟨r1, r2⟩ := ha.right _ hy
 have hfew := ha.few
 have HG := hZ9 (show ∀ wy, Below w.heap.size w wy → Calls Tryz.prog 30 #[.pointer (some ⟨Sb, 0, none⟩), .agg #[.int .i64 n1, .int .i64 n2]] wy fun e w' => ∃ (A : Option Addr) (n c er : Nat), e = .returned (.tuple #[.slice A n c, .int .i64 er]) ∧ decide (er = 0) = goodN s (n1, n2) ∧ Below wy.heap.size wy w' from fun wy hb => (getM_any (h.below hb) (n1, n2) ⟨wfI_right r1, wfI_right r2⟩ x hgt a h3 h1 (by omega)).mono fun e w' ht => by
  obtain ⟨A, n, c, he, hq⟩ := ht.shape
  refine ⟨A, n, c, _, he, ?_, hq.2⟩
  unfold goodN
  rw [hgt]
  simp only [Option.getD_some])
 generalize goodN s (n1, n2) = gd at *
 have HB0 : Hid (Below w.heap.size w (w.alloc (.cells #[.int .i64 n1, .int .i64 n2] 73))) := bR0.alloc nR0 _
 have HX := hZ9 (Blk.new w 73 #[.int .i64 n1, .int .i64 n2])
 clear h ha hS
 show Calls Tryz.prog 93 #[.pointer (some ⟨Sb, 0, none⟩), .agg #[.int .i64 n1, .int .i64 n2]] w _
 go_enter Tryz.func93, Tryz.ntmps93
 go_upto_region 1 with fail
 generalize w.alloc (.cells #[.int .i64 n1, .int .i64 n2] 73) = w1 at *
 have c0 : w1.cell? ⟨w.heap.size, 0, none⟩ = some (.int .i64 n1) := HX.out.cell 0
 have c1 : w1.cell? ⟨w.heap.size, 1, none⟩ = some (.int .i64 n2) := HX.out.cell 1
 have xl := HX.out.lt
 go_wp2_with (go_at_call 30; refine (HG.out _ HB0.out).mono ?_; rintro en w2 ⟨A2, k2, c2, er, rfl, hgd, hb⟩; (have HB := hZ9 hb); (have HGD := hZ9 hgd); clear hb hgd)
 go_ret
 refine ⟨?_, HB0.out.trans (HB.out.mono HB0.out.size)⟩
 rw [← HGD.out]
 by_cases e : er = 0
 ·simp [e]
 ·have : ¬ ((er : Int) = 0) := by omega
  simp [e]
theorem LookX.vers {w w1 wr w' : World} {G c : Nat} {g b : List NameV} {vs : List Int} {out v1 v2 : Value} {A : Option Addr} (v : Int) (h : LookX w w1 wr G g b vs out v1 v2) (hw : w.heap.size ≤ w1.heap.size)
  (hown : w'.ownsRow w1.heap.size 2 1 (.slice A (vs.length + 1) c) (vs.length + 1) (numVs vs ++ [.int .i64 v])) (hgr : wr.grownBy w' out.ownBlock) : LookX w w1 w' G g b (vs ++ [v]) (.slice A (vs.length + 1) c) v1 v2 := by
 have ho : ∀ q, out.ownBlock = some q → tyOf wr q = some 2 := fun q hq => own_ty h.own hq
 refine ⟨keeps_row h.kp hw h.own hgr, h.blk.grown hgr (own_ne h.own h.blk (by decide)), own_kept h.r1 hgr (fun q hq e => ?_), own_kept h.r2 hgr (fun q hq e => ?_), h.ne, ?_, fun q hq hn => (row_frame h.own hgr h.sz hq).trans (h.fr q hq hn)⟩
 ·have h1 := own_ty h.r1 hq; have h2 := ho q e; rw [h1] at h2; exact absurd h2 (by decide)
 ·have h1 := own_ty h.r2 hq; have h2 := ho q e; rw [h1] at h2; exact absurd h2 (by decide)
 ·rw [numVs_snoc, List.length_append, List.length_singleton]; exact hown
theorem last_at {vs : List Int} {k0 : Nat} (h : k0 + 1 = vs.length) : vs.getLast? = some (vs[k0]'(by omega)) := by
 rw [List.getLast?_eq_getElem?, show vs.length - 1 = k0 by omega, List.getElem?_eq_getElem (by omega)]
set_option maxHeartbeats 16000000 in
theorem look_any {w : World} {base Sb lo E : Nat} {s : StV} {m : StM} {ts : List (NameV × List UInt8)} (h : StR w base Sb s m) (ha : StAll s lo E ts) (hr : ∀ x ∈ s.slices, NumOK x ∧ x.2.len ≤ 1048576) (hn1 : s.slices.length ≤ 100000) (hn2 : s.notes.length ≤ 100000) :
  Calls Tryz.prog 42 #[.pointer (some ⟨Sb, 0, none⟩)] w fun e w' => ∃ A1 c1 A2 c2 A3 c3 A4 c4, e = .returned (.agg #[.slice A1 (goodL s).length c1, .slice A2 (badNs s).length c2, .slice A3 (lostVs s).length c3, .slice A4 (bareVs s).length c4]) ∧
   Sl w' 73 2 A1 (goodL s).length (nameRows (goodL s)) ∧ Sl w' 73 2 A2 (badNs s).length (nameRows (badNs s)) ∧ Sl w' 2 1 A3 (lostVs s).length (numVs (lostVs s)) ∧ Sl w' 2 1 A4 (bareVs s).length (numVs (bareVs s)) ∧ Below w.heap.size w w' := by
 have HH := hZ9 h
 have HA := hZ9 ha
 have hl : (namesL s).length = s.slices.length := by simp [namesL]
 obtain ⟨i73, hi73, hz0, hz1, hz2⟩ := info_parts info73
 obtain ⟨i2, hi2, hy0, hy1, hy2⟩ := info_parts info2
 have HNA := hZ9 (show ∀ wy, Below w.heap.size w wy → Calls Tryz.prog 35 #[.pointer (some ⟨Sb, 0, none⟩)] wy fun e w' => ∃ A c, e = .returned (.slice A (namesL s).length c) ∧ Sl w' 73 2 A (namesL s).length (nameRows (namesL s)) ∧ Below wy.heap.size wy w' from fun wy hy => (names_any (h.below hy) ha.srtS hr (by omega)).mono fun e w' ⟨A, c, h1, h2, h3⟩ => ⟨A, c, by rw [hl]; exact h1, by rw [hl]; exact Sl.of_own h2, h3⟩)
 obtain ⟨G2, hG2⟩ : ∃ G2, G2 = w.heap.size := ⟨_, rfl⟩
 obtain ⟨G, hG⟩ : ∃ G, G = w.heap.size + 1 := ⟨_, rfl⟩
 have HB0 : Hid (Below w.heap.size w ((w.alloc (.cells #[nilV, nilV, nilV, nilV] 96)).alloc (.cells #[nilV, nilV, nilV, nilV] 96))) := (bR0.alloc nR0 _).alloc (by simp) _
 have HX2 := hZ9 (show Blk ((w.alloc (.cells #[nilV, nilV, nilV, nilV] 96)).alloc (.cells #[nilV, nilV, nilV, nilV] 96)) w.heap.size 96 #[nilV, nilV, nilV, nilV] from (Blk.new _ _ _).alloc _)
 have HX := hZ9 (show Blk ((w.alloc (.cells #[nilV, nilV, nilV, nilV] 96)).alloc (.cells #[nilV, nilV, nilV, nilV] 96)) (w.heap.size + 1) 96 #[nilV, nilV, nilV, nilV] from Blk.new_eq0 (by simp))
 have HLN := hZ9 hl
 clear h ha hr hl
 go_enter Tryz.func42, Tryz.ntmps42
 go_upto_region 3 with fail
 generalize (w.alloc (.cells #[nilV, nilV, nilV, nilV] 96)).alloc (.cells #[nilV, nilV, nilV, nilV] 96) = w0 at *
 have hw0 := HB0.out.size
 rw [← hG] at HX ⊢
 rw [← hG2] at HX2 ⊢
 have HGE := hZ9 hG
 have HGE2 := hZ9 hG2
 clear hG hG2
 go_wp2_with (go_at_call 35; refine (HNA.out _ HB0.out).mono ?_; rintro en w1 ⟨A1, c1, rfl, hs1, hb1⟩; (have HS1 := hZ9 hs1); (have HB1 := hZ9 hb1); clear hs1 hb1)
 have hl := HLN.out
 obtain ⟨l, hl2⟩ : ∃ l, l = namesL s := ⟨_, rfl⟩
 have hsrt : l.Pairwise fun x y => ltN x y = true := by rw [hl2]; exact List.pairwise_map.2 HA.out.srtS
 have hll : l.length ≤ 100000 := by rw [hl2, hl]; exact hn1
 rw [← hl2] at HS1
 obtain ⟨k, hk⟩ : ∃ k, k = l.length := ⟨_, rfl⟩
 rw [← hl2, ← hk]
 clear hl
 have HL2 := hZ9 hl2
 have HKL := hZ9 hk
 have hbw1 : w.heap.size ≤ w1.heap.size := Nat.le_trans hw0 HB1.out.size
 have HGW := hZ9 (show G < w1.heap.size ∧ w.heap.size ≤ G ∧ G2 < w1.heap.size ∧ w.heap.size ≤ G2 ∧ G2 ≠ G from by
  have := HX.out.lt
  have := HB1.out.size
  have := HGE.out
  have := HGE2.out
  have := HX2.out.lt
  omega)
 have HX1 := hZ9 (HX.out.below HB1.out HX.out.lt)
 have HX21 := hZ9 (HX2.out.below HB1.out HX2.out.lt)
 have HBW : Hid (Below w.heap.size w w1) := HB0.out.trans (HB1.out.mono hw0)
 have hG1 := HGW.out.1
 have HGD := hZ9 (fun (n : NameV) (hn : n ∈ l) (wy : World) (hy : Below w.heap.size w wy) => good_any (HH.out.below hy) HA.out n (by rw [← HL2.out]; exact hn))
 have HNO := hZ9 (show ∀ wy, Below w.heap.size w wy → Calls Tryz.prog 36 #[.pointer (some ⟨Sb, 0, none⟩)] wy fun e w' => ∃ A c, e = .returned (.slice A (notesL s).length c) ∧ Sl w' 2 1 A (notesL s).length (numVs (notesL s)) ∧ Below wy.heap.size wy w' from fun wy hy => (notes_any (HH.out.below hy) HA.out.srtN HA.out.txt (by omega)).mono fun e w' ⟨A, c, h1, h2, h3⟩ => by
  have hq : (notesL s).length = s.notes.length := by simp [notesL]
  exact ⟨A, c, by rw [hq]; exact h1, by rw [hq]; exact Sl.of_own h2, h3⟩)
 clear HNA HX HX2 HB0 HB1 hl2 hk
 go_loopw [4, 20] (fun out i wr => ∃ j : Nat, j ≤ k ∧ i = .int .i64 j ∧ LookR w w1 wr G ((l.take j).filter (goodN s)) ((l.take j).filter fun n => !goodN s n) (versL (l.take j)) out) (fun _ i _ => k - (intOf i).toNat)
 case atStart => exact ⟨0, Nat.zero_le _, rfl, nilV, nilV, Keeps.refl _ _ _, HX1.out, own_nil _ _ _ _, own_nil _ _ _ _, (fun k hk => by cases hk), own_nil _ _ _ _, fun _ _ _ => rfl⟩
 case round =>
  obtain ⟨j, hj, rfl, v1, v2, hR⟩ := hrel
  have HR := hZ9 hR
  have hbr : Below w.heap.size w1 wr := hR.kp.below
  have hszr := hbr.size
  clear hR
  by_cases hlt : j < k
  ·have hjl : j < l.length := by have := HKL.out; omega
   obtain ⟨b, o, rfl, hbl, q0, q1⟩ := names_at (HS1.out.keeps HR.out.kp (by decide)) j hjl rfl
   have htk : l.take (j + 1) = l.take j ++ [l[j]] := by rw [List.take_succ_eq_append_getElem hjl]
   have HGO := hZ9 (HGD.out l[j] (List.getElem_mem hjl))
   have HTK := hZ9 htk
   have hvl : (versL (l.take j)).length ≤ 100000 := by have := versL_len (l.take j); rw [List.length_take] at this; omega
   have hgl : ((l.take j).filter (goodN s)).length ≤ 100000 := by have := List.length_filter_le (goodN s) (l.take j); rw [List.length_take] at this; omega
   have hbl2 : ((l.take j).filter fun n => !goodN s n).length ≤ 100000 := by have := List.length_filter_le (fun n => !goodN s n) (l.take j); rw [List.length_take] at this; omega
   clear htk
   generalize l[j] = n at *
   obtain ⟨n1, n2⟩ := n
   simp only at q0 q1
   have j1 : (j : Int) < (k : Int) := by omega
   have j2 : (0 : Int) ≤ (j : Int) := by omega
   have HR1 := hZ9 (HR.out.below ((bR0.alloc nR0 (.cells #[.int .i64 n1, .int .i64 n2] 73))) (Nat.le_trans hbw1 hszr))
   have HK6 := hZ9 (Blk.new wr 73 #[.int .i64 n1, .int .i64 n2])
   go_upto_region 6 with fail
   generalize wr.alloc (.cells #[.int .i64 n1, .int .i64 n2] 73) = wx at *
   obtain ⟨g, hg⟩ : ∃ g, g = wr.heap.size := ⟨_, rfl⟩
   have hgG : g ≠ G := by omega
   have HN1 := hZ9 (show v1.ownBlock ≠ some g from fun e => by have := tyOf_lt (own_ty HR.out.r1 e); omega)
   have HN2 := hZ9 (show v2.ownBlock ≠ some g from fun e => by have := tyOf_lt (own_ty HR.out.r2 e); omega)
   rw [← hg] at HK6 ⊢
   have z0 : wx.cell? ⟨g, 0, none⟩ = some (.int .i64 n1) := HK6.out.cell 0
   have z1 : wx.cell? ⟨g, 1, none⟩ = some (.int .i64 n2) := HK6.out.cell 1
   have gl := HK6.out.lt
   have hbx : Below w.heap.size w wx := HBW.out.trans HR1.out.kp.below
   have HC := hZ9 (show Calls Tryz.prog 93 #[.pointer (some ⟨Sb, 0, none⟩), .agg #[.int .i64 n1, .int .i64 n2]] wx fun e w' => e = .returned (.bool (goodN s (n1, n2))) ∧ Below wx.heap.size wx w' from HGO.out wx hbx)
   have hwx : w.heap.size ≤ wx.heap.size := hbx.size
   obtain ⟨gs, hgs⟩ : ∃ gs, gs = (l.take j).filter (goodN s) := ⟨_, rfl⟩
   obtain ⟨bs, hbs⟩ : ∃ bs, bs = (l.take j).filter fun n => !goodN s n := ⟨_, rfl⟩
   obtain ⟨vs, hvs⟩ : ∃ vs, vs = versL (l.take j) := ⟨_, rfl⟩
   obtain ⟨gs2, hgs2⟩ : ∃ gs2, gs2 = (l.take (j + 1)).filter (goodN s) := ⟨_, rfl⟩
   obtain ⟨bs2, hbs2⟩ : ∃ bs2, bs2 = (l.take (j + 1)).filter fun n => !goodN s n := ⟨_, rfl⟩
   rw [HTK.out, List.filter_append, ← hgs] at hgs2
   rw [HTK.out, List.filter_append, ← hbs] at hbs2
   rw [← hgs, ← hbs, ← hvs] at HR1
   rw [← hgs] at hgl
   rw [← hbs] at hbl2
   rw [← hvs] at hvl
   have HGS2 := hZ9 hgs2
   have HBS2 := hZ9 hbs2
   have HVS := hZ9 hvs
   have HGB := hZ9 (show gs2 = (l.take (j + 1)).filter (goodN s) ∧ bs2 = (l.take (j + 1)).filter (fun n => !goodN s n) from by rw [hgs2, hbs2, HTK.out, List.filter_append, List.filter_append, ← hgs, ← hbs]; exact ⟨rfl, rfl⟩)
   clear hgs hbs hvs hgs2 hbs2 hbr HR hbl q0 q1 hg hbx HGO
   go_upto_if 26 with (go_at_call 93; refine HC.out.mono ?_; rintro en w5 ⟨rfl, hb5⟩; (have HR5 := hZ9 (HR1.out.below hb5 hwx)); (have HK5 := hZ9 (HK6.out.below hb5 HK6.out.lt)); clear hb5)
   clear z0 z1 gl
   go_cut [20] from 20 to 58 (fun v20 wx => v20 = .int .i64 j ∧ LookR w w1 wx G gs2 bs2 vs u4 ∧ Blk wx g 73 #[.int .i64 n1, .int .i64 n2])
   case first =>
    have hb5 : Below w.heap.size w w5 := HBW.out.trans HR5.out.kp.below
    have hw5 := hb5.size
    cases hgd : goodN s (n1, n2) with
    | true =>
     have e1 : gs2 = gs ++ [(n1, n2)] := by rw [HGS2.out]; simp [hgd]
     have e2 : bs2 = bs := by rw [HBS2.out]; simp [hgd]
     have HRA := HR5.out.below (bR0.alloc nR0 (.cells #[.int .i64 n1, .int .i64 n2] 73)) hw5
     obtain ⟨A5, c5, hv5, hc5⟩ := own_form HRA.r1
     subst hv5
     have hb0 := HR5.out.blk
     have x0 : w5.cell? ⟨G, 0, none⟩ = some (.slice A5 gs.length c5) := hb0.cell 0
     have y0 : w5.cell? ⟨g, 0, none⟩ = some (.int .i64 n1) := HK5.out.cell 0
     have y1 : w5.cell? ⟨g, 1, none⟩ = some (.int .i64 n2) := HK5.out.cell 1
     have xl := hb0.lt
     have yl := HK5.out.lt
     have HKA := hZ9 ((Blk.alloc HK5.out (.cells #[.int .i64 n1, .int .i64 n2] 73)))
     have HRD : Hid (Rd (w5.alloc (.cells #[.int .i64 n1, .int .i64 n2] 73)) (w5.alloc (.cells #[.int .i64 n1, .int .i64 n2] 73)).heap.size 2 (some ⟨w5.heap.size, 0, none⟩) 1 [.int .i64 n1, .int .i64 n2]) := sl_rd (Sl.of_blk (sz := 2) (n := 1) (xs := [.int .i64 n1, .int .i64 n2]) (Blk.new w5 73 _) rfl)
     have H1C : Hid (∀ u ∈ ([.int .i64 n1, .int .i64 n2] : List Value), u.oneCell' = true) := hZ9 (by intro u hu; simp at hu; rcases hu with rfl | rfl <;> rfl)
     have PUT := hZ9 (fun (A4 : Option Addr) (c4 : Nat) (w4 : World) hown hgr hat => LookX.good (w' := w4) (A := A4) (c := c4) (n1, n2) HRA hbw1 HGW.out.2.1 HGW.out.1 hown hgr hat)
     have HOW := hZ9 HRA.r1
     have HNG := HN1
     have hs5 : w1.heap.size ≤ w5.heap.size := HR5.out.kp.below.size
     clear HRA hb0 hgd
     go_wp2_with (at_builtin; refine wpList_append_rd _ rfl _ _ 81 rfl w1.heap.size 73 i73 _ 2 16 under81 hi73 hz0 hz1 hz2 rfl (by decide) (.slice A5 gs.length c5) gs.length (nameRows gs) rfl HOW.out (some ⟨w5.heap.size, 0, none⟩) 1 1 _ [.int .i64 n1, .int .i64 n2] rfl HRD.out H1C.out (by unfold maxLen; omega) (by omega) (by simp; omega) ?_; intro A4 c4 w4 hown4 hgr4 hnc4 hat4; (obtain ⟨hbG, hL⟩ := PUT.out A4 c4 w4 hown4 hgr4 hat4); (have t0 := hbG.cell 0); (have t1 := hbG.free 0); (have t2 := hbG.lt); (have HLK := hZ9 hL); (have HKG := hZ9 (HKA.out.grown hgr4 HNG.out)); clear hbG hL hown4 hgr4 hat4)
     go_meet
     refine ⟨rfl, ?_, HKG.out.far hgG _⟩
     rw [e1, e2]
     exact HLK.out
    | false =>
     have e1 : gs2 = gs := by rw [HGS2.out]; simp [hgd]
     have e2 : bs2 = bs ++ [(n1, n2)] := by rw [HBS2.out]; simp [hgd]
     have HRA := HR5.out.below (bR0.alloc nR0 (.cells #[.int .i64 n1, .int .i64 n2] 73)) hw5
     obtain ⟨A5, c5, hv5, hc5⟩ := own_form HRA.r2
     subst hv5
     have hb0 := HR5.out.blk
     have x0 : w5.cell? ⟨G, 1, none⟩ = some (.slice A5 bs.length c5) := hb0.cell 1
     have y0 : w5.cell? ⟨g, 0, none⟩ = some (.int .i64 n1) := HK5.out.cell 0
     have y1 : w5.cell? ⟨g, 1, none⟩ = some (.int .i64 n2) := HK5.out.cell 1
     have xl := hb0.lt
     have yl := HK5.out.lt
     have HKA := hZ9 ((Blk.alloc HK5.out (.cells #[.int .i64 n1, .int .i64 n2] 73)))
     have HRD : Hid (Rd (w5.alloc (.cells #[.int .i64 n1, .int .i64 n2] 73)) (w5.alloc (.cells #[.int .i64 n1, .int .i64 n2] 73)).heap.size 2 (some ⟨w5.heap.size, 0, none⟩) 1 [.int .i64 n1, .int .i64 n2]) := sl_rd (Sl.of_blk (sz := 2) (n := 1) (xs := [.int .i64 n1, .int .i64 n2]) (Blk.new w5 73 _) rfl)
     have H1C : Hid (∀ u ∈ ([.int .i64 n1, .int .i64 n2] : List Value), u.oneCell' = true) := hZ9 (by intro u hu; simp at hu; rcases hu with rfl | rfl <;> rfl)
     have PUT := hZ9 (fun (A4 : Option Addr) (c4 : Nat) (w4 : World) hown hgr hat => LookX.bad (w' := w4) (A := A4) (c := c4) (n1, n2) HRA hbw1 HGW.out.2.1 HGW.out.1 hown hgr hat)
     have HOW := hZ9 HRA.r2
     have HNG := HN2
     have hs5 : w1.heap.size ≤ w5.heap.size := HR5.out.kp.below.size
     clear HRA hb0 hgd
     go_wp2_with (at_builtin; refine wpList_append_rd _ rfl _ _ 81 rfl w1.heap.size 73 i73 _ 2 16 under81 hi73 hz0 hz1 hz2 rfl (by decide) (.slice A5 bs.length c5) bs.length (nameRows bs) rfl HOW.out (some ⟨w5.heap.size, 0, none⟩) 1 1 _ [.int .i64 n1, .int .i64 n2] rfl HRD.out H1C.out (by unfold maxLen; omega) (by omega) (by simp; omega) ?_; intro A4 c4 w4 hown4 hgr4 hnc4 hat4; (obtain ⟨hbG, hL⟩ := PUT.out A4 c4 w4 hown4 hgr4 hat4); (have t0 := hbG.cell 1); (have t1 := hbG.free 1); (have t2 := hbG.lt); (have HLK := hZ9 hL); (have HKG := hZ9 (HKA.out.grown hgr4 HNG.out)); clear hbG hL hown4 hgr4 hat4)
     go_meet
     refine ⟨rfl, ?_, HKG.out.far hgG _⟩
     rw [e1, e2]
     exact HLK.out
   case rest =>
    obtain ⟨rfl, ⟨v1, v2, hX⟩, hkg⟩ := hcut
    have HXC := hZ9 hX
    have HKG := hZ9 hkg
    have hwc : w.heap.size ≤ wc.heap.size := Nat.le_trans hbw1 hX.kp.below.size
    obtain ⟨A5, c5, hv5, hc5⟩ := own_form hX.own
    subst hv5
    have y0 : wc.cell? ⟨g, 0, none⟩ = some (.int .i64 n1) := hkg.cell 0
    have yl := hkg.lt
    have hvs1 : versL (l.take (j + 1)) = verStep vs (n1, n2) := by rw [HTK.out, versL_snoc, ← HVS.out]
    have HV1 := hZ9 hvs1
    clear hX hkg hvs1 HR1 HR5 HK5 HC HGS2 HBS2
    go_upto_region 10 with fail
    go_cut [20, 52] from 20 to 58 (fun v20 v52 wx => v20 = .int .i64 j ∧ v52 = .bool (decide (vs.getLast? ≠ some n1)) ∧ LookX w w1 wx G gs2 bs2 vs (.slice A5 vs.length c5) v1 v2 ∧ Blk wx g 73 #[.int .i64 n1, .int .i64 n2])
    case first =>
     by_cases hz : vs.length = 0
     ·have hv0 : vs.getLast? ≠ some n1 := by
       have : vs = [] := List.eq_nil_of_length_eq_zero hz
       rw [this]; simp
      have HD := hZ9 (decide_eq_true hv0)
      have a1 : ((vs.length : Int) == 0) = true := beq_iff_eq.2 (by omega)
      have a2 : (vs.length : Int) = 0 := by omega
      clear hv0
      go_quiet (fail)
      go_wp2_with fail
      go_meet
      exact ⟨rfl, by rw [HD.out], HXC.out.below (bl_drewN bR0 _) hwc, HKG.out⟩
     ·obtain ⟨k0, hk0⟩ : ∃ k0, k0 + 1 = vs.length := ⟨vs.length - 1, by omega⟩
      have hk1 : k0 < vs.length := by omega
      have hlast : vs.getLast? = some (vs[k0]'hk1) := last_at (vs := vs) (k0 := k0) hk0
      obtain ⟨b5, o5, hA5, hb5, hcc⟩ := (Sl.of_own HXC.out.own).1.2 (by omega)
      have hck : wc.cell? ⟨b5, o5 + k0, none⟩ = some (.int .i64 vs[k0]) := by
       have := hcc k0 (by unfold numVs; simpa using hk1)
       rw [this]
       simp [numVs]
      subst hA5
      have a1 : ((vs.length : Int) == 0) = false := beq_eq_false_iff_ne.2 (by omega)
      have a2 : ¬ ((vs.length : Int) = 0) := by omega
      have a3 : (vs.length : Int) - 1 = (k0 : Int) := by omega
      have a4 : IntKind.i64.wrap (k0 : Int) = (k0 : Int) := by rw [IntKind.wrap_i64]; omega
      have a5 : (k0 : Int) < (vs.length : Int) := by omega
      have a6 : (0 : Int) ≤ (k0 : Int) := by omega
      clear hcc hk0
      generalize vs[k0] = lv at *
      have HLA := hZ9 hlast
      clear hlast hk1
      by_cases hle : lv = n1
      ·subst hle
       have HD := hZ9 (show decide (vs.getLast? ≠ some lv) = false from decide_eq_false (by rw [HLA.out]; simp))
       go_quiet (fail)
       go_wp2_with fail
       go_meet
       exact ⟨rfl, by rw [HD.out], HXC.out.below (bl_drewN bR0 _) hwc, HKG.out⟩
      ·have HD := hZ9 (show decide (vs.getLast? ≠ some n1) = true from decide_eq_true (by rw [HLA.out]; intro h; injection h with h; exact hle h))
       have a7 : (lv != n1) = true := by simpa using hle
       go_quiet (fail)
       go_wp2_with fail
       go_meet
       exact ⟨rfl, by rw [HD.out], HXC.out.below (bl_drewN bR0 _) hwc, HKG.out⟩
    case rest =>
     obtain ⟨rfl, rfl, hX, hkg⟩ := hcut
     have HXD := hZ9 hX
     have hwd : w.heap.size ≤ wc.heap.size := Nat.le_trans hbw1 hX.kp.below.size
     have y2 : wc.cell? ⟨g, 0, none⟩ = some (.int .i64 n1) := hkg.cell 0
     have yl2 := hkg.lt
     clear hkg y0 yl
     by_cases hlast : vs.getLast? = some n1
     ·rw [decide_eq_false (fun h => h hlast)]
      have hv2 : versL (l.take (j + 1)) = vs := by rw [HV1.out]; unfold verStep; rw [if_pos hlast]
      clear hX
      go_wp2_with fail
      go_roundw
      case rel => exact ⟨j + 1, by omega, by go_num, v1, v2, by rw [← HGB.out.1, ← HGB.out.2, hv2]; exact HXD.out⟩
      case measure => simp [intOf]; omega
     ·rw [decide_eq_true hlast]
      have hv2 : versL (l.take (j + 1)) = vs ++ [n1] := by rw [HV1.out]; unfold verStep; rw [if_neg hlast]
      have HV2 := hZ9 hv2
      have HRA := hX.below (bR0.alloc nR0 (.cells #[.int .i64 n1] 2)) hwd
      have HOW := hZ9 HRA.own
      have HRD : Hid (Rd (wc.alloc (.cells #[.int .i64 n1] 2)) (wc.alloc (.cells #[.int .i64 n1] 2)).heap.size 1 (some ⟨wc.heap.size, 0, none⟩) 1 [.int .i64 n1]) := sl_rd (Sl.of_blk (sz := 1) (n := 1) (xs := [.int .i64 n1]) (Blk.new wc 2 _) rfl)
      have H1C : Hid (∀ u ∈ ([.int .i64 n1] : List Value), u.oneCell' = true) := hZ9 (by intro u hu; simp at hu; subst hu; rfl)
      have PUT := hZ9 (fun (A4 : Option Addr) (c4 : Nat) (w4 : World) hown hgr => LookX.vers (w' := w4) (A := A4) (c := c4) n1 HRA hbw1 hown hgr)
      have hs5 : w1.heap.size ≤ wc.heap.size := hX.kp.below.size
      clear hX HRA hlast hv2
      go_wp2_with (at_builtin; refine wpList_append_rd _ rfl _ _ 83 rfl w1.heap.size 2 i2 _ 1 8 under83 hi2 hy0 hy1 hy2 rfl (by decide) (.slice A5 vs.length c5) vs.length (numVs vs) rfl HOW.out (some ⟨wc.heap.size, 0, none⟩) 1 1 _ [.int .i64 n1] rfl HRD.out H1C.out (by unfold maxLen; omega) (by omega) (by simp; omega) ?_; intro A4 c4 w4 hown4 hgr4 hnc4 hat4; (have HLK := hZ9 (PUT.out A4 c4 w4 hown4 hgr4)); clear hown4 hgr4 hat4)
      go_roundw
      case rel => exact ⟨j + 1, by omega, by go_num, v1, v2, by rw [← HGB.out.1, ← HGB.out.2, HV2.out]; exact HLK.out⟩
      case measure => simp [intOf]; omega
  ·obtain rfl : j = k := by omega
   have hta : l.take j = l := List.take_of_length_le (by have := HKL.out; omega)
   rw [hta] at HR
   have hb2 : Below w.heap.size w wr := HBW.out.trans HR.out.kp.below
   have hwr := hb2.size
   obtain ⟨A5, c5, hv5, hc5⟩ := own_form HR.out.own
   subst hv5
   obtain ⟨vs, hvs⟩ : ∃ vs, vs = versL l := ⟨_, rfl⟩
   obtain ⟨nts, hnts⟩ : ∃ nts, nts = notesL s := ⟨_, rfl⟩
   have hvss : vs.Pairwise (· < ·) := by rw [hvs]; exact (versL_ok l hsrt).1
   have hnss : nts.Pairwise (· < ·) := by rw [hnts]; exact List.pairwise_map.2 HA.out.srtN
   have hvl : vs.length ≤ 100000 := by have := versL_len l; rw [hvs]; omega
   have hnl : nts.length ≤ 100000 := by rw [hnts]; simp [notesL]; omega
   rw [← hvs] at HR ⊢
   rw [← hnts] at HNO
   have HVS := hZ9 hvs
   have HNT := hZ9 hnts
   have HVSS := hZ9 hvss
   have HNSS := hZ9 hnss
   clear hta hvs hnts hvss hnss hbr HGD
   go_upto_region 14 with (go_at_call 36; refine (HNO.out _ hb2).mono ?_; rintro en w3 ⟨A6, c6, rfl, hs6, hb6⟩; (have HS6 := hZ9 hs6); (have HR3 := hZ9 (HR.out.below hb6 hwr)); (have HSV := hZ9 ((Sl.of_own HR.out.own).below hb6)); (have hb3 : Below w.heap.size w w3 := hb2.trans (hb6.mono hwr)); clear hs6 hb6)
   have hw3 := hb3.size
   have hG3 : G < w3.heap.size := Nat.lt_of_lt_of_le hG1 HR3.out.sz
   have HB3 := hZ9 hb3
   have HSN := hZ9 (show ∀ (x : Int) (wy : World), Sl wy 2 1 A6 nts.length (numVs nts) → Calls Tryz.prog 94 #[.slice A6 nts.length c6, .int .i64 x] wy fun e w' => (∃ k : Nat, e = .returned (.tuple #[.int .i64 k, .bool (decide (x ∈ nts))])) ∧ Below wy.heap.size wy w' from fun x wy hy => searchN_any A6 nts.length c6 nts x wy rfl (by omega) hy HNSS.out)
   have HSW := hZ9 (show ∀ (x : Int) (wy : World), Sl wy 2 1 A5 vs.length (numVs vs) → Calls Tryz.prog 94 #[.slice A5 vs.length c5, .int .i64 x] wy fun e w' => (∃ k : Nat, e = .returned (.tuple #[.int .i64 k, .bool (decide (x ∈ vs))])) ∧ Below wy.heap.size wy w' from fun x wy hy => searchN_any A5 vs.length c5 vs x wy rfl (by omega) hy HVSS.out)
   clear HR hb2 hb3 HNO
   go_wp2_with fail
   go_loopw [63] (fun i wr => ∃ (j : Nat) (v3 : Value), j ≤ vs.length ∧ i = .int .i64 j ∧ LookY w w3 wr G (fun v => #[v1, v2, v, nilV]) ((vs.take j).filter fun v => !decide (v ∈ nts)) v3) (fun i _ => vs.length - (intOf i).toNat)
   case atStart => exact ⟨0, nilV, Nat.zero_le _, rfl, Keeps.refl _ _ _, HR3.out.blk, own_nil _ _ _ _, fun _ _ _ => rfl⟩
   case round =>
    obtain ⟨j, v3, hj, rfl, hY⟩ := hrel
    have hwr2 : w.heap.size ≤ wr.heap.size := Nat.le_trans hw3 hY.kp.below.size
    by_cases hlt : j < vs.length
    ·obtain ⟨b, o, hA5, hb5, hcc⟩ := (HSV.out.keeps hY.kp (by decide)).1.2 (by omega)
     have htk : vs.take (j + 1) = vs.take j ++ [vs[j]] := by rw [List.take_succ_eq_append_getElem hlt]
     have hck : wr.cell? ⟨b, o + j, none⟩ = some (.int .i64 vs[j]) := by
      have := hcc j (by unfold numVs; simpa using hlt)
      rw [this]
      simp [numVs]
     have hfl : ((vs.take j).filter fun v => !decide (v ∈ nts)).length ≤ 100000 := by have := List.length_filter_le (fun v => !decide (v ∈ nts)) (vs.take j); rw [List.length_take] at this; omega
     have hf1 : (vs.take (j + 1)).filter (fun v => !decide (v ∈ nts)) = (vs.take j).filter (fun v => !decide (v ∈ nts)) ++ [vs[j]].filter (fun v => !decide (v ∈ nts)) := by rw [htk, List.filter_append]
     subst hA5
     generalize vs[j] = x at *
     have HF1 := hZ9 hf1
     have HY := hZ9 hY
     have HS := hZ9 (HSN.out x wr (HS6.out.keeps hY.kp (by decide)))
     have j1 : (j : Int) < (vs.length : Int) := by omega
     have j2 : (0 : Int) ≤ (j : Int) := by omega
     generalize (vs.take j).filter (fun v => !decide (v ∈ nts)) = ls at *
     clear hY htk hf1 hcc
     by_cases hm : x ∈ nts
     ·rw [decide_eq_true hm] at HS
      go_wp2_with (go_at_call 94; refine HS.out.mono ?_; rintro en w5 ⟨⟨kk, rfl⟩, hb5'⟩; (have HY5 := hZ9 (HY.out.below hb5' hwr2)); clear hb5')
      go_roundw
      case rel => exact ⟨j + 1, v3, by omega, by go_num, by rw [HF1.out]; simp [hm]; exact HY5.out⟩
      case measure => simp [intOf]; omega
     ·rw [decide_eq_false hm] at HS
      obtain ⟨A7, c7, hv7, hc7⟩ := own_form HY.out.own
      subst hv7
      go_upto_region 19 with (go_at_call 94; refine HS.out.mono ?_; rintro en w5 ⟨⟨kk, rfl⟩, hb5'⟩; (have HY5 := hZ9 (HY.out.below hb5' hwr2)); clear hb5')
      have hw5 : w.heap.size ≤ w5.heap.size := Nat.le_trans hw3 HY5.out.kp.below.size
      have hs5 : w3.heap.size ≤ w5.heap.size := HY5.out.kp.below.size
      have HRA := HY5.out.below (bR0.alloc nR0 (.cells #[.int .i64 x] 2)) hw5
      have x0 : w5.cell? ⟨G, 2, none⟩ = some (.slice A7 ls.length c7) := HY5.out.blk.cell 2
      have xl := HY5.out.blk.lt
      have HOW := hZ9 HRA.own
      have HRD : Hid (Rd (w5.alloc (.cells #[.int .i64 x] 2)) (w5.alloc (.cells #[.int .i64 x] 2)).heap.size 1 (some ⟨w5.heap.size, 0, none⟩) 1 [.int .i64 x]) := sl_rd (Sl.of_blk (sz := 1) (n := 1) (xs := [.int .i64 x]) (Blk.new w5 2 _) rfl)
      have H1C : Hid (∀ u ∈ ([.int .i64 x] : List Value), u.oneCell' = true) := hZ9 (by intro u hu; simp at hu; subst hu; rfl)
      have PUT := hZ9 (fun (A4 : Option Addr) (c4 : Nat) (w4 : World) hown hgr => LookY.put (w' := w4) (A := A4) (c := c4) (o := 2) x HRA (fun v u => by simp) hw3 HGW.out.2.1 hG3 hown hgr)
      clear HRA
      go_wp2_with (at_builtin; refine wpList_append_rd _ rfl _ _ 83 rfl w3.heap.size 2 i2 _ 1 8 under83 hi2 hy0 hy1 hy2 rfl (by decide) (.slice A7 ls.length c7) ls.length (numVs ls) rfl HOW.out (some ⟨w5.heap.size, 0, none⟩) 1 1 _ [.int .i64 x] rfl HRD.out H1C.out (by unfold maxLen; omega) (by omega) (by simp; omega) ?_; intro A4 c4 w4 hown4 hgr4 hnc4 hat4; (obtain ⟨hbG, hL⟩ := PUT.out A4 c4 w4 hown4 hgr4); (have t0 := hbG.cell 2); (have t1 := hbG.free 2); (have t2 := hbG.lt); (have HLK := hZ9 hL); clear hbG hL hown4 hgr4 hat4)
      go_roundw
      case rel => exact ⟨j + 1, _, by omega, by go_num, by rw [HF1.out]; simp [hm]; exact HLK.out⟩
      case measure => simp [intOf]; omega
    ·obtain rfl : j = vs.length := by omega
     rw [List.take_length] at hY
     obtain ⟨ls, hls⟩ : ∃ ls, ls = vs.filter fun v => !decide (v ∈ nts) := ⟨_, rfl⟩
     rw [← hls] at hY
     have HLS := hZ9 hls
     obtain ⟨w4, hw4e⟩ : ∃ w4, w4 = wr := ⟨_, rfl⟩
     rw [← hw4e] at hY ⊢
     have hw4 : w.heap.size ≤ w4.heap.size := by rw [hw4e]; exact hwr2
     have hG4 : G < w4.heap.size := Nat.lt_of_lt_of_le hG3 hY.kp.below.size
     have HYE := hZ9 hY
     have H4 := hZ9 hY.blk
     clear hls hwr2 hw4e hY
     go_wp2_with fail
     go_loopw [84] (fun i wr => ∃ (j : Nat) (v4 : Value), j ≤ nts.length ∧ i = .int .i64 j ∧ LookY w w4 wr G (fun v => #[v1, v2, v3, v]) ((nts.take j).filter fun v => !decide (v ∈ vs)) v4) (fun i _ => nts.length - (intOf i).toNat)
     case atStart => exact ⟨0, nilV, Nat.zero_le _, rfl, Keeps.refl _ _ _, H4.out, own_nil _ _ _ _, fun _ _ _ => rfl⟩
     case round =>
      obtain ⟨j, v4, hj, rfl, hY⟩ := hrel
      have hwr2 : w.heap.size ≤ wr.heap.size := Nat.le_trans hw4 hY.kp.below.size
      by_cases hlt : j < nts.length
      ·obtain ⟨b, o, hA5, hb5, hcc⟩ := ((HS6.out.keeps HYE.out.kp (by decide)).keeps hY.kp (by decide)).1.2 (by omega)
       have htk : nts.take (j + 1) = nts.take j ++ [nts[j]] := by rw [List.take_succ_eq_append_getElem hlt]
       have hck : wr.cell? ⟨b, o + j, none⟩ = some (.int .i64 nts[j]) := by
        have := hcc j (by unfold numVs; simpa using hlt)
        rw [this]
        simp [numVs]
       have hfl : ((nts.take j).filter fun v => !decide (v ∈ vs)).length ≤ 100000 := by have := List.length_filter_le (fun v => !decide (v ∈ vs)) (nts.take j); rw [List.length_take] at this; omega
       have hf1 : (nts.take (j + 1)).filter (fun v => !decide (v ∈ vs)) = (nts.take j).filter (fun v => !decide (v ∈ vs)) ++ [nts[j]].filter (fun v => !decide (v ∈ vs)) := by rw [htk, List.filter_append]
       subst hA5
       generalize nts[j] = x at *
       have HF1 := hZ9 hf1
       have HY := hZ9 hY
       have HS := hZ9 (HSW.out x wr ((HSV.out.keeps HYE.out.kp (by decide)).keeps hY.kp (by decide)))
       have j1 : (j : Int) < (nts.length : Int) := by omega
       have j2 : (0 : Int) ≤ (j : Int) := by omega
       generalize (nts.take j).filter (fun v => !decide (v ∈ vs)) = ls at *
       clear hY htk hf1 hcc
       by_cases hm : x ∈ vs
       ·rw [decide_eq_true hm] at HS
        go_wp2_with (go_at_call 94; refine HS.out.mono ?_; rintro en w5 ⟨⟨kk, rfl⟩, hb5'⟩; (have HY5 := hZ9 (HY.out.below hb5' hwr2)); clear hb5')
        go_roundw
        case rel => exact ⟨j + 1, v4, by omega, by go_num, by rw [HF1.out]; simp [hm]; exact HY5.out⟩
        case measure => simp [intOf]; omega
       ·rw [decide_eq_false hm] at HS
        obtain ⟨A7, c7, hv7, hc7⟩ := own_form HY.out.own
        subst hv7
        go_upto_region 26 with (go_at_call 94; refine HS.out.mono ?_; rintro en w5 ⟨⟨kk, rfl⟩, hb5'⟩; (have HY5 := hZ9 (HY.out.below hb5' hwr2)); clear hb5')
        have hw5 : w.heap.size ≤ w5.heap.size := Nat.le_trans hw4 HY5.out.kp.below.size
        have hs5 : w4.heap.size ≤ w5.heap.size := HY5.out.kp.below.size
        have HRA := HY5.out.below (bR0.alloc nR0 (.cells #[.int .i64 x] 2)) hw5
        have x0 : w5.cell? ⟨G, 3, none⟩ = some (.slice A7 ls.length c7) := HY5.out.blk.cell 3
        have xl := HY5.out.blk.lt
        have HOW := hZ9 HRA.own
        have HRD : Hid (Rd (w5.alloc (.cells #[.int .i64 x] 2)) (w5.alloc (.cells #[.int .i64 x] 2)).heap.size 1 (some ⟨w5.heap.size, 0, none⟩) 1 [.int .i64 x]) := sl_rd (Sl.of_blk (sz := 1) (n := 1) (xs := [.int .i64 x]) (Blk.new w5 2 _) rfl)
        have H1C : Hid (∀ u ∈ ([.int .i64 x] : List Value), u.oneCell' = true) := hZ9 (by intro u hu; simp at hu; subst hu; rfl)
        have PUT := hZ9 (fun (A4 : Option Addr) (c4 : Nat) (wq : World) hown hgr => LookY.put (w' := wq) (A := A4) (c := c4) (o := 3) x HRA (fun v u => by simp) hw4 HGW.out.2.1 hG4 hown hgr)
        clear HRA
        go_wp2_with (at_builtin; refine wpList_append_rd _ rfl _ _ 83 rfl w4.heap.size 2 i2 _ 1 8 under83 hi2 hy0 hy1 hy2 rfl (by decide) (.slice A7 ls.length c7) ls.length (numVs ls) rfl HOW.out (some ⟨w5.heap.size, 0, none⟩) 1 1 _ [.int .i64 x] rfl HRD.out H1C.out (by unfold maxLen; omega) (by omega) (by simp; omega) ?_; intro A4 c4 wq hown4 hgr4 hnc4 hat4; (obtain ⟨hbG, hL⟩ := PUT.out A4 c4 wq hown4 hgr4); (have t0 := hbG.cell 3); (have t1 := hbG.free 3); (have t2 := hbG.lt); (have HLK := hZ9 hL); clear hbG hL hown4 hgr4 hat4)
        go_roundw
        case rel => exact ⟨j + 1, _, by omega, by go_num, by rw [HF1.out]; simp [hm]; exact HLK.out⟩
        case measure => simp [intOf]; omega
      ·obtain rfl : j = nts.length := by omega
       rw [List.take_length] at hY
       obtain ⟨A7, c7, hv7, hc7⟩ := own_form hY.own
       subst hv7
       obtain ⟨A3, c3, hv3, hc3⟩ := own_form HYE.out.own
       subst hv3
       obtain ⟨A2, c2, hv2, hc2⟩ := own_form HR3.out.r2
       subst hv2
       obtain ⟨A1', c1', hv1, hc1'⟩ := own_form HR3.out.r1
       subst hv1
       have HY := hZ9 hY
       have hres : Blk wr G2 96 #[nilV, nilV, nilV, nilV] := by
        have h1 := HGW.out.2.2.1
        have h2 := HGW.out.2.2.2.2
        have e1 := hY.fr G2 (Nat.lt_of_lt_of_le (Nat.lt_of_lt_of_le h1 HR3.out.sz) HYE.out.kp.below.size) h2
        have e2 := HYE.out.fr G2 (Nat.lt_of_lt_of_le h1 HR3.out.sz) h2
        have e3 := HR3.out.fr G2 h1 h2
        exact ((e1.trans e2).trans e3).trans HX21.out
       have HRES := hZ9 hres
       have HBL := hZ9 hY.blk
       have HI : Hid ((Tryz.prog.info? 96).map (·.size) = some 4) := show (Tryz.prog.info? 96).map (·.size) = some 4 from by kernel_rfl
       clear hY hres
       go_wp2_with (first
        | (refine wpList_load_row rfl 96 _ rfl G rfl 96 #[.slice A1' (l.filter (goodN s)).length c1', .slice A2 (l.filter fun n => !goodN s n).length c2, .slice A3 ls.length c3, .slice A7 (nts.filter fun v => !decide (v ∈ vs)).length c7] (0, 0) _ HBL.out Tryz.underlying96 rfl HI.out ?_)
        | (refine wpList_store_row rfl 96 _ _ rfl G2 #[.slice A1' (l.filter (goodN s)).length c1', .slice A2 (l.filter fun n => !goodN s n).length c2, .slice A3 ls.length c3, .slice A7 (nts.filter fun v => !decide (v ∈ vs)).length c7] rfl rfl 96 _ HRES.out HI.out rfl (by simp [Value.oneCell']) ?_))
       refine bodyPost_ret (v := .agg #[.slice A1' (l.filter (goodN s)).length c1', .slice A2 (l.filter fun n => !goodN s n).length c2, .slice A3 ls.length c3, .slice A7 (nts.filter fun v => !decide (v ∈ vs)).length c7]) (results_cell_row Tryz.results42 _ _ G2 96 _ (0, 0) _ rfl (setRow_blk HRES.out _) Tryz.underlying96 rfl HI.out) rfl ?_
       have kf : Keeps w.heap.size [96] wr (wr.setRow G2 #[.slice A1' (l.filter (goodN s)).length c1', .slice A2 (l.filter fun n => !goodN s n).length c2, .slice A3 ls.length c3, .slice A7 (nts.filter fun v => !decide (v ∈ vs)).length c7]) :=
        Keeps.of_grown (setRow_gby _ _ _) hwr2 (fun g e => by
         injection e with e
         subst e
         refine ⟨HGW.out.2.2.2.1, fun t ht => ?_⟩
         have := HRES.out.ty
         rw [this] at ht
         injection ht with ht
         simp [← ht])
       have k34 := HYE.out.kp
       have k4r := HY.out.kp
       have eG : goodL s = l.filter (goodN s) := by unfold goodL; rw [HL2.out]
       have eB : badNs s = l.filter fun n => !goodN s n := by unfold badNs; rw [HL2.out]
       have eL : lostVs s = ls := by unfold lostVs; rw [← HL2.out, ← HVS.out, ← HNT.out, HLS.out]
       have eR : bareVs s = nts.filter fun v => !decide (v ∈ vs) := by unfold bareVs; rw [← HL2.out, ← HVS.out, ← HNT.out]
       rw [eG, eB, eL, eR]
       refine ⟨A1', c1', A2, c2, A3, c3, A7, c7, rfl, ?_, ?_, ?_, ?_, ?_⟩
       ·exact (((Sl.of_own HR3.out.r1).keeps k34 (by decide)).keeps k4r (by decide)).keeps kf (by decide)
       ·exact (((Sl.of_own HR3.out.r2).keeps k34 (by decide)).keeps k4r (by decide)).keeps kf (by decide)
       ·exact ((Sl.of_own HYE.out.own).keeps k4r (by decide)).keeps kf (by decide)
       ·exact (Sl.of_own HY.out.own).keeps kf (by decide)
       ·exact (((HBW.out.trans HR3.out.kp.below).trans k34.below).trans k4r.below).trans kf.below
end Go.Proofs.YtmgmfnimaafkdaaGreatDoor
