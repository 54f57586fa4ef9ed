/- What a store tells, sorted by the document: the walk of 'sorted'. -/
import Derived.Test.YtmgmfnimaafkdaaGreatDoorXW
import Derived.Test.YtmgmfnimaafkdaaGreatDoorXT
import Derived.Test.YtmgmfnimaafkdaaGreatDoorXC
import Derived.Test.YtmgmfnimaafkdaaGreatDoorVJ
namespace Go.Proofs.YtmgmfnimaafkdaaGreatDoor
open Go.RowKit Go.Maps
set_option maxRecDepth 100000

theorem under100s : Tryz.prog.underlying 100 = some (.slice 105) := by kernel_rfl
theorem info105s : (Tryz.prog.info? 105).map (fun i => (i.zero, i.size, i.bytes)) = some (some (.agg #[.int .i64 0, .int .i64 0]), 2, 16) := by kernel_rfl
theorem results_tmp4 {fn : Func} {t u v x : Tmp} (h : fn.results = #[.tmp t, .tmp u, .tmp v, .tmp x]) (tmps : Array Value) (P : Program) (w : World) :
  (results fn tmps).run P w = .ok (.tuple #[tmps.getD t undef, tmps.getD u undef, tmps.getD v undef, tmps.getD x undef]) w := by
 simp [results, h]
theorem getGood_any {w : World} {base Sb lo E : Nat} {s : StV} {m : StM} {ts : List (NameV × List UInt8)} (h : StR w base Sb s m) (ha : StAll s lo E ts) (n1 n2 : Int) (hn : (n1, n2) ∈ namesL s) :
  Calls Tryz.prog 30 #[.pointer (some ⟨Sb, 0, none⟩), .agg #[.int .i64 n1, .int .i64 n2]] w fun e w' => ∃ (A : Option Addr) (n c er : Nat), e = .returned (.tuple #[.slice A n c, .int .i64 er]) ∧ decide (er = 0) = goodN s (n1, n2) ∧ Below w.heap.size w w' := by
 obtain ⟨⟨⟨_, _⟩, x⟩, hy, he⟩ := List.mem_map.1 hn
 obtain ⟨rfl, rfl⟩ := Prod.mk.injEq .. ▸ he
 obtain ⟨q, hq, hye, hS⟩ := ha.side.mem _ hy
 have hgt := getL_in ha.srtS.nodup hy
 obtain ⟨a, h1, h2, h3⟩ := hS.mark ha.log.s1 ha.log.s2 ha.log.on
 obtain ⟨r1, r2⟩ := ha.right _ hy
 have hfew := ha.few
 refine (getM_any h (_, _) ⟨wfI_right r1, wfI_right r2⟩ x hgt a h3 h1 (by omega)).mono fun e w' ht => ?_
 obtain ⟨A, n, c, he, hq⟩ := ht.shape
 refine ⟨A, n, c, _, he, ?_, hq.2⟩
 unfold goodN
 rw [hgt]
 simp only [Option.getD_some]
structure SortX (w1 wr : World) (g b : List NameV) (vs : List Int) (v1 v2 v3 : Value) : Prop where
 bel : Below w1.heap.size w1 wr
 r1 : wr.ownsRow w1.heap.size 105 2 v1 g.length (nameRows g)
 r2 : wr.ownsRow w1.heap.size 105 2 v2 b.length (nameRows b)
 ne : ∀ k, v1.ownBlock = some k → v2.ownBlock ≠ some k
 r3 : wr.ownsRow w1.heap.size 2 1 v3 vs.length (numVs vs)
theorem SortX.below {w1 wr w' : World} {g b : List NameV} {vs : List Int} {v1 v2 v3 : Value} (h : SortX w1 wr g b vs v1 v2 v3) (hb : Below wr.heap.size wr w') : SortX w1 w' g b vs v1 v2 v3 := by
 have k : Keeps w1.heap.size [] wr w' := Keeps.of_below hb h.bel.size
 exact ⟨h.bel.trans k.below, own_keeps h.r1 k (by simp), own_keeps h.r2 k (by simp), h.ne, own_keeps h.r3 k (by simp)⟩
theorem own_low {w : World} {base e size n : Nat} {v : Value} {xs : List Value} (h : w.ownsRow base e size v n xs) : ∀ k, v.ownBlock = some k → base ≤ k := fun k hk => by
 rcases h.2 with ⟨hv, _⟩ | ⟨g', cap, cur, hv, hbg, _, _⟩ <;> (rw [hv] at hk; simp [Value.ownBlock] at hk)
 omega
theorem SortX.good {w1 wr w' : World} {c : Nat} {g b : List NameV} {vs : List Int} {v1 v2 v3 : Value} {A : Option Addr} (n : NameV) (h : SortX w1 wr g b vs v1 v2 v3)
  (hown : w'.ownsRow w1.heap.size 105 2 (.slice A (g.length + 1) c) (g.length + 1) (nameRows g ++ [.int .i64 n.1, .int .i64 n.2])) (hgr : wr.grownBy w' v1.ownBlock) (hat : (Value.slice A (g.length + 1) c).ownBlock = v1.ownBlock ∨ (Value.slice A (g.length + 1) c).ownBlock = some wr.heap.size) :
  SortX w1 w' (g ++ [n]) b vs (.slice A (g.length + 1) c) v2 v3 := by
 refine ⟨h.bel.trans (grown_below hgr h.bel.size (own_low h.r1)), ?_, own_kept h.r2 hgr (fun k hk e => h.ne k e hk), own_new (w := wr) hat h.r2 h.ne, own_kept h.r3 hgr (fun k hk e => by have h5 := own_ty h.r1 e; have h6 := own_ty h.r3 hk; rw [h5] at h6; exact absurd h6 (by decide))⟩
 rw [nameRows_append, nameRows_one, List.length_append, List.length_singleton]; exact hown
theorem SortX.bad {w1 wr w' : World} {c : Nat} {g b : List NameV} {vs : List Int} {v1 v2 v3 : Value} {A : Option Addr} (n : NameV) (h : SortX w1 wr g b vs v1 v2 v3)
  (hown : w'.ownsRow w1.heap.size 105 2 (.slice A (b.length + 1) c) (b.length + 1) (nameRows b ++ [.int .i64 n.1, .int .i64 n.2])) (hgr : wr.grownBy w' v2.ownBlock) (hat : (Value.slice A (b.length + 1) c).ownBlock = v2.ownBlock ∨ (Value.slice A (b.length + 1) c).ownBlock = some wr.heap.size) :
  SortX w1 w' g (b ++ [n]) vs v1 (.slice A (b.length + 1) c) v3 := by
 refine ⟨h.bel.trans (grown_below hgr h.bel.size (own_low h.r2)), own_kept h.r1 hgr (fun k hk e => h.ne k hk e), ?_, ?_, own_kept h.r3 hgr (fun k hk e => by have h5 := own_ty h.r2 e; have h6 := own_ty h.r3 hk; rw [h5] at h6; exact absurd h6 (by decide))⟩
 ·rw [nameRows_append, nameRows_one, List.length_append, List.length_singleton]; exact hown
 ·intro k hk e
  exact own_new (w := wr) hat h.r1 (fun k h5 h6 => h.ne k h6 h5) k e hk
theorem SortX.lost {w1 wr w' : World} {c : Nat} {g b : List NameV} {vs : List Int} {v1 v2 v3 : Value} {A : Option Addr} (v : Int) (h : SortX w1 wr g b vs v1 v2 v3)
  (hown : w'.ownsRow w1.heap.size 2 1 (.slice A (vs.length + 1) c) (vs.length + 1) (numVs vs ++ [.int .i64 v])) (hgr : wr.grownBy w' v3.ownBlock) : SortX w1 w' g b (vs ++ [v]) v1 v2 (.slice A (vs.length + 1) c) := by
 refine ⟨h.bel.trans (grown_below hgr h.bel.size (own_low h.r3)), own_kept h.r1 hgr (fun k hk e => ?_), own_kept h.r2 hgr (fun k hk e => ?_), h.ne, ?_⟩
 ·have h5 := own_ty h.r3 e; have h6 := own_ty h.r1 hk; rw [h5] at h6; exact absurd h6 (by decide)
 ·have h5 := own_ty h.r3 e; have h6 := own_ty h.r2 hk; rw [h5] at h6; exact absurd h6 (by decide)
 ·rw [numVs_snoc, List.length_append, List.length_singleton]; exact hown
theorem lostF_len (nts : List Int) : ∀ (l : List NameV) (vs : List Int), (l.foldl (lostStep nts) vs).length ≤ vs.length + l.length
 | [], vs => by simp
 | n :: l, vs => by
  rw [List.foldl_cons]
  have h1 := lostF_len nts l (lostStep nts vs n)
  have h2 : (lostStep nts vs n).length ≤ vs.length + 1 := by unfold lostStep; split <;> simp
  simp only [List.length_cons]
  omega
theorem isSome_notes (s : StV) (v : Int) : (getL s.notes v).isSome = decide (v ∈ notesL s) := by
 have h1 : (getL s.notes v).isSome = true ↔ v ∈ notesL s := getL_some
 by_cases e : v ∈ notesL s
 ·rw [decide_eq_true e]; exact h1.2 e
 ·rw [decide_eq_false e]
  cases hh : (getL s.notes v).isSome with
  | false => rfl
  | true => exact absurd (h1.1 hh) e
set_option maxHeartbeats 16000000 in
theorem sorted_any {w : World} {base Sb lo E : Nat} {s : StV} {m : StM} {ts : List (NameV × List UInt8)} (h : StR w base Sb s m) (ha : StAll s lo E ts) (hr : ∀ x ∈ s.slices, NumOK x ∧ x.2.len ≤ 1048576) (hn1 : s.slices.length ≤ 100000) (hn2 : s.notes.length ≤ 100000) :
  Calls Tryz.prog 48 #[.pointer (some ⟨Sb, 0, none⟩)] w fun e w' => ∃ A1 c1 A2 c2 A3 c3 A4 c4, e = .returned (.tuple #[.slice A1 (goodL s).length c1, .slice A2 (badNs s).length c2, .slice A3 (lostVs s).length c3, .slice A4 (bareVs s).length c4]) ∧
   Sl w' 105 2 A1 (goodL s).length (nameRows (goodL s)) ∧ Sl w' 105 2 A2 (badNs s).length (nameRows (badNs s)) ∧ Sl w' 2 1 A3 (lostVs s).length (numVs (lostVs s)) ∧ Sl w' 2 1 A4 (bareVs s).length (numVs (bareVs s)) ∧ Below w.heap.size w w' := by
 have HA := hZ9 ha
 have hl : (namesL s).length = s.slices.length := by simp [namesL]
 have hq : (notesL s).length = s.notes.length := by simp [notesL]
 obtain ⟨i105, hi105, hz0, hz1, hz2⟩ := info_parts info105s
 obtain ⟨i2, hi2, hy0, hy1, hy2⟩ := info_parts info2
 have HNA := hZ9 (show ∀ wy, Below w.heap.size w wy → Calls Tryz.prog 35 #[.pointer (some ⟨Sb, 0, none⟩)] wy fun e w' => ∃ A c, e = .returned (.slice A (namesL s).length c) ∧ Sl w' 73 2 A (namesL s).length (nameRows (namesL s)) ∧ Below wy.heap.size wy w' from fun wy hy => (names_any (h.below hy) ha.srtS hr (by omega)).mono fun e w' ⟨A, c, h1, h2, h3⟩ => ⟨A, c, by rw [hl]; exact h1, by rw [hl]; exact Sl.of_own h2, h3⟩)
 have HNO := hZ9 (show ∀ wy, Below w.heap.size w wy → Calls Tryz.prog 36 #[.pointer (some ⟨Sb, 0, none⟩)] wy fun e w' => ∃ A c, e = .returned (.slice A (notesL s).length c) ∧ Sl w' 2 1 A (notesL s).length (numVs (notesL s)) ∧ Below wy.heap.size wy w' from fun wy hy => (notes_any (h.below hy) ha.srtN ha.txt (by omega)).mono fun e w' ⟨A, c, h1, h2, h3⟩ => ⟨A, c, by rw [hq]; exact h1, by rw [hq]; exact Sl.of_own h2, h3⟩)
 have HGG := hZ9 (show ∀ (wy : World) (n1 n2 : Int), Below w.heap.size w wy → (n1, n2) ∈ namesL s → Calls Tryz.prog 30 #[.pointer (some ⟨Sb, 0, none⟩), .agg #[.int .i64 n1, .int .i64 n2]] wy fun e w' => ∃ (A : Option Addr) (n c er : Nat), e = .returned (.tuple #[.slice A n c, .int .i64 er]) ∧ decide (er = 0) = goodN s (n1, n2) ∧ Below wy.heap.size wy w' from fun wy n1 n2 hy hn => getGood_any (h.below hy) ha n1 n2 hn)
 have HTX := hZ9 (show ∀ (wy : World) (n1 n2 : Int), Below w.heap.size w wy → (n1, n2) ∈ namesL s → Calls Tryz.prog 33 #[.pointer (some ⟨Sb, 0, none⟩), .int .i64 n1] wy fun e w' => (∃ t : List UInt8, e = .returned (.tuple #[strV t, .bool (decide (n1 ∈ notesL s))])) ∧ wy = w' from fun wy n1 n2 hy hn => by
  obtain ⟨x, hx, he⟩ := List.mem_map.1 hn
  have := (ha.right _ hx).1
  rw [he] at this
  exact (storeText_any (h.below hy) n1 (wfI_right this)).mono fun e w' ⟨h1, h2⟩ => ⟨⟨(getL s.notes n1).getD [], by rw [h1, isSome_notes]⟩, h2⟩)
 have HB0 : Hid (Below w.heap.size w w) := bR0
 obtain ⟨l, hl2⟩ : ∃ l, l = namesL s := ⟨_, rfl⟩
 obtain ⟨nts, hnts⟩ : ∃ nts, nts = notesL s := ⟨_, rfl⟩
 have hsrt : l.Pairwise fun x y => ltN x y = true := by rw [hl2]; exact List.pairwise_map.2 ha.srtS
 have hll : l.length ≤ 100000 := by rw [hl2, hl]; exact hn1
 have hnl : nts.length ≤ 100000 := by rw [hnts, hq]; exact hn2
 have HFIN := hZ9 (show goodL s = l.filter (goodN s) ∧ badNs s = (l.filter fun n => !goodN s n) ∧ lostVs s = lostF nts l ∧ bareVs s = nts.filter (fun v => !decide (v ∈ versL l)) from by
  rw [hl2, hnts]
  exact ⟨rfl, rfl, (lost_is s ha.srtS).symm, rfl⟩)
 have HVA := hZ9 (show ∀ v : Int, l.any (fun n => decide (n.1 = v)) = decide (v ∈ versL l) from fun v => by rw [hl2]; exact vers_any s ha.srtS v)
 rw [← hl2] at HNA HGG HTX
 rw [← hnts] at HNO HTX
 generalize goodN s = gd at *
 clear h ha hr hl hq hl2 hnts HA
 go_enter Tryz.func48, Tryz.ntmps48
 go_wp2_with (go_at_call 35; refine (HNA.out _ HB0.out).mono ?_; rintro en w1 ⟨A1, c1, rfl, hs1, hb1⟩; (have HS1 := hZ9 hs1); (have HB1 := hZ9 hb1); clear hs1 hb1)
 obtain ⟨k, hk⟩ : ∃ k, k = l.length := ⟨_, rfl⟩
 have HKL := hZ9 hk
 rw [← hk] at HNA HS1 ⊢
 clear hk HB0
 have hw1 := HB1.out.size
 have hk6 : k ≤ 100000 := by have := HKL.out; omega
 go_loopw [2, 3, 4, 21] (fun v1 v2 v3 i wr => ∃ j : Nat, j ≤ k ∧ i = .int .i64 j ∧ SortX w1 wr ((l.take j).filter gd) ((l.take j).filter fun n => !gd n) (lostF nts (l.take j)) v1 v2 v3) (fun _ _ _ i _ => k - (intOf i).toNat)
 case atStart => exact ⟨0, Nat.zero_le _, rfl, bR0, own_nil _ _ _ _, own_nil _ _ _ _, (fun k hk => by cases hk), own_nil _ _ _ _⟩
 case round =>
  obtain ⟨j, hj, rfl, hR⟩ := hrel
  have HR := hZ9 hR
  clear hR
  by_cases hlt : j < k
  ·have hjl : j < l.length := by have := HKL.out; omega
   obtain ⟨b, o, rfl, hbl, q0, q1⟩ := names_rd (HS1.out.below HR.out.bel).1 j hjl HKL.out
   have htk : l.take (j + 1) = l.take j ++ [l[j]] := by rw [List.take_succ_eq_append_getElem hjl]
   have hmem := List.getElem_mem hjl
   have HTK := hZ9 htk
   have hgl : ((l.take j).filter gd).length ≤ 100000 := by have := List.length_filter_le gd (l.take j); rw [List.length_take] at this; omega
   have hbl2 : ((l.take j).filter fun n => !gd n).length ≤ 100000 := by have := List.length_filter_le (fun n => !gd n) (l.take j); rw [List.length_take] at this; omega
   have hvl : (lostF nts (l.take j)).length ≤ 100000 := by have := lostF_len nts (l.take j) []; rw [List.length_take] at this; unfold lostF; simp at this ⊢; omega
   clear htk
   generalize l[j] = n at *
   obtain ⟨n1, n2⟩ := n
   simp only at q0 q1
   have j1 : (j : Int) < (k : Int) := by omega
   have j2 : (0 : Int) ≤ (j : Int) := by omega
   obtain ⟨gs, hgs⟩ : ∃ gs, gs = (l.take j).filter gd := ⟨_, rfl⟩
   obtain ⟨bs, hbs⟩ : ∃ bs, bs = (l.take j).filter fun n => !gd n := ⟨_, rfl⟩
   obtain ⟨vs, hvs⟩ : ∃ vs, vs = lostF nts (l.take j) := ⟨_, rfl⟩
   rw [← hgs, ← hbs, ← hvs] at HR
   rw [← hgs] at hgl
   rw [← hbs] at hbl2
   rw [← hvs] at hvl
   have HN := hZ9 (show (l.take (j + 1)).filter gd = gs ++ [(n1, n2)].filter gd ∧ (l.take (j + 1)).filter (fun n => !gd n) = bs ++ [(n1, n2)].filter (fun n => !gd n) ∧ lostF nts (l.take (j + 1)) = lostStep nts vs (n1, n2) from by
    rw [HTK.out, List.filter_append, List.filter_append, lostF_snoc, hgs, hbs, hvs]
    exact ⟨rfl, rfl, rfl⟩)
   clear hgs hbs hvs HTK hjl
   have HRX := hZ9 (HR.out.below ((bR0.alloc nR0 (.cells #[.int .i64 n1, .int .i64 n2] 73)).alloc (by simp) (.cells #[.int .i64 n1, .int .i64 n2] 105)))
   have HK7 := hZ9 ((Blk.new wr 73 #[.int .i64 n1, .int .i64 n2]).alloc (.cells #[.int .i64 n1, .int .i64 n2] 105))
   have HK8 : Hid (Blk ((wr.alloc (.cells #[.int .i64 n1, .int .i64 n2] 73)).alloc (.cells #[.int .i64 n1, .int .i64 n2] 105)) (wr.heap.size + 1) 105 #[.int .i64 n1, .int .i64 n2]) := Blk.new_eq0 (by simp)
   go_upto_region 5 with fail
   generalize (wr.alloc (.cells #[.int .i64 n1, .int .i64 n2] 73)).alloc (.cells #[.int .i64 n1, .int .i64 n2] 105) = wx at *
   obtain ⟨g7, hg7⟩ : ∃ g, g = wr.heap.size := ⟨_, rfl⟩
   obtain ⟨g8, hg8⟩ : ∃ g, g = wr.heap.size + 1 := ⟨_, rfl⟩
   rw [← hg8] at HK8 ⊢
   rw [← hg7] at HK7 ⊢
   have HN1 := hZ9 (show ∀ q, u2.ownBlock = some q → q < g7 from fun q e => by have := tyOf_lt (own_ty HR.out.r1 e); omega)
   have HN2 := hZ9 (show ∀ q, u3.ownBlock = some q → q < g7 from fun q e => by have := tyOf_lt (own_ty HR.out.r2 e); omega)
   have hg78 : g7 < g8 := by omega
   have z0 : wx.cell? ⟨g7, 0, none⟩ = some (.int .i64 n1) := HK7.out.cell 0
   have z1 : wx.cell? ⟨g7, 1, none⟩ = some (.int .i64 n2) := HK7.out.cell 1
   have hbx : Below w.heap.size w wx := HB1.out.trans (HRX.out.bel.mono hw1)
   have HC := hZ9 (HGG.out wx n1 n2 hbx hmem)
   clear hg7 hg8 hbl q0 q1 HR hbx
   go_upto_if 37 with (go_at_call 30; refine HC.out.mono ?_; rintro en w5 ⟨A2, k2, c2, er, rfl, hgd, hb5⟩; (have HGD := hZ9 hgd); (have HR5 := hZ9 (HRX.out.below hb5)); (have HK75 := hZ9 (HK7.out.below hb5 HK7.out.lt)); (have HK85 := hZ9 (HK8.out.below hb5 HK8.out.lt)); clear hb5 hgd)
   clear z0 z1 HC HRX HK7 HK8
   go_cut [2, 3, 21] from 21 to 76 (fun v2 v3 v21 wx => ∃ x y, v2 = x ∧ v3 = y ∧ v21 = .int .i64 j ∧ SortX w1 wx (gs ++ [(n1, n2)].filter gd) (bs ++ [(n1, n2)].filter fun n => !gd n) vs x y u4 ∧ Blk wx g7 73 #[.int .i64 n1, .int .i64 n2])
   case first =>
    by_cases hgd : gd (n1, n2) = true
    ·have her : er = 0 := by have := HGD.out; rw [hgd] at this; simpa using this
     have a1 : ((er : Int) == 0) = true := by rw [her]; rfl
     have e1 : gs ++ [(n1, n2)].filter gd = gs ++ [(n1, n2)] := by simp [hgd]
     have e2 : bs ++ [(n1, n2)].filter (fun n => !gd n) = bs := by simp [hgd]
     clear her
     have HRA := HR5.out.below (bR0.alloc nR0 (.cells #[.int .i64 n1, .int .i64 n2] 105))
     obtain ⟨A5, c5, hv5, hc5⟩ := own_form HRA.r1
     subst hv5
     have y0 : w5.cell? ⟨g8, 0, none⟩ = some (.int .i64 n1) := HK85.out.cell 0
     have y1 : w5.cell? ⟨g8, 1, none⟩ = some (.int .i64 n2) := HK85.out.cell 1
     have yl := HK85.out.lt
     have HKA := hZ9 ((Blk.alloc HK75.out (.cells #[.int .i64 n1, .int .i64 n2] 105)))
     have HRD : Hid (Rd (w5.alloc (.cells #[.int .i64 n1, .int .i64 n2] 105)) (w5.alloc (.cells #[.int .i64 n1, .int .i64 n2] 105)).heap.size 2 (some ⟨w5.heap.size, 0, none⟩) 1 [.int .i64 n1, .int .i64 n2]) := sl_rd (Sl.of_blk (sz := 2) (n := 1) (xs := [.int .i64 n1, .int .i64 n2]) (Blk.new w5 105 _) rfl)
     have H1C : Hid (∀ u ∈ ([.int .i64 n1, .int .i64 n2] : List Value), u.oneCell' = true) := hZ9 (by intro u hu; simp at hu; rcases hu with rfl | rfl <;> rfl)
     have PUT := hZ9 (fun (A4 : Option Addr) (c4 : Nat) (w4 : World) hown hgr hat => SortX.good (w' := w4) (A := A4) (c := c4) (n1, n2) HRA hown hgr hat)
     have HOW := hZ9 HRA.r1
     have HNG := hZ9 (show (Value.slice A5 gs.length c5).ownBlock ≠ some g7 from fun e => by have := HN1.out _ e; omega)
     have hs5 : w1.heap.size ≤ w5.heap.size := HR5.out.bel.size
     clear HRA hgd
     go_wp2_with (at_builtin; refine wpList_append_rd _ rfl _ _ 100 rfl w1.heap.size 105 i105 _ 2 16 under100s hi105 hz0 hz1 hz2 rfl (by decide) (.slice A5 gs.length c5) gs.length (nameRows gs) rfl HOW.out (some ⟨w5.heap.size, 0, none⟩) 1 1 _ [.int .i64 n1, .int .i64 n2] rfl HRD.out H1C.out (by unfold maxLen; omega) (by omega) (by simp; omega) ?_; intro A4 c4 w4 hown4 hgr4 hnc4 hat4; (have HLK := hZ9 (PUT.out A4 c4 w4 hown4 hgr4 hat4)); (have HKG := hZ9 (HKA.out.grown hgr4 HNG.out)); clear hown4 hgr4 hat4)
     go_meet
     refine ⟨_, _, rfl, rfl, rfl, ?_, HKG.out⟩
     rw [e1, e2]
     exact HLK.out
    ·have hgf : gd (n1, n2) = false := by simpa using hgd
     have her : ¬ er = 0 := by have := HGD.out; rw [hgf] at this; simpa using this
     have a1 : ((er : Int) == 0) = false := beq_eq_false_iff_ne.2 (by omega)
     have a2 : ¬ (er : Int) = 0 := by omega
     have e1 : gs ++ [(n1, n2)].filter gd = gs := by simp [hgf]
     have e2 : bs ++ [(n1, n2)].filter (fun n => !gd n) = bs ++ [(n1, n2)] := by simp [hgf]
     clear her hgf
     have HRA := HR5.out.below (bR0.alloc nR0 (.cells #[.int .i64 n1, .int .i64 n2] 105))
     obtain ⟨A5, c5, hv5, hc5⟩ := own_form HRA.r2
     subst hv5
     have y0 : w5.cell? ⟨g8, 0, none⟩ = some (.int .i64 n1) := HK85.out.cell 0
     have y1 : w5.cell? ⟨g8, 1, none⟩ = some (.int .i64 n2) := HK85.out.cell 1
     have yl := HK85.out.lt
     have HKA := hZ9 ((Blk.alloc HK75.out (.cells #[.int .i64 n1, .int .i64 n2] 105)))
     have HRD : Hid (Rd (w5.alloc (.cells #[.int .i64 n1, .int .i64 n2] 105)) (w5.alloc (.cells #[.int .i64 n1, .int .i64 n2] 105)).heap.size 2 (some ⟨w5.heap.size, 0, none⟩) 1 [.int .i64 n1, .int .i64 n2]) := sl_rd (Sl.of_blk (sz := 2) (n := 1) (xs := [.int .i64 n1, .int .i64 n2]) (Blk.new w5 105 _) rfl)
     have H1C : Hid (∀ u ∈ ([.int .i64 n1, .int .i64 n2] : List Value), u.oneCell' = true) := hZ9 (by intro u hu; simp at hu; rcases hu with rfl | rfl <;> rfl)
     have PUT := hZ9 (fun (A4 : Option Addr) (c4 : Nat) (w4 : World) hown hgr hat => SortX.bad (w' := w4) (A := A4) (c := c4) (n1, n2) HRA hown hgr hat)
     have HOW := hZ9 HRA.r2
     have HNG := hZ9 (show (Value.slice A5 bs.length c5).ownBlock ≠ some g7 from fun e => by have := HN2.out _ e; omega)
     have hs5 : w1.heap.size ≤ w5.heap.size := HR5.out.bel.size
     clear HRA hgd
     go_wp2_with (at_builtin; refine wpList_append_rd _ rfl _ _ 100 rfl w1.heap.size 105 i105 _ 2 16 under100s hi105 hz0 hz1 hz2 rfl (by decide) (.slice A5 bs.length c5) bs.length (nameRows bs) rfl HOW.out (some ⟨w5.heap.size, 0, none⟩) 1 1 _ [.int .i64 n1, .int .i64 n2] rfl HRD.out H1C.out (by unfold maxLen; omega) (by omega) (by simp; omega) ?_; intro A4 c4 w4 hown4 hgr4 hnc4 hat4; (have HLK := hZ9 (PUT.out A4 c4 w4 hown4 hgr4 hat4)); (have HKG := hZ9 (HKA.out.grown hgr4 HNG.out)); clear hown4 hgr4 hat4)
     go_meet
     refine ⟨_, _, rfl, rfl, rfl, ?_, HKG.out⟩
     rw [e1, e2]
     exact HLK.out
   case rest =>
    obtain ⟨x, y, rfl, rfl, rfl, hX, hkg⟩ := hcut
    obtain ⟨gs2, hgs2⟩ : ∃ gs2, gs2 = gs ++ [(n1, n2)].filter gd := ⟨_, rfl⟩
    obtain ⟨bs2, hbs2⟩ : ∃ bs2, bs2 = bs ++ [(n1, n2)].filter (fun n => !gd n) := ⟨_, rfl⟩
    rw [← hgs2, ← hbs2] at hX HN
    obtain ⟨A5, c5, hv5, hc5⟩ := own_form hX.r3
    subst hv5
    have HXC := hZ9 hX
    have HKG := hZ9 hkg
    have y0 : wc.cell? ⟨g7, 0, none⟩ = some (.int .i64 n1) := hkg.cell 0
    have yl := hkg.lt
    have HTC := hZ9 (HTX.out wc n1 n2 (HB1.out.trans (hX.bel.mono hw1)) hmem)
    clear hX hkg hgs2 hbs2 HR5 HK75 HK85 HGD HN1 HN2
    by_cases hm : n1 ∈ nts
    ·rw [decide_eq_true hm] at HTC
     have hls : lostStep nts vs (n1, n2) = vs := if_pos (.inl hm)
     have HLS := hZ9 hls
     clear hls
     go_upto_region 10 with (go_at_call 33; refine HTC.out.mono ?_; rintro en w6 ⟨⟨t, rfl⟩, rfl⟩)
     go_quiet (fail)
     go_wp2_with fail
     go_roundw
     case rel => exact ⟨j + 1, by omega, by go_num, by rw [HN.out.1, HN.out.2.1, HN.out.2.2, HLS.out]; exact HXC.out.below (bl_drewN bR0 _)⟩
     case measure => simp [intOf]; omega
    ·rw [decide_eq_false hm] at HTC
     go_upto_region 10 with (go_at_call 33; refine HTC.out.mono ?_; rintro en w6 ⟨⟨t, rfl⟩, rfl⟩)
     clear HTC
     go_cut [21, 70] from 21 to 76 (fun v21 v70 wx => v21 = .int .i64 j ∧ v70 = .bool (decide (vs.getLast? ≠ some n1)) ∧ Below wc.heap.size wc wx)
     case first =>
      by_cases hz : vs.length = 0
      ·have hv0 : vs.getLast? ≠ some n1 := by
        have : vs = [] := List.eq_nil_of_length_eq_zero hz
        rw [this]; simp
       have HD := hZ9 (decide_eq_true hv0)
       have a1 : ((vs.length : Int) == 0) = true := beq_iff_eq.2 (by omega)
       have a2 : (vs.length : Int) = 0 := by omega
       clear hv0
       go_quiet (fail)
       go_wp2_with fail
       go_meet
       exact ⟨rfl, by rw [HD.out], bl_drewN bR0 _⟩
      ·obtain ⟨k0, hk0⟩ : ∃ k0, k0 + 1 = vs.length := ⟨vs.length - 1, by omega⟩
       have hk1 : k0 < vs.length := by omega
       have hlast : vs.getLast? = some (vs[k0]'hk1) := last_at (vs := vs) (k0 := k0) hk0
       obtain ⟨b5, o5, hA5, hb5, hck⟩ := nums_rd (Sl.of_own HXC.out.r3).1 k0 hk1 rfl
       subst hA5
       have a1 : ((vs.length : Int) == 0) = false := beq_eq_false_iff_ne.2 (by omega)
       have a2 : ¬ ((vs.length : Int) = 0) := by omega
       have a3 : (vs.length : Int) - 1 = (k0 : Int) := by omega
       have a4 : IntKind.i64.wrap (k0 : Int) = (k0 : Int) := by rw [IntKind.wrap_i64]; omega
       have a5 : (k0 : Int) < (vs.length : Int) := by omega
       have a6 : (0 : Int) ≤ (k0 : Int) := by omega
       clear hk0
       generalize vs[k0] = lv at *
       have HLA := hZ9 hlast
       clear hlast hk1
       by_cases hle : lv = n1
       ·subst hle
        have HD := hZ9 (show decide (vs.getLast? ≠ some lv) = false from decide_eq_false (by rw [HLA.out]; simp))
        go_quiet (fail)
        go_wp2_with fail
        go_meet
        exact ⟨rfl, by rw [HD.out], bl_drewN bR0 _⟩
       ·have HD := hZ9 (show decide (vs.getLast? ≠ some n1) = true from decide_eq_true (by rw [HLA.out]; intro h; injection h with h; exact hle h))
        have a7 : (lv != n1) = true := by simpa using hle
        go_quiet (fail)
        go_wp2_with fail
        go_meet
        exact ⟨rfl, by rw [HD.out], bl_drewN bR0 _⟩
     case rest =>
      obtain ⟨rfl, rfl, hb6⟩ := hcut
      have HXD := hZ9 (HXC.out.below hb6)
      have HKD := hZ9 (HKG.out.below hb6 HKG.out.lt)
      clear hb6 y0 yl
      have y2 : wc.cell? ⟨g7, 0, none⟩ = some (.int .i64 n1) := HKD.out.cell 0
      have yl2 := HKD.out.lt
      by_cases hlast : vs.getLast? = some n1
      ·rw [decide_eq_false (fun h => h hlast)]
       have hls : lostStep nts vs (n1, n2) = vs := if_pos (.inr hlast)
       have HLS := hZ9 hls
       clear hls hlast
       go_wp2_with fail
       go_roundw
       case rel => exact ⟨j + 1, by omega, by go_num, by rw [HN.out.1, HN.out.2.1, HN.out.2.2, HLS.out]; exact HXD.out⟩
       case measure => simp [intOf]; omega
      ·rw [decide_eq_true hlast]
       have hls : lostStep nts vs (n1, n2) = vs ++ [n1] := if_neg (by rintro (h | h); (· exact hm h); exact hlast h)
       have HLS := hZ9 hls
       have HRA := HXD.out.below (bR0.alloc nR0 (.cells #[.int .i64 n1] 2))
       have HOW := hZ9 HRA.r3
       have HRD : Hid (Rd (wc.alloc (.cells #[.int .i64 n1] 2)) (wc.alloc (.cells #[.int .i64 n1] 2)).heap.size 1 (some ⟨wc.heap.size, 0, none⟩) 1 [.int .i64 n1]) := sl_rd (Sl.of_blk (sz := 1) (n := 1) (xs := [.int .i64 n1]) (Blk.new wc 2 _) rfl)
       have H1C : Hid (∀ u ∈ ([.int .i64 n1] : List Value), u.oneCell' = true) := hZ9 (by intro u hu; simp at hu; subst hu; rfl)
       have PUT := hZ9 (fun (A4 : Option Addr) (c4 : Nat) (w4 : World) hown hgr => SortX.lost (w' := w4) (A := A4) (c := c4) n1 HRA hown hgr)
       have hs5 : w1.heap.size ≤ wc.heap.size := HXD.out.bel.size
       clear HRA hlast hls hm
       go_wp2_with (at_builtin; refine wpList_append_rd _ rfl _ _ 83 rfl w1.heap.size 2 i2 _ 1 8 under83 hi2 hy0 hy1 hy2 rfl (by decide) (.slice A5 vs.length c5) vs.length (numVs vs) rfl HOW.out (some ⟨wc.heap.size, 0, none⟩) 1 1 _ [.int .i64 n1] rfl HRD.out H1C.out (by unfold maxLen; omega) (by omega) (by simp; omega) ?_; intro A4 c4 w4 hown4 hgr4 hnc4 hat4; (have HLK := hZ9 (PUT.out A4 c4 w4 hown4 hgr4)); clear hown4 hgr4 hat4)
       go_roundw
       case rel => exact ⟨j + 1, by omega, by go_num, by rw [HN.out.1, HN.out.2.1, HN.out.2.2, HLS.out]; exact HLK.out⟩
       case measure => simp [intOf]; omega
  ·obtain rfl : j = k := by omega
   have hta : l.take j = l := List.take_of_length_le (by have := HKL.out; omega)
   rw [hta] at HR
   have hb2 : Below w.heap.size w wr := HB1.out.trans (HR.out.bel.mono hw1)
   have hwr := hb2.size
   obtain ⟨A2, c2, hv2, _⟩ := own_form HR.out.r1
   subst hv2
   obtain ⟨A3, c3, hv3, _⟩ := own_form HR.out.r2
   subst hv3
   obtain ⟨A4, c4, hv4, _⟩ := own_form HR.out.r3
   subst hv4
   clear HGG HTX hta HS1
   go_wp2_with (go_at_call 36; refine (HNO.out _ hb2).mono ?_; rintro en w3 ⟨A6, c6, rfl, hs6, hb6⟩; (have HS6 := hZ9 hs6); (have HRG := hZ9 ((Sl.of_own HR.out.r1).below hb6)); (have HRB := hZ9 ((Sl.of_own HR.out.r2).below hb6)); (have HRL := hZ9 ((Sl.of_own HR.out.r3).below hb6)); (have HB3 := hZ9 (hb2.trans (hb6.mono hwr))); clear hs6 hb6)
   have hw3 := HB3.out.size
   obtain ⟨kn, hkn⟩ : ∃ kn, kn = nts.length := ⟨_, rfl⟩
   have HKN := hZ9 hkn
   have hkn6 : kn ≤ 100000 := by omega
   rw [← hkn] at HS6 ⊢
   clear hkn HR hb2
   go_loopw [5, 80] (fun v5 i wq => ∃ j : Nat, j ≤ kn ∧ i = .int .i64 (j : Nat) ∧ Below w3.heap.size w3 wq ∧ wq.ownsRow w3.heap.size 2 1 v5 ((nts.take j).filter fun v => !decide (v ∈ versL l)).length (numVs ((nts.take j).filter fun v => !decide (v ∈ versL l)))) (fun _ i _ => kn - (intOf i).toNat)
   case atStart => exact ⟨0, Nat.zero_le _, rfl, bR0, own_nil _ _ _ _⟩
   case round =>
    obtain ⟨q, hq, rfl, hb, ho⟩ := hrel
    have HB := hZ9 hb
    have HO := hZ9 ho
    clear hb ho
    by_cases hlt : q < kn
    ·have hql : q < nts.length := by have := HKN.out; omega
     obtain ⟨b, o, rfl, hbl, q0⟩ := nums_rd (HS6.out.below HB.out).1 q hql HKN.out
     have htk : nts.take (q + 1) = nts.take q ++ [nts[q]] := by rw [List.take_succ_eq_append_getElem hql]
     have hfl : ((nts.take q).filter fun v => !decide (v ∈ versL l)).length ≤ 100000 := by have := List.length_filter_le (fun v => !decide (v ∈ versL l)) (nts.take q); rw [List.length_take] at this; omega
     have hf1 : (nts.take (q + 1)).filter (fun v => !decide (v ∈ versL l)) = (nts.take q).filter (fun v => !decide (v ∈ versL l)) ++ [nts[q]].filter (fun v => !decide (v ∈ versL l)) := by rw [htk, List.filter_append]
     generalize nts[q] = x at *
     have HF1 := hZ9 hf1
     generalize (nts.take q).filter (fun v => !decide (v ∈ versL l)) = ls at *
     have j1 : (q : Int) < (kn : Int) := by omega
     have j2 : (0 : Int) ≤ (q : Int) := by omega
     have hbr : Below w.heap.size w wr := HB3.out.trans (HB.out.mono hw3)
     clear htk hf1 hql
     go_wp2_with (go_at_call 35; refine (HNA.out _ hbr).mono ?_; rintro en w5 ⟨A7, c7, rfl, hs7, hb7⟩; (have HS7 := hZ9 hs7); (have HO5 := hZ9 (own_keeps HO.out (Keeps.of_below (base := w3.heap.size) (ts := []) hb7 HB.out.size) (by simp))); (have HB5 := hZ9 (HB.out.trans (hb7.mono HB.out.size))); clear hs7 hb7)
     clear HB HO hbr hbl q0
     have HBQ : Hid (Below w5.heap.size w5 w5) := bR0
     go_loopw [15, 87] (fun v15 i wq => ∃ p : Nat, p ≤ j ∧ i = .int .i64 (p : Nat) ∧ v15 = .bool ((l.take p).any fun n => decide (n.1 = x)) ∧ Below w5.heap.size w5 wq) (fun _ i _ => j - (intOf i).toNat)
     case atStart => exact ⟨0, Nat.zero_le _, rfl, rfl, HBQ.out⟩
     case round =>
      obtain ⟨p, hp, rfl, rfl, hb⟩ := hrel
      have HB := hZ9 hb
      clear hb HBQ
      by_cases hlt2 : p < j
      ·have hpl : p < l.length := by have := HKL.out; omega
       obtain ⟨b7, o7, rfl, hbl7, q0, q1⟩ := names_rd (HS7.out.below HB.out).1 p hpl HKL.out
       have htk : l.take (p + 1) = l.take p ++ [l[p]] := by rw [List.take_succ_eq_append_getElem hpl]
       have hany : (l.take (p + 1)).any (fun n => decide (n.1 = x)) = ((l.take p).any (fun n => decide (n.1 = x)) || decide (l[p].1 = x)) := by rw [htk, List.any_append]; simp
       generalize l[p] = nm at *
       obtain ⟨n1, n2⟩ := nm
       simp only at q0 q1 hany
       generalize (l.take p).any (fun n => decide (n.1 = x)) = ab at *
       have HAN := hZ9 hany
       have p1 : (p : Int) < (j : Int) := by omega
       have p2 : (0 : Int) ≤ (p : Int) := by omega
       have HBA : Hid (Below w5.heap.size w5 (wr.alloc (.cells #[.int .i64 n1, .int .i64 n2] 73))) := HB.out.alloc HB.out.size _
       clear hany htk hpl
       cases ab with
       | true =>
        go_wp2_with fail
        go_roundw
        case rel => exact ⟨p + 1, by omega, by go_num, by rw [HAN.out]; rfl, HBA.out⟩
        case measure => simp [intOf]; omega
       | false =>
        by_cases hx : n1 = x
        ·have a1 : (n1 == x) = true := beq_iff_eq.2 hx
         have HX := hZ9 hx
         clear hx
         go_wp2_with fail
         go_roundw
         case rel => exact ⟨p + 1, by omega, by go_num, by rw [HAN.out, HX.out]; simp, HBA.out⟩
         case measure => simp [intOf]; omega
        ·have a1 : (n1 == x) = false := beq_eq_false_iff_ne.2 hx
         go_wp2_with fail
         go_roundw
         case rel => exact ⟨p + 1, by omega, by go_num, by rw [HAN.out]; simp [hx], HBA.out⟩
         case measure => simp [intOf]; omega
      ·obtain rfl : p = j := by omega
       have hta : l.take p = l := List.take_of_length_le (by have := HKL.out; omega)
       rw [hta, HVA.out x]
       have HO6 := hZ9 (own_keeps HO5.out (Keeps.of_below (base := w3.heap.size) (ts := []) HB.out HB5.out.size) (by simp))
       have HB6 := hZ9 (HB5.out.trans (HB.out.mono HB5.out.size))
       clear HO5 HB5 HB hta
       by_cases hx : x ∈ versL l
       ·rw [decide_eq_true hx]
        go_wp2_with fail
        go_roundw
        case rel => exact ⟨q + 1, by omega, by go_num, HB6.out, by rw [HF1.out]; simp [hx]; exact HO6.out⟩
        case measure => simp [intOf]; omega
       ·rw [decide_eq_false hx]
        obtain ⟨A8, c8, hv8, hc8⟩ := own_form HO6.out
        subst hv8
        have HOW := hZ9 (own_keep_alloc HO6.out (.cells #[.int .i64 x] 2))
        have HRD : Hid (Rd (wr.alloc (.cells #[.int .i64 x] 2)) (wr.alloc (.cells #[.int .i64 x] 2)).heap.size 1 (some ⟨wr.heap.size, 0, none⟩) 1 [.int .i64 x]) := sl_rd (Sl.of_blk (sz := 1) (n := 1) (xs := [.int .i64 x]) (Blk.new wr 2 _) rfl)
        have H1C : Hid (∀ u ∈ ([.int .i64 x] : List Value), u.oneCell' = true) := hZ9 (by intro u hu; simp at hu; subst hu; rfl)
        have hs5 : w3.heap.size ≤ wr.heap.size := HB6.out.size
        have HBX : Hid (Below w3.heap.size w3 (wr.alloc (.cells #[.int .i64 x] 2))) := HB6.out.alloc hs5 _
        go_wp2_with (at_builtin; refine wpList_append_rd _ rfl _ _ 83 rfl w3.heap.size 2 i2 _ 1 8 under83 hi2 hy0 hy1 hy2 rfl (by decide) (.slice A8 ls.length c8) ls.length (numVs ls) rfl HOW.out (some ⟨wr.heap.size, 0, none⟩) 1 1 _ [.int .i64 x] rfl HRD.out H1C.out (by unfold maxLen; omega) (by omega) (by simp; omega) ?_; intro A9 c9 w9 hown9 hgr9 hnc9 hat9; (have HO9 := hZ9 hown9); (have HB9 := hZ9 (HBX.out.trans (grown_below hgr9 HBX.out.size (own_low HOW.out)))); clear hown9 hgr9 hat9)
        go_roundw
        case rel => exact ⟨q + 1, by omega, by go_num, HB9.out, by rw [HF1.out]; simp [hx, numVs_snoc]; exact HO9.out⟩
        case measure => simp [intOf]; omega
    ·obtain rfl : q = kn := by omega
     have hta : nts.take q = nts := List.take_of_length_le (by have := HKN.out; omega)
     rw [hta] at HO
     obtain ⟨A8, c8, hv8, hc8⟩ := own_form HO.out
     subst hv8
     obtain ⟨f1, f2, f3, f4⟩ := HFIN.out
     go_wp2_with fail
     try simp only [Exit.inBlock, Exit.then]
     refine bodyPost_ret (results_tmp4 rfl _ _ _) rfl ?_
     rw [f1, f2, f3, f4]
     exact ⟨A2, c2, A3, c3, A4, c4, A8, c8, rfl, HRG.out.below HB.out, HRB.out.below HB.out, HRL.out.below HB.out, Sl.of_own HO.out, HB3.out.trans (HB.out.mono hw3)⟩
end Go.Proofs.YtmgmfnimaafkdaaGreatDoor
