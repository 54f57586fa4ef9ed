/- Names in order, those behind one first: the walk of the document's Round. -/
import Derived.Test.YtmgmfnimaafkdaaGreatDoorZYR
namespace Go.Proofs.YtmgmfnimaafkdaaGreatDoor
open Go.RowKit Go.Maps
set_option maxRecDepth 100000

theorem under100r : Tryz.prog.underlying 100 = some (.slice 105) := by kernel_rfl
theorem info105r : (Tryz.prog.info? 105).map (fun i => (i.zero, i.size, i.bytes)) = some (some (.agg #[.int .i64 0, .int .i64 0]), 2, 16) := by kernel_rfl
def RoundTold (w w' : World) (V : List NameV) (e : Ending) : Prop := ∃ A c, e = .returned (.slice A V.length c) ∧ Sl w' 105 2 A V.length (nameRows V) ∧ Below w.heap.size w w'
def turnsL (l : List NameV) (f : NameV) (m t : Nat) : List NameV := ((if 1 ≤ t then l.filter (fun x => ltN f x) else []) ++ (if 2 ≤ t then l.filter (fun x => !ltN f x) else [])).take m
def turnL' (l : List NameV) (f : NameV) (m t j : Nat) : List NameV := ((if 1 ≤ t then l.filter (fun x => ltN f x) else []) ++ (l.take j).filter (fun x => ltN f x == decide (t = 0))).take m
theorem turn_zero (l : List NameV) (f : NameV) (m t : Nat) (ht : t < 2) : turnL' l f m t 0 = turnsL l f m t := by
 unfold turnL' turnsL
 rw [if_neg (show ¬ 2 ≤ t by omega)]
 simp
theorem turn_all (l : List NameV) (f : NameV) (m t : Nat) (ht : t < 2) : turnL' l f m t l.length = turnsL l f m (t + 1) := by
 unfold turnL' turnsL
 rw [List.take_length]
 obtain rfl | rfl : t = 0 ∨ t = 1 := by omega
 ·simp
 ·simp
theorem turn_step (l : List NameV) (f : NameV) (m t j : Nat) (hj : j < l.length) : turnL' l f m t (j + 1) = if (ltN f l[j] == decide (t = 0)) = true ∧ (turnL' l f m t j).length < m then turnL' l f m t j ++ [l[j]] else turnL' l f m t j := by
 unfold turnL'
 generalize (if 1 ≤ t then l.filter (fun x => ltN f x) else []) = Y
 rw [List.take_succ_eq_append_getElem hj, List.filter_append, ← List.append_assoc]
 cases hc : (ltN f l[j] == decide (t = 0)) with
 | true =>
  have : [l[j]].filter (fun x => ltN f x == decide (t = 0)) = [l[j]] := by simp only [List.filter_cons, hc, List.filter_nil, if_pos]
  rw [this, take_snoc_lt]
  simp only [true_and]
 | false =>
  have : [l[j]].filter (fun x => ltN f x == decide (t = 0)) = [] := by simp only [List.filter_cons, hc, List.filter_nil]; rfl
  rw [this, List.append_nil, if_neg (by simp)]
set_option maxHeartbeats 16000000 in
theorem round_any {w : World} (l : List NameV) (A : Option Addr) (c : Nat) (f1 f2 many : Int) (h : Sl w 105 2 A l.length (nameRows l)) (hl : l.length ≤ 100000) :
  Calls Tryz.prog 46 #[.slice A l.length c, .agg #[.int .i64 f1, .int .i64 f2], .int .i64 many] w fun e w' => RoundTold w w' (turnsL l (f1, f2) many.toNat 2) e := by
 obtain ⟨i105, hi105, hz0, hz1, hz2⟩ := info_parts info105r
 have HS := hZ9 h
 have HB0 : Hid (Below w.heap.size w (w.alloc (.cells #[.int .i64 f1, .int .i64 f2] 105))) := bR0.alloc nR0 _
 have HX0 := hZ9 (Blk.new w 105 #[.int .i64 f1, .int .i64 f2])
 have HTZ := hZ9 (fun t (ht : t < 2) => turn_zero l (f1, f2) many.toNat t ht)
 have HTA := hZ9 (fun t (ht : t < 2) => turn_all l (f1, f2) many.toNat t ht)
 have HTS := hZ9 (fun t j (hj : j < l.length) => turn_step l (f1, f2) many.toNat t j hj)
 have HLEN := hZ9 (show ∀ t j, (turnL' l (f1, f2) many.toNat t j).length ≤ 200000 from fun t j => by
  unfold turnL'
  rw [List.length_take, List.length_append]
  have g1 : (if 1 ≤ t then l.filter (fun x => ltN (f1, f2) x) else []).length ≤ l.length := by
   split
   ·exact List.length_filter_le _ _
   ·simp
  have g2 : ((l.take j).filter (fun x => ltN (f1, f2) x == decide (t = 0))).length ≤ l.length := Nat.le_trans (List.length_filter_le _ _) (by rw [List.length_take]; omega)
  omega)
 have HT0 := hZ9 (show turnsL l (f1, f2) many.toNat 0 = [] from by simp [turnsL])
 generalize hT : turnsL l (f1, f2) many.toNat = TS at *
 generalize hT2 : turnL' l (f1, f2) many.toNat = TL at *
 clear h hT hT2
 obtain ⟨k, hk⟩ : ∃ k, k = l.length := ⟨_, rfl⟩
 have HKL := hZ9 hk
 rw [← hk] at HS hl ⊢
 clear hk
 go_enter Tryz.func46, Tryz.ntmps46
 go_upto_region 1 with fail
 generalize w.alloc (.cells #[.int .i64 f1, .int .i64 f2] 105) = w0 at *
 obtain ⟨g4, hg4⟩ : ∃ g, g = w.heap.size := ⟨_, rfl⟩
 have hg40 := HX0.out.lt
 rw [← hg4] at HX0 hg40 ⊢
 clear hg4
 have HS0 := hZ9 (HS.out.below HB0.out)
 have hw0 := HB0.out.size
 clear HS
 go_wp2_with fail
 go_loopw [7, 8] (fun v7 i wr => ∃ t : Nat, t ≤ 2 ∧ i = .int .i64 (t : Nat) ∧ Below w0.heap.size w0 wr ∧ wr.ownsRow w0.heap.size 105 2 v7 (TS t).length (nameRows (TS t))) (fun _ i _ => 2 - (intOf i).toNat)
 case atStart => exact ⟨0, by omega, rfl, bR0, by rw [HT0.out]; exact own_nil _ _ _ _⟩
 case round =>
  obtain ⟨t, ht, rfl, hb, ho⟩ := hrel
  have HB := hZ9 hb
  have HO := hZ9 ho
  clear hb ho
  by_cases ht2 : t < 2
  ·have t1 : (t : Int) < 2 := by omega
   rw [← HTZ.out t ht2] at HO
   obtain ⟨tb, htb⟩ : ∃ tb, tb = decide (t = 0) := ⟨_, rfl⟩
   have at1 : ((t : Int) == 0) = tb := by
    rw [htb]
    by_cases h : t = 0
    ·rw [decide_eq_true h]; exact beq_iff_eq.2 (by omega)
    ·rw [decide_eq_false h]; exact beq_eq_false_iff_ne.2 (by omega)
   have HTB := hZ9 htb
   clear htb
   go_wp2_with fail
   go_loopw [7, 17] (fun v7 i wq => ∃ j : Nat, j ≤ k ∧ i = .int .i64 (j : Nat) ∧ Below w0.heap.size w0 wq ∧ wq.ownsRow w0.heap.size 105 2 v7 (TL t j).length (nameRows (TL t j))) (fun _ i _ => k - (intOf i).toNat)
   case atStart => exact ⟨0, Nat.zero_le _, rfl, HB.out, HO.out⟩
   case round =>
    obtain ⟨j, hj, rfl, hb, ho⟩ := hrel
    have HB := hZ9 hb
    have HO := hZ9 ho
    clear hb ho
    by_cases hlt : j < k
    ·have hjl : j < l.length := by have := HKL.out; omega
     obtain ⟨b, o, rfl, hbl, q0, q1⟩ := names_rd (HS0.out.below HB.out).1 j hjl HKL.out
     have hst := HTS.out t j hjl
     rw [← HTB.out] at hst
     have hle := HLEN.out t j
     generalize l[j] = nm at *
     obtain ⟨n1, n2⟩ := nm
     simp only at q0 q1
     have HST := hZ9 hst
     clear hst
     generalize TL t j = X at *
     have j1 : (j : Int) < (k : Int) := by omega
     have j2 : (0 : Int) ≤ (j : Int) := by omega
     have hba : Below wr.heap.size wr (wr.alloc (.cells #[.int .i64 n1, .int .i64 n2] 105)) := bR0.alloc nR0 _
     have HB7 := hZ9 (HB.out.trans (hba.mono HB.out.size))
     have HO7 := hZ9 (own_keeps HO.out (Keeps.of_below (base := w0.heap.size) (ts := []) hba HB.out.size) (by simp))
     have HZ := hZ9 (Blk.new wr 105 #[.int .i64 n1, .int .i64 n2])
     clear hba
     go_upto_region 8 with fail
     generalize wr.alloc (.cells #[.int .i64 n1, .int .i64 n2] 105) = wx at *
     generalize wr.heap.size = g at *
     clear q0 q1 hbl HB HO
     have z0 : wx.cell? ⟨g, 0, none⟩ = some (.int .i64 n1) := HZ.out.cell 0
     have z1 : wx.cell? ⟨g, 1, none⟩ = some (.int .i64 n2) := HZ.out.cell 1
     have zl := HZ.out.lt
     have HX7 := hZ9 (HX0.out.below HB7.out hg40)
     have x0 : wx.cell? ⟨g4, 0, none⟩ = some (.int .i64 f1) := HX7.out.cell 0
     have x1 : wx.cell? ⟨g4, 1, none⟩ = some (.int .i64 f2) := HX7.out.cell 1
     have xl := HX7.out.lt
     have HBH := hZ9 (behind96_any wx n1 n2 f1 f2)
     obtain ⟨cc, hcc⟩ : ∃ cc, cc = (ltN (f1, f2) (n1, n2) == tb) := ⟨_, rfl⟩
     have HCC := hZ9 hcc
     have a2 : (ltN (f1, f2) (n1, n2) == tb) = cc := hcc.symm
     generalize ltN (f1, f2) (n1, n2) = bx at *
     clear hcc HX7
     rw [a2] at HST
     have hfin : ∀ (wy : World), Below wx.heap.size wx wy → Below w0.heap.size w0 wy ∧ wy.ownsRow w0.heap.size 105 2 u7 X.length (nameRows X) := fun wy hy => ⟨HB7.out.trans (hy.mono HB7.out.size), own_keeps HO7.out (Keeps.of_below (base := w0.heap.size) (ts := []) hy HB7.out.size) (by simp)⟩
     have HFIN := hZ9 hfin
     clear hfin
     cases cc with
     | false =>
      have e : TL t (j + 1) = X := by rw [HST.out]; exact if_neg (by simp)
      have HE := hZ9 e
      clear e
      go_wp2_with (go_at_call 96; refine HBH.out.mono ?_; rintro en w7 ⟨rfl, hb⟩; (have HF7 := hZ9 (HFIN.out _ hb)); clear hb)
      go_roundw
      case rel => exact ⟨j + 1, by omega, by go_num, HF7.out.1, by rw [HE.out]; exact HF7.out.2⟩
      case measure => simp [intOf]; omega
     | true =>
      by_cases hlm : (X.length : Int) < many
      ·have e : TL t (j + 1) = X ++ [(n1, n2)] := by rw [HST.out]; exact if_pos ⟨rfl, by omega⟩
       have HE := hZ9 e
       clear e
       obtain ⟨A8, c8, hv8, hc8⟩ := own_form HO7.out
       subst hv8
       go_upto_region 9 with (go_at_call 96; refine HBH.out.mono ?_; rintro en w7 ⟨rfl, hb⟩; (have HF7 := hZ9 (HFIN.out _ hb)); (have HZ7 := hZ9 (HZ.out.below hb HZ.out.lt)); clear hb)
       clear z0 z1 zl x0 x1 xl
       have y0 : w7.cell? ⟨g, 0, none⟩ = some (.int .i64 n1) := HZ7.out.cell 0
       have y1 : w7.cell? ⟨g, 1, none⟩ = some (.int .i64 n2) := HZ7.out.cell 1
       have yl := HZ7.out.lt
       have HOW := hZ9 (own_keep_alloc HF7.out.2 (.cells #[.int .i64 n1, .int .i64 n2] 105))
       have HRD : Hid (Rd (w7.alloc (.cells #[.int .i64 n1, .int .i64 n2] 105)) (w7.alloc (.cells #[.int .i64 n1, .int .i64 n2] 105)).heap.size 2 (some ⟨w7.heap.size, 0, none⟩) 1 [.int .i64 n1, .int .i64 n2]) := sl_rd (Sl.of_blk (sz := 2) (n := 1) (xs := [.int .i64 n1, .int .i64 n2]) (Blk.new w7 105 _) rfl)
       have H1C : Hid (∀ u ∈ ([.int .i64 n1, .int .i64 n2] : List Value), u.oneCell' = true) := hZ9 (by intro u hu; simp at hu; rcases hu with rfl | rfl <;> rfl)
       have hs5 : w0.heap.size ≤ w7.heap.size := HF7.out.1.size
       have HBX : Hid (Below w0.heap.size w0 (w7.alloc (.cells #[.int .i64 n1, .int .i64 n2] 105))) := HF7.out.1.alloc hs5 _
       go_wp2_with (at_builtin; refine wpList_append_rd _ rfl _ _ 100 rfl w0.heap.size 105 i105 _ 2 16 under100r hi105 hz0 hz1 hz2 rfl (by decide) (.slice A8 X.length c8) X.length (nameRows X) rfl HOW.out (some ⟨w7.heap.size, 0, none⟩) 1 1 _ [.int .i64 n1, .int .i64 n2] rfl HRD.out H1C.out (by unfold maxLen; omega) (by omega) (by simp; omega) ?_; intro A9 c9 w9 hown9 hgr9 hnc9 hat9; (have HO9 := hZ9 hown9); (have HB9 := hZ9 (HBX.out.trans (grown_below hgr9 HBX.out.size (own_lowR HOW.out)))); clear hown9 hgr9 hat9)
       go_roundw
       case rel => exact ⟨j + 1, by omega, by go_num, HB9.out, by rw [HE.out, nameRows_append, nameRows_one, List.length_append, List.length_singleton]; exact HO9.out⟩
       case measure => simp [intOf]; omega
      ·have e : TL t (j + 1) = X := by rw [HST.out]; exact if_neg (fun h => by omega)
       have HE := hZ9 e
       obtain ⟨A8, c8, hv8, hc8⟩ := own_form HO7.out
       subst hv8
       clear e
       go_wp2_with (go_at_call 96; refine HBH.out.mono ?_; rintro en w7 ⟨rfl, hb⟩; (have HF7 := hZ9 (HFIN.out _ hb)); clear hb)
       go_roundw
       case rel => exact ⟨j + 1, by omega, by go_num, HF7.out.1, by rw [HE.out]; exact HF7.out.2⟩
       case measure => simp [intOf]; omega
    ·obtain rfl : j = k := by omega
     have e : TL t j = TS (t + 1) := by rw [← HTA.out t ht2, HKL.out]
     rw [e] at HO
     clear e at1
     go_wp2_with fail
     go_roundw
     case rel => exact ⟨t + 1, by omega, by go_num, HB.out, HO.out⟩
     case measure => simp [intOf]; omega
  ·obtain rfl : t = 2 := by omega
   obtain ⟨A8, c8, hv8, hc8⟩ := own_form HO.out
   subst hv8
   go_wp2_with fail
   go_ret
   exact ⟨A8, c8, rfl, Sl.of_own HO.out, HB0.out.trans (HB.out.mono hw0)⟩
end Go.Proofs.YtmgmfnimaafkdaaGreatDoor
