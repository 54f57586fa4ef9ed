/- A forgetting undone: maps.Copy, and the note. -/
import Derived.Test.YtmgmfnimaafkdaaGreatDoorXN
import Derived.Deep.WholeRow
namespace Go.Proofs.YtmgmfnimaafkdaaGreatDoor
section
open Go.RowKit Go.Maps Go.Shelf Go.Sort
set_option maxRecDepth 100000

theorem setRow_alloc_two (w : World) (c c' : Array Value) (t : TypeId) (o : Obj) : ((w.alloc (.cells c t)).alloc o).setRow w.heap.size c' = (w.alloc (.cells c' t)).alloc o := by
 simp only [World.setRow, World.alloc]
 congr 1
 apply Array.ext_getElem?
 intro i
 rw [Array.getElem?_modify]
 by_cases h : w.heap.size = i
 ·subst h
  simp [Array.getElem?_push]
 ·have h' : ¬ i = w.heap.size := fun e => h e.symm
  simp [h, h', Array.getElem?_push]
theorem setRow_alloc_snd (w : World) (c c' : Array Value) (t : TypeId) (o : Obj) : ((w.alloc o).alloc (.cells c t)).setRow (w.heap.size + 1) c' = (w.alloc o).alloc (.cells c' t) := by
 have := World.setRow_alloc_new (w.alloc o) c c' t
 rwa [show (w.alloc o).heap.size = w.heap.size + 1 by simp] at this
section
variable {P : Program} (w : World) {ops : Array Oper} {rest : List Oper} {o : Oper} {a : Act} {Q : Exit → Act → World → Prop}
theorem wpList_mapUpdate_run (hg : o.guard = none) (m x v : Operand) (t : TypeId) (hop : o.op = Op.mapUpdate t m x v) (mv xv vv : Value) (hm : a.eval m = mv) (hx : a.eval x = xv) (hv : a.eval v = vv) (w' : World)
  (hrun : (Instr.mapUpdate t mv xv vv).run P w = .ok () w') (hK : wpList P ops Q rest (a.put o.dst undef) w') : wpList P ops Q (o :: rest) a w := by
 refine wpList_plain hg fun K' hK' => ?_
 unfold Oper.wp
 simp [execOp, hop, hm, hx, hv, hrun, Result.andThen]
 exact hK' _ _ hK
theorem wpList_delete_run (hg : o.guard = none) (m x : Operand) (t k : TypeId) (hop : o.op = Op.call { callee := Callee.builtin Builtin.delete, args := #[m, x], argTypes := #[t, k] }) (mv xv : Value) (hm : a.eval m = mv) (hx : a.eval x = xv) (w' : World)
  (hrun : (Builtin.delete_ #[t, k] o.type #[mv, xv]).run P w = .ok (.tuple #[]) w') (hK : wpList P ops Q rest (a.put o.dst (.tuple #[])) w') : wpList P ops Q (o :: rest) a w := by
 refine wpList_plain hg fun K' hK' => ?_
 unfold Oper.wp
 simp [execOp, hop, resolve, invoke, builtin, hm, hx, hrun, Result.andThen]
 exact hK' _ _ hK
end
def goneL (s : StV) (v : Int) : List (NameV × SlotV) := s.slices.filter fun y => decide (y.1.1 = v)
theorem getL_gone (s : StV) (v : Int) (y : NameV) : getL (goneL s v) y = if y.1 = v then getL s.slices y else none := by
 unfold goneL
 rw [getL_filter (fun y : NameV => decide (y.1 = v))]
 by_cases e : y.1 = v <;> simp [e]
theorem gone_come {s : StV} {v : Int} {ss : List NameV} (h : SK.Keys (getL s.slices) ss) (y : NameV) (hy : SK.ok y) : getL (goneL s v) y = if y ∈ ss ∧ y.1 = v then getL s.slices y else none := by
 rw [getL_gone]
 by_cases e : y.1 = v
 ·rw [if_pos e]
  by_cases hm : y ∈ ss
  ·rw [if_pos ⟨hm, e⟩]
  ·have hn : getL s.slices y = none := by
    cases hg : getL s.slices y with
    | none => rfl
    | some a => exact absurd ((h.2.2 y hy).2 (by rw [hg]; rfl)) hm
   rw [if_neg (fun h => hm h.1), hn]
 ·rw [if_neg e, if_neg (fun h => e h.2)]
def forgot (s : StV) (v : Int) (ss : List NameV) : StV := { s with notes := s.notes.filter (fun y => decide (y.1 ≠ v)), slices := s.slices.filter fun y => decide (y.1 ∉ ss) }
theorem forgot_nil (s : StV) (v : Int) : forgot s v [] = { s with notes := s.notes.filter (fun y => decide (y.1 ≠ v)) } := by
 unfold forgot
 simp
theorem forgot_all {s : StV} {v : Int} {ss : List NameV} (h : SK.Keys (getL (goneL s v)) ss) (hr : ∀ x ∈ s.slices, NumOK x ∧ x.2.len ≤ 1048576) : forgot s v ss = { s with notes := s.notes.filter (fun y => decide (y.1 ≠ v)), slices := s.slices.filter (fun y => decide (y.1.1 ≠ v)) } := by
 unfold forgot
 congr 1
 refine List.filter_congr fun y hy => ?_
 have hok : SK.ok y.1 := ⟨wfI_right (hr y hy).1.1, wfI_right (hr y hy).1.2.1⟩
 have h1 := h.2.2 y.1 hok
 have h2 : (getL s.slices y.1).isSome = true := getL_some.2 (List.mem_map.2 ⟨y, hy, rfl⟩)
 rw [getL_gone] at h1
 by_cases e : y.1.1 = v
 ·rw [if_pos e] at h1
  simp [h1.2 h2, e]
 ·rw [if_neg e] at h1
  have : y.1 ∉ ss := fun h => by have := h1.1 h; simp at this
  simp [this, e]
theorem getL_forgot (s : StV) (v : Int) (ss : List NameV) (x y : NameV) : getL (forgot s v (ss ++ [x])).slices y = if y = x then none else getL (forgot s v ss).slices y := by
 unfold forgot
 simp only
 rw [getL_filter (fun y => decide (y ∉ ss ++ [x])), getL_filter (fun y => decide (y ∉ ss))]
 by_cases e : y = x
 ·subst e; simp
 ·simp [e]
theorem sz73 : (Tryz.prog.info? 73).map (·.size) = some 2 := by kernel_rfl
theorem sz142 : (Tryz.prog.info? 142).map (·.size) = some 4 := by kernel_rfl
theorem skR_inv {v : Value} {y : DataW Unit × List MemPlace} (h : SK.R v = some y) : ∃ c, v = slotV c := by
 obtain ⟨a, h1, _⟩ := rOf_inv h
 exact ⟨a, h1⟩
set_option maxHeartbeats 8000000 in
theorem forget_any {w : World} {base Sb : Nat} {s : StV} {m : StM} (h : StR w base Sb s m) (ok : StOK s) (v : Int) (hv : wfI v) :
  Calls Tryz.prog 117 #[.pointer (some ⟨Sb, 0, none⟩), .int .i64 v] w fun e w' => ∃ G, e = .returned (.map (some G)) ∧ w.heap.size ≤ G ∧ SK.In w' G (goneL s v).length (getL (goneL s v)) ∧
   StR w' base Sb { s with notes := s.notes.filter (fun y => decide (y.1 ≠ v)), slices := s.slices.filter (fun y => decide (y.1.1 ≠ v)) } m ∧ KeepS base m m w w' ∧ Keeps base [1000000] w w' := by
 have hbw := h.lt
 have hsl := h.blk.lt
 have okl := ok.l
 obtain ⟨w1, hrun1, hs1, hk1, hkk1, htu1⟩ := h.unnoting v hv (s.notes.filter fun y => decide (y.1 ≠ v)) (fun y => by
   rw [getL_filter (fun y => decide (y ≠ v))]
   by_cases e : y = v <;> simp [e]) (List.Pairwise.filter _ okl.srtN) (fun x hx => okl.txt x (List.mem_filter.1 hx).1)
 have c4 : w.cell? ⟨Sb, 4, none⟩ = some (.map (some m.Nb)) := h.blk.cell 4
 have hsz1 := hkk1.below.size
 have HS1 := hZ9 hs1
 have HK1 := hZ9 hk1
 have HKK1 := hZ9 hkk1
 have HOK := hZ9 okl
 have hnS := ok.nS
 have HR1 := hZ9 hrun1
 clear h ok okl hs1 hk1 hkk1 htu1 hrun1
 go_enter Tryz.func117, Tryz.ntmps117
 go_upto_region 2 with (refine wpList_delete_run _ rfl _ _ _ _ rfl _ _ rfl rfl _ HR1.out ?_)
 go_frame
 have c5 : w1.cell? ⟨Sb, 5, none⟩ = some (.map (some m.Pb)) := HS1.out.blk.cell 5
 have sl1 := HS1.out.blk.lt
 have hmm := @run_makeMap Tryz.prog
 obtain ⟨D, hD, hDf⟩ := HS1.out.pmap
 have HD := hZ9 hDf
 have hDs : Maps.size D = s.slices.length := by
  have := KV.size hD hDf (keys_of_slices HOK.out.srtS HOK.out.num)
  rwa [List.length_map] at this
 have hDl := hD.lt
 have hD2 : (w1.alloc (.map #[] 0)).ownsMap Tryz.prog 73 SK.R m.Pb s.slices.length D := hD.kept (gby_alloc (gby_refl w1 none) _) (by simp)
 have HG := hZ9 (KV.made SK w1)
 have HB2 : Hid (Below w1.heap.size w1 (w1.alloc (.map #[] 0))) := bR0.alloc nR0 _
 clear hD hDf
 go_upto_region 3 with fail
 have c5' : (w1.alloc (.map #[] 0)).cell? ⟨Sb, 5, none⟩ = some (.map (some m.Pb)) := (HB2.out.cell sl1).trans c5
 have hGs : (w1.alloc (.map #[] 0)).heap.size = w1.heap.size + 1 := by simp
 generalize w1.alloc (.map #[] 0) = w2 at *
 clear c5 hmm c4
 go_wp2_with (at_range; refine wpList_range_own _ rfl _ 125 rfl 73 142 keyed73 Tryz.underlying125 _ m.Pb s.slices.length D rfl hD2 ?_; intro w3 hrg3 hg3 hs3)
 try go_frame
 have HB3 := hZ9 (HB2.out.trans (grown_below hg3 (by omega) (fun k hk => by cases hk)))
 have HG3 := hZ9 (HG.out.kept hg3 (by simp))
 clear HB2 HG hg3 hD2 c5'
 rw [hGs] at hrg3
 go_loopw [7] (fun _ wr => ∃ (left : Lit → Bool) (cnt : Nat) (ss : List NameV) (k : Nat), wr.ranges Tryz.prog 73 SK.R m.Pb (w1.heap.size + 1) s.slices.length D left cnt ∧ ss.length + cnt ≤ Maps.size D ∧ SK.Come (getL s.slices) left ss ∧ k ≤ ss.length ∧
   SK.In wr w1.heap.size k (fun y => if y ∈ ss ∧ y.1 = v then getL s.slices y else none) ∧ Below w1.heap.size w1 wr)
  (fun _ wr => wr.rangeLeft m.Pb (w1.heap.size + 1))
 case atStart =>
  exact ⟨_, _, [], 0, hrg3, by simp, KV.Come.start HD.out, nR0, HG3.out.congr (fun y _ => by simp), HB3.out⟩
 case round =>
  obtain ⟨left, cnt, ss, k, hrg, hcs, hC, hkl, hIn, hbr⟩ := hrel
  clear hrg3 HB3 HG3 hs3 hGs
  go_wp2_with (at_next; refine wpList_next_ranges _ rfl _ rfl 73 keyed73 SK.R nameV slotV (fun key kl hk => by obtain ⟨x, _, hx, _⟩ := keyOf_name_inv hk; exact ⟨x, hx⟩) (fun v y hv => skR_inv hv) m.Pb (w1.heap.size + 1) s.slices.length _ _ _ rfl hrg ?_ ?_)
  ·intro hc0 hl0
   have hKs := hC.done hl0
   have hIN : SK.In wr w1.heap.size (goneL s v).length (getL (goneL s v)) := by
    have := (hIn.congr (gone_come (v := v) hKs)).tight (keys_of_slices (l := goneL s v) (List.Pairwise.filter _ HOK.out.srtS) (fun x hx => HOK.out.num x (List.mem_filter.1 hx).1))
    rwa [List.length_map] at this
   obtain ⟨D2, hD2, hDf2⟩ := hIN
   have HD2 := hZ9 hDf2
   have hDs2 : Maps.size D2 = (goneL s v).length := by
    have := KV.size hD2 hDf2 (keys_of_slices (l := goneL s v) (List.Pairwise.filter _ HOK.out.srtS) (fun x hx => HOK.out.num x (List.mem_filter.1 hx).1))
    rwa [List.length_map] at this
   have HB := hZ9 hbr
   have hgl := hD2.lt
   clear hrg hcs hC hkl hIn hbr hKs HD hDs hDf2
   go_wp2_with (at_range; refine wpList_range_own _ rfl _ 125 rfl 73 142 keyed73 Tryz.underlying125 _ w1.heap.size _ D2 rfl hD2 ?_; intro w5 hrg5 hg5 hs5)
   try go_frame
   have HB5 := hZ9 (HB.out.trans (grown_below hg5 HB.out.size (fun k hk => by cases hk)))
   have HS5 := hZ9 (show StR w5 base Sb (forgot s v []) m from by rw [forgot_nil]; exact HS1.out.below HB5.out)
   have hbase1 : base ≤ w1.heap.size := by omega
   have HK5 := hZ9 (HK1.out.trans (KeepS.of_below (m := m) HB5.out hbase1))
   have HKK5 := hZ9 (HKK1.out.trans ((Keeps.of_below HB5.out hbase1)))
   have hG5 : w1.heap.size < wr.heap.size := hgl
   generalize wr.heap.size = R at *
   clear HS1 HK1 HKK1 HB HB5 hg5 hD2 HR1
   go_loopw [8] (fun _ wq => ∃ (left : Lit → Bool) (cnt : Nat) (ss : List NameV), wq.ranges Tryz.prog 73 SK.R w1.heap.size R (goneL s v).length D2 left cnt ∧ SK.Come (getL (goneL s v)) left ss ∧ StR wq base Sb (forgot s v ss) m ∧ KeepS base m m w wq ∧ Keeps base [1000000] w wq)
    (fun _ wq => wq.rangeLeft w1.heap.size R)
   case atStart => exact ⟨_, _, [], hrg5, KV.Come.start HD2.out, HS5.out, HK5.out, HKK5.out⟩
   case round =>
    obtain ⟨left, cnt, ss, hrg, hC, hs, hk, hkk⟩ := hrel
    clear hrg5 HS5 HK5 HKK5 hs5
    go_wp2_with (at_next; refine wpList_next_ranges _ rfl _ rfl 73 keyed73 SK.R nameV slotV (fun key kl hk => by obtain ⟨x, _, hx, _⟩ := keyOf_name_inv hk; exact ⟨x, hx⟩) (fun v y hv => skR_inv hv) w1.heap.size R (goneL s v).length _ _ _ rfl hrg ?_ ?_)
    ·intro hc0 hl0
     have hKs := hC.done hl0
     have HOUT := hZ9 (show w.heap.size ≤ w1.heap.size ∧ SK.In wr w1.heap.size (goneL s v).length (getL (goneL s v)) ∧ StR wr base Sb { s with notes := s.notes.filter (fun y => decide (y.1 ≠ v)), slices := s.slices.filter (fun y => decide (y.1.1 ≠ v)) } m ∧ KeepS base m m w wr ∧ Keeps base [1000000] w wr from
      ⟨hsz1, ⟨D2, hrg.owns, HD2.out⟩, by rw [← forgot_all hKs HOK.out.num]; exact hs, hk, hkk⟩)
     clear hrg hC hs hk hkk hKs hl0 hc0
     go_wp2_with fail
     go_ret
     exact ⟨_, rfl, HOUT.out⟩
    ·intro x1 x2 c kl yd yp w6 cnt2 hkey hlk hv' hat hrg2 hlt hg2 hs2 hen
     obtain ⟨x', hx', ex, rfl⟩ := keyOf_name_inv hkey
     obtain rfl : (x1, x2) = x' := nameV_inj ex
     obtain ⟨a, ha, hya⟩ := KV.Says.here HD2.out hx' hat
     have hC2 := hC.step hx' hlk (by rw [ha]; rfl)
     clear hs2 hkey hya hv' hat
     rw [show nameV (x1, x2) = .agg #[.int .i64 x1, .int .i64 x2] from rfl] at hen ⊢
     have HI7 : Hid ((Tryz.prog.info? 73).map (·.size) = some 2) := sz73
     have HA := hZ9 (Blk.new w6 73 #[.int .i64 0, .int .i64 0])
     go_upto_region 11 with (first
      | (refine wpList_store_row rfl 73 _ _ rfl w6.heap.size #[.int .i64 x1, .int .i64 x2] rfl rfl 73 _ HA.out HI7.out rfl (by simp [Value.oneCell']) ?_; rw [World.setRow_alloc_new]))
     go_frame
     have hRw := hrg.lt
     have hb0 := hs.lt
     have k26 : Keeps base [] wr w6 := Keeps.of_grown hg2 hs.lt fun k hk => ⟨by injection hk with hk; omega, fun t ht => by injection hk with hk; subst hk; obtain ⟨_, _, _, _, _, _, _, _, _, e, _⟩ := hrg; simp [tyOf, e] at ht⟩
     have hb6 : base ≤ w6.heap.size := Nat.le_trans hb0 k26.below.size
     have k27 : Keeps base [] wr (w6.alloc (.cells #[.int .i64 x1, .int .i64 x2] 73)) := k26.trans (Keeps.of_below (bR0.alloc nR0 _) hb6)
     have hrg7 := hrg2.alloc (.cells #[.int .i64 x1, .int .i64 x2] 73)
     have hN7 := Blk.new w6 73 #[.int .i64 x1, .int .i64 x2]
     clear HA hg2 hen hrg2
     generalize w6.alloc (.cells #[.int .i64 x1, .int .i64 x2] 73) = w7 at *
     have hs7 := hs.keeps k27 nR0 (by simp)
     have hk7 := hk.trans (KeepS.of (m := m) k27 (by simp))
     have hkk7 := hkk.trans (k27.mono nR0 (by simp))
     have hb7 := hs7.lt
     have dr : Below w7.heap.size w7 w7.drew := bR0.drew
     obtain ⟨w9, hrun, hs9, hk9, hkk9, htu⟩ := (hs7.below dr).striking (x1, x2) hx' (forgot s v (ss ++ [(x1, x2)])).slices (getL_forgot s v ss (x1, x2)) (List.Pairwise.filter _ HOK.out.srtS) (fun x hx => HOK.out.num x (List.mem_filter.1 hx).1)
     replace hrun : (Builtin.delete_ #[125, 73] 0 #[.map (some m.Pb), .agg #[.int .i64 x1, .int .i64 x2]]).run Tryz.prog w7.drew = .ok (.tuple #[]) w9 := hrun
     have hrg9 := (show w7.drew.ranges Tryz.prog 73 SK.R w1.heap.size R (goneL s v).length D2 (fun z => left z && !z.sameKey (nameL (x1, x2))) cnt2 from hrg7).kept htu.grown (by simp; omega) (by simp; omega)
     have HQ := hZ9 (show StR w9 base Sb (forgot s v (ss ++ [(x1, x2)])) m ∧ KeepS base m m w w9 ∧ Keeps base [1000000] w w9 from
      ⟨hs9, (hk7.trans (KeepS.of_below (m := m) dr hb7)).trans hk9, (hkk7.trans (Keeps.of_below dr hb7)).trans hkk9⟩)
     have S6 := hZ9 (show w7.drew.cell? ⟨Sb, 5, none⟩ = some (.map (some m.Pb)) ∧ (w7.drew.cell? ⟨w6.heap.size, 0, none⟩ = some (.int .i64 x1) ∧ w7.drew.cell? ⟨w6.heap.size, 1, none⟩ = some (.int .i64 x2)) from ⟨hs7.blk.drew.cell 5, hN7.drew.cell 0, hN7.drew.cell 1⟩)
     have S9 := hZ9 (show w9.cell? ⟨Sb, 5, none⟩ = some (.map (some m.Pb)) ∧ (w9.cell? ⟨w6.heap.size, 0, none⟩ = some (.int .i64 x1) ∧ w9.cell? ⟨w6.heap.size, 1, none⟩ = some (.int .i64 x2)) from ⟨hs9.blk.cell 5, (hN7.drew.keeps hkk9 (by decide)).cell 0, (hN7.drew.keeps hkk9 (by decide)).cell 1⟩)
     have hsl7 := hs7.blk.lt
     have hnl7 := hN7.lt
     clear hs hk hkk hs7 hk7 hkk7 hs9 hk9 hkk9 k26 k27 hrg7 hN7 htu
     go_region_held3 (fun wy => wy.cell? ⟨Sb, 5, none⟩ = some (.map (some m.Pb)) ∧ (wy.cell? ⟨w6.heap.size, 0, none⟩ = some (.int .i64 x1) ∧ wy.cell? ⟨w6.heap.size, 1, none⟩ = some (.int .i64 x2)))
      (first | exact S6.out | exact S9.out)
      (fail)
     all_goals
      go_wp2_with fail
      go_roundw
      case rel => exact ⟨_, cnt2, ss ++ [(x1, x2)], hrg9, hC2, HQ.out⟩
      case measure => rw [hrg9.left_eq, hrg.left_eq]; exact hlt
  ·intro x1 x2 c kl yd yp w4 cnt2 hkey hlk hv' hat hrg2 hlt hg2 hs2 hen
   obtain ⟨x', hx', ex, rfl⟩ := keyOf_name_inv hkey
   obtain rfl : (x1, x2) = x' := nameV_inj ex
   obtain ⟨a, ha, hya⟩ := KV.Says.here HD.out hx' hat
   obtain rfl : a = c := by
    obtain ⟨a', h1, h2⟩ := rOf_inv hv'
    injection h2 with h2 _
    have h3 : c = a' := slotV_inj h1
    rw [h2] at hya
    exact (slotD_inj hya).symm.trans h3.symm
   have hC2 := hC.step hx' hlk (by rw [ha]; rfl)
   obtain ⟨at', len, by', mk⟩ := a
   have hen' : (Instr.entry (.pointer (some ⟨w1.heap.size + 1, 0, none⟩))).run Tryz.prog w4 = .ok (.tuple #[.agg #[.int .i64 x1, .int .i64 x2], .agg #[.int .i64 at', .int .i64 len, .int .i64 by', .int .i64 mk]]) w4 := hen
   clear hen
   clear hs2 hkey
   rw [show nameV (x1, x2) = .agg #[.int .i64 x1, .int .i64 x2] from rfl, show slotV ⟨at', len, by', mk⟩ = .agg #[.int .i64 at', .int .i64 len, .int .i64 by', .int .i64 mk] from rfl]
   have HI7 : Hid ((Tryz.prog.info? 73).map (·.size) = some 2) := sz73
   have HI14 : Hid ((Tryz.prog.info? 142).map (·.size) = some 4) := sz142
   have HA := hZ9 (show Blk ((w4.alloc (.cells #[.int .i64 0, .int .i64 0] 73)).alloc (.cells #[.int .i64 0, .int .i64 0, .int .i64 0, .int .i64 0] 142)) w4.heap.size 73 #[.int .i64 0, .int .i64 0] from (Blk.new _ _ _).alloc _)
   have HBB := hZ9 (show Blk ((w4.alloc (.cells #[.int .i64 x1, .int .i64 x2] 73)).alloc (.cells #[.int .i64 0, .int .i64 0, .int .i64 0, .int .i64 0] 142)) (w4.heap.size + 1) 142 #[.int .i64 0, .int .i64 0, .int .i64 0, .int .i64 0] from Blk.new_eq0 (by simp))
   go_upto_region 6 with (first
    | (refine wpList_store_row rfl 73 _ _ rfl w4.heap.size #[.int .i64 x1, .int .i64 x2] rfl rfl 73 _ HA.out HI7.out rfl (by simp [Value.oneCell']) ?_; rw [setRow_alloc_two])
    | (refine wpList_store_row rfl 142 _ _ rfl (w4.heap.size + 1) #[.int .i64 at', .int .i64 len, .int .i64 by', .int .i64 mk] rfl rfl 142 _ HBB.out HI14.out rfl (by simp [Value.oneCell']) ?_; rw [setRow_alloc_snd]))
   have hb4 := hbr.trans (grown_below hg2 hbr.size (fun k hk => by injection hk with hk; omega))
   have hb4s := hb4.size
   have hrg6 := (hrg2.alloc (.cells #[.int .i64 x1, .int .i64 x2] 73)).alloc (.cells #[.int .i64 at', .int .i64 len, .int .i64 by', .int .i64 mk] 142)
   have hB6 : Below w1.heap.size w1 ((w4.alloc (.cells #[.int .i64 x1, .int .i64 x2] 73)).alloc (.cells #[.int .i64 at', .int .i64 len, .int .i64 by', .int .i64 mk] 142)) := (hb4.alloc hb4s _).alloc (by simp; omega) _
   have hI6 : SK.In ((w4.alloc (.cells #[.int .i64 x1, .int .i64 x2] 73)).alloc (.cells #[.int .i64 at', .int .i64 len, .int .i64 by', .int .i64 mk] 142)) w1.heap.size k (fun y => if y ∈ ss ∧ y.1 = v then getL s.slices y else none) :=
    (hIn.kept hg2 (by simp)).below ((bR0.alloc nR0 _).alloc (by simp) _)
   have HA6 := hZ9 (show Blk ((w4.alloc (.cells #[.int .i64 x1, .int .i64 x2] 73)).alloc (.cells #[.int .i64 at', .int .i64 len, .int .i64 by', .int .i64 mk] 142)) w4.heap.size 73 #[.int .i64 x1, .int .i64 x2] from (Blk.new _ _ _).alloc _)
   have HZ6 := hZ9 (show Blk ((w4.alloc (.cells #[.int .i64 x1, .int .i64 x2] 73)).alloc (.cells #[.int .i64 at', .int .i64 len, .int .i64 by', .int .i64 mk] 142)) (w4.heap.size + 1) 142 #[.int .i64 at', .int .i64 len, .int .i64 by', .int .i64 mk] from Blk.new_eq0 (by simp))
   clear HA HBB hen' hg2 hIn hb4 hrg2 hbr
   generalize (w4.alloc (.cells #[.int .i64 x1, .int .i64 x2] 73)).alloc (.cells #[.int .i64 at', .int .i64 len, .int .i64 by', .int .i64 mk] 142) = w6 at *
   have c6 : w6.cell? ⟨w4.heap.size, 0, none⟩ = some (.int .i64 x1) := HA6.out.cell 0
   obtain ⟨N, hN⟩ : ∃ N, N = w4.heap.size := ⟨_, rfl⟩
   by_cases hxv : x1 = v
   ·subst hxv
    obtain ⟨w7, hrun7, hin7, htu7⟩ := hI6.put (by unfold maxLen; omega) hx' ⟨at', len, by', mk⟩
    replace hrun7 : (Instr.mapUpdate 125 (.map (some w1.heap.size)) (.agg #[.int .i64 x1, .int .i64 x2]) (.agg #[.int .i64 at', .int .i64 len, .int .i64 by', .int .i64 mk])).run Tryz.prog w6 = .ok () w7 := hrun7
    have HR7 := hZ9 hrun7
    have hrg7 := hrg6.kept htu7.grown (by simp; omega) (by simp)
    have HB7 := hZ9 (hB6.trans (grown_below htu7.grown hB6.size (fun k hk => by injection hk with hk; omega)))
    have HI7 := hZ9 (show SK.In w7 w1.heap.size (k + 1) (fun y => if y ∈ ss ++ [(x1, x2)] ∧ y.1 = x1 then getL s.slices y else none) from hin7.congr fun y hy => by
     by_cases e : y = (x1, x2)
     ·subst e
      simp [ha]
     ·simp [e])
    clear hrun7 hin7 htu7 hI6 hB6
    go_wp2_with (first
     | (refine wpList_load_row rfl 73 _ rfl w4.heap.size rfl 73 #[.int .i64 x1, .int .i64 x2] (0, 0) _ HA6.out Tryz.underlying73 rfl sz73 ?_)
     | (refine wpList_load_row rfl 142 _ rfl (w4.heap.size + 1) rfl 142 #[.int .i64 at', .int .i64 len, .int .i64 by', .int .i64 mk] (0, 0) _ HZ6.out Tryz.underlying142 rfl sz142 ?_)
     | (refine wpList_mapUpdate_run _ rfl _ _ _ _ rfl _ _ _ rfl rfl rfl _ HR7.out ?_))
    go_roundw
    case rel => exact ⟨_, cnt2, hrg7, ss ++ [(x1, x2)], by simp; omega, hC2, k + 1, by simp; omega, HI7.out, HB7.out⟩
    case measure => rw [hrg7.left_eq, hrg.left_eq]; exact hlt
   ·have HI6 := hZ9 (show SK.In w6 w1.heap.size k (fun y => if y ∈ ss ++ [(x1, x2)] ∧ y.1 = v then getL s.slices y else none) from hI6.congr fun y hy => by
     by_cases e : y = (x1, x2)
     ·subst e
      simp [hxv]
     ·simp [e])
    have HB6 := hZ9 hB6
    clear hI6 hB6
    go_wp2_with fail
    go_roundw
    case rel => exact ⟨_, cnt2, ss ++ [(x1, x2)], k, hrg6, by simp; omega, hC2, by simp; omega, HI6.out, HB6.out⟩
    case measure => rw [hrg6.left_eq, hrg.left_eq]; exact hlt
end
section
open Go.RowKit Go.Maps Go.Shelf Go.Sort
set_option maxRecDepth 100000

def backed (s : StV) (v : Int) (ss : List NameV) : StV := { s with notes := s.notes.filter (fun y => decide (y.1 ≠ v)), slices := s.slices.filter fun y => decide (y.1.1 ≠ v ∨ y.1 ∈ ss) }
theorem backed_nil (s : StV) (v : Int) : backed s v [] = { s with notes := s.notes.filter (fun y => decide (y.1 ≠ v)), slices := s.slices.filter (fun y => decide (y.1.1 ≠ v)) } := by
 unfold backed
 simp
theorem getL_backed (s : StV) (v : Int) (ss : List NameV) (y : NameV) : getL (backed s v ss).slices y = if y.1 ≠ v ∨ y ∈ ss then getL s.slices y else none := by
 unfold backed
 simp only
 rw [getL_filter (fun y : NameV => decide (y.1 ≠ v ∨ y ∈ ss))]
 by_cases e : y.1 ≠ v ∨ y ∈ ss
 ·rw [if_pos (decide_eq_true e), if_pos e]
 ·rw [if_neg (by simpa using e), if_neg e]
theorem backed_all {s : StV} {v : Int} {ss : List NameV} (h : SK.Keys (getL (goneL s v)) ss) (hr : ∀ x ∈ s.slices, NumOK x ∧ x.2.len ≤ 1048576) : backed s v ss = { s with notes := s.notes.filter (fun y => decide (y.1 ≠ v)) } := by
 unfold backed
 congr 1
 refine List.filter_eq_self.2 fun y hy => ?_
 have hok : SK.ok y.1 := ⟨wfI_right (hr y hy).1.1, wfI_right (hr y hy).1.2.1⟩
 have h1 := h.2.2 y.1 hok
 have h2 : (getL s.slices y.1).isSome = true := getL_some.2 (List.mem_map.2 ⟨y, hy, rfl⟩)
 rw [getL_gone] at h1
 by_cases e : y.1.1 = v
 ·rw [if_pos e] at h1
  exact decide_eq_true (.inr (h1.2 h2))
 ·exact decide_eq_true (.inl e)
theorem getL_backed_more {s : StV} {v : Int} {ss : List NameV} {x : NameV} {a : SlotV} (ha : getL (goneL s v) x = some a) (y : NameV) : getL (backed s v (ss ++ [x])).slices y = if y = x then some a else getL (backed s v ss).slices y := by
 rw [getL_backed, getL_backed]
 rw [getL_gone] at ha
 by_cases e : y = x
 ·subst e
  rw [if_pos rfl, if_pos (.inr (by simp))]
  split at ha
  ·exact ha
  ·cases ha
 ·rw [if_neg e]
  simp [e]
set_option maxHeartbeats 8000000 in
theorem copyMap_any {w : World} {base Sb G : Nat} {s : StV} {m : StM} {v : Int} (h : StR w base Sb (backed s v []) m) (hG : SK.In w G (goneL s v).length (getL (goneL s v))) (hne : G ≠ m.Pb) (hs : SrtS s.slices) (hr : ∀ x ∈ s.slices, NumOK x ∧ x.2.len ≤ 1048576) (hc : s.slices.length < 999999) :
  Calls Tryz.prog 134 #[.map (some m.Pb), .map (some G)] w fun e w' => e = .returned (.tuple #[]) ∧ StR w' base Sb { s with notes := s.notes.filter (fun y => decide (y.1 ≠ v)) } m ∧ KeepS base m m w w' ∧ Keeps base [1000000] w w' := by
 obtain ⟨D, hD, hDf⟩ := hG
 have HD := hZ9 hDf
 have hbw := h.lt
 have hgl := hD.lt
 have HS := hZ9 h
 have HSR := hZ9 hs
 have HNR := hZ9 hr
 have HC := hZ9 hc
 clear h hDf hs hr hc
 go_enter Tryz.func134, Tryz.ntmps134
 go_wp2_with (at_range; refine wpList_range_own _ rfl _ 125 rfl 73 142 keyed73 Tryz.underlying125 _ G _ D rfl hD ?_; intro w5 hrg5 hg5 hs5)
 try go_frame
 have hb5 : Below w.heap.size w w5 := grown_below hg5 nR0 (fun k hk => by cases hk)
 have HS5 := hZ9 (HS.out.below hb5)
 have HK5 := hZ9 (KeepS.of_below (m := m) hb5 hbw)
 have HKK5 := hZ9 (Keeps.of_below (base := base) (ts := [1000000]) hb5 hbw)
 generalize hR : w.heap.size = R at *
 clear HS hb5 hg5 hD
 go_loopw [4] (fun _ wq => ∃ (left : Lit → Bool) (cnt : Nat) (ss : List NameV), wq.ranges Tryz.prog 73 SK.R G R (goneL s v).length D left cnt ∧ SK.Come (getL (goneL s v)) left ss ∧ StR wq base Sb (backed s v ss) m ∧ KeepS base m m w wq ∧ Keeps base [1000000] w wq)
  (fun _ wq => wq.rangeLeft G R)
 case atStart => exact ⟨_, _, [], hrg5, KV.Come.start HD.out, HS5.out, HK5.out, HKK5.out⟩
 case round =>
  obtain ⟨left, cnt, ss, hrg, hC, hs, hk, hkk⟩ := hrel
  clear hrg5 HS5 HK5 HKK5 hs5
  go_wp2_with (at_next; refine wpList_next_ranges _ rfl _ rfl 73 keyed73 SK.R nameV slotV (fun key kl hk => by obtain ⟨x, _, hx, _⟩ := keyOf_name_inv hk; exact ⟨x, hx⟩) (fun v y hv => skR_inv hv) G R (goneL s v).length _ _ _ rfl hrg ?_ ?_)
  ·intro hc0 hl0
   have hKs := hC.done hl0
   have HOUT := hZ9 (show StR wr base Sb { s with notes := s.notes.filter (fun y => decide (y.1 ≠ v)) } m ∧ KeepS base m m w wr ∧ Keeps base [1000000] w wr from
    ⟨by rw [← backed_all hKs HNR.out]; exact hs, hk, hkk⟩)
   clear hrg hC hs hk hkk hKs hl0 hc0
   go_wp2_with fail
   go_end0
   exact ⟨rfl, HOUT.out⟩
  ·intro x1 x2 c kl yd yp w4 cnt2 hkey hlk hv' hat hrg2 hlt hg2 hs2 hen
   obtain ⟨x', hx', ex, rfl⟩ := keyOf_name_inv hkey
   obtain rfl : (x1, x2) = x' := nameV_inj ex
   obtain ⟨a, ha, hya⟩ := KV.Says.here HD.out hx' hat
   obtain rfl : a = c := by
    obtain ⟨a', h1, h2⟩ := rOf_inv hv'
    injection h2 with h2 _
    have h3 : c = a' := slotV_inj h1
    rw [h2] at hya
    exact (slotD_inj hya).symm.trans h3.symm
   have hC2 := hC.step hx' hlk (by rw [ha]; rfl)
   obtain ⟨at', len, by', mk⟩ := a
   have hen' : (Instr.entry (.pointer (some ⟨R, 0, none⟩))).run Tryz.prog w4 = .ok (.tuple #[.agg #[.int .i64 x1, .int .i64 x2], .agg #[.int .i64 at', .int .i64 len, .int .i64 by', .int .i64 mk]]) w4 := hen
   clear hen
   clear hs2 hkey
   rw [show nameV (x1, x2) = .agg #[.int .i64 x1, .int .i64 x2] from rfl, show slotV ⟨at', len, by', mk⟩ = .agg #[.int .i64 at', .int .i64 len, .int .i64 by', .int .i64 mk] from rfl]
   have HI7 : Hid ((Tryz.prog.info? 73).map (·.size) = some 2) := sz73
   have HI14 : Hid ((Tryz.prog.info? 142).map (·.size) = some 4) := sz142
   have HA := hZ9 (show Blk ((w4.alloc (.cells #[.int .i64 0, .int .i64 0] 73)).alloc (.cells #[.int .i64 0, .int .i64 0, .int .i64 0, .int .i64 0] 142)) w4.heap.size 73 #[.int .i64 0, .int .i64 0] from (Blk.new _ _ _).alloc _)
   have HBB := hZ9 (show Blk ((w4.alloc (.cells #[.int .i64 x1, .int .i64 x2] 73)).alloc (.cells #[.int .i64 0, .int .i64 0, .int .i64 0, .int .i64 0] 142)) (w4.heap.size + 1) 142 #[.int .i64 0, .int .i64 0, .int .i64 0, .int .i64 0] from Blk.new_eq0 (by simp))
   have hRw := hrg.lt
   have hb0 := hs.lt
   have hbR : base ≤ R := by omega
   have k26 : Keeps base [] wr w4 := Keeps.of_grown hg2 hs.lt fun k hk => ⟨by injection hk with hk; omega, fun t ht => by injection hk with hk; subst hk; obtain ⟨_, _, _, _, _, _, _, _, _, e, _⟩ := hrg; simp [tyOf, e] at ht⟩
   have hb6 : base ≤ w4.heap.size := Nat.le_trans hb0 k26.below.size
   have hrg6 := (hrg2.alloc (.cells #[.int .i64 x1, .int .i64 x2] 73)).alloc (.cells #[.int .i64 at', .int .i64 len, .int .i64 by', .int .i64 mk] 142)
   have k27 : Keeps base [] wr ((w4.alloc (.cells #[.int .i64 x1, .int .i64 x2] 73)).alloc (.cells #[.int .i64 at', .int .i64 len, .int .i64 by', .int .i64 mk] 142)) := k26.trans (Keeps.of_below ((bR0.alloc nR0 _).alloc (by simp) _) hb6)
   have HA6 := hZ9 (show Blk ((w4.alloc (.cells #[.int .i64 x1, .int .i64 x2] 73)).alloc (.cells #[.int .i64 at', .int .i64 len, .int .i64 by', .int .i64 mk] 142)) w4.heap.size 73 #[.int .i64 x1, .int .i64 x2] from (Blk.new _ _ _).alloc _)
   have HZ6 := hZ9 (show Blk ((w4.alloc (.cells #[.int .i64 x1, .int .i64 x2] 73)).alloc (.cells #[.int .i64 at', .int .i64 len, .int .i64 by', .int .i64 mk] 142)) (w4.heap.size + 1) 142 #[.int .i64 at', .int .i64 len, .int .i64 by', .int .i64 mk] from Blk.new_eq0 (by simp))
   clear hg2 hrg2
   go_upto_region 3 with (first
    | (refine wpList_store_row rfl 73 _ _ rfl w4.heap.size #[.int .i64 x1, .int .i64 x2] rfl rfl 73 _ HA.out HI7.out rfl (by simp [Value.oneCell']) ?_; rw [setRow_alloc_two])
    | (refine wpList_store_row rfl 142 _ _ rfl (w4.heap.size + 1) #[.int .i64 at', .int .i64 len, .int .i64 by', .int .i64 mk] rfl rfl 142 _ HBB.out HI14.out rfl (by simp [Value.oneCell']) ?_; rw [setRow_alloc_snd]))
   clear HA HBB hen'
   generalize (w4.alloc (.cells #[.int .i64 x1, .int .i64 x2] 73)).alloc (.cells #[.int .i64 at', .int .i64 len, .int .i64 by', .int .i64 mk] 142) = w6 at *
   have hs6 := hs.keeps k27 nR0 (by simp)
   obtain ⟨w7, hrun7, hs7, hk7, hkk7, htu7⟩ := hs6.slicingTo (x1, x2) hx' ⟨at', len, by', mk⟩ (backed s v (ss ++ [(x1, x2)])).slices (getL_backed_more ha) (List.Pairwise.filter _ HSR.out) (fun x hx => HNR.out x (List.mem_filter.1 hx).1) (by have := HC.out; have h2 : (backed s v ss).slices.length ≤ s.slices.length := List.length_filter_le _ _; omega)
   replace hrun7 : (Instr.mapUpdate 125 (.map (some m.Pb)) (.agg #[.int .i64 x1, .int .i64 x2]) (.agg #[.int .i64 at', .int .i64 len, .int .i64 by', .int .i64 mk])).run Tryz.prog w6 = .ok () w7 := hrun7
   have HR7 := hZ9 hrun7
   have hpl := hs.pmap.lt
   have hrg7 := hrg6.kept htu7.grown (by simp; exact hne) (by simp; rintro rfl; obtain ⟨_, _, _, _, _, _, _, _, _, e, _⟩ := hrg; have := hs.pmap.ty; simp [tyOf, e] at this)
   have HQ := hZ9 (show StR w7 base Sb (backed s v (ss ++ [(x1, x2)])) m ∧ KeepS base m m w w7 ∧ Keeps base [1000000] w w7 from
    ⟨hs7, (hk.trans (KeepS.of (m := m) k27 (by simp))).trans hk7, (hkk.trans (k27.mono nR0 (by simp))).trans hkk7⟩)
   clear hrun7 hs7 hk7 hkk7 htu7 hs hk hkk hs6 hrg6 k26 k27
   go_wp2_with (first
    | (refine wpList_load_row rfl 73 _ rfl w4.heap.size rfl 73 #[.int .i64 x1, .int .i64 x2] (0, 0) _ HA6.out Tryz.underlying73 rfl sz73 ?_)
    | (refine wpList_load_row rfl 142 _ rfl (w4.heap.size + 1) rfl 142 #[.int .i64 at', .int .i64 len, .int .i64 by', .int .i64 mk] (0, 0) _ HZ6.out Tryz.underlying142 rfl sz142 ?_)
    | (refine wpList_mapUpdate_run _ rfl _ _ _ _ rfl _ _ _ rfl rfl rfl _ HR7.out ?_))
   go_roundw
   case rel => exact ⟨_, ⟨cnt2, hrg7⟩, ss ++ [(x1, x2)], hC2, HQ.out⟩
   case measure => rw [hrg7.left_eq, hrg.left_eq]; exact hlt
set_option maxHeartbeats 8000000 in
theorem undoForget_any {w : World} {base Sb G X M T Z V : Nat} {s : StV} {m : StM} {v : Int} {was : List UInt8} {there : Bool} (h : StR w base Sb (backed s v []) m) (hv : wfI v) (hG : SK.In w G (goneL s v).length (getL (goneL s v))) (hne : G ≠ m.Pb)
  (hX : Blk w X 28 #[.pointer (some ⟨Sb, 0, none⟩)]) (hM : Blk w M 125 #[.map (some G)]) (hT : Blk w T 4 #[.bool there]) (hZ : Blk w Z 9 #[.string ⟨was.toArray⟩]) (hV : Blk w V 2 #[.int .i64 v])
  (hw : getL s.notes v = if there = true then some was else none) (ok : StL s) (hnS : s.slices.length < 999999) (hnN : s.notes.length < 999999) :
  Calls Tryz.prog 133 #[.pointer (some ⟨X, 0, none⟩), .pointer (some ⟨M, 0, none⟩), .pointer (some ⟨T, 0, none⟩), .pointer (some ⟨Z, 0, none⟩), .pointer (some ⟨V, 0, none⟩)] w fun e w' => e = .returned (.tuple #[]) ∧ StR w' base Sb s m ∧ KeepS base m m w w' ∧ Keeps base [1000000] w w' := by
 have hbw := h.lt
 have sl := h.blk.lt
 have xl := hX.lt
 have ml := hM.lt
 have CP := hZ9 (show ∀ wy, Below w.heap.size w wy → Calls Tryz.prog 134 #[.map (some m.Pb), .map (some G)] wy fun e w' => e = .returned (.tuple #[]) ∧ StR w' base Sb { s with notes := s.notes.filter (fun y => decide (y.1 ≠ v)) } m ∧ KeepS base m m w w' ∧ Keeps base [1000000] w w' from fun wy hy =>
  (copyMap_any (h.below hy) (hG.below hy) hne ok.srtS ok.num hnS).mono fun e w' ⟨q1, q2, q3, q4⟩ => ⟨q1, q2, (KeepS.of_below (m := m) hy hbw).trans q3, (Keeps.of_below hy hbw).trans q4⟩)
 have SK0 := hZ9 (show w.drew.cell? ⟨X, 0, none⟩ = some (.pointer (some ⟨Sb, 0, none⟩)) ∧ w.drew.cell? ⟨Sb, 5, none⟩ = some (.map (some m.Pb)) ∧ w.drew.cell? ⟨M, 0, none⟩ = some (.map (some G)) from ⟨hX.drew.cell 0, h.blk.drew.cell 5, hM.drew.cell 0⟩)
 have HX := hZ9 hX
 have HT := hZ9 hT
 have HZ := hZ9 hZ
 have HV := hZ9 hV
 have HM := hZ9 hM
 have HB := hZ9 h.blk
 have HW := hZ9 hw
 have HOK := hZ9 ok
 clear h hG hX hM hT hZ hV hw ok
 go_enter Tryz.func133, Tryz.ntmps133
 go_upto_region 0 with fail
 go_cut [] (fun wx => StR wx base Sb { s with notes := s.notes.filter (fun y => decide (y.1 ≠ v)) } m ∧ KeepS base m m w wx ∧ Keeps base [1000000] w wx)
 case first =>
  go_region_held3 (fun wy => wy.cell? ⟨X, 0, none⟩ = some (.pointer (some ⟨Sb, 0, none⟩)) ∧ wy.cell? ⟨Sb, 5, none⟩ = some (.map (some m.Pb)) ∧ wy.cell? ⟨M, 0, none⟩ = some (.map (some G)))
   (first | exact SK0.out | exact S1.out)
   (first | (go_at_call 134; refine (CP.out _ bR0.drew).mono ?_; rintro en w1 ⟨rfl, hs1, hk1, hkk1⟩; (have H1 := hZ9 (And.intro hs1 (And.intro hk1 hkk1))); (have S1 := hZ9 (show w1.cell? ⟨X, 0, none⟩ = some (.pointer (some ⟨Sb, 0, none⟩)) ∧ w1.cell? ⟨Sb, 5, none⟩ = some (.map (some m.Pb)) ∧ w1.cell? ⟨M, 0, none⟩ = some (.map (some G)) from ⟨(HX.out.keeps hkk1 (by decide)).cell 0, hs1.blk.cell 5, (HM.out.keeps hkk1 (by decide)).cell 0⟩)); clear hs1 hk1 hkk1))
  all_goals
   go_wp2_with fail
   go_meet
   exact H1.out
 case rest =>
  obtain ⟨hs1, hk1, hkk1⟩ := hcut
  have hX1 := HX.out.keeps hkk1 (by decide)
  have hT1 := HT.out.keeps hkk1 (by decide)
  have hZ1 := HZ.out.keeps hkk1 (by decide)
  have hV1 := HV.out.keeps hkk1 (by decide)
  clear CP SK0
  have t0 : wc.cell? ⟨T, 0, none⟩ = some (.bool there) := hT1.cell 0
  have hb1 := hs1.lt
  have HK := hZ9 (show Below wc.heap.size wc wc.drew from bR0.drew)
  have sl1 := hs1.blk.lt
  have xl1 := hX1.lt
  have vl1 := hV1.lt
  have zl1 := hZ1.lt
  cases there with
  | true =>
   have hw' : getL s.notes v = some was := by rw [HW.out, if_pos rfl]
   have hl : ∀ y, getL s.notes y = if y = v then some was else getL (s.notes.filter (fun y => decide (y.1 ≠ v))) y := fun y => by
    rw [getL_filter (fun y => decide (y ≠ v))]
    by_cases e : y = v
    ·rw [if_pos e, e]; exact hw'
    ·simp [e]
   obtain ⟨w8, hrun, hs8, hk8, hkk8, htu⟩ := (hs1.below HK.out).noting v hv was s.notes hl HOK.out.srtN HOK.out.txt (by have h2 : (s.notes.filter (fun y => decide (y.1 ≠ v))).length ≤ s.notes.length := List.length_filter_le _ _; show (s.notes.filter (fun y => decide (y.1 ≠ v))).length < _; omega)
   replace hrun : (Instr.mapUpdate 124 (.map (some m.Nb)) (.int .i64 v) (.string ⟨was.toArray⟩)).run Tryz.prog wc.drew = .ok () w8 := hrun
   have S0 := hZ9 (show wc.drew.cell? ⟨X, 0, none⟩ = some (.pointer (some ⟨Sb, 0, none⟩)) ∧ wc.drew.cell? ⟨Sb, 4, none⟩ = some (.map (some m.Nb)) ∧ wc.drew.cell? ⟨V, 0, none⟩ = some (.int .i64 v) ∧ wc.drew.cell? ⟨Z, 0, none⟩ = some (.string ⟨was.toArray⟩) from
    ⟨hX1.drew.cell 0, hs1.blk.drew.cell 4, hV1.drew.cell 0, hZ1.drew.cell 0⟩)
   have S8 := hZ9 (show w8.cell? ⟨X, 0, none⟩ = some (.pointer (some ⟨Sb, 0, none⟩)) ∧ w8.cell? ⟨Sb, 4, none⟩ = some (.map (some m.Nb)) ∧ w8.cell? ⟨V, 0, none⟩ = some (.int .i64 v) ∧ w8.cell? ⟨Z, 0, none⟩ = some (.string ⟨was.toArray⟩) from
    ⟨(hX1.drew.keeps hkk8 (by decide)).cell 0, (hs1.blk.drew.keeps hkk8 (by decide)).cell 4, (hV1.drew.keeps hkk8 (by decide)).cell 0, (hZ1.drew.keeps hkk8 (by decide)).cell 0⟩)
   have HQ := hZ9 (show StR w8 base Sb s m ∧ KeepS base m m w w8 ∧ Keeps base [1000000] w w8 from ⟨hs8, hk1.trans ((KeepS.of_below (m := m) HK.out hb1).trans hk8), hkk1.trans ((Keeps.of_below HK.out hb1).trans hkk8)⟩)
   clear hs1 hk1 hkk1 hX1 hT1 hZ1 hV1 hs8 hk8 hkk8 htu hl hw'
   go_upto_region 2 with fail
   clear t0
   go_region_held3 (fun wy => wy.cell? ⟨X, 0, none⟩ = some (.pointer (some ⟨Sb, 0, none⟩)) ∧ wy.cell? ⟨Sb, 4, none⟩ = some (.map (some m.Nb)) ∧ wy.cell? ⟨V, 0, none⟩ = some (.int .i64 v) ∧ wy.cell? ⟨Z, 0, none⟩ = some (.string ⟨was.toArray⟩))
    (first | exact S0.out | exact S8.out)
    (fail)
   all_goals
    go_wp2_with fail
    go_end0
    exact ⟨rfl, HQ.out⟩
  | false =>
   have hn : s.notes.filter (fun y => decide (y.1 ≠ v)) = s.notes := by
    refine List.filter_eq_self.2 fun y hy => decide_eq_true fun e => ?_
    have h2 : (getL s.notes y.1).isSome = true := getL_some.2 (List.mem_map.2 ⟨y, hy, rfl⟩)
    rw [e, HW.out] at h2
    simp at h2
   rw [hn] at hs1
   have HQ := hZ9 (show StR wc base Sb s m ∧ KeepS base m m w wc ∧ Keeps base [1000000] w wc from ⟨hs1, hk1, hkk1⟩)
   clear hs1 hk1 hkk1 hX1 hT1 hZ1 hV1 hn
   go_wp2_with fail
   go_end0
   exact ⟨rfl, HQ.out⟩
end
end Go.Proofs.YtmgmfnimaafkdaaGreatDoor
