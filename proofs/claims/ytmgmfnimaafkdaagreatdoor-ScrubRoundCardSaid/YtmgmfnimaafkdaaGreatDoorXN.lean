/- A slice is dropped, and a drop undone. -/
import Derived.Test.YtmgmfnimaafkdaaGreatDoorXA
import Derived.Test.YtmgmfnimaafkdaaGreatDoorVV
import Derived.Test.YtmgmfnimaafkdaaGreatDoorXP
namespace Go.Proofs.YtmgmfnimaafkdaaGreatDoor
open Go.RowKit Go.Maps Go.Shelf Go.Sort
set_option maxRecDepth 100000

theorem StR.slicingTo {w : World} {base Sb : Nat} {s : StV} {m : StM} (h : StR w base Sb s m) (n : NameV) (hn : wfN n) (x : SlotV) (l' : List (NameV × SlotV)) (hl : ∀ y, getL l' y = if y = n then some x else getL s.slices y) (hs : SrtS l') (hr : ∀ x ∈ l', NumOK x ∧ x.2.len ≤ 1048576) (hc : s.slices.length < 1000000) :
  ∃ w', (Instr.mapUpdate 125 (.map (some m.Pb)) (nameV n) (slotV x)).run Tryz.prog w = .ok () w' ∧ StR w' base Sb { s with slices := l' } m ∧ KeepS base m m w w' ∧ Keeps base [1000000] w w' ∧ w.mapTurned w' m.Pb := by
 obtain ⟨w', hrun, hin, htu⟩ := h.pmap.put (by unfold maxLen; omega) hn x
 obtain ⟨h1, h2⟩ := h.sliced htu (hin.congr fun y _ => hl y) hs hr
 exact ⟨w', hrun, h1, h2, KV.turned htu h.plow h.lt, htu⟩
def without (n : NameV) (l : List (NameV × SlotV)) : List (NameV × SlotV) := l.filter fun y => decide (y.1 ≠ n)
theorem getL_without (n y : NameV) (l : List (NameV × SlotV)) : getL (without n l) y = if y = n then none else getL l y := by
 unfold without
 rw [getL_filter (fun y => decide (y ≠ n))]
 by_cases e : y = n <;> simp [e]
theorem dropStore_none {s : StV} {n : NameV} (h : getL s.slices n = none) : dropStore s n = (6, s) := by
 unfold dropStore
 rw [getS_eq, h]
theorem dropStore_some {s : StV} {n : NameV} {x : SlotV} (h : getL s.slices n = some x) : dropStore s n = match loggedS { s with slices := without n s.slices } s (68, wordsS [n.1, n.2]) with
  | (0, s1) => (0, { s1 with map := giveSlot s1.map x })
  | (e, s1) => (e, s1) := by
 unfold dropStore
 rw [getS_eq, h]
 rfl
theorem StOK.struck {s : StV} (ok : StOK s) (n : NameV) : StL { s with slices := without n s.slices } := by
 have h := ok.l
 refine ⟨List.Pairwise.filter _ h.srtS, fun x hx => h.num x (List.mem_filter.1 hx).1, h.srtN, h.txt, h.mks, ?_, h.nN, h.nM⟩
 have := ok.nS
 have h2 : (without n s.slices).length ≤ s.slices.length := List.length_filter_le _ _
 show (without n s.slices).length ≤ _
 omega
set_option maxHeartbeats 8000000 in
theorem undoDrop_any {w : World} {base Sb Z X N : Nat} {s : StV} {m : StM} {n : NameV} {x : SlotV} (h : StR w base Sb { s with slices := without n s.slices } m) (hn : wfN n)
  (hZ : Blk w Z 142 #[.int .i64 x.at', .int .i64 x.len, .int .i64 x.bytes, .int .i64 x.mark]) (hX : Blk w X 28 #[.pointer (some ⟨Sb, 0, none⟩)]) (hN : Blk w N 73 #[.int .i64 n.1, .int .i64 n.2])
  (hx : getL s.slices n = some x) (hs : SrtS s.slices) (hr : ∀ x ∈ s.slices, NumOK x ∧ x.2.len ≤ 1048576) (hc : s.slices.length < 999999) :
  Calls Tryz.prog 131 #[.pointer (some ⟨Z, 0, none⟩), .pointer (some ⟨X, 0, none⟩), .pointer (some ⟨N, 0, none⟩)] w fun e w' => e = .returned (.tuple #[]) ∧ StR w' base Sb s m ∧ KeepS base m m w w' ∧ Keeps base [1000000] w w' := by
 have hbw := h.lt
 have sl := h.blk.lt
 have zl := hZ.lt
 have xl := hX.lt
 have nl := hN.lt
 have HK := hZ9 (show Below w.heap.size w w.drew from bR0.drew)
 have hl : ∀ y, getL s.slices y = if y = n then some x else getL (without n s.slices) y := fun y => by
  by_cases e : y = n
  ·rw [if_pos e, e]; exact hx
  ·rw [if_neg e, getL_without, if_neg e]
 obtain ⟨w8, hrun, hs8, hk8, hkk8, htu⟩ := (h.below HK.out).slicingTo n hn x s.slices hl hs hr (by show (without n s.slices).length < _; have h2 : (without n s.slices).length ≤ s.slices.length := List.length_filter_le _ _; omega)
 obtain ⟨n1, n2⟩ := n
 obtain ⟨at', len, by', mk⟩ := x
 simp only at hZ hN
 replace hrun : (Instr.mapUpdate 125 (.map (some m.Pb)) (.agg #[.int .i64 n1, .int .i64 n2]) (.agg #[.int .i64 at', .int .i64 len, .int .i64 by', .int .i64 mk])).run Tryz.prog w.drew = .ok () w8 := hrun
 have S0 := hZ9 (show w.drew.cell? ⟨X, 0, none⟩ = some (.pointer (some ⟨Sb, 0, none⟩)) ∧ w.drew.cell? ⟨Sb, 5, none⟩ = some (.map (some m.Pb)) ∧ (w.drew.cell? ⟨N, 0, none⟩ = some (.int .i64 n1) ∧ w.drew.cell? ⟨N, 1, none⟩ = some (.int .i64 n2)) ∧ w.drew.cell? ⟨Z, 0, none⟩ = some (.int .i64 at') ∧ w.drew.cell? ⟨Z, 1, none⟩ = some (.int .i64 len) ∧ w.drew.cell? ⟨Z, 2, none⟩ = some (.int .i64 by') ∧ w.drew.cell? ⟨Z, 3, none⟩ = some (.int .i64 mk) from
  ⟨hX.drew.cell 0, h.blk.drew.cell 5, ⟨hN.drew.cell 0, hN.drew.cell 1⟩, hZ.drew.cell 0, hZ.drew.cell 1, hZ.drew.cell 2, hZ.drew.cell 3⟩)
 have hX8 := hX.drew.keeps hkk8 (by decide)
 have hN8 := hN.drew.keeps hkk8 (by decide)
 have hZ8 := hZ.drew.keeps hkk8 (by decide)
 have S8 := hZ9 (show w8.cell? ⟨X, 0, none⟩ = some (.pointer (some ⟨Sb, 0, none⟩)) ∧ w8.cell? ⟨Sb, 5, none⟩ = some (.map (some m.Pb)) ∧ (w8.cell? ⟨N, 0, none⟩ = some (.int .i64 n1) ∧ w8.cell? ⟨N, 1, none⟩ = some (.int .i64 n2)) ∧ w8.cell? ⟨Z, 0, none⟩ = some (.int .i64 at') ∧ w8.cell? ⟨Z, 1, none⟩ = some (.int .i64 len) ∧ w8.cell? ⟨Z, 2, none⟩ = some (.int .i64 by') ∧ w8.cell? ⟨Z, 3, none⟩ = some (.int .i64 mk) from
  ⟨hX8.cell 0, hs8.blk.cell 5, ⟨hN8.cell 0, hN8.cell 1⟩, hZ8.cell 0, hZ8.cell 1, hZ8.cell 2, hZ8.cell 3⟩)
 have HQ := hZ9 (show StR w8 base Sb s m ∧ KeepS base m m w w8 ∧ Keeps base [1000000] w w8 from ⟨hs8, (KeepS.of_below (m := m) HK.out hbw).trans hk8, (Keeps.of_below HK.out hbw).trans hkk8⟩)
 clear h hX hN hZ hX8 hN8 hZ8 hs8 hk8 hkk8 htu hl hs hr hx
 go_enter Tryz.func131, Tryz.ntmps131
 go_upto_region 0 with fail
 go_region_held3 (fun wy => wy.cell? ⟨X, 0, none⟩ = some (.pointer (some ⟨Sb, 0, none⟩)) ∧ wy.cell? ⟨Sb, 5, none⟩ = some (.map (some m.Pb)) ∧ (wy.cell? ⟨N, 0, none⟩ = some (.int .i64 n1) ∧ wy.cell? ⟨N, 1, none⟩ = some (.int .i64 n2)) ∧ wy.cell? ⟨Z, 0, none⟩ = some (.int .i64 at') ∧ wy.cell? ⟨Z, 1, none⟩ = some (.int .i64 len) ∧ wy.cell? ⟨Z, 2, none⟩ = some (.int .i64 by') ∧ wy.cell? ⟨Z, 3, none⟩ = some (.int .i64 mk))
  (first | exact S0.out | exact S8.out)
  (fail)
 all_goals
  go_wp2_with fail
  go_end0
  exact ⟨rfl, HQ.out⟩
section
attribute [local go_sem ↓] stSlot_fold
set_option maxHeartbeats 8000000 in
theorem drop_any {w : World} {base Sb : Nat} {s : StV} {m : StM} (h : StR w base Sb s m) (ok : StOK s) (n : NameV) (hn : wfN n) :
  Calls Tryz.prog 74 #[.pointer (some ⟨Sb, 0, none⟩), nameV n] w fun e w' => ActOut w w' base Sb m (dropStore s n) e := by
 have HH := hZ9 h
 have HK := hZ9 ok
 have hlt := h.lt
 have hsl := h.blk.lt
 obtain ⟨n1, n2⟩ := n
 unfold nameV
 simp only
 have HX := hZ9 (show Blk ((w.alloc (.cells #[.pointer (some ⟨Sb, 0, none⟩)] 28)).alloc (.cells #[.int .i64 n1, .int .i64 n2] 73)) w.heap.size 28 #[.pointer (some ⟨Sb, 0, none⟩)] from (Blk.new _ _ _).alloc _)
 have HN := hZ9 (show Blk ((w.alloc (.cells #[.pointer (some ⟨Sb, 0, none⟩)] 28)).alloc (.cells #[.int .i64 n1, .int .i64 n2] 73)) (w.heap.size + 1) 73 #[.int .i64 n1, .int .i64 n2] from Blk.new_eq0 (by simp))
 have HB0 : Hid (Below w.heap.size w ((w.alloc (.cells #[.pointer (some ⟨Sb, 0, none⟩)] 28)).alloc (.cells #[.int .i64 n1, .int .i64 n2] 73))) := (bR0.alloc nR0 _).alloc (by simp) _
 obtain ⟨q, hq⟩ : ∃ q, q = dropStore s (n1, n2) := ⟨_, rfl⟩
 rw [← hq]
 have HQ := hZ9 hq
 clear h ok hq
 go_enter Tryz.func74, Tryz.ntmps74
 go_upto_region 1 with fail
 generalize (w.alloc (.cells #[.pointer (some ⟨Sb, 0, none⟩)] 28)).alloc (.cells #[.int .i64 n1, .int .i64 n2] 73) = w1 at *
 have hw1 := HB0.out.size
 have c0 : w1.cell? ⟨w.heap.size, 0, none⟩ = some (.pointer (some ⟨Sb, 0, none⟩)) := HX.out.cell 0
 have xl := HX.out.lt
 have nl := HN.out.lt
 go_upto_region 3 with fail
 clear c0
 obtain ⟨X, hX⟩ : ∃ X, X = w.heap.size := ⟨_, rfl⟩
 obtain ⟨N, hN⟩ : ∃ N, N = w.heap.size + 1 := ⟨_, rfl⟩
 rw [← hN] at HN nl
 rw [← hX] at HX xl
 rw [← hN, ← hX]
 clear hX hN
 have hbw1 : base ≤ w1.heap.size := by omega
 have H1 := hZ9 (HH.out.below HB0.out)
 cases hg : getL s.slices (n1, n2) with
 | none =>
  have hq1 : q = (6, s) := by rw [HQ.out]; exact dropStore_none hg
  subst hq1
  have SK := hZ9 (show ∀ wy, Below w1.heap.size w1 wy → wy.cell? ⟨X, 0, none⟩ = some (.pointer (some ⟨Sb, 0, none⟩)) ∧ wy.cell? ⟨Sb, 5, none⟩ = some (.map (some m.Pb)) ∧ (wy.cell? ⟨N, 0, none⟩ = some (.int .i64 n1) ∧ wy.cell? ⟨N, 1, none⟩ = some (.int .i64 n2)) ∧ (Instr.lookup 125 (.map (some m.Pb)) (.agg #[.int .i64 n1, .int .i64 n2]) true).run Tryz.prog wy = .ok (.tuple #[.agg #[.int .i64 0, .int .i64 0, .int .i64 0, .int .i64 0], .bool false]) wy from fun wy hy => by
   have hx := HX.out.below hy HX.out.lt
   have hnn := HN.out.below hy HN.out.lt
   refine ⟨hx.cell 0, (H1.out.below hy).blk.cell 5, ⟨hnn.cell 0, hnn.cell 1⟩, ?_⟩
   have := (H1.out.below hy).pmap.look_ok (x := (n1, n2)) hn
   rw [hg] at this
   exact this)
  have S0 := hZ9 (SK.out _ bR0.drew)
  have HBZ : Hid (Below w1.heap.size w1 ((w1.alloc (.cells #[.int .i64 0, .int .i64 0, .int .i64 0, .int .i64 0] 142)).drew.setRow w1.heap.size #[.int .i64 0, .int .i64 0, .int .i64 0, .int .i64 0])) :=
   (bR0.alloc nR0 _).drew.trans (grown_below (setRow_gby _ _ _) (by simp) (fun k hk => by injection hk with hk; omega))
  have zs : (stSlot (.pointer (some ⟨w1.heap.size, 0, none⟩)) (.agg #[.int .i64 0, .int .i64 0, .int .i64 0, .int .i64 0])).run Tryz.prog (w1.alloc (.cells #[.int .i64 0, .int .i64 0, .int .i64 0, .int .i64 0] 142)).drew = .ok () ((w1.alloc (.cells #[.int .i64 0, .int .i64 0, .int .i64 0, .int .i64 0] 142)).drew.setRow w1.heap.size #[.int .i64 0, .int .i64 0, .int .i64 0, .int .i64 0]) := run_stSlot (Blk.new w1 142 _).drew rfl rfl (by simp [Value.oneCell'])
  have S3 := hZ9 (SK.out _ HBZ.out)
  clear hg
  go_cut [6] (fun v6 wx => v6 = .bool false ∧ Below w1.heap.size w1 wx)
  case first =>
   go_region_held3 (fun wy => wy.cell? ⟨X, 0, none⟩ = some (.pointer (some ⟨Sb, 0, none⟩)) ∧ wy.cell? ⟨Sb, 5, none⟩ = some (.map (some m.Pb)) ∧ (wy.cell? ⟨N, 0, none⟩ = some (.int .i64 n1) ∧ wy.cell? ⟨N, 1, none⟩ = some (.int .i64 n2)) ∧ (Instr.lookup 125 (.map (some m.Pb)) (.agg #[.int .i64 n1, .int .i64 n2]) true).run Tryz.prog wy = .ok (.tuple #[.agg #[.int .i64 0, .int .i64 0, .int .i64 0, .int .i64 0], .bool false]) wy)
    (first | exact S0.out | exact S3.out | exact SK.out _ (bR0.drew.alloc nR0 _) | exact SK.out _ ((bR0.alloc nR0 _).drew))
    (fail)
   all_goals
    go_wp2_with fail
    go_meet
    exact ⟨rfl, HBZ.out⟩
  case rest =>
   obtain ⟨rfl, hb2⟩ := hcut
   have HE := hZ9 (show ActOut w wc base Sb m (6, s) (.returned (.int .i64 6)) from ⟨rfl, m, H1.out.below hb2, KeepS.of_below (HB0.out.trans (hb2.mono hw1)) hlt⟩)
   clear hb2
   go_wp2_with fail
   go_ret
   exact HE.out
 | some x =>
  have hq1 := dropStore_some hg
  rw [← HQ.out] at hq1
  have hnm := HK.out.num _ (getL_mem hg)
  obtain ⟨at', len, by', mk⟩ := x
  obtain ⟨a, ha⟩ : ∃ a : Nat, at' = a := ⟨at'.toNat, by have := hnm.1.2.2.1; simp only at this; omega⟩
  subst ha
  have hr1 := hnm.1.1
  have hr2 := hnm.1.2.1
  have ha2 : a ≤ 65536 := by have := hnm.1.2.2.1; simp only at this; omega
  have hl2 : len ≤ 1048576 := hnm.2
  simp only at hr1 hr2
  have SK := hZ9 (show ∀ wy, Below w1.heap.size w1 wy → wy.cell? ⟨X, 0, none⟩ = some (.pointer (some ⟨Sb, 0, none⟩)) ∧ wy.cell? ⟨Sb, 5, none⟩ = some (.map (some m.Pb)) ∧ (wy.cell? ⟨N, 0, none⟩ = some (.int .i64 n1) ∧ wy.cell? ⟨N, 1, none⟩ = some (.int .i64 n2)) ∧ (Instr.lookup 125 (.map (some m.Pb)) (.agg #[.int .i64 n1, .int .i64 n2]) true).run Tryz.prog wy = .ok (.tuple #[.agg #[.int .i64 a, .int .i64 len, .int .i64 by', .int .i64 mk], .bool true]) wy from fun wy hy => by
   have hx := HX.out.below hy HX.out.lt
   have hnn := HN.out.below hy HN.out.lt
   refine ⟨hx.cell 0, (H1.out.below hy).blk.cell 5, ⟨hnn.cell 0, hnn.cell 1⟩, ?_⟩
   have := (H1.out.below hy).pmap.look_ok (x := (n1, n2)) hn
   rw [hg] at this
   exact this)
  have S0 := hZ9 (SK.out _ bR0.drew)
  have HBZ : Hid (Below w1.heap.size w1 ((w1.alloc (.cells #[.int .i64 0, .int .i64 0, .int .i64 0, .int .i64 0] 142)).drew.setRow w1.heap.size #[.int .i64 a, .int .i64 len, .int .i64 by', .int .i64 mk])) :=
   (bR0.alloc nR0 _).drew.trans (grown_below (setRow_gby _ _ _) (by simp) (fun k hk => by injection hk with hk; omega))
  have HXZ : Hid (Blk ((w1.alloc (.cells #[.int .i64 0, .int .i64 0, .int .i64 0, .int .i64 0] 142)).drew.setRow w1.heap.size #[.int .i64 a, .int .i64 len, .int .i64 by', .int .i64 mk]) w1.heap.size 142 #[.int .i64 a, .int .i64 len, .int .i64 by', .int .i64 mk]) := setRow_blk (Blk.new w1 142 _).drew _
  have zs : (stSlot (.pointer (some ⟨w1.heap.size, 0, none⟩)) (.agg #[.int .i64 a, .int .i64 len, .int .i64 by', .int .i64 mk])).run Tryz.prog (w1.alloc (.cells #[.int .i64 0, .int .i64 0, .int .i64 0, .int .i64 0] 142)).drew = .ok () ((w1.alloc (.cells #[.int .i64 0, .int .i64 0, .int .i64 0, .int .i64 0] 142)).drew.setRow w1.heap.size #[.int .i64 a, .int .i64 len, .int .i64 by', .int .i64 mk]) := run_stSlot (Blk.new w1 142 _).drew rfl rfl (by simp [Value.oneCell'])
  have S3 := hZ9 (SK.out _ HBZ.out)
  have HG := hZ9 hg
  clear hg hnm
  go_cut [5, 6] (fun v5 v6 wx => ∃ Z, v5 = .pointer (some ⟨Z, 0, none⟩) ∧ v6 = .bool true ∧ Below w1.heap.size w1 wx ∧ Blk wx Z 142 #[.int .i64 a, .int .i64 len, .int .i64 by', .int .i64 mk])
  case first =>
   go_region_held3 (fun wy => wy.cell? ⟨X, 0, none⟩ = some (.pointer (some ⟨Sb, 0, none⟩)) ∧ wy.cell? ⟨Sb, 5, none⟩ = some (.map (some m.Pb)) ∧ (wy.cell? ⟨N, 0, none⟩ = some (.int .i64 n1) ∧ wy.cell? ⟨N, 1, none⟩ = some (.int .i64 n2)) ∧ (Instr.lookup 125 (.map (some m.Pb)) (.agg #[.int .i64 n1, .int .i64 n2]) true).run Tryz.prog wy = .ok (.tuple #[.agg #[.int .i64 a, .int .i64 len, .int .i64 by', .int .i64 mk], .bool true]) wy)
    (first | exact S0.out | exact S3.out | exact SK.out _ (bR0.drew.alloc nR0 _) | exact SK.out _ ((bR0.alloc nR0 _).drew))
    (fail)
   all_goals
    go_wp2_with fail
    go_meet
    exact ⟨_, rfl, rfl, HBZ.out, HXZ.out⟩
  case rest =>
   obtain ⟨Z, rfl, rfl, hb2, hz⟩ := hcut
   have hxc := HX.out.below hb2 HX.out.lt
   have hnc := HN.out.below hb2 HN.out.lt
   have hhc := H1.out.below hb2
   obtain ⟨w9, hrun, hs9, hk9, hkk9, htu⟩ := (hhc.below bR0.drew).striking (n1, n2) hn (without (n1, n2) s.slices) (fun y => getL_without (n1, n2) y s.slices) (List.Pairwise.filter _ HK.out.srtS) (fun x hx => HK.out.num x (List.mem_filter.1 hx).1)
   replace hrun : (Builtin.delete_ #[125, 73] 0 #[.map (some m.Pb), .agg #[.int .i64 n1, .int .i64 n2]]).run Tryz.prog wc.drew = .ok (.tuple #[]) w9 := hrun
   have S6 := hZ9 (show wc.drew.cell? ⟨X, 0, none⟩ = some (.pointer (some ⟨Sb, 0, none⟩)) ∧ wc.drew.cell? ⟨Sb, 5, none⟩ = some (.map (some m.Pb)) ∧ (wc.drew.cell? ⟨N, 0, none⟩ = some (.int .i64 n1) ∧ wc.drew.cell? ⟨N, 1, none⟩ = some (.int .i64 n2)) from ⟨hxc.drew.cell 0, hhc.blk.drew.cell 5, hnc.drew.cell 0, hnc.drew.cell 1⟩)
   have S9 := hZ9 (show w9.cell? ⟨X, 0, none⟩ = some (.pointer (some ⟨Sb, 0, none⟩)) ∧ w9.cell? ⟨Sb, 5, none⟩ = some (.map (some m.Pb)) ∧ (w9.cell? ⟨N, 0, none⟩ = some (.int .i64 n1) ∧ w9.cell? ⟨N, 1, none⟩ = some (.int .i64 n2)) from ⟨(hxc.drew.keeps hkk9 (by decide)).cell 0, hs9.blk.cell 5, (hnc.drew.keeps hkk9 (by decide)).cell 0, (hnc.drew.keeps hkk9 (by decide)).cell 1⟩)
   have H9 := hZ9 (show StR w9 base Sb { s with slices := without (n1, n2) s.slices } m ∧ KeepS base m m w w9 ∧ Blk w9 X 28 #[.pointer (some ⟨Sb, 0, none⟩)] ∧ Blk w9 N 73 #[.int .i64 n1, .int .i64 n2] ∧ Blk w9 Z 142 #[.int .i64 a, .int .i64 len, .int .i64 by', .int .i64 mk] from
    ⟨hs9, (KeepS.of_below (m := m) (HB0.out.trans ((hb2.mono hw1).trans (bR0.drew.mono (Nat.le_trans hw1 hb2.size)))) hlt).trans hk9, hxc.drew.keeps hkk9 (by decide), hnc.drew.keeps hkk9 (by decide), hz.drew.keeps hkk9 (by decide)⟩)
   have hslc := hhc.blk.lt
   have hxl := hxc.lt
   have hnl := hnc.lt
   have hzl := hz.lt
   clear hz hb2 hs9 hk9 hkk9 htu hxc hnc hhc S0 S3 zs HBZ HXZ SK H1 HX HN HB0
   go_upto_region 6 with fail
   go_cut [6] (fun v6 wx => v6 = .bool true ∧ wx = w9)
   case first =>
    go_region_held3 (fun wy => wy.cell? ⟨X, 0, none⟩ = some (.pointer (some ⟨Sb, 0, none⟩)) ∧ wy.cell? ⟨Sb, 5, none⟩ = some (.map (some m.Pb)) ∧ (wy.cell? ⟨N, 0, none⟩ = some (.int .i64 n1) ∧ wy.cell? ⟨N, 1, none⟩ = some (.int .i64 n2)))
     (first | exact S6.out | exact S9.out)
     (fail)
    all_goals
     go_wp2_with fail
     go_meet
     exact ⟨rfl, rfl⟩
   case rest =>
    obtain ⟨rfl, rfl⟩ := hcut
    have hb9 := H9.out.1.lt
    have hsl9 := H9.out.1.blk.lt
    have hxl9 := H9.out.2.2.1.lt
    have hnl9 := H9.out.2.2.2.1.lt
    have hnb : ∀ y ∈ [n1, n2], -9223372036854775808 ≤ y ∧ y ≤ 9223372036854775807 := by
     unfold rightB at hr1 hr2
     simp only [Bool.and_eq_true, decide_eq_true_eq] at hr1 hr2
     intro y hy
     simp only [List.mem_cons, List.not_mem_nil, or_false] at hy
     rcases hy with rfl | rfl <;> omega
    have hwl := words_len _ hnb
    have HWD := hZ9 (show ∀ wy, Below wc.heap.size wc wy → Calls Tryz.prog 123 #[.slice (some ⟨wy.heap.size, 0, none⟩) 2 2] (wy.alloc (.cells #[.int .i64 n1, .int .i64 n2] 2)) fun e w' => e = .returned (.string ⟨(wordsS [n1, n2]).toArray⟩) ∧ Below wy.heap.size wy w' from fun wy hy => by
     have h1 : Below wy.heap.size wy (wy.alloc (.cells #[.int .i64 n1, .int .i64 n2] 2)) := bR0.alloc nR0 _
     have := words_any (w := wy.alloc (.cells #[.int .i64 n1, .int .i64 n2] 2)) [n1, n2] (some ⟨wy.heap.size, 0, none⟩) 2 (Sl.of_blk (Blk.new wy 2 _) rfl).1 (by simp) hnb ((H9.out.1.below hy).tab.tb.below h1)
     exact this.mono fun e w' ⟨he, hb⟩ => ⟨he, h1.trans (hb.mono h1.size)⟩)
    have HRE := hZ9 (show ∀ wy, Calls Tryz.prog 71 #[.int .u8 68, .string ⟨(wordsS [n1, n2]).toArray⟩] wy fun e w' => RecOut wy w' (68, wordsS [n1, n2]) e from fun wy => record_any (w := wy) 68 (wordsS [n1, n2]))
    have HLB : (wordsS [n1, n2]).length < 1099511627776 := by
     simp only [List.length_cons, List.length_nil] at hwl
     omega
    have HLG := hZ9 (show ∀ wy A c, Below wc.heap.size wc wy → Byt wy A (wordsS [n1, n2]) → (wordsS [n1, n2]).length ≤ c → Calls Tryz.prog 70 #[.pointer (some ⟨Sb, 0, none⟩), .agg #[.int .u8 68, .slice A (wordsS [n1, n2]).length c], .func (.func 131) #[] #[.pointer (some ⟨Z, 0, none⟩), .pointer (some ⟨X, 0, none⟩), .pointer (some ⟨N, 0, none⟩)]] wy fun e w' => e = .returned (.int .i64 (loggedS { s with slices := without (n1, n2) s.slices } s (68, wordsS [n1, n2])).1) ∧ StR w' base Sb (loggedS { s with slices := without (n1, n2) s.slices } s (68, wordsS [n1, n2])).2 m ∧ KeepS base m m w w' ∧ (loggedS { s with slices := without (n1, n2) s.slices } s (68, wordsS [n1, n2])).2.map = s.map ∧ Blk w' X 28 #[.pointer (some ⟨Sb, 0, none⟩)] ∧ Blk w' N 73 #[.int .i64 n1, .int .i64 n2] ∧ Blk w' Z 142 #[.int .i64 a, .int .i64 len, .int .i64 by', .int .i64 mk] from fun wy A c hy hby hc => by
     have hh := H9.out.1.below hy
     have okl := HK.out.struck (n1, n2)
     have hx := H9.out.2.2.1.below hy H9.out.2.2.1.lt
     have hnn := H9.out.2.2.2.1.below hy H9.out.2.2.2.1.lt
     have hz := H9.out.2.2.2.2.below hy H9.out.2.2.2.2.lt
     have hkw := H9.out.2.1.trans (KeepS.of_below (m := m) hy hb9)
     have hnN := HK.out.nN
     have hnS := HK.out.nS
     have hnM := HK.out.nM
     have hpl : (without (n1, n2) s.slices).length ≤ s.slices.length := List.length_filter_le _ _
     have := logged_any hh okl (by have := HK.out.wt; show s.d.waits.length ≤ _; omega) (by have := HK.out.ep; show s.log.epoch + 2 < _; omega) HK.out.at' HK.out.lsz (68, wordsS [n1, n2]) (by show 68 < 256; decide) HLB A c hby hc
      (by rw [records_eq, List.length_append, List.length_append, List.length_map, List.length_map, List.length_map]; show s.notes.length + (without (n1, n2) s.slices).length + s.marks.length ≤ _; omega)
      131 #[.pointer (some ⟨Z, 0, none⟩), .pointer (some ⟨X, 0, none⟩), .pointer (some ⟨N, 0, none⟩)] (fun _ _ => rfl)
      (fun w' => StR w' base Sb (loggedS { s with slices := without (n1, n2) s.slices } s (68, wordsS [n1, n2])).2 m ∧ KeepS base m m w w' ∧ (loggedS { s with slices := without (n1, n2) s.slices } s (68, wordsS [n1, n2])).2.map = s.map ∧ Blk w' X 28 #[.pointer (some ⟨Sb, 0, none⟩)] ∧ Blk w' N 73 #[.int .i64 n1, .int .i64 n2] ∧ Blk w' Z 142 #[.int .i64 a, .int .i64 len, .int .i64 by', .int .i64 mk])
      (fun w' d l hd hk hs => by
       rw [loggedS_ok hd]
       exact ⟨hs, hkw.trans (KeepS.of hk (by simp)), rfl, hx.keeps hk (by decide), hnn.keeps hk (by decide), hz.keeps hk (by decide)⟩)
      (fun wz e d l hd he hk hs => by
       rw [loggedS_no hd he]
       refine (undoDrop_any (s := { s with d := d, log := l }) (x := ⟨a, len, by', mk⟩) hs hn (hz.keeps hk (by decide)) (hx.keeps hk (by decide)) (hnn.keeps hk (by decide)) HG.out HK.out.srtS HK.out.num (by show s.slices.length < _; omega)).mono ?_
       rintro en w' ⟨h1, h2, h3, h4⟩
       exact ⟨h1, h2, (hkw.trans (KeepS.of hk (by simp))).trans h3, rfl, (hx.keeps hk (by decide)).keeps h4 (by decide), (hnn.keeps hk (by decide)).keeps h4 (by decide), (hz.keeps hk (by decide)).keeps h4 (by decide)⟩)
     rw [← loggedS_fst (was := s)] at this
     exact this)
    have SKc := hZ9 (show ∀ wy, Below wc.heap.size wc wy → wy.cell? ⟨X, 0, none⟩ = some (.pointer (some ⟨Sb, 0, none⟩)) ∧ wy.cell? ⟨N, 0, none⟩ = some (.int .i64 n1) ∧ wy.cell? ⟨N, 1, none⟩ = some (.int .i64 n2) from fun wy hy => ⟨(H9.out.2.2.1.below hy H9.out.2.2.1.lt).cell 0, (H9.out.2.2.2.1.below hy H9.out.2.2.2.1.lt).cell 0, (H9.out.2.2.2.1.below hy H9.out.2.2.2.1.lt).cell 1⟩)
    have S1 := hZ9 (SKc.out _ bR0.drew)
    clear hwl HLB hnb hrun S6 S9 hr1 hr2 HG
    obtain ⟨lg, hlg⟩ : ∃ lg, lg = loggedS { s with slices := without (n1, n2) s.slices } s (68, wordsS [n1, n2]) := ⟨_, rfl⟩
    simp only at hq1
    rw [← hlg] at hq1 HLG
    clear hlg HQ
    generalize wordsS [n1, n2] = bs at *
    obtain ⟨er, s6⟩ := lg
    have HQ := hZ9 hq1
    clear hq1
    go_upto_region 7 with fail
    go_cut [7] (fun v7 wx => v7 = .int .i64 er ∧ StR wx base Sb s6 m ∧ KeepS base m m w wx ∧ s6.map = s.map ∧ Blk wx X 28 #[.pointer (some ⟨Sb, 0, none⟩)] ∧ Blk wx Z 142 #[.int .i64 a, .int .i64 len, .int .i64 by', .int .i64 mk])
    case first =>
     go_region_held3 (fun wy => wy.cell? ⟨X, 0, none⟩ = some (.pointer (some ⟨Sb, 0, none⟩)) ∧ wy.cell? ⟨N, 0, none⟩ = some (.int .i64 n1) ∧ wy.cell? ⟨N, 1, none⟩ = some (.int .i64 n2))
      (first | exact S1.out | exact S7.out | exact SKc.out _ HB4.out | exact SKc.out _ HB3.out | (refine SKc.out _ ?_; repeat' (first | exact bR0 | exact HB4.out | exact HB3.out | refine Below.drew ?_ | refine Below.alloc ?_ (by simp) _)))
      (first
       | (go_at_call 123; refine (HWD.out _ bR0.drew).mono ?_; rintro en w3 ⟨rfl, hb3⟩; (have HB3 : Hid (Below wc.heap.size wc w3) := bR0.drew.trans hb3); clear hb3)
       | (go_at_call 71; refine (HRE.out _).mono ?_; rintro en w4 ⟨⟨A4, c4, rfl, hy4, hc4⟩, hb4⟩; (have HY4 := hZ9 hy4); (have HC4 := hZ9 hc4); (have HB4 : Hid (Below wc.heap.size wc w4) := HB3.out.trans (hb4.mono HB3.out.size)); clear hy4 hc4 hb4)
       | (go_at_call 70; refine (HLG.out _ _ _ HB4.out HY4.out HC4.out).mono ?_; rintro en w7 ⟨rfl, h7, kk7, m7, x7, y7, z7⟩; (have H7 := hZ9 (And.intro h7 (And.intro kk7 (And.intro m7 (And.intro x7 z7))))); (have S7 := hZ9 (And.intro (x7.cell 0) (And.intro (y7.cell 0) (y7.cell 1)))); clear h7 kk7 m7 x7 y7 z7))
     all_goals
      go_wp2_with fail
      go_meet
      exact ⟨rfl, H7.out⟩
    case rest =>
     obtain ⟨rfl, h7, k7', m7, x7, z7⟩ := hcut
     have H7 := hZ9 h7
     have K7 := hZ9 k7'
     by_cases he : er = 0
     ·subst he
      have hq2 : q = (0, { s6 with map := (giveM s6.map a len).2 }) := by
       rw [HQ.out]
       show (0, { s6 with map := giveSlot s6.map ⟨(a : Int), len, by', mk⟩ }) = _
       unfold giveSlot
       rw [if_neg (by simp)]
       rfl
      subst hq2
      have GV := hZ9 (show ∀ wy, Below wc.heap.size wc wy → Calls Tryz.prog 108 #[.pointer (some ⟨m.M, 0, none⟩), .agg #[.int .i64 a, .int .i64 len]] wy fun e w' => ClaimOut wy w' base m.M (giveM s6.map a len) e from fun wy hy => Give_any (H7.out.below hy).map (by rw [m7]; exact HK.out.map) (Nat.le_trans H7.out.lt hy.size) a len (by omega) (by omega))
      have S0 := hZ9 (show wc.drew.cell? ⟨X, 0, none⟩ = some (.pointer (some ⟨Sb, 0, none⟩)) ∧ wc.drew.cell? ⟨Sb, 3, none⟩ = some (.pointer (some ⟨m.M, 0, none⟩)) ∧ wc.drew.cell? ⟨Z, 0, none⟩ = some (.int .i64 a) ∧ wc.drew.cell? ⟨Z, 1, none⟩ = some (.int .i64 len) from ⟨x7.drew.cell 0, h7.blk.drew.cell 3, z7.drew.cell 0, z7.drew.cell 1⟩)
      have X7 := hZ9 x7
      have Z7 := hZ9 z7
      have xl7 := x7.lt
      have zl7 := z7.lt
      have sl7 := h7.blk.lt
      have hb7 := h7.lt
      clear h7 k7' x7 z7 HLG HRE HWD SKc S1
      go_upto_region 9 with fail
      go_region_held3 (fun wy => wy.cell? ⟨X, 0, none⟩ = some (.pointer (some ⟨Sb, 0, none⟩)) ∧ wy.cell? ⟨Sb, 3, none⟩ = some (.pointer (some ⟨m.M, 0, none⟩)) ∧ wy.cell? ⟨Z, 0, none⟩ = some (.int .i64 a) ∧ wy.cell? ⟨Z, 1, none⟩ = some (.int .i64 len))
       (first | exact S0.out | exact S8.out)
       (first | (go_at_call 108; refine (GV.out _ bR0.drew).mono ?_; rintro en w8 ⟨rfl, hm8, hk8⟩; (have hkd : Keeps base [220] wc w8 := (Keeps.of_below bR0.drew hb7).trans hk8); (have HM8 := hZ9 hm8); (have HK8 := hZ9 hkd); (have S8 := hZ9 (show w8.cell? ⟨X, 0, none⟩ = some (.pointer (some ⟨Sb, 0, none⟩)) ∧ w8.cell? ⟨Sb, 3, none⟩ = some (.pointer (some ⟨m.M, 0, none⟩)) ∧ w8.cell? ⟨Z, 0, none⟩ = some (.int .i64 a) ∧ w8.cell? ⟨Z, 1, none⟩ = some (.int .i64 len) from ⟨(X7.out.keeps hkd (by decide)).cell 0, (H7.out.blk.keeps hkd (by decide)).cell 3, (Z7.out.keeps hkd (by decide)).cell 0, (Z7.out.keeps hkd (by decide)).cell 1⟩)); clear hm8 hk8 hkd))
      all_goals
       go_wp2_with fail
       go_ret
       exact ⟨rfl, m, H7.out.mapped HK8.out HM8.out, K7.out.trans (KeepS.of HK8.out (by simp))⟩
     ·have he' : ((er : Int) == 0) = false := by simp; omega
      have he2 : ¬ ((er : Int) = 0) := by omega
      have hq2 : q = (er, s6) := by
       rw [HQ.out]
       cases er with
       | zero => exact absurd rfl he
       | succ e => rfl
      subst hq2
      clear he h7 k7' x7 z7 HLG HRE HWD SKc S1
      go_wp2_with fail
      go_ret
      exact ⟨rfl, m, H7.out, K7.out⟩
end
end Go.Proofs.YtmgmfnimaafkdaaGreatDoor
