/- A slice is put: in general, behind the free sectors found. -/
import Derived.Test.YtmgmfnimaafkdaaGreatDoorVV
import Derived.Test.YtmgmfnimaafkdaaGreatDoorUJ
namespace Go.Proofs.YtmgmfnimaafkdaaGreatDoor
open Go.RowKit Go.Maps Go.Shelf Go.Sort
set_option maxRecDepth 100000

attribute [local go_sem ↓] st140_fold
set_option maxHeartbeats 16000000 in
theorem putL_any {w : World} {base Sb lo N : Nat} {s s1 : StV} {m : StM} {n : NameV} {b : List UInt8} {a l : Nat} {m1 : MapV} {mark nn : Nat} {d1 : DskV} (h : StR w base Sb s m) (ok : StOK s) (hp : PutL s n b a l m1 mark s1 nn d1) (hgv : MapInv s1.map lo N) (A : Option Addr) (c : Nat) (hby : ByL base w A b) (hc : b.length ≤ c) :
  Calls Tryz.prog 53 #[.pointer (some ⟨Sb, 0, none⟩), nameV n, .slice A b.length c] w fun e w' => e = .returned (.int .i64 (putLS s1 n b a l mark d1).1) ∧ StR w' base Sb (putLS s1 n b a l mark d1).2 m ∧ KeepS base m m w w' := by
 have HH := hZ9 h
 have HK := hZ9 ok
 have HP := hZ9 hp
 have HBY := hZ9 hby
 have hlt := h.lt
 have hsl := h.blk.lt
 obtain ⟨n1, n2⟩ := n
 obtain ⟨q, hq⟩ : ∃ q, q = putLS s1 (n1, n2) b a l mark d1 := ⟨_, rfl⟩
 rw [← hq]
 have HQQ := hZ9 hq
 clear hq
 have hr1 := hp.r1
 have hr2 := hp.r2
 have hb1 := hp.b1
 have hb2 := hp.b2
 have hwn : wfN (n1, n2) := ⟨wfI_right hp.r1, wfI_right hp.r2⟩
 clear h ok hp hby
 unfold nameV
 simp only at hr1 hr2 ⊢
 have hb0 : Below w.heap.size w ((w.alloc (.cells #[.pointer (some ⟨Sb, 0, none⟩)] 28)).alloc (.cells #[.int .i64 n1, .int .i64 n2] 73)) := (bR0.alloc nR0 _).alloc (by simp) _
 have HB0 := hZ9 hb0
 have HX3 := hZ9 (show Blk ((w.alloc (.cells #[.pointer (some ⟨Sb, 0, none⟩)] 28)).alloc (.cells #[.int .i64 n1, .int .i64 n2] 73)) w.heap.size 28 #[.pointer (some ⟨Sb, 0, none⟩)] from (Blk.new _ _ _).alloc _)
 have HX4 := hZ9 (show Blk ((w.alloc (.cells #[.pointer (some ⟨Sb, 0, none⟩)] 28)).alloc (.cells #[.int .i64 n1, .int .i64 n2] 73)) (w.heap.size + 1) 73 #[.int .i64 n1, .int .i64 n2] from Blk.new_eq0 (by simp))
 have R1 := hZ9 (fun wy => show Calls Tryz.prog 104 #[.int .i64 n1] wy fun e w' => e = .returned (.bool true) ∧ wy = w' from by have := right_any n1 wy; rw [hr1] at this; exact this)
 have R2 := hZ9 (fun wy => show Calls Tryz.prog 104 #[.int .i64 n2] wy fun e w' => e = .returned (.bool true) ∧ wy = w' from by have := right_any n2 wy; rw [hr2] at this; exact this)
 clear hb0 hr1 hr2
 go_enter Tryz.func53, Tryz.ntmps53
 go_upto_region 1 with fail
 generalize hw1e : (w.alloc (.cells #[.pointer (some ⟨Sb, 0, none⟩)] 28)).alloc (.cells #[.int .i64 n1, .int .i64 n2] 73) = w1 at *
 clear hw1e
 have hw1 := HB0.out.size
 have c3 : w1.cell? ⟨w.heap.size, 0, none⟩ = some (.pointer (some ⟨Sb, 0, none⟩)) := HX3.out.cell 0
 have c40 : w1.cell? ⟨w.heap.size + 1, 0, none⟩ = some (.int .i64 n1) := HX4.out.cell 0
 have c41 : w1.cell? ⟨w.heap.size + 1, 1, none⟩ = some (.int .i64 n2) := HX4.out.cell 1
 have l3 := HX3.out.lt
 have l4 := HX4.out.lt
 have hb1' : ¬ ((b.length : Int) < 1) := by omega
 have hb2' : ¬ ((b.length : Int) > 1048576) := by omega
 go_upto_region 5 with (first
  | ((fail_if_success (have := RR)); go_at_call 104; refine (R1.out _).mono ?_; rintro en w' ⟨rfl, rfl⟩; (have RR := hZ9 (show True from trivial)))
  | (go_at_call 104; refine (R2.out _).mono ?_; rintro en w' ⟨rfl, rfl⟩))
 clear c3 c40 c41 RR hb1' hb2' R1 R2
 have SKb := hZ9 (show ∀ wy, Keeps base [121, 165, 167, 216, 137, 129, 220] w1 wy → wy.cell? ⟨w.heap.size, 0, none⟩ = some (.pointer (some ⟨Sb, 0, none⟩)) ∧ wy.cell? ⟨w.heap.size + 1, 0, none⟩ = some (.int .i64 n1) ∧ wy.cell? ⟨w.heap.size + 1, 1, none⟩ = some (.int .i64 n2) from fun wy hy => by
  have a3 := HX3.out.keeps hy (by decide)
  have a4 := HX4.out.keeps hy (by decide)
  exact ⟨a3.cell 0, a4.cell 0, a4.cell 1⟩)
 have hbw1 : base ≤ w1.heap.size := by omega
 go_cut [7, 8] (fun _ v8 wx => v8 = .bool false ∧ Below w1.heap.size w1 wx)
 case first => as_aux_lemma =>
  have SK := hZ9 (show ∀ wy, Below w1.heap.size w1 wy → (wy.cell? ⟨w.heap.size, 0, none⟩ = some (.pointer (some ⟨Sb, 0, none⟩)) ∧ wy.cell? ⟨w.heap.size + 1, 0, none⟩ = some (.int .i64 n1) ∧ wy.cell? ⟨w.heap.size + 1, 1, none⟩ = some (.int .i64 n2)) ∧ wy.cell? ⟨Sb, 5, none⟩ = some (.map (some m.Pb)) ∧ (Instr.lookup 125 (.map (some m.Pb)) (.agg #[.int .i64 n1, .int .i64 n2]) true).run Tryz.prog wy = .ok (.tuple #[.agg #[.int .i64 0, .int .i64 0, .int .i64 0, .int .i64 0], .bool false]) wy from fun wy hy => by
   have hh := HH.out.below (HB0.out.trans (hy.mono hw1))
   refine ⟨SKb.out _ (Keeps.of_below hy hbw1), hh.blk.cell 5, ?_⟩
   have := hh.pmap.look_ok (x := (n1, n2)) hwn
   rw [HP.out.new] at this
   exact this)
  have S0 := hZ9 (SK.out _ bR0.drew)
  go_region_held3 (fun wy => (wy.cell? ⟨w.heap.size, 0, none⟩ = some (.pointer (some ⟨Sb, 0, none⟩)) ∧ wy.cell? ⟨w.heap.size + 1, 0, none⟩ = some (.int .i64 n1) ∧ wy.cell? ⟨w.heap.size + 1, 1, none⟩ = some (.int .i64 n2)) ∧ wy.cell? ⟨Sb, 5, none⟩ = some (.map (some m.Pb)) ∧ (Instr.lookup 125 (.map (some m.Pb)) (.agg #[.int .i64 n1, .int .i64 n2]) true).run Tryz.prog wy = .ok (.tuple #[.agg #[.int .i64 0, .int .i64 0, .int .i64 0, .int .i64 0], .bool false]) wy)
   (first | exact S0.out | exact SK.out _ (bR0.drew.alloc nR0 _) | exact SK.out _ ((bR0.alloc nR0 _).drew))
   (fail)
  all_goals
   go_wp2_with fail
   go_meet
   exact ⟨rfl, (bR0.alloc nR0 _).drew⟩
 case rest =>
  obtain ⟨rfl, hb2⟩ := hcut
  have hh2 : StR wc base Sb s m := HH.out.below (HB0.out.trans (hb2.mono hw1))
  have HH2 := hZ9 hh2
  have hsl2 := hh2.blk.lt
  have hbw2 := hh2.lt
  have hsz2 := hb2.size
  have HB2 := hZ9 hb2
  have hnd : s.d.size ≤ 4096 := by obtain ⟨m', hm⟩ := hh2.dsk; exact hm.sz.2
  have HN := hZ9 (show ∀ wy, Calls Tryz.prog 56 #[.int .i64 s.d.size, .int .i64 b.length] wy fun e w' => e = .returned (.int .i64 (needP s.d.size b.length : Nat)) ∧ wy = w' from fun wy => pageNeed_any s.d.size b.length (by omega) (by omega) wy)
  have HTK := hZ9 (show ∀ wy, Below wc.heap.size wc wy → Calls Tryz.prog 105 #[.pointer (some ⟨m.M, 0, none⟩), .int .i64 (needP s.d.size b.length : Nat)] wy fun e w' => TakeOutF wy w' base m.M (0, (a, l), m1) e from fun wy hy => by
   have := takeF_any (HH2.out.below hy).map HK.out.map (Nat.le_trans hbw2 hy.size) (needP s.d.size b.length) (needP_bound _ _)
   rw [HP.out.take] at this
   exact this)
  have SK := hZ9 (show ∀ wy, Keeps base [220] wc wy → wy.cell? ⟨w.heap.size, 0, none⟩ = some (.pointer (some ⟨Sb, 0, none⟩)) ∧ wy.cell? ⟨Sb, 3, none⟩ = some (.pointer (some ⟨m.M, 0, none⟩)) ∧ wy.cell? ⟨Sb, 1, none⟩ = some (.int .i64 s.d.size) from fun wy hy => by
   have hh := HH2.out.blk.keeps hy (by decide)
   exact ⟨(SKb.out _ ((Keeps.of_below HB2.out hbw1).trans (hy.mono nR0 (by simp)))).1, hh.cell 3, hh.cell 1⟩)
  have HNE : Hid (s.map.free ≠ []) := by
   refine hZ9 fun h0 => ?_
   have := HP.out.take
   unfold takeM at this
   rw [h0] at this
   split at this <;> simp at this
  clear hh2 hb2
  generalize needP s.d.size b.length = nd at *
  go_upto_region 8 with fail
  go_cut [9, 10] (fun v9 v10 wx => ∃ k, v9 = .pointer (some ⟨k, 0, none⟩) ∧ v10 = .int .i64 0 ∧ Blk wx k 140 #[.int .i64 a, .int .i64 l] ∧ w1.heap.size ≤ k ∧ StR wx base Sb { s with map := m1 } m ∧ Keeps base [121, 165, 167, 216, 137, 129, 220] w1 wx)
  case first => as_aux_lemma =>
   have kd := hZ9 (Keeps.of_below (base := base) (ts := [220]) bR0.drew hbw2)
   have bz : Below wc.heap.size wc (wc.alloc (.cells #[.int .i64 0, .int .i64 0] 140)).drew := (bR0.alloc nR0 _).drew
   have BZ := hZ9 bz
   have kz := hZ9 (Keeps.of_below (base := base) (ts := [220]) bz hbw2)
   obtain ⟨d1, d2, d3⟩ := SK.out _ kd.out
   obtain ⟨d4, d5, d6⟩ := SK.out _ kz.out
   have ZA := hZ9 (show ∀ w4, Keeps base [220] (wc.alloc (.cells #[.int .i64 0, .int .i64 0] 140)).drew w4 → Blk w4 wc.heap.size 140 #[.int .i64 0, .int .i64 0] ∧ (st140 (.pointer (some ⟨wc.heap.size, 0, none⟩)) (.agg #[.int .i64 a, .int .i64 l])).run Tryz.prog w4 = .ok () (w4.setRow wc.heap.size #[.int .i64 a, .int .i64 l]) from fun w4 hk => by
    have hb := (Blk.new wc 140 #[.int .i64 0, .int .i64 0]).drew.keeps hk (by decide)
    exact ⟨hb, run_st140 hb rfl rfl (by simp [Value.oneCell'])⟩)
   have ZB := hZ9 (show ∀ w4 : World, (st140 (.pointer (some ⟨w4.heap.size, 0, none⟩)) (.agg #[.int .i64 a, .int .i64 l])).run Tryz.prog (w4.alloc (.cells #[.int .i64 0, .int .i64 0] 140)) = .ok () ((w4.alloc (.cells #[.int .i64 0, .int .i64 0] 140)).setRow w4.heap.size #[.int .i64 a, .int .i64 l]) from fun w4 => run_st140 (Blk.new w4 140 _) rfl rfl (by simp [Value.oneCell']))
   clear bz
   go_region_law (first
     | (go_at_call 56; refine (HN.out _).mono ?_; rintro en w' ⟨rfl, rfl⟩)
     | (go_at_call 105; refine (HTK.out _ BZ.out).mono ?_; rintro en w4 ⟨rfl, hm3, hk3, hf3⟩; (have HM3 := hZ9 hm3); (have HF3 := hZ9 hf3); (have K4 := hZ9 (kz.out.trans hk3)); (have HZA := hZ9 (ZA.out _ hk3)); (have zs := HZA.out.2); clear hm3 hk3 hf3)
     | (go_at_call 105; refine (HTK.out _ bR0.drew).mono ?_; rintro en w4 ⟨rfl, hm3, hk3, hf3⟩; (have HM3 := hZ9 hm3); (have HF3 := hZ9 hf3); (have K4 := hZ9 (kd.out.trans hk3)); (have zs := ZB.out w4); clear hm3 hk3 hf3)
     | (go_simp; go_at_call 56; refine (HN.out _).mono ?_; rintro en w' ⟨rfl, rfl⟩)
     | (go_simp; go_at_call 105; refine (HTK.out _ BZ.out).mono ?_; rintro en w4 ⟨rfl, hm3, hk3, hf3⟩; (have HM3 := hZ9 hm3); (have HF3 := hZ9 hf3); (have K4 := hZ9 (kz.out.trans hk3)); (have HZA := hZ9 (ZA.out _ hk3)); (have zs := HZA.out.2); clear hm3 hk3 hf3)
     | (go_simp; go_at_call 105; refine (HTK.out _ bR0.drew).mono ?_; rintro en w4 ⟨rfl, hm3, hk3, hf3⟩; (have HM3 := hZ9 hm3); (have HF3 := hZ9 hf3); (have K4 := hZ9 (kd.out.trans hk3)); (have zs := ZB.out w4); clear hm3 hk3 hf3))
   all_goals
    go_wp2_with fail
    go_meet
   all_goals first
    | (have hz9 := HZA.out.1
       have hgb := setRow_gby w4 wc.heap.size #[.int .i64 a, .int .i64 l]
       have hks := K4.out.grown_new hgb hbw2 nR0
       have hml := HH2.out.map.lt
       have hm4 := HM3.out.grown hgb (Nat.ne_of_lt hml) (fun a1 n1 c1 h1 => by
        have hfr : FreeIn (wc.alloc (.cells #[.int .i64 0, .int .i64 0] 140)).drew m.M (· < wc.heap.size) := fun a2 n2 c2 h2 => HH2.out.map.freeIn HNE.out a2 n2 c2 ((BZ.out.cell hml).symm.trans h2)
        rcases HF3.out _ hfr a1 n1 c1 h1 with h5 | h5
        ·exact Nat.ne_of_lt h5
        ·simp at h5; omega)
       exact ⟨wc.heap.size, rfl, rfl, setRow_blk HZA.out.1 _, hsz2, HH2.out.mapped hks hm4, (Keeps.of_below HB2.out hbw1).trans (hks.mono nR0 (by simp))⟩)
    | (have hm4 := HH2.out.mapped K4.out HM3.out
       have ba : Below w4.heap.size w4 ((w4.alloc (.cells #[.int .i64 0, .int .i64 0] 140)).setRow w4.heap.size #[.int .i64 a, .int .i64 l]) := (bR0.alloc nR0 _).trans (grown_below (setRow_gby _ _ _) (by simp) (fun k hk => by injection hk with hk; omega))
       exact ⟨w4.heap.size, rfl, rfl, setRow_blk (Blk.new w4 140 _) _, Nat.le_trans hsz2 K4.out.below.size, hm4.below ba, ((Keeps.of_below HB2.out hbw1).trans (K4.out.mono nR0 (by simp))).trans (Keeps.of_below ba (Nat.le_trans hbw2 K4.out.below.size))⟩)
  case rest =>
   obtain ⟨k, rfl, rfl, hbk, hkl, hs3, hk3⟩ := hcut
   have HBK := hZ9 hbk
   have HS3 := hZ9 hs3
   have HK3 := hZ9 hk3
   have hsl3 := hs3.blk.lt
   have hbw3 := hs3.lt
   have e1 := (SKb.out _ hk3).1
   have HNX := hZ9 (show ∀ wy, Below wc.heap.size wc wy → Calls Tryz.prog 106 #[.pointer (some ⟨Sb, 0, none⟩)] wy fun e w' => e = .returned (.tuple #[.int .i64 (mark : Nat), .int .i64 0]) ∧ StR w' base Sb s1 m ∧ Keeps base [121, 165, 167, 216, 137, 129] wy w' from fun wy hy => by
    have hl := HK.out.l
    have := next_any (s := { s with map := m1 }) (HS3.out.below hy) ⟨hl.srtS, hl.num, hl.srtN, hl.txt, hl.mks, hl.nS, hl.nN, hl.nM⟩ (by have := HP.out.w0; show s.d.waits.length ≤ _; omega) (by have := HP.out.e0; show s.log.epoch + 2 < _; omega) HK.out.lsz HP.out.se HP.out.sp
    rw [HP.out.next] at this
    exact this)
   clear hbk hs3 hk3 HTK SK HNE HN
   go_upto_region 11 with fail
   go_cut [10, 11] (fun v10 v11 wx => v10 = .int .i64 0 ∧ v11 = .int .i64 mark ∧ StR wx base Sb s1 m ∧ Keeps base [121, 165, 167, 216, 137, 129, 220] w1 wx ∧ Blk wx k 140 #[.int .i64 a, .int .i64 l])
   case first => as_aux_lemma =>
    go_wp2_with (go_at_call 106; refine (HNX.out _ bR0).mono ?_; rintro en w4 ⟨rfl, hs4, hk4⟩; (have HS4 := hZ9 hs4); (have HK4 := hZ9 hk4); clear hs4 hk4)
    go_meet
    exact ⟨rfl, rfl, HS4.out, HK3.out.trans (HK4.out.mono nR0 (by simp)), HBK.out.keeps HK4.out (by decide)⟩
   case rest =>
    obtain ⟨rfl, rfl, hs5, hk5, hb5⟩ := hcut
    have HS5 := hZ9 hs5
    have HK5 := hZ9 hk5
    have HB5 := hZ9 hb5
    have hsl5 := hs5.blk.lt
    have hbw5 := hs5.lt
    have hkl5 := hb5.lt
    have e5 := (SKb.out _ hk5).1
    have hz1 : d1.size = s1.d.size := by have := putP_size s1.d a 83 mark b; rw [HP.out.put] at this; exact this
    have HPT := hZ9 (show ∀ wy, Below wc.heap.size wc wy → Calls Tryz.prog 107 #[.pointer (some ⟨m.B, 0, none⟩), .int .i64 a, .int .u8 83, .int .i64 mark, .slice A b.length c] wy fun e w' => e = .returned (.tuple #[.int .i64 nn, .int .i64 0]) ∧ Dsk w' base m.B d1 ∧ Keeps base [121, 165, 167] wy w' from fun wy hy => by
     have hh := HS5.out.below hy
     have hkk := hk5.trans (Keeps.of_below (base := base) (ts := [121, 165, 167, 216, 137, 129, 220]) hy hbw5)
     have := recPut_any hh.dsk hh.tab.steps hh.b2 a 83 mark (by have := HP.out.la; omega) (by decide) HP.out.lm b (by omega) A c ((HBY.out.below (HB0.out)).keeps hkk (by decide)) hc (by have := HP.out.w1; omega)
     rw [HP.out.put] at this
     exact this)
    have SK := hZ9 (show ∀ wy, Keeps base [121, 165, 167] wc wy → wy.cell? ⟨w.heap.size, 0, none⟩ = some (.pointer (some ⟨Sb, 0, none⟩)) ∧ wy.cell? ⟨Sb, 0, none⟩ = some (.pointer (some ⟨m.B, 0, none⟩)) ∧ wy.cell? ⟨k, 0, none⟩ = some (.int .i64 a) from fun wy hy => by
     have hh := HS5.out.blk.keeps hy (by decide)
     have h2 := HB5.out.keeps hy (by decide)
     exact ⟨(SKb.out _ (HK5.out.trans (hy.mono nR0 (by simp)))).1, hh.cell 0, h2.cell 0⟩)
    have S0 := hZ9 (SK.out _ (Keeps.of_below bR0.drew hbw5))
    clear hs5 hk5 hb5 HNX e1
    go_upto_region 13 with fail
    go_cut [10] (fun v10 wx => v10 = .int .i64 0 ∧ StR wx base Sb { s1 with d := d1 } m ∧ Keeps base [121, 165, 167, 216, 137, 129, 220] w1 wx ∧ Blk wx k 140 #[.int .i64 a, .int .i64 l])
    case first => as_aux_lemma =>
     go_region_held3 (fun wy => wy.cell? ⟨w.heap.size, 0, none⟩ = some (.pointer (some ⟨Sb, 0, none⟩)) ∧ wy.cell? ⟨Sb, 0, none⟩ = some (.pointer (some ⟨m.B, 0, none⟩)) ∧ wy.cell? ⟨k, 0, none⟩ = some (.int .i64 a))
      (first | exact S0.out | exact SK.out _ K6.out)
      (first | (go_at_call 107; refine (HPT.out _ bR0.drew).mono ?_; rintro en w6 ⟨rfl, hd6, hk6⟩; (have HD6 := hZ9 hd6); (have K6 := hZ9 ((Keeps.of_below (base := base) (ts := [121, 165, 167]) bR0.drew hbw5).trans hk6)); clear hd6 hk6))
     all_goals
      have kq := hZ9 (show StR w6 base Sb { s1 with d := d1 } m ∧ Keeps base [121, 165, 167, 216, 137, 129, 220] w1 w6 ∧ Blk w6 k 140 #[.int .i64 a, .int .i64 l] from by
       have k6' := K6.out.mono nR0 (ts' := [121, 165, 167, 216, 137]) (by simp)
       have l6 := HS5.out.log.keeps K6.out (by decide) (by decide) (by decide)
       have s6 := HS5.out.logged k6' HD6.out l6 hz1
       exact ⟨s6, HK5.out.trans (K6.out.mono nR0 (by simp)), HB5.out.keeps K6.out (by decide)⟩)
      go_wp2_with fail
      go_meet
      exact ⟨rfl, kq.out⟩
    case rest =>
     obtain ⟨rfl, hs7, hk7, hb7⟩ := hcut
     have HS7 := hZ9 hs7
     have HK7 := hZ9 hk7
     have hsl7 := hs7.blk.lt
     have hbw7 := hs7.lt
     have hkl7 := hb7.lt
     have HB7 := hZ9 hb7
     have j0 : wc.cell? ⟨k, 0, none⟩ = some (.int .i64 a) := hb7.cell 0
     have j1 : wc.cell? ⟨k, 1, none⟩ = some (.int .i64 l) := hb7.cell 1
     have HB8 : Hid (Below wc.heap.size wc ((wc.alloc (.cells #[.int .i64 0, .int .i64 0, .int .i64 0, .int .i64 0] 142)).setRow wc.heap.size #[.int .i64 a, .int .i64 l, .int .i64 b.length, .int .i64 mark])) :=
      (bR0.alloc nR0 _).trans (grown_below (setRow_gby _ _ _) (by simp) (fun k hk => by injection hk with hk; omega))
     have HX8 : Hid (Blk ((wc.alloc (.cells #[.int .i64 0, .int .i64 0, .int .i64 0, .int .i64 0] 142)).setRow wc.heap.size #[.int .i64 a, .int .i64 l, .int .i64 b.length, .int .i64 mark]) wc.heap.size 142 #[.int .i64 a, .int .i64 l, .int .i64 b.length, .int .i64 mark]) := setRow_blk (Blk.new wc 142 _) _
     have HG8 := hZ9 (Blk.new wc 142 #[.int .i64 0, .int .i64 0, .int .i64 0, .int .i64 0])
     have HI2 : Hid ((Tryz.prog.info? 142).map (·.size) = some (#[.int .i64 a, .int .i64 l, .int .i64 b.length, .int .i64 mark] : Array Value).size) := show (Tryz.prog.info? 142).map (·.size) = some 4 from by kernel_rfl
     have H1 : Hid ((#[.int .i64 a, .int .i64 l, .int .i64 b.length, .int .i64 mark] : Array Value).all (·.oneCell') = true) := hZ9 (by simp [Value.oneCell'])
     clear hs7 hk7 hb7
     go_upto_region 18 with (refine wpList_store_row rfl 142 _ _ rfl wc.heap.size #[.int .i64 a, .int .i64 l, .int .i64 b.length, .int .i64 mark] rfl rfl 142 #[.int .i64 0, .int .i64 0, .int .i64 0, .int .i64 0] HG8.out HI2.out rfl H1.out ?_; dsimp only [Act.put])
     generalize (wc.alloc (.cells #[.int .i64 0, .int .i64 0, .int .i64 0, .int .i64 0] 142)).setRow wc.heap.size #[.int .i64 a, .int .i64 l, .int .i64 b.length, .int .i64 mark] = w8 at *
     have hw8 := HB8.out.size
     obtain ⟨g8, hg8⟩ : ∃ g8, g8 = wc.heap.size := ⟨_, rfl⟩
     rw [← hg8] at HX8 ⊢
     have hgl8 := HX8.out.lt
     clear HG8 HI2 H1 j0 j1 hg8
     have hz1 : d1.size = s1.d.size := by have := putP_size s1.d a 83 mark b; rw [HP.out.put] at this; exact this
     have hl1 : s1.slices.length ≤ 100000 := by rw [HP.out.sl]; exact HK.out.nS
     have HSG := hZ9 (show ∀ wy, Below w8.heap.size w8 wy → ∃ w9, (Instr.mapUpdate 125 (.map (some m.Pb)) (.agg #[.int .i64 n1, .int .i64 n2]) (.agg #[.int .i64 a, .int .i64 l, .int .i64 b.length, .int .i64 mark])).run Tryz.prog wy = .ok () w9 ∧ StR w9 base Sb { s1 with d := d1, slices := putS (n1, n2) ⟨a, l, b.length, mark⟩ s1.slices } m ∧ KeepS base m m wy w9 ∧ Keeps base [1000000] wy w9 ∧ wy.mapTurned w9 m.Pb from fun wy hy =>
      (HS7.out.below (HB8.out.trans (hy.mono hw8))).slicing (by show SrtS s1.slices; rw [HP.out.sl]; exact HK.out.srtS) (by show ∀ x ∈ s1.slices, _; rw [HP.out.sl]; exact HK.out.num) (by show s1.slices.length ≤ _; omega) (n1, n2) ⟨a, l, b.length, mark⟩ ⟨⟨HP.out.r1, HP.out.r2, ⟨by show (0 : Int) ≤ (a : Int); omega, by show (a : Int) ≤ 65536; have := HP.out.la; omega⟩, HP.out.b2, by show (0 : Int) ≤ (mark : Int); omega, by show (mark : Int) < _; have := HP.out.lm; omega⟩, HP.out.ll⟩)
     obtain ⟨w9, hrun, hs9, hk9, hkk9, htu9⟩ := HSG.out w8.drew bR0.drew
     have hk8 := HK7.out.trans (Keeps.of_below (base := base) (ts := [121, 165, 167, 216, 137, 129, 220]) (HB8.out.trans (bR0.drew.mono hw8)) hbw7)
     have q3 := SKb.out _ hk8
     have S8 := hZ9 (show w8.drew.cell? ⟨w.heap.size, 0, none⟩ = some (.pointer (some ⟨Sb, 0, none⟩)) ∧ w8.drew.cell? ⟨Sb, 5, none⟩ = some (.map (some m.Pb)) ∧ (w8.drew.cell? ⟨w.heap.size + 1, 0, none⟩ = some (.int .i64 n1) ∧ w8.drew.cell? ⟨w.heap.size + 1, 1, none⟩ = some (.int .i64 n2)) ∧ w8.drew.cell? ⟨g8, 0, none⟩ = some (.int .i64 a) ∧ w8.drew.cell? ⟨g8, 1, none⟩ = some (.int .i64 l) ∧ w8.drew.cell? ⟨g8, 2, none⟩ = some (.int .i64 b.length) ∧ w8.drew.cell? ⟨g8, 3, none⟩ = some (.int .i64 mark) from
      ⟨q3.1, (HS7.out.below (HB8.out.trans (bR0.drew.mono hw8))).blk.cell 5, q3.2, HX8.out.cell 0, HX8.out.cell 1, HX8.out.cell 2, HX8.out.cell 3⟩)
     have S9 := hZ9 (show w9.cell? ⟨w.heap.size, 0, none⟩ = some (.pointer (some ⟨Sb, 0, none⟩)) ∧ w9.cell? ⟨Sb, 5, none⟩ = some (.map (some m.Pb)) ∧ (w9.cell? ⟨w.heap.size + 1, 0, none⟩ = some (.int .i64 n1) ∧ w9.cell? ⟨w.heap.size + 1, 1, none⟩ = some (.int .i64 n2)) ∧ w9.cell? ⟨g8, 0, none⟩ = some (.int .i64 a) ∧ w9.cell? ⟨g8, 1, none⟩ = some (.int .i64 l) ∧ w9.cell? ⟨g8, 2, none⟩ = some (.int .i64 b.length) ∧ w9.cell? ⟨g8, 3, none⟩ = some (.int .i64 mark) from by
      obtain ⟨a1, a2, ⟨a3, a4⟩, a5, a6, a7, a8⟩ := S8.out
      exact ⟨turned_cell htu9 a1, turned_cell htu9 a2, ⟨turned_cell htu9 a3, turned_cell htu9 a4⟩, turned_cell htu9 a5, turned_cell htu9 a6, turned_cell htu9 a7, turned_cell htu9 a8⟩)
     have HQ9 := hZ9 (show StR w9 base Sb { s1 with d := d1, slices := putS (n1, n2) ⟨a, l, b.length, mark⟩ s1.slices } m ∧ KeepS base m m w w9 from
      ⟨hs9, ((KeepS.of (Keeps.of_below (base := base) (ts := [121]) HB0.out hlt) (by simp)).trans (KeepS.of hk8 (by simp))).trans hk9⟩)
     have B9 := hZ9 (show Blk w9 w.heap.size 28 #[.pointer (some ⟨Sb, 0, none⟩)] ∧ Blk w9 (w.heap.size + 1) 73 #[.int .i64 n1, .int .i64 n2] ∧ Blk w9 g8 142 #[.int .i64 a, .int .i64 l, .int .i64 b.length, .int .i64 mark] ∧ Blk w9 k 140 #[.int .i64 a, .int .i64 l] from
      ⟨(HX3.out.keeps hk8 (by decide)).keeps hkk9 (by decide), (HX4.out.keeps hk8 (by decide)).keeps hkk9 (by decide), (HX8.out.drew).keeps hkk9 (by decide), ((HB7.out.below HB8.out HB7.out.lt).drew).keeps hkk9 (by decide)⟩)
     clear hs9 hk9 hkk9 htu9 q3 HSG HB8 HX8 SK S0 HPT hk8 HB7
     go_cut [12] (fun v12 wx => v12 = .pointer (some ⟨g8, 0, none⟩) ∧ wx = w9)
     case first => as_aux_lemma =>
      go_region_held3 (fun wy => wy.cell? ⟨w.heap.size, 0, none⟩ = some (.pointer (some ⟨Sb, 0, none⟩)) ∧ wy.cell? ⟨Sb, 5, none⟩ = some (.map (some m.Pb)) ∧ (wy.cell? ⟨w.heap.size + 1, 0, none⟩ = some (.int .i64 n1) ∧ wy.cell? ⟨w.heap.size + 1, 1, none⟩ = some (.int .i64 n2)) ∧ wy.cell? ⟨g8, 0, none⟩ = some (.int .i64 a) ∧ wy.cell? ⟨g8, 1, none⟩ = some (.int .i64 l) ∧ wy.cell? ⟨g8, 2, none⟩ = some (.int .i64 b.length) ∧ wy.cell? ⟨g8, 3, none⟩ = some (.int .i64 mark))
       (first | exact S8.out | exact S9.out)
       (fail)
      all_goals
       go_wp2_with fail
       go_meet
       exact ⟨rfl, rfl⟩
     case rest =>
      obtain ⟨rfl, rfl⟩ := hcut
      have hbw9 := HQ9.out.1.lt
      have hnb : ∀ y ∈ [n1, n2, (a : Int), ((b.length : Nat) : Int), (mark : Int)], -9223372036854775808 ≤ y ∧ y ≤ 9223372036854775807 := by
       have r1 := HP.out.r1
       have r2 := HP.out.r2
       unfold rightB at r1 r2
       simp only [Bool.and_eq_true, decide_eq_true_eq] at r1 r2
       have := HP.out.la
       have := HP.out.lm
       have := HP.out.b2
       intro y hy
       simp only [List.mem_cons, List.not_mem_nil, or_false] at hy
       rcases hy with rfl | rfl | rfl | rfl | rfl <;> omega
      have hwl := words_len _ hnb
      have HSR := hZ9 (show ∀ wy, Below wc.heap.size wc wy → Calls Tryz.prog 109 #[.agg #[.int .i64 a, .int .i64 l, .int .i64 b.length, .int .i64 mark], .agg #[.int .i64 n1, .int .i64 n2]] wy fun e w' => RecOut wy w' (83, wordsS [n1, n2, (a : Int), ((b.length : Nat) : Int), (mark : Int)]) e from fun wy hy => slotRec_any ⟨a, l, b.length, mark⟩ (n1, n2) (HQ9.out.1.below hy).tab.tb hnb)
      have HLG := hZ9 (show ∀ wy A' c', Below wc.heap.size wc wy → Byt wy A' (wordsS [n1, n2, (a : Int), ((b.length : Nat) : Int), (mark : Int)]) → (wordsS [n1, n2, (a : Int), ((b.length : Nat) : Int), (mark : Int)]).length ≤ c' → Calls Tryz.prog 70 #[.pointer (some ⟨Sb, 0, none⟩), .agg #[.int .u8 83, .slice A' (wordsS [n1, n2, (a : Int), ((b.length : Nat) : Int), (mark : Int)]).length c'], .func (.func 110) #[] #[.pointer (some ⟨w.heap.size, 0, none⟩), .pointer (some ⟨w.heap.size + 1, 0, none⟩), .pointer (some ⟨k, 0, none⟩)]] wy fun e w' => e = .returned (.int .i64 q.1) ∧ StR w' base Sb q.2 m ∧ KeepS base m m wy w' ∧ Blk w' w.heap.size 28 #[.pointer (some ⟨Sb, 0, none⟩)] ∧ Blk w' (w.heap.size + 1) 73 #[.int .i64 n1, .int .i64 n2] ∧ Blk w' g8 142 #[.int .i64 a, .int .i64 l, .int .i64 b.length, .int .i64 mark] from fun wy A' c' hy hby' hc' => by
       have hh := HQ9.out.1.below hy
       have hll : s1.d.lasts.length ≤ 65536 := by obtain ⟨m', hm⟩ := HS5.out.dsk; exact hm.n1.2
       have hlike := putP_like hll HP.out.put
       have hl := HK.out.l
       have hnS := HK.out.nS
       have hnN := HK.out.nN
       have hnM := HK.out.nM
       have hpl := putS_len (k := (n1, n2)) (v := (⟨a, l, b.length, mark⟩ : SlotV)) s1.slices
       have okl : StL { s1 with d := d1, slices := putS (n1, n2) ⟨a, l, b.length, mark⟩ s1.slices } := by
        refine ⟨?_, ?_, ?_, ?_, ?_, ?_, ?_, ?_⟩
        ·show SrtS (putS _ _ s1.slices); rw [HP.out.sl]; exact putS_srt HK.out.srtS
        ·intro x hx
         rcases mem_putS hx with e | hx
         ·subst e
          exact ⟨⟨HP.out.r1, HP.out.r2, ⟨by show (0 : Int) ≤ (a : Int); omega, by show (a : Int) ≤ 65536; have := HP.out.la; omega⟩, HP.out.b2, by show (0 : Int) ≤ (mark : Int); omega, by show (mark : Int) < _; have := HP.out.lm; omega⟩, HP.out.ll⟩
         ·rw [HP.out.sl] at hx; exact HK.out.num x hx
        ·show SrtN s1.notes; rw [HP.out.n1]; exact HK.out.srtN
        ·show ∀ x ∈ s1.notes, _; rw [HP.out.n1]; exact HK.out.txt
        ·show ∀ x ∈ s1.marks, _; rw [HP.out.m1']; exact HK.out.mks
        ·show (putS _ _ s1.slices).length ≤ _; omega
        ·show s1.notes.length ≤ _; rw [HP.out.n1]; omega
        ·show s1.marks.length ≤ _; rw [HP.out.m1']; omega
       have := logged_any hh okl (by have := HP.out.w1; have := hlike.2.2; show d1.waits.length ≤ _; omega) (by have := HP.out.e1; exact this) (by have := HP.out.a1; exact this) (by have := HP.out.z1; show s1.log.size = d1.size; omega)
        (83, wordsS [n1, n2, (a : Int), ((b.length : Nat) : Int), (mark : Int)]) (by show 83 < 256; decide) (by show (wordsS _).length < _; simp only [List.length_cons, List.length_nil] at hwl; omega) A' c' hby' hc'
        (by rw [records_eq, List.length_append, List.length_append, List.length_map, List.length_map, List.length_map]; show s1.notes.length + (putS _ _ s1.slices).length + s1.marks.length ≤ _; rw [HP.out.n1, HP.out.m1']; omega)
        110 #[.pointer (some ⟨w.heap.size, 0, none⟩), .pointer (some ⟨w.heap.size + 1, 0, none⟩), .pointer (some ⟨k, 0, none⟩)] (fun _ _ => rfl) (fun w' => StR w' base Sb q.2 m ∧ KeepS base m m wy w' ∧ Blk w' w.heap.size 28 #[.pointer (some ⟨Sb, 0, none⟩)] ∧ Blk w' (w.heap.size + 1) 73 #[.int .i64 n1, .int .i64 n2] ∧ Blk w' g8 142 #[.int .i64 a, .int .i64 l, .int .i64 b.length, .int .i64 mark])
        (fun w' d l' hd hk hs => by
         have hq2 : q = (0, { s1 with d := d, log := l', slices := putS (n1, n2) ⟨a, l, b.length, mark⟩ s1.slices }) := by
          rw [HQQ.out]; exact loggedS_ok hd
         rw [hq2]
         exact ⟨hs, KeepS.of hk (by simp), (B9.out.1.below hy B9.out.1.lt).keeps hk (by decide), (B9.out.2.1.below hy B9.out.2.1.lt).keeps hk (by decide), (B9.out.2.2.1.below hy B9.out.2.2.1.lt).keeps hk (by decide)⟩)
        (fun wz e' d l' hd he hk hs => by
         have hq2 : q = (e', { s1 with d := d, log := l', map := (giveM s1.map a l).2 }) := by
          rw [HQQ.out]; exact loggedS_no hd he
         rw [hq2]
         have z1 := (B9.out.1.below hy B9.out.1.lt).keeps hk (by decide)
         have z2 := (B9.out.2.1.below hy B9.out.2.1.lt).keeps hk (by decide)
         have z3 := (B9.out.2.2.1.below hy B9.out.2.2.1.lt).keeps hk (by decide)
         have z4 := (B9.out.2.2.2.below hy B9.out.2.2.2.lt).keeps hk (by decide)
         refine (undoPut_any (s := { s1 with d := d, log := l' }) (n := (n1, n2)) (x := ⟨a, l, b.length, mark⟩) hs hwn z1 z2 z4 (fun y => ?_) (by show SrtS s1.slices; rw [HP.out.sl]; exact HK.out.srtS) (by show ∀ x ∈ s1.slices, _; rw [HP.out.sl]; exact HK.out.num) hgv (by have := HP.out.la; omega) (by have := HP.out.ll; omega)).mono ?_
         ·show getL s1.slices y = if y = (n1, n2) then none else getL (putS (n1, n2) (⟨a, l, b.length, mark⟩ : SlotV) s1.slices) y
          by_cases hy2 : y = (n1, n2)
          ·rw [if_pos hy2, hy2, HP.out.sl]; exact HP.out.new
          ·rw [if_neg hy2, getL_putS, if_neg hy2]
         ·rintro en w' ⟨h1, h2, h3⟩
          exact ⟨h1, h2, (KeepS.of hk (by simp)).trans h3, h3.blk hs z1 (by decide) (by decide), h3.blk hs z2 (by decide) (by decide), h3.blk hs z3 (by decide) (by decide)⟩)
       have hq1 : q.1 = (addTurn { s1 with d := d1, slices := putS (n1, n2) ⟨a, l, b.length, mark⟩ s1.slices } (83, wordsS [n1, n2, (a : Int), ((b.length : Nat) : Int), (mark : Int)])).1 := by rw [HQQ.out]; exact loggedS_fst
       rw [← hq1] at this
       exact this)
      clear hnb hwl
      generalize wordsS [n1, n2, (a : Int), ((b.length : Nat) : Int), (mark : Int)] = tx at *
      have SKc := hZ9 (show ∀ wy, Keeps base [121, 165, 167, 216, 137] wc wy → wy.cell? ⟨w.heap.size, 0, none⟩ = some (.pointer (some ⟨Sb, 0, none⟩)) ∧ (wy.cell? ⟨w.heap.size + 1, 0, none⟩ = some (.int .i64 n1) ∧ wy.cell? ⟨w.heap.size + 1, 1, none⟩ = some (.int .i64 n2)) ∧ wy.cell? ⟨g8, 0, none⟩ = some (.int .i64 a) ∧ wy.cell? ⟨g8, 1, none⟩ = some (.int .i64 l) ∧ wy.cell? ⟨g8, 2, none⟩ = some (.int .i64 b.length) ∧ wy.cell? ⟨g8, 3, none⟩ = some (.int .i64 mark) from fun wy hy => by
       have a3 := B9.out.1.keeps hy (by decide)
       have a4 := B9.out.2.1.keeps hy (by decide)
       have a8 := B9.out.2.2.1.keeps hy (by decide)
       exact ⟨a3.cell 0, ⟨a4.cell 0, a4.cell 1⟩, a8.cell 0, a8.cell 1, a8.cell 2, a8.cell 3⟩)
      have S1 := hZ9 (SKc.out _ (Keeps.of_below bR0.drew hbw9))
      have SKd := hZ9 (show ∀ wy, Blk wy w.heap.size 28 #[.pointer (some ⟨Sb, 0, none⟩)] ∧ Blk wy (w.heap.size + 1) 73 #[.int .i64 n1, .int .i64 n2] ∧ Blk wy g8 142 #[.int .i64 a, .int .i64 l, .int .i64 b.length, .int .i64 mark] → wy.cell? ⟨w.heap.size, 0, none⟩ = some (.pointer (some ⟨Sb, 0, none⟩)) ∧ (wy.cell? ⟨w.heap.size + 1, 0, none⟩ = some (.int .i64 n1) ∧ wy.cell? ⟨w.heap.size + 1, 1, none⟩ = some (.int .i64 n2)) ∧ wy.cell? ⟨g8, 0, none⟩ = some (.int .i64 a) ∧ wy.cell? ⟨g8, 1, none⟩ = some (.int .i64 l) ∧ wy.cell? ⟨g8, 2, none⟩ = some (.int .i64 b.length) ∧ wy.cell? ⟨g8, 3, none⟩ = some (.int .i64 mark) from fun wy hy =>
       ⟨hy.1.cell 0, ⟨hy.2.1.cell 0, hy.2.1.cell 1⟩, hy.2.2.cell 0, hy.2.2.cell 1, hy.2.2.cell 2, hy.2.2.cell 3⟩)
      clear hrun S8 S9
      go_upto_region 19 with fail
      go_region_held3 (fun wy => wy.cell? ⟨w.heap.size, 0, none⟩ = some (.pointer (some ⟨Sb, 0, none⟩)) ∧ (wy.cell? ⟨w.heap.size + 1, 0, none⟩ = some (.int .i64 n1) ∧ wy.cell? ⟨w.heap.size + 1, 1, none⟩ = some (.int .i64 n2)) ∧ wy.cell? ⟨g8, 0, none⟩ = some (.int .i64 a) ∧ wy.cell? ⟨g8, 1, none⟩ = some (.int .i64 l) ∧ wy.cell? ⟨g8, 2, none⟩ = some (.int .i64 b.length) ∧ wy.cell? ⟨g8, 3, none⟩ = some (.int .i64 mark))
       (first | exact SKd.out _ B4.out | exact SKc.out _ (Keeps.of_below HB3.out hbw9) | exact S1.out)
       (first
        | (go_at_call 109; refine (HSR.out _ bR0.drew).mono ?_; rintro en w3 ⟨⟨A3, c3, rfl, hy3, hc3⟩, hb3⟩; (have HY3 := hZ9 hy3); (have HC3 := hZ9 hc3); (have HB3 : Hid (Below wc.heap.size wc w3) := bR0.drew.trans hb3); clear hy3 hc3 hb3)
        | (go_at_call 70; refine (HLG.out _ _ _ HB3.out HY3.out HC3.out).mono ?_; rintro en w4 ⟨rfl, h4, k4, b4⟩; (have H4 := hZ9 h4); (have K4 : Hid (KeepS base m m wc w4) := (KeepS.of_below (m := m) HB3.out hbw9).trans k4); (have B4 := hZ9 b4); clear h4 k4 b4))
      all_goals
       go_wp2_with fail
       go_ret
       exact ⟨rfl, H4.out, HQ9.out.2.trans K4.out⟩
end Go.Proofs.YtmgmfnimaafkdaaGreatDoor
