/- On which disks a store can stand: the law's own walk.  -/
import Derived.Test.YtmgmfnimaafkdaaGreatDoorUD
import Derived.Test.YtmgmfnimaafkdaaGreatDoorUC
import Derived.Test.YtmgmfnimaafkdaaGreatDoorVZ
import Derived.Test.YtmgmfnimaafkdaaGreatDoorVC
namespace Go.Proofs.YtmgmfnimaafkdaaGreatDoor
open Go.RowKit Go.Maps
set_option maxRecDepth 100000

theorem openGo_fresh {n k : Nat} (hs : standsB n k = true) (hn : n ≤ 65536) : ∃ d1 l1 sl mp d2 l2, OpenGo (newD n k) d1 l1 sl mp d2 l2 ∧ StAll (openEnd (newD n k) d1 l1 sl mp d2 l2) (n / 4) 2 [] ∧ (openEnd (newD n k) d1 l1 sl mp d2 l2).slices = [] ∧ (openEnd (newD n k) d1 l1 sl mp d2 l2).notes = [] ∧ (openEnd (newD n k) d1 l1 sl mp d2 l2).marks = [] ∧ d2.waits.length ≤ 8589934592 := by
  obtain ⟨d1, d, e1, e2, L1, L, h⟩ := open_fresh2 hs
  obtain ⟨d', s', f1, f2, f3, f4, f5, f6, f7⟩ := fresh_all hs hn
  have hl : (newD n k).lasts.length = n := by simp [newD]
  have hz : (newD n k).size = k := rfl
  have r1 := openL_runs (E := 1) (fine_fresh n k 1) (by rw [hl]; exact hn) (by omega) (by omega) e1
  have hw1 := r1.like.2
  have hw0 : (newD n k).waits.length = 0 := by simp [newD]
  rw [hw0] at hw1
  rw [h] at f1
  injection f1 with _ f1
  injection f1 with f1 f8
  injection f8 with f8
  have hst := hs
  unfold standsB at hs
  simp only [Bool.not_eq_true', Bool.or_eq_false_iff, decide_eq_false_iff_not, beq_eq_false_iff_ne] at hs
  obtain ⟨⟨⟨hq, hne⟩, hfit⟩, hfit2⟩ := hs
  obtain ⟨g1, g2⟩ := needP_some hne
  have hgo : OpenGo (newD n k) d1 ⟨0, n / 4 / 2, k, 0, 1, 1, []⟩ [] ⟨n / 4, n - n / 4, if 0 < n - n / 4 then [(n / 4, n - n / 4)] else []⟩ d ⟨0, n / 4 / 2, k, 1, 2, n / 4 / 2 + 1, []⟩ := by
    refine ⟨by rw [hl]; omega, by rw [hz]; exact hne, by rw [hz, hl]; omega, by rw [hz]; exact g1, ⟨1, by omega, fine_fresh n k 1⟩, by rw [hw0]; omega, by rw [hl]; exact e1, fun r hr => (by cases hr), by simp, fun h => absurd rfl h, fun h => absurd rfl h, L1.1, L1.2.1, by omega, by show k = d1.size; rw [L1.1, hz], by show 1 + 1 < _; omega, ?_, ?_⟩
    · rw [hl]; rfl
    · rw [hl]; exact e2
  have hend : openEnd (newD n k) d1 ⟨0, n / 4 / 2, k, 0, 1, 1, []⟩ [] ⟨n / 4, n - n / 4, if 0 < n - n / 4 then [(n / 4, n - n / 4)] else []⟩ d ⟨0, n / 4 / 2, k, 1, 2, n / 4 / 2 + 1, []⟩ = s' := by
    rw [← f8]
    unfold openEnd
    rw [hl]; rfl
  have hw2 := f4.like.2
  rw [hw0, ← f1] at hw2
  exact ⟨d1, _, [], _, d, _, hgo, by rw [hend]; exact f3, by rw [hend]; exact f5, by rw [hend]; exact f6, by rw [hend]; exact f7, by omega⟩
def st39 (p v : Value) : Sem Unit := Instr.storeAt 39 p v
theorem st39_fold (p v : Value) : Instr.storeAt 39 p v = st39 p v := rfl
theorem run_st39 {w : World} {g : Nat} {cs v : Array Value} (hk : Blk w g 39 cs) (hs : cs.size = 12) (hv : v.size = 12) (h1 : v.all (·.oneCell') = true) : (st39 (.pointer (some ⟨g, 0, none⟩)) (.agg v)).run Tryz.prog w = .ok () (w.setRow g v) := by
  have := run_storeVar_row (P := Tryz.prog) w g 39 39 cs v hk (by rw [hv]; exact size39) (by omega) h1
  simp only [st39, Instr.storeAt, Instr.sureAddr, Sem.run_bind, Sem.run_pure, Result.andThen_ok, this]
attribute [local go_sem ↓] st39_fold
set_option maxHeartbeats 8000000 in
theorem storeOpens_any {w : World} (hT : TabsB w.heap.size w) (hb2 : 2 < w.heap.size) (a b : Nat) (ha : a < 65536) (hb : b < 65536) :
    Calls Tryz.prog 3 #[.int .u16 a, .int .u16 b] w fun e w' => e = .returned (.bool true) ∧ Below w.heap.size w w' := by
  obtain ⟨ra, hra⟩ : ∃ ra, ra = a % 400 := ⟨_, rfl⟩
  obtain ⟨rb, hrb⟩ : ∃ rb, rb = b % 300 := ⟨_, rfl⟩
  have i1 : (a : Int) % 400 = (ra : Int) := by omega
  have i2 : (b : Int) % 300 = (rb : Int) := by omega
  have hra2 : ra < 400 := by omega
  have hrb2 : rb < 300 := by omega
  clear hra hrb
  obtain ⟨n, hn⟩ : ∃ n, n = 1 + ra := ⟨_, rfl⟩
  obtain ⟨k, hk⟩ : ∃ k, k = 16 + rb := ⟨_, rfl⟩
  have i3 : (1 : Int) + (ra : Int) = (n : Int) := by omega
  have i4 : (16 : Int) + (rb : Int) = (k : Int) := by omega
  have hnb : 1 ≤ n ∧ n ≤ 400 := by omega
  have hkb : 16 ≤ k ∧ k ≤ 315 := by omega
  clear hn hk
  have HAL := Lib.hid (alive_any hT hb2)
  have HT := Lib.hid hT
  clear hT
  have hc0 := run_make43 200 (by omega) (by omega)
  have hc1 : (200 : Int).toNat = 200 := rfl
  rw [hc1] at hc0
  clear hc1
  go_enter Tryz.func3, Tryz.ntmps3
  go_upto_region 4 with (go_at_call 14; refine HAL.out.mono ?_; rintro en w1 ⟨rfl, hb⟩; (have HB1 := Lib.hid hb); clear hb)
  obtain ⟨base, hbase⟩ : ∃ base, base = w1.heap.size := ⟨_, rfl⟩
  have hbw : w.heap.size ≤ base := by rw [hbase]; exact HB1.out.size
  have HTB : Hid (TabsB base w1) := (HT.out.below HB1.out).mono hbw
  have hb3 : 2 < base := by omega
  have NW := Lib.hid (show Calls Tryz.prog 15 #[.int .i64 n, .int .i64 k] w1 fun e w' => ∃ B, e = .returned (.tuple #[.pointer (some ⟨B, 0, none⟩), .int .i64 0]) ∧ Dsk w' base B (newD n k) ∧ Below base w1 w' from (diskNew_any n k w1).mono fun e w' ⟨h1, h2⟩ => by
    rcases h2 with ⟨_, h3⟩ | ⟨_, B, h3, h4⟩
    · exact absurd ⟨by omega, by omega, by omega, by omega⟩ h3
    · rw [Int.toNat_natCast, Int.toNat_natCast, ← hbase] at h4
      exact ⟨B, h3, h4, by rw [hbase]; exact h1⟩)
  have hl : (newD n k).lasts.length = n := by simp [newD]
  have RO := Lib.hid (fun wy => refOpen_any n k (by omega) (by omega) wy)
  have HSZ : Hid ((Tryz.prog.info? 39).map (·.size) = some 12) := size39
  cases hs : standsB n k with
  | false =>
    have ON := Lib.hid (show ∀ (wy : World) (B : Nat), Dsk wy base B (newD n k) → Calls Tryz.prog 16 #[.pointer (some ⟨B, 0, none⟩)] wy fun e w' => e = .returned (.tuple #[.pointer none, .int .i64 1]) ∧ Below wy.heap.size wy w' from fun wy B hd => openNo_any hd (by
      rw [hl]
      unfold standsB at hs
      simp only [Bool.not_eq_false', Bool.or_eq_true, decide_eq_true_eq, beq_iff_eq] at hs
      show n / 4 < 4 ∨ needP k 201 = 0 ∨ n / 4 / 2 - needP k 0 < needP k 201 ∨ n / 4 / 2 < needP k 0
      omega))
    have RN := Lib.hid (show ∀ wy, Calls Tryz.prog 17 #[.int .i64 n, .int .i64 k] wy fun e w' => (∃ C : Array Value, C.size = 12 ∧ C.all (·.oneCell') = true ∧ e = .returned (.tuple #[.agg C, .int .i64 1])) ∧ Below wy.heap.size wy w' from fun wy => (RO.out wy).mono fun e w' ⟨⟨C, h1, h2, h3⟩, h4⟩ => ⟨⟨C, h1, h2, by rw [h3, hs]; rfl⟩, h4⟩)
    clear hs RO
    go_wp2_with (first
      | (go_at_call 15; refine NW.out.mono ?_; rintro en w2 ⟨B, rfl, hd, hb⟩; (have HD2 := Lib.hid hd); (have HB2 : Hid (Below w.heap.size w w2) := HB1.out.trans (hb.mono hbw)); clear hd hb)
      | ((fail_if_success (have := HB3)); go_at_call 16; refine (ON.out _ _ HD2.out).mono ?_; rintro en w3 ⟨rfl, hb⟩; (have HB3 : Hid (Below w.heap.size w w3) := HB2.out.trans (hb.mono HB2.out.size)); clear hb)
      | (go_at_call 17; refine (RN.out _).mono ?_; rintro en w4 ⟨⟨C, hC1, hC2, rfl⟩, hb⟩; (have HB4 : Hid (Below w.heap.size w (w4.alloc (.cells refZ 39))) := (HB3.out.trans (hb.mono HB3.out.size)).alloc (Nat.le_trans HB3.out.size hb.size) _); (have HG4 : Hid (Blk (w4.alloc (.cells refZ 39)) w4.heap.size 39 refZ) := Blk.new _ _ _); (have zs := run_st39 HG4.out rfl hC1 hC2); (have hs4 : w.heap.size ≤ w4.heap.size := Nat.le_trans HB3.out.size hb.size); clear hC2 hC1 hb)
      | (go_at_call 16; refine (openNil_any _).mono ?_; rintro en w5 ⟨rfl, rfl⟩))
    go_ret
    exact ⟨rfl, HB4.out.trans (grown_below (setRow_gby _ _ _) HB4.out.size (fun k hk => by injection hk with hk; omega))⟩
  | true =>
    obtain ⟨d1, l1, sl, mp, d2, l2, hgo, hall, hsl, hno, hma, hwt⟩ := openGo_fresh hs (by omega)
    have hmf := mark_fresh hs hgo.is
    have hok : StOK (openEnd (newD n k) d1 l1 sl mp d2 l2) := hall.ok (by omega) (by show d2.waits.length ≤ _; omega) (by rw [hsl]; simp) (by rw [hno]; simp) (by rw [hma]; simp)
    have ON := Lib.hid (show ∀ (wy : World) (B : Nat), Dsk wy base B (newD n k) → Below base w1 wy → Calls Tryz.prog 16 #[.pointer (some ⟨B, 0, none⟩)] wy fun e w' => ∃ Sb m, e = .returned (.tuple #[.pointer (some ⟨Sb, 0, none⟩), .int .i64 0]) ∧ StR w' base Sb (openEnd (newD n k) d1 l1 sl mp d2 l2) m ∧ Below base w1 w' from fun wy B hd hb =>
      (open_any hd (HTB.out.below hb) hb3 hgo).mono fun e w' ⟨Sb, m, h1, _, h3, h4⟩ => ⟨Sb, m, h1, h3, hb.trans h4.below⟩)
    have MK := Lib.hid (show ∀ (wy : World) (Sb : Nat) (m : StM), StR wy base Sb (openEnd (newD n k) d1 l1 sl mp d2 l2) m → Calls Tryz.prog 18 #[.pointer (some ⟨Sb, 0, none⟩), .string ⟨(List.replicate 200 (0 : UInt8)).toArray⟩] wy fun e w' => e = .returned (.int .i64 0) ∧ Below base wy w' from fun wy Sb m hr => by
      refine (mark_any hr hok (List.replicate 200 0)).mono ?_
      rintro e w' ⟨h1, m', h2, h3⟩
      rw [hmf] at h1
      exact ⟨h1, h3.below⟩)
    have RN := Lib.hid (show ∀ wy, Calls Tryz.prog 17 #[.int .i64 n, .int .i64 k] wy fun e w' => (∃ C : Array Value, C.size = 12 ∧ C.all (·.oneCell') = true ∧ e = .returned (.tuple #[.agg C, .int .i64 0])) ∧ Below wy.heap.size wy w' from fun wy => (RO.out wy).mono fun e w' ⟨⟨C, h1, h2, h3⟩, h4⟩ => ⟨⟨C, h1, h2, by rw [h3, hs]; rfl⟩, h4⟩)
    generalize openEnd (newD n k) d1 l1 sl mp d2 l2 = s0 at *
    have HCV := Lib.hid (show ∀ (wy : World) (g : Nat), wy.heap.size = g → (convert 43 9 (.slice (some ⟨g, 0, none⟩) 200 200)).run Tryz.prog (wy.alloc (.cells (zerosA 200) 5)) = .ok (.string ⟨(List.replicate 200 (0 : UInt8)).toArray⟩) (wy.alloc (.cells (zerosA 200) 5)) from fun wy g hg => by
      subst hg
      have h := strOf_run (wy.alloc (.cells (zerosA 200) 5)) (some ⟨wy.heap.size, 0, none⟩) 200 (List.replicate 200 0) (Byt.of_blk (Blk.new wy 5 _)) (by simp)
      rw [List.length_replicate] at h
      exact h)
    clear hs hgo hall hsl hno hma hwt hmf hok hbase
    go_wp2_with (first
      | (go_at_call 15; refine NW.out.mono ?_; rintro en w2 ⟨B, rfl, hd, hb⟩; (have HD2 := Lib.hid hd); (have HB2 := Lib.hid hb); clear hd hb)
      | ((fail_if_success (have := HB3)); go_at_call 16; refine (ON.out _ _ HD2.out HB2.out).mono ?_; rintro en w3 ⟨Sb, m, rfl, hs, hb⟩; (have HS3 := Lib.hid hs); (have HB3 := Lib.hid hb); clear hs hb)
      | (go_at_call 17; refine (RN.out _).mono ?_; rintro en w4 ⟨⟨C, hC1, hC2, rfl⟩, hb⟩; (have hs4 : base ≤ w4.heap.size := Nat.le_trans HS3.out.lt hb.size); (have HB4 : Hid (Below w3.heap.size w3 ((w4.alloc (.cells refZ 39)).setRow w4.heap.size C)) := (hb.alloc hb.size _).trans (grown_below (setRow_gby _ _ _) (by have := hb.size; simp; omega) (fun k hk => by injection hk with hk; have := hb.size; omega))); (have HG4 : Hid (Blk (w4.alloc (.cells refZ 39)) w4.heap.size 39 refZ) := Blk.new _ _ _); (have zs := run_st39 HG4.out rfl hC1 hC2); clear hC2 hC1 hb)
      | ((fail_if_success (have := HN5)); go_at_call 16; refine (openNil_any _).mono ?_; rintro en w5 ⟨rfl, rfl⟩; (have HN5 := Lib.hid (show True from trivial)); (have hcv5 := HCV.out ((w4.alloc (.cells refZ 39)).setRow w4.heap.size C) (w4.heap.size + 1) (by simp)); (have HS5 : Hid (StR ((((w4.alloc (.cells refZ 39)).setRow w4.heap.size C)).alloc (.cells (zerosA 200) 5)) base Sb s0 m) := (HS3.out.below HB4.out).below ((Below.refl _ _).alloc (Nat.le_refl _) _)); (have HB5 : Hid (Below base w1 ((((w4.alloc (.cells refZ 39)).setRow w4.heap.size C)).alloc (.cells (zerosA 200) 5))) := (HB3.out.trans (HB4.out.mono HS3.out.lt)).alloc (HS3.out.below HB4.out).lt _))
      | (go_at_call 18; refine (MK.out _ _ _ HS5.out).mono ?_; rintro en w6 ⟨rfl, hb⟩; (have HB6 := Lib.hid (HB5.out.trans hb)); clear hb))
    go_ret
    exact ⟨rfl, HB1.out.trans (HB6.out.mono hbw)⟩
end Go.Proofs.YtmgmfnimaafkdaaGreatDoor
