/- A store that was told all: the walk of 'made'. -/
import Derived.Test.YtmgmfnimaafkdaaGreatDoorXR
import Derived.Test.YtmgmfnimaafkdaaGreatDoorXA
import Derived.Test.YtmgmfnimaafkdaaGreatDoorUM
import Derived.OwnWalk
namespace Go.Proofs.YtmgmfnimaafkdaaGreatDoor
open Go.RowKit Go.Maps
set_option maxRecDepth 100000

theorem info188 : (Tryz.prog.info? 188).map (fun i => (i.zero, i.size, i.bytes)) = some (some (.agg #[.int .i64 0, .int .i64 0, .string ByteArray.empty]), 3, 32) := by kernel_rfl
theorem size186 : (Tryz.prog.info? 186).map (·.size) = some 5 := by kernel_rfl
theorem size188 : (Tryz.prog.info? 188).map (·.size) = some 3 := by kernel_rfl
theorem under92 : Tryz.prog.underlying 92 = some (.slice 188) := by kernel_rfl
structure OpW where
 k : Nat
 v : Int
 no : Int
 bit : Int
 A : Option Addr
 c : Nat
 bs : List UInt8
abbrev opC (k : Nat) (v no bit : Int) (A : Option Addr) (n c : Nat) : Array Value := #[.int .u8 k, .int .i64 v, .int .i64 no, .int .i64 bit, .slice A n c]
def OpW.cells (o : OpW) : List Value := (opC o.k o.v o.no o.bit o.A o.bs.length o.c).toList
theorem OpW.cells_len (o : OpW) : o.cells.length = 5 := rfl
structure OpOK (w : World) (o : OpW) : Prop where
 k : o.k < 256
 v : wfI o.v
 n : wfI o.no
 b : -9223372036854775808 ≤ o.bit ∧ o.bit ≤ 9223372036854775807
 byt : ByL w.heap.size w o.A o.bs
 cap : o.bs.length ≤ o.c
def putRow (p : NameV × List UInt8) : List Value := [.int .i64 p.1.1, .int .i64 p.1.2, .string ⟨p.2.toArray⟩]
def putRows (l : List (NameV × List UInt8)) : List Value := l.flatMap putRow
theorem strOfL_run {base : Nat} (w : World) (A : Option Addr) (c : Nat) (t : List UInt8) (h : ByL base w A t) : (convert 43 9 (.slice A t.length c)).run Tryz.prog w = .ok (.string ⟨t.toArray⟩) w := by
 rcases Nat.eq_zero_or_pos t.length with h0 | h0
 ·have : t = [] := List.eq_nil_of_length_eq_zero h0
  subst this
  exact strOf0_run w A c
 ·obtain ⟨b, o, rfl, _, hc⟩ := h.at h0
  exact run_convert_bytes_back (P := Tryz.prog) w 43 9 5 ⟨b, o, none⟩ c t under43 Tryz.underlying5 Tryz.underlying9 (fun j hj => by
   rw [addr_add]
   exact hc j hj)
theorem diskRot_neg {w : World} {base B : Nat} {d : DskV} (h : Dsk w base B d) (n : Nat) (bit : Int) (hb : bit < 0) :
  Calls Tryz.prog 39 #[.pointer (some ⟨B, 0, none⟩), .int .i64 n, .int .i64 bit] w fun e w' => e = .returned (.int .i64 1) ∧ w = w' := by
 have HD := hZ9 h
 clear h
 by_cases hn : d.lasts.length ≤ n
 ·go_enter Tryz.func39, Tryz.ntmps39
  go_wp2_with (go_at_call 92; refine (diskHas_no HD.out hn).mono ?_; rintro e w' ⟨rfl, rfl⟩)
  all_goals (go_ret; exact ⟨rfl, rfl⟩)
 ·go_enter Tryz.func39, Tryz.ntmps39
  go_wp2_with (go_at_call 92; refine (diskHas_ok HD.out (by omega)).mono ?_; rintro e w' ⟨rfl, rfl⟩)
  all_goals (go_ret; exact ⟨rfl, rfl⟩)
theorem own_keepS {w w' : World} {base base' Sb : Nat} {s : StV} {m m' : StM} {out : Value} {n : Nat} {xs : List Value} (h : w.ownsRow base' 188 3 out n xs) (k : KeepS base m m' w w') (hs : StR w base Sb s m) : w'.ownsRow base' 188 3 out n xs := by
 refine ⟨h.1, ?_⟩
 rcases h.2 with h0 | ⟨g, cap, cur, hv, hbg, hg, r⟩
 ·exact .inl h0
 ·refine .inr ⟨g, cap, cur, hv, hbg, ?_, r⟩
  have hb : Blk w g 188 cur := hg
  exact k.blk hs hb (by decide) (by decide)
structure MadeL (w wr : World) (base Sb B : Nat) (m : StM) (K : Nat) (s : StV) (ts puts : List (NameV × List UInt8)) (T : Nat) (out : Value) : Prop where
 bel : Below w.heap.size w wr
 str : StR wr base Sb s m
 inv : MadeI s K ts puts T
 mB : m.B = B
 row : wr.ownsRow base 188 3 out puts.length (putRows puts)
 wle : w.heap.size ≤ base
theorem MadeL.below {w wr w' : World} {base Sb B K T : Nat} {m : StM} {s : StV} {ts puts : List (NameV × List UInt8)} {out : Value} (h : MadeL w wr base Sb B m K s ts puts T out) (hb : Below wr.heap.size wr w') : MadeL w w' base Sb B m K s ts puts T out :=
 ⟨h.bel.trans (hb.mono h.bel.size), h.str.below hb, h.inv, h.mB, own_keeps h.row (Keeps.of_below (base := base) (ts := []) hb h.str.lt) (by simp), h.wle⟩
theorem MadeL.idle {w wr : World} {base Sb B K T : Nat} {m : StM} {s : StV} {ts puts : List (NameV × List UInt8)} {out : Value} (h : MadeL w wr base Sb B m K s ts puts T out) : MadeL w wr base Sb B m (K + 1) s ts puts T out :=
 ⟨h.bel, h.str, h.inv.idle, h.mB, h.row, h.wle⟩
theorem MadeL.act {w wr w' : World} {base Sb B K T T' : Nat} {m m' : StM} {s s' : StV} {ts ts' puts : List (NameV × List UInt8)} {out : Value} (h : MadeL w wr base Sb B m K s ts puts T out) (hs : StR w' base Sb s' m') (hk : KeepS base m m' wr w') (hi : MadeI s' (K + 1) ts' puts T') : MadeL w w' base Sb B m' (K + 1) s' ts' puts T' out :=
 ⟨h.bel.trans (hk.below.mono h.wle), hs, hi, hk.B.trans h.mB, own_keepS h.row hk h.str, h.wle⟩
theorem putRows_append (a b : List (NameV × List UInt8)) : putRows (a ++ b) = putRows a ++ putRows b := by unfold putRows; rw [List.flatMap_append]
theorem MadeL.putIn {w wy w5 wz w4 : World} {base Sb B K T c5 c4 : Nat} {m : StM} {s s' : StV} {ts ts' puts : List (NameV × List UInt8)} {A5 A4 : Option Addr} {p : NameV × List UInt8} (h : MadeL w wy base Sb B m K s ts puts T (.slice A5 puts.length c5)) (hs : StR w5 base Sb s' m) (hk : KeepS base m m wy w5) (hi : MadeI s' (K + 1) ts' (puts ++ [p]) T)
  (hz : Below w5.heap.size w5 wz) (hown : wz.ownsRow base 188 3 (.slice A5 puts.length c5) puts.length (putRows puts)) (hnew : w4.ownsRow base 188 3 (.slice A4 (puts.length + 1) c4) (puts.length + 1) (putRows puts ++ putRow p)) (hgr : wz.grownBy w4 (Value.slice A5 puts.length c5).ownBlock) :
  MadeL w w4 base Sb B m (K + 1) s' ts' (puts ++ [p]) T (.slice A4 (puts.length + 1) c4) := by
 have hb5 := hs.lt
 have hbz : base ≤ wz.heap.size := Nat.le_trans hb5 hz.size
 have k4 : Keeps base [188] wz w4 := Keeps.of_grown hgr hbz fun g hg => ⟨by
  rcases hown.2 with ⟨hv, _⟩ | ⟨g', cap, cur, hv, hbg, _, _⟩ <;> (rw [hv] at hg; simp [Value.ownBlock] at hg)
  omega, fun t ht => by
  have := own_ty hown hg
  rw [this] at ht
  injection ht with ht
  simp [← ht]⟩
 have k54 : Keeps base [188] w5 w4 := (Keeps.of_below hz hb5).trans k4
 refine ⟨h.bel.trans ((hk.below.trans k54.below).mono h.wle), hs.keeps k54 nR0 (by decide), hi, h.mB, ?_, h.wle⟩
 rw [putRows_append, List.length_append, List.length_singleton]
 simpa [putRows] using hnew
set_option maxHeartbeats 16000000 in
theorem made_any {w : World} (hT : TabsB w.heap.size w) (hb2 : 2 < w.heap.size) (A : Option Addr) (n c : Nat) (l : List OpW) (hrd : Rd w w.heap.size 5 A n (l.flatMap OpW.cells)) (hok : ∀ o ∈ l, OpOK w o) :
  Calls Tryz.prog 40 #[.slice A n c] w fun e w' => Below w.heap.size w w' ∧ (e = .returned (.tuple #[.pointer none, .slice none 0 0, .int .i64 0]) ∨
   ∃ base Sb B m K s ts puts T A' c', e = .returned (.tuple #[.pointer (some ⟨Sb, 0, none⟩), .slice A' puts.length c', .int .i64 (T : Nat)]) ∧ K ≤ 20 ∧ MadeL w w' base Sb B m K s ts puts T (.slice A' puts.length c')) := by
 have HT := hZ9 hT
 obtain ⟨hl, hrow⟩ := row_of OpW.cells_len (by decide) hrd
 have HL := hZ9 hl
 have HROW := hZ9 hrow
 have HOK := hZ9 hok
 have HB0 : Hid (Below w.heap.size w w) := bR0
 clear hT hl hrow hok hrd
 by_cases h20 : 20 < n
 ·have h20' : (n : Int) > 20 := by omega
  go_enter Tryz.func40, Tryz.ntmps40
  go_wp2_with fail
  go_ret3
  exact ⟨HB0.out, .inl rfl⟩
 ·have h20' : ¬ ((n : Int) > 20) := by omega
  go_enter Tryz.func40, Tryz.ntmps40
  go_wp2_with fail
  go_loopw [21] (fun i wr => ∃ j : Nat, j ≤ n ∧ i = .int .i64 j ∧ Below w.heap.size w wr) (fun i _ => n - (intOf i).toNat)
  case atStart => exact ⟨0, Nat.zero_le _, rfl, HB0.out⟩
  case round =>
   obtain ⟨j, hj, rfl, hb⟩ := hrel
   have HB := hZ9 hb
   clear hb HB0
   by_cases hlt : j < n
   ·have hjl : j < l.length := by have := HL.out; omega
    obtain ⟨b, o, rfl, hbl, hra⟩ := HROW.out j hjl
    generalize l[j] = q at *
    obtain ⟨k, v, no, bit, A1, c1, bs⟩ := q
    have HRA : Hid (wr.rangeAt b (o + j * 5) (opC k v no bit A1 bs.length c1).toList) := fun i v hv => (HB.out.cell (p := ⟨b, o + j * 5 + i, none⟩) hbl).trans (hra i v hv)
    have HIL : Hid ((Tryz.prog.info? 186).map (·.size) = some (opC k v no bit A1 bs.length c1).toList.length) := size186
    have HI : Hid ((Tryz.prog.info? 186).map (·.size) = some (opC k v no bit A1 bs.length c1).size) := size186
    have H1 : Hid ((opC k v no bit A1 bs.length c1).all (·.oneCell') = true) := hZ9 (by simp [Value.oneCell'])
    clear hra
    have i1 : (0 : Int) ≤ (j : Int) := by omega
    have i2 : (j : Int) < (n : Int) := by omega
    go_upto_region 6 with first
     | (refine wpList_load_mid rfl 186 _ rfl b (o + j * 5) rfl (opC k v no bit A1 bs.length c1).toList _ HRA.out Tryz.underlying186 rfl HIL.out ?_)
     | (refine wpList_store_row rfl 186 _ _ rfl wr.heap.size (opC k v no bit A1 bs.length c1) rfl rfl 186 _ (Blk.new wr 186 _) HI.out rfl H1.out ?_)
    rw [World.setRow_alloc_new]
    have HBX := hZ9 (HB.out.alloc HB.out.size (.cells (opC k v no bit A1 bs.length c1) 186))
    have c4 : (wr.alloc (.cells (opC k v no bit A1 bs.length c1) 186)).cell? ⟨wr.heap.size, 4, none⟩ = some (.slice A1 bs.length c1) := (Blk.new wr 186 (opC k v no bit A1 bs.length c1)).cell 4
    generalize wr.alloc (.cells (opC k v no bit A1 bs.length c1) 186) = wx at *
    by_cases h150 : 150 < bs.length
    ·have h150' : (bs.length : Int) > 150 := by omega
     go_wp2_with fail
     go_ret3
     exact ⟨HBX.out, .inl rfl⟩
    ·have h150' : ¬ ((bs.length : Int) > 150) := by omega
     go_wp2_with fail
     go_roundw
     case rel => exact ⟨j + 1, by omega, by go_num, HBX.out⟩
     case measure => simp [intOf]; omega
   ·obtain rfl : j = n := by omega
    obtain ⟨base, hbase⟩ : ∃ base, base = wr.heap.size := ⟨_, rfl⟩
    have hbw : w.heap.size ≤ base := by rw [hbase]; exact HB.out.size
    have HTB : Hid (TabsB base wr) := (HT.out.below HB.out).up hbw
    have hb3 : 2 < base := by omega
    have NW := hZ9 (show Calls Tryz.prog 15 #[.int .i64 128, .int .i64 64] wr fun e w' => ∃ B, e = .returned (.tuple #[.pointer (some ⟨B, 0, none⟩), .int .i64 0]) ∧ Dsk w' base B (newD 128 64) ∧ Below base wr w' from (diskNew_any 128 64 wr).mono fun e w' ⟨h1, h2⟩ => by
     rcases h2 with ⟨_, h3⟩ | ⟨_, B, h3, h4⟩
     ·exact absurd ⟨by decide, by decide, by decide, by decide⟩ h3
     ·rw [hbase]; exact ⟨B, h3, h4, h1⟩)
    obtain ⟨d1, l1, sl, mp, d2, l2, hgo, hall, hsl, hno, hma, hwt, hruns, hpu⟩ := openGo_new (n := 128) (k := 64) (by kernel_rfl) (by omega)
    have hinv : MadeI (openEnd (newD 128 64) d1 l1 sl mp d2 l2) 0 [] [] 0 := by
     have hlk := hruns.like
     have h0 : (newD 128 64).waits.length = 0 := rfl
     refine ⟨hall, by rw [hpu]; exact nR0, by rw [hno]; exact nR0, hma, by simp, by omega, hlk.1.1, hlk.1.2.1, ?_, nR0, by simp, (fun n t h => by cases h), empty_room hall hno hsl hma⟩
     have := turned_runs hruns
     rw [turnedL_fresh] at this
     exact this
    have ON := hZ9 (show ∀ (wy : World) (B : Nat), Dsk wy base B (newD 128 64) → Below base wr wy → Calls Tryz.prog 16 #[.pointer (some ⟨B, 0, none⟩)] wy fun e w' => ∃ Sb m, e = .returned (.tuple #[.pointer (some ⟨Sb, 0, none⟩), .int .i64 0]) ∧ m.B = B ∧ StR w' base Sb (openEnd (newD 128 64) d1 l1 sl mp d2 l2) m ∧ Below base wr w' from fun wy B hd hb =>
     (open_any hd (HTB.out.below hb) hb3 hgo).mono fun e w' ⟨Sb, m, h1, h2, h3, h4⟩ => ⟨Sb, m, h1, h2, h3, hb.trans h4.below⟩)
    generalize openEnd (newD 128 64) d1 l1 sl mp d2 l2 = s0 at *
    have HINV := hZ9 hinv
    clear hgo hall hsl hno hma hwt hruns hpu hinv
    go_upto_region 13 with (first
     | (go_at_call 15; refine NW.out.mono ?_; rintro en w2 ⟨B, rfl, hd, hb⟩; (have HD2 := hZ9 hd); (have HB2 := hZ9 hb); clear hd hb)
     | (go_at_call 16; refine (ON.out _ _ HD2.out HB2.out).mono ?_; rintro en w3 ⟨Sb, m, rfl, hmb, hs3, hb⟩; (have HS3 := hZ9 hs3); (have HB3 := hZ9 hb); clear hs3 hb))
    have HR0 : Hid (MadeL w w3 base Sb m.B m 0 s0 [] [] 0 (.slice none 0 0)) := ⟨HB.out.trans (HB3.out.mono hbw), HS3.out, HINV.out, rfl, own_nil _ _ _ _, hbw⟩
    subst hmb
    obtain ⟨B, hB⟩ : ∃ B, B = m.B := ⟨_, rfl⟩
    rw [← hB] at HR0 ⊢
    clear hB HD2 HB2 HS3 HB3 NW ON HINV HTB HB HT hbase
    go_wp2_with fail
    go_loopw [11, 12, 47] (fun out tn i wr => ∃ (q : Nat) (s : StV) (ts puts : List (NameV × List UInt8)) (T : Nat) (m : StM), q ≤ j ∧ i = .int .i64 q ∧ tn = .int .i64 (T : Nat) ∧ MadeL w wr base Sb B m q s ts puts T out) (fun _ _ i _ => j - (intOf i).toNat)
    case atStart => exact ⟨0, s0, [], [], 0, _, Nat.zero_le _, rfl, rfl, HR0.out⟩
    case round =>
     obtain ⟨q, s, ts, puts, T, m, hq, rfl, rfl, hR⟩ := hrel
     have HR := hZ9 hR
     clear hR HR0
     by_cases hlt2 : q < j
     ·have hjl : q < l.length := by have := HL.out; omega
      obtain ⟨b, o, rfl, hbl, hra⟩ := HROW.out q hjl
      have hop := HOK.out l[q] (List.getElem_mem hjl)
      generalize l[q] = op at *
      obtain ⟨k, v, no, bit, A1, c1, bs⟩ := op
      have HRA : Hid (wr.rangeAt b (o + q * 5) (opC k v no bit A1 bs.length c1).toList) := fun i v hv => (HR.out.bel.cell (p := ⟨b, o + q * 5 + i, none⟩) hbl).trans (hra i v hv)
      have HIL : Hid ((Tryz.prog.info? 186).map (·.size) = some (opC k v no bit A1 bs.length c1).toList.length) := size186
      have HI : Hid ((Tryz.prog.info? 186).map (·.size) = some (opC k v no bit A1 bs.length c1).size) := size186
      have HI7 : Hid ((Tryz.prog.info? 73).map (·.size) = some 2) := sz73
      have H1 : Hid ((opC k v no bit A1 bs.length c1).all (·.oneCell') = true) := hZ9 (by simp [Value.oneCell'])
      clear hra
      have i1 : (0 : Int) ≤ (q : Int) := by omega
      have i2 : (q : Int) < (j : Int) := by omega
      go_upto_region 18 with first
       | (refine wpList_load_mid rfl 186 _ rfl b (o + q * 5) rfl (opC k v no bit A1 bs.length c1).toList _ HRA.out Tryz.underlying186 rfl HIL.out ?_)
       | (refine wpList_store_row rfl 186 _ _ rfl wr.heap.size (opC k v no bit A1 bs.length c1) rfl rfl 186 _ (Blk.new wr 186 _) HI.out rfl H1.out ?_)
      rw [World.setRow_alloc_new]
      have HRX := hZ9 (HR.out.below (bR0.alloc nR0 (.cells (opC k v no bit A1 bs.length c1) 186)))
      have HKX := hZ9 (Blk.new wr 186 (opC k v no bit A1 bs.length c1))
      generalize wr.alloc (.cells (opC k v no bit A1 bs.length c1) 186) = wx at *
      obtain ⟨g, hg⟩ : ∃ g, g = wr.heap.size := ⟨_, rfl⟩
      rw [← hg] at HKX ⊢
      clear hg HRA HIL HI H1 HR i1 i2
      have c1' : wx.cell? ⟨g, 1, none⟩ = some (.int .i64 v) := HKX.out.cell 1
      have c2' : wx.cell? ⟨g, 2, none⟩ = some (.int .i64 no) := HKX.out.cell 2
      have HN0 := hZ9 (Blk.new wx 73 #[.int .i64 0, .int .i64 0])
      have gl0 := HKX.out.lt
      go_upto_region 19 with (refine wpList_store_row rfl 73 _ _ rfl wx.heap.size #[.int .i64 v, .int .i64 no] rfl rfl 73 _ HN0.out HI7.out rfl (by simp [Value.oneCell']) ?_; rw [World.setRow_alloc_new])
      try go_frame
      have HRY := hZ9 (HRX.out.below (bR0.alloc nR0 (.cells #[.int .i64 v, .int .i64 no] 73)))
      have HKY := hZ9 (HKX.out.alloc (.cells #[.int .i64 v, .int .i64 no] 73))
      have HNY := hZ9 (Blk.new wx 73 #[.int .i64 v, .int .i64 no])
      generalize wx.alloc (.cells #[.int .i64 v, .int .i64 no] 73) = wy at *
      obtain ⟨g2, hg2⟩ : ∃ g2, g2 = wx.heap.size := ⟨_, rfl⟩
      rw [← hg2] at HNY ⊢
      clear hg2 HRX HKX HN0 c1' c2' gl0 HI7
      have k0 : wy.cell? ⟨g, 0, none⟩ = some (.int .u8 k) := HKY.out.cell 0
      have k1 : wy.cell? ⟨g, 1, none⟩ = some (.int .i64 v) := HKY.out.cell 1
      have k2 : wy.cell? ⟨g, 2, none⟩ = some (.int .i64 no) := HKY.out.cell 2
      have k3 : wy.cell? ⟨g, 3, none⟩ = some (.int .i64 bit) := HKY.out.cell 3
      have k4 : wy.cell? ⟨g, 4, none⟩ = some (.slice A1 bs.length c1) := HKY.out.cell 4
      have n0 : wy.cell? ⟨g2, 0, none⟩ = some (.int .i64 v) := HNY.out.cell 0
      have n1 : wy.cell? ⟨g2, 1, none⟩ = some (.int .i64 no) := HNY.out.cell 1
      have HOP := hZ9 hop
      have hk256 := hop.k
      obtain ⟨kk, hkk⟩ : ∃ kk, kk = k % 5 := ⟨_, rfl⟩
      have hkm : (k : Int) % 5 = (kk : Int) := by omega
      have hkt : (k : Int).tmod 5 = (kk : Int) := by rw [Int.tmod_eq_emod_of_nonneg (by omega)]; exact hkm
      have hk5 : kk < 5 := by omega
      clear hkk hop
      go_upto_region 20 with fail
      have hq20 : q ≤ 60 := by omega
      have hInv := HRY.out.inv
      have hbel := HRY.out.bel
      have hstr := HRY.out.str
      obtain rfl | rfl | rfl | rfl | rfl : kk = 0 ∨ kk = 1 ∨ kk = 2 ∨ kk = 3 ∨ kk = 4 := by omega
      ·obtain ⟨z, hz⟩ : ∃ z, z = putStore s (v, no) bs := ⟨_, rfl⟩
       have HPU := hZ9 (show Calls Tryz.prog 53 #[.pointer (some ⟨Sb, 0, none⟩), .agg #[.int .i64 v, .int .i64 no], .slice A1 bs.length c1] wy fun e w' => e = .returned (.int .i64 z.1) ∧ StR w' base Sb z.2 m ∧ KeepS base m m wy w' from by
        rw [hz]
        exact put_any hstr hInv.all (hInv.ok hq20) (by omega) (hInv.waits hq20) (by have := hInv.pu; omega) (v, no) bs A1 c1 ((HOP.out.byt.below hbel).up HRY.out.wle) HOP.out.cap)
       have hpi := hInv.put hq20 (v, no) bs
       rw [← hz] at hpi
       rcases hpi with ⟨hz0, hi⟩ | ⟨hz0, hi⟩
       ·rw [hz0] at HPU
        have HI := hZ9 hi
        clear hz hz0 hi hInv hbel hstr
        go_upto_region 22 with (go_at_call 53; refine HPU.out.mono ?_; rintro en w5 ⟨rfl, hs5, hk5⟩; (have HS5 := hZ9 hs5); (have HK5 := hZ9 hk5); clear hs5 hk5)
        obtain ⟨A5, c5, rfl, hc5⟩ := own_form HRY.out.row
        obtain ⟨i5, hi5, hx0, hx1, hx2⟩ := info_parts info188
        have hwl := HRY.out.wle
        have bel5 : Below w.heap.size w w5 := HRY.out.bel.trans (HK5.out.below.mono hwl)
        have hx5 := HK5.out.blk HRY.out.str HKY.out (by decide) (by decide)
        have hn5 := HK5.out.blk HRY.out.str HNY.out (by decide) (by decide)
        have m4 : w5.cell? ⟨g, 4, none⟩ = some (.slice A1 bs.length c1) := hx5.cell 4
        have p0 : w5.cell? ⟨g2, 0, none⟩ = some (.int .i64 v) := hn5.cell 0
        have p1 : w5.cell? ⟨g2, 1, none⟩ = some (.int .i64 no) := hn5.cell 1
        have cv5 := strOfL_run w5 A1 c1 bs (HOP.out.byt.below bel5)
        have row5 := own_keepS HRY.out.row HK5.out HRY.out.str
        have HOW := hZ9 (own_keep_alloc row5 (.cells #[.int .i64 v, .int .i64 no, .string ⟨bs.toArray⟩] 188))
        have HRD : Hid (Rd (w5.alloc (.cells #[.int .i64 v, .int .i64 no, .string ⟨bs.toArray⟩] 188)) (w5.alloc (.cells #[.int .i64 v, .int .i64 no, .string ⟨bs.toArray⟩] 188)).heap.size 3 (some ⟨w5.heap.size, 0, none⟩) 1 [.int .i64 v, .int .i64 no, .string ⟨bs.toArray⟩]) :=
         sl_rd (Sl.of_blk (sz := 3) (n := 1) (xs := [.int .i64 v, .int .i64 no, .string ⟨bs.toArray⟩]) (Blk.new w5 188 _) rfl)
        have H1C : Hid (∀ u ∈ ([.int .i64 v, .int .i64 no, .string ⟨bs.toArray⟩] : List Value), u.oneCell' = true) := hZ9 (by intro u hu; simp at hu; rcases hu with rfl | rfl | rfl <;> rfl)
        have hpl := HRY.out.inv.pl
        have hb5 : base ≤ w5.heap.size := HS5.out.lt
        clear k0 k1 k2 k3 k4 n0 n1 hx5 hn5 row5 bel5
        go_wp2_with (at_builtin; refine wpList_append_rd _ rfl _ _ 92 rfl base 188 i5 _ 3 32 under92 hi5 hx0 hx1 hx2 rfl (by decide) (.slice A5 puts.length c5) puts.length (putRows puts) rfl HOW.out (some ⟨w5.heap.size, 0, none⟩) 1 1 _ [.int .i64 v, .int .i64 no, .string ⟨bs.toArray⟩] rfl HRD.out H1C.out (by unfold maxLen; omega) (by omega) (by simp; omega) ?_; intro A4 c4 w4 hown4 hgr4 hnc4 hat4; (have HM := hZ9 (MadeL.putIn (p := ((v, no), bs)) HRY.out HS5.out HK5.out HI.out (bR0.alloc nR0 _) HOW.out hown4 hgr4)); clear hown4 hgr4 hat4)
        go_roundw
        case rel => exact ⟨q + 1, _, _, _, T, m, by omega, by go_num, rfl, HM.out⟩
        case measure => simp [intOf]; omega
       ·have hz1 : ¬ ((z.1 : Int) = 0) := by omega
        have hz2 : ((z.1 : Int) == 0) = false := by simp; omega
        have HI := hZ9 hi
        clear hz hz0 hi hInv hbel hstr
        go_wp2_with (go_at_call 53; refine HPU.out.mono ?_; rintro en w5 ⟨rfl, hs5, hk5⟩; (have HM := hZ9 (HRY.out.act hs5 hk5 HI.out)); clear hs5 hk5)
        go_roundw
        case rel => exact ⟨q + 1, _, ts, puts, T, m, by omega, by go_num, rfl, HM.out⟩
        case measure => simp [intOf]; omega
      ·have NT := hZ9 (show Calls Tryz.prog 75 #[.pointer (some ⟨Sb, 0, none⟩), .int .i64 v, .string { data := #[110, 111, 116, 101] }] wy fun e w' => ∃ c m', e = .returned (.int .i64 c) ∧ MadeL w w' base Sb B m' (q + 1) (noteStore s v [110, 111, 116, 101]).2 ts puts T u11 from (note_any hstr (hInv.ok hq20) v [110, 111, 116, 101]).mono fun e w' ⟨h1, m', h2, h3⟩ => ⟨_, m', h1, HRY.out.act h2 h3 (hInv.note hq20 v _)⟩)
       clear hInv hbel hstr
       go_wp2_with (go_at_call 75; refine NT.out.mono ?_; rintro en w5 ⟨cc, m', rfl, hm⟩; (have HM := hZ9 hm); clear hm)
       go_roundw
       case rel => exact ⟨q + 1, _, ts, puts, T, m', by omega, by go_num, rfl, HM.out⟩
       case measure => simp [intOf]; omega
      ·have NT := hZ9 (show Calls Tryz.prog 74 #[.pointer (some ⟨Sb, 0, none⟩), .agg #[.int .i64 v, .int .i64 no]] wy fun e w' => ∃ c m' s' ts', e = .returned (.int .i64 c) ∧ MadeL w w' base Sb B m' (q + 1) s' ts' puts T u11 from (drop_any hstr (hInv.ok hq20) (v, no) ⟨HOP.out.v, HOP.out.n⟩).mono fun e w' ⟨h1, m', h2, h3⟩ => by
        obtain ⟨ts', hi, _⟩ := hInv.drop hq20 (v, no)
        exact ⟨_, m', _, ts', h1, HRY.out.act h2 h3 hi⟩)
       clear hInv hbel hstr
       go_wp2_with (go_at_call 74; refine NT.out.mono ?_; rintro en w5 ⟨cc, m', s', ts', rfl, hm⟩; (have HM := hZ9 hm); clear hm)
       go_roundw
       case rel => exact ⟨q + 1, s', ts', puts, T, m', by omega, by go_num, rfl, HM.out⟩
       case measure => simp [intOf]; omega
      ·have NT := hZ9 (show Calls Tryz.prog 76 #[.pointer (some ⟨Sb, 0, none⟩), .int .i64 v] wy fun e w' => ∃ c m' s' ts', e = .returned (.int .i64 c) ∧ MadeL w w' base Sb B m' (q + 1) s' ts' puts T u11 from (forgetS_any hstr (hInv.ok hq20) v HOP.out.v).mono fun e w' ⟨gone, hg, h1, m', h2, h3⟩ => by
        obtain ⟨ts', hi, _⟩ := hInv.forget hq20 v gone hg
        exact ⟨_, m', _, ts', h1, HRY.out.act h2 h3 hi⟩)
       clear hInv hbel hstr
       go_wp2_with (go_at_call 76; refine NT.out.mono ?_; rintro en w5 ⟨cc, m', s', ts', rfl, hm⟩; (have HM := hZ9 hm); clear hm)
       go_roundw
       case rel => exact ⟨q + 1, s', ts', puts, T, m', by omega, by go_num, rfl, HM.out⟩
       case measure => simp [intOf]; omega
      ·have HID := hZ9 (HRY.out.idle)
       by_cases hno : 32 ≤ no ∧ no < 128
       ·obtain ⟨N, hN⟩ : ∃ N : Nat, no = N := ⟨no.toNat, by omega⟩
        subst hN
        have n32 : (32 : Int) ≤ (N : Int) := hno.1
        have n128 : (N : Int) < 128 := hno.2
        by_cases hbn : bit < 0
        ·have NT := hZ9 (show Calls Tryz.prog 39 #[.pointer (some ⟨B, 0, none⟩), .int .i64 N, .int .i64 bit] wy fun e w' => e = .returned (.int .i64 1) ∧ wy = w' from by
          have := diskRot_neg hstr.dsk N bit hbn
          rwa [HRY.out.mB] at this)
         clear hInv hbel hstr
         go_wp2_with (go_at_call 39; refine NT.out.mono ?_; rintro en w5 ⟨rfl, rfl⟩)
         go_roundw
         case rel => exact ⟨q + 1, _, ts, puts, T, m, by omega, by go_num, rfl, HID.out⟩
         case measure => simp [intOf]; omega
        ·obtain ⟨bt, hbt⟩ : ∃ bt : Nat, bit = bt := ⟨bit.toNat, by omega⟩
         subst hbt
         have NT := hZ9 (show Calls Tryz.prog 39 #[.pointer (some ⟨B, 0, none⟩), .int .i64 N, .int .i64 bt] wy fun e w' => e = .returned (.int .i64 (rotD s.d N bt).1) ∧ (∀ T', MadeI { s with d := (rotD s.d N bt).2 } (q + 1) ts puts T' → MadeL w w' base Sb B m (q + 1) { s with d := (rotD s.d N bt).2 } ts puts T' u11) from by
          have := diskRot_any hstr.dsk N bt
          rw [HRY.out.mB] at this
          exact this.mono fun e w' ⟨h1, h2, h3, h4⟩ => ⟨h1, fun T' hi => ⟨hbel.trans (h3.below.mono HRY.out.wle), hstr.rotted h3 (by rw [HRY.out.mB]; exact h2) (rotD_size s.d N bt) h4, hi, HRY.out.mB, own_keeps HRY.out.row h3 (by decide), HRY.out.wle⟩⟩)
         rcases hInv.rot N bt with ⟨hr0, hi⟩ | ⟨hr0, hi⟩
         ·rw [hr0] at NT
          have HI := hZ9 hi
          have htk := hInv.tk
          clear hInv hbel hstr hi
          go_wp2_with (go_at_call 39; refine NT.out.mono ?_; rintro en w5 ⟨rfl, hm⟩; (have HM := hZ9 (hm _ HI.out)); clear hm)
          go_roundw
          case rel => exact ⟨q + 1, _, ts, puts, T + 1, m, by omega, by go_num, by go_num, HM.out⟩
          case measure => simp [intOf]; omega
         ·have hr1 : ¬ (((rotD s.d N bt).1 : Int) = 0) := by omega
          have hr2 : (((rotD s.d N bt).1 : Int) == 0) = false := by simp; omega
          have HI := hZ9 hi
          clear hInv hbel hstr hi
          go_wp2_with (go_at_call 39; refine NT.out.mono ?_; rintro en w5 ⟨rfl, hm⟩; (have HM := hZ9 (hm _ HI.out)); clear hm)
          go_roundw
          case rel => exact ⟨q + 1, _, ts, puts, T, m, by omega, by go_num, rfl, HM.out⟩
          case measure => simp [intOf]; omega
       ·clear hInv hbel hstr
        by_cases h32 : 32 ≤ no
        ·have h128 : ¬ (no < 128) := fun h => hno ⟨h32, h⟩
         clear hno
         go_wp2_with fail
         go_roundw
         case rel => exact ⟨q + 1, _, ts, puts, T, m, by omega, by go_num, rfl, HID.out⟩
         case measure => simp [intOf]; omega
        ·clear hno
         go_wp2_with fail
         go_roundw
         case rel => exact ⟨q + 1, _, ts, puts, T, m, by omega, by go_num, rfl, HID.out⟩
         case measure => simp [intOf]; omega
     ·obtain rfl : q = j := by omega
      have hrow := HR.out.row
      obtain ⟨A', c', rfl, _⟩ := own_form hrow
      clear hrow
      go_wp2_with fail
      go_ret3
      exact ⟨HR.out.bel, .inr ⟨base, Sb, B, m, q, s, ts, puts, T, A', c', rfl, by omega, HR.out⟩⟩
end Go.Proofs.YtmgmfnimaafkdaaGreatDoor
