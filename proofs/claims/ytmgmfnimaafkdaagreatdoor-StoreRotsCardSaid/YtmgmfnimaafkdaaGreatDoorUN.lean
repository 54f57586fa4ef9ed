/- Whatever bit rots, a slice is told with its own bytes, or not at all: the law's own walk.  -/
import Derived.Test.YtmgmfnimaafkdaaGreatDoorUM
import Derived.Test.YtmgmfnimaafkdaaGreatDoorVZ
import Derived.Test.YtmgmfnimaafkdaaGreatDoorVY
namespace Go.Proofs.YtmgmfnimaafkdaaGreatDoor
open Go.RowKit Go.Maps
set_option maxRecDepth 100000

/-- behind the bit: what each slice that was put tells -/
theorem gets_any {w : World} {base Sb lo E : Nat} {s : StV} {m : StM} {ts : List (NameV × List UInt8)} (h : StR w base Sb s m) (ha : StAll s lo E ts) {n : NameV} {t : List UInt8} (hg : getL ts n = some t) :
    ∃ x, getL s.slices n = some x ∧
      ((tellsS s.d x = (0, t) ∧ Calls Tryz.prog 30 #[.pointer (some ⟨Sb, 0, none⟩), nameV n] w fun e w' => ∃ A c, e = .returned (.tuple #[.slice A t.length c, .int .i64 0]) ∧ Byt w' A t ∧ Below w.heap.size w w') ∨
       (tellsS s.d x = (8, []) ∧ Calls Tryz.prog 30 #[.pointer (some ⟨Sb, 0, none⟩), nameV n] w fun e w' => e = .returned (.tuple #[.slice none 0 0, .int .i64 8]) ∧ Below w.heap.size w w')) := by
  obtain ⟨x, a, h1, h2, h3, h4, h5, h6, h7⟩ := ha.gets hg
  have hc := getM_any h n ⟨wfI_right h6, wfI_right h7⟩ x h1 a h4 h2 h3
  refine ⟨x, h1, ?_⟩
  rcases h5 with e | e
  · refine .inl ⟨e, hc.mono fun en w' ⟨g1, g2⟩ => ?_⟩
    rw [e] at g1
    rcases g1 with ⟨_, A, c, g3, g4⟩ | ⟨g3, _⟩
    · exact ⟨A, c, g3, Byt.of_own g4, g2⟩
    · exact absurd rfl g3
  · refine .inr ⟨e, hc.mono fun en w' ⟨g1, g2⟩ => ?_⟩
    rw [e] at g1
    rcases g1 with ⟨g3, _⟩ | ⟨_, g3⟩
    · exact absurd g3 (by decide)
    · exact ⟨g3, g2⟩
set_option maxHeartbeats 16000000 in
theorem storeRots_any {w : World} (hT : TabsB w.heap.size w) (hb2 : 2 < w.heap.size) (A : Option Addr) (n c : Nat) (l : List ActW) (sec bit : Nat) (hrd : Rd w w.heap.size 5 A n (l.flatMap ActW.cells)) (hok : ∀ a ∈ l, a.sz < 65536) (hs : sec < 65536) (hbt : bit < 65536) :
    Calls Tryz.prog 8 #[.slice A n c, .int .u16 sec, .int .u16 bit] w fun e w' => e = .returned (.bool true) ∧ Below w.heap.size w w' := by
  have HAL := Lib.hid (alive_any hT hb2)
  have HT := Lib.hid hT
  obtain ⟨hl, hrow⟩ := row_of ActW.cells_len (by decide) hrd
  have HL := Lib.hid hl
  have HROW := Lib.hid hrow
  have HOK := Lib.hid hok
  clear hT hl hrow hok hrd
  by_cases h30 : 30 < n
  · have h30' : (n : Int) > 30 := by omega
    go_enter Tryz.func8, Tryz.ntmps8
    go_wp2_with (go_at_call 14; refine HAL.out.mono ?_; rintro en w1 ⟨rfl, hb⟩; (have HB1 := Lib.hid hb); clear hb)
    go_ret
    exact ⟨rfl, HB1.out⟩
  · have h30' : ¬ ((n : Int) > 30) := by omega
    go_enter Tryz.func8, Tryz.ntmps8
    go_upto_region 5 with (go_at_call 14; refine HAL.out.mono ?_; rintro en w1 ⟨rfl, hb⟩; (have HB1 := Lib.hid hb); clear hb)
    obtain ⟨base, hbase⟩ : ∃ base, base = w1.heap.size := ⟨_, rfl⟩
    have hbw : w.heap.size ≤ base := by rw [hbase]; exact HB1.out.size
    have HTB : Hid (TabsB base w1) := (HT.out.below HB1.out).up hbw
    have hb3 : 2 < base := by omega
    have NW := Lib.hid (show Calls Tryz.prog 15 #[.int .i64 120, .int .i64 64] w1 fun e w' => ∃ B, e = .returned (.tuple #[.pointer (some ⟨B, 0, none⟩), .int .i64 0]) ∧ Dsk w' base B (newD 120 64) ∧ Below base w1 w' from (diskNew_any 120 64 w1).mono fun e w' ⟨h1, h2⟩ => by
      rcases h2 with ⟨_, h3⟩ | ⟨_, B, h3, h4⟩
      · exact absurd ⟨by decide, by decide, by decide, by decide⟩ h3
      · rw [hbase]; exact ⟨B, h3, h4, h1⟩)
    obtain ⟨d1, l1, sl, mp, d2, l2, hgo, hall, hsl, hno, hma, hwt, hruns, hpu⟩ := openGo_new (n := 120) (k := 64) (by kernel_rfl) (by omega)
    have hinv : RotsI (openEnd (newD 120 64) d1 l1 sl mp d2 l2) 0 [] := ⟨hall, by rw [hpu]; exact Nat.le_refl _, hno, hma, by simp, hruns⟩
    have ON := Lib.hid (show ∀ (wy : World) (B : Nat), Dsk wy base B (newD 120 64) → Below base w1 wy → Calls Tryz.prog 16 #[.pointer (some ⟨B, 0, none⟩)] wy fun e w' => ∃ Sb m, e = .returned (.tuple #[.pointer (some ⟨Sb, 0, none⟩), .int .i64 0]) ∧ m.B = B ∧ StR w' base Sb (openEnd (newD 120 64) d1 l1 sl mp d2 l2) m ∧ Below base w1 w' from fun wy B hd hb =>
      (open_any hd (HTB.out.below hb) hb3 hgo).mono fun e w' ⟨Sb, m, h1, h2, h3, h4⟩ => ⟨Sb, m, h1, h2, h3, hb.trans h4.below⟩)
    generalize openEnd (newD 120 64) d1 l1 sl mp d2 l2 = s0 at *
    have HINV := Lib.hid hinv
    clear hgo hall hsl hno hma hwt hruns hpu hinv
    have hmm := @run_makeMap Tryz.prog
    go_upto_region 10 with (first
      | (go_at_call 15; refine NW.out.mono ?_; rintro en w2 ⟨B, rfl, hd, hb⟩; (have HD2 := Lib.hid hd); (have HB2 := Lib.hid hb); clear hd hb)
      | (go_at_call 16; refine (ON.out _ _ HD2.out HB2.out).mono ?_; rintro en w3 ⟨Sb, m, rfl, hmb, hs3, hb⟩; (have HS3 := Lib.hid hs3); (have HB3 := Lib.hid hb); clear hs3 hb))
    obtain ⟨P, hP⟩ : ∃ P, P = w3.heap.size := ⟨_, rfl⟩
    have HR0 : Hid (RotsL w (w3.alloc (.map #[] 0)) base Sb P m 0 s0 []) := by
      refine ⟨HB1.out.trans ((HB3.out.mono hbw).trans ((Below.refl _ _).alloc (Nat.le_trans HB1.out.size (HB3.out.size)) _)), HS3.out.below ((Below.refl _ _).alloc (Nat.le_refl _) _), HINV.out, ?_, ?_, ?_, ?_, hbw⟩
      · rw [hP]; exact PK.made w3
      · rw [hP]; exact HS3.out.lt
      · rw [hP]; have := HS3.out.nmap.lt; omega
      · rw [hP]; have := HS3.out.pmap.lt; omega
    subst hmb
    rw [← hP]
    generalize w3.alloc (.map #[] 0) = w4 at *
    clear hmm hP HD2 HB2 HS3 HB3 NW ON HINV HTB HB1 HAL HT hbase
    go_wp2_with fail
    go_loopw [38] (fun i wr => ∃ (j : Nat) (s : StV) (ts : List (NameV × List UInt8)), j ≤ n ∧ i = .int .i64 j ∧ RotsL w wr base Sb P m j s ts) (fun i _ => n - (intOf i).toNat)
    case atStart => exact ⟨0, s0, [], Nat.zero_le _, rfl, HR0.out⟩
    case round =>
      obtain ⟨j, s, ts, hj, rfl, hR⟩ := hrel
      have HR := Lib.hid hR
      clear hR HR0
      by_cases hlt : j < n
      · have hjl : j < l.length := by have := HL.out; omega
        obtain ⟨b, o, rfl, hbl, hra⟩ := HROW.out j hjl
        have hsz := HOK.out l[j] (List.getElem_mem hjl)
        generalize l[j] = a at *
        obtain ⟨k, v, nn, sz, bt⟩ := a
        simp only at hsz
        have HRA : Hid (wr.rangeAt b (o + j * 5) (actC k v nn sz bt).toList) := fun i v hv => (HR.out.bel.cell (p := ⟨b, o + j * 5 + i, none⟩) hbl).trans (hra i v hv)
        have HIL : Hid ((Tryz.prog.info? 55).map (·.size) = some (actC k v nn sz bt).toList.length) := size55
        have HI : Hid ((Tryz.prog.info? 55).map (·.size) = some (actC k v nn sz bt).size) := size55
        have H1 : Hid ((actC k v nn sz bt).all (·.oneCell') = true) := Lib.hid (by simp [Value.oneCell'])
        clear hra
        have i1 : (0 : Int) ≤ (j : Int) := by omega
        have i2 : (j : Int) < (n : Int) := by omega
        go_upto_region 13 with first
          | (refine wpList_load_mid rfl 55 _ rfl b (o + j * 5) rfl (actC k v nn sz bt).toList _ HRA.out Tryz.underlying55 rfl HIL.out ?_)
          | (refine wpList_store_row rfl 55 _ _ rfl wr.heap.size (actC k v nn sz bt) rfl rfl 55 _ (Blk.new wr 55 _) HI.out rfl H1.out ?_)
        rw [World.setRow_alloc_new]
        have HRX := Lib.hid (HR.out.below ((Below.refl _ _).alloc (Nat.le_refl _) (.cells (actC k v nn sz bt) 55)))
        have HKX := Lib.hid (Blk.new wr 55 (actC k v nn sz bt))
        generalize wr.alloc (.cells (actC k v nn sz bt) 55) = wx at *
        obtain ⟨g, hg⟩ : ∃ g, g = wr.heap.size := ⟨_, rfl⟩
        rw [← hg] at HKX ⊢
        clear hg HRA HIL HI H1 HR i1 i2
        have SK := Lib.hid (show ∀ wy, Blk wy g 55 (actC k v nn sz bt) → wy.cell? ⟨g, 0, none⟩ = some (.int .i64 k) ∧ wy.cell? ⟨g, 1, none⟩ = some (.int .i64 v) ∧ wy.cell? ⟨g, 2, none⟩ = some (.int .i64 nn) ∧ wy.cell? ⟨g, 3, none⟩ = some (.int .u16 sz) ∧ wy.cell? ⟨g, 4, none⟩ = some (.int .u8 bt) from fun wy hx =>
          ⟨hx.cell 0, hx.cell 1, hx.cell 2, hx.cell 3, hx.cell 4⟩)
        obtain ⟨c0, c1, c2, c3, c4⟩ := SK.out _ HKX.out
        have gl := HKX.out.lt
        by_cases hk : k = 0
        · subst hk
          obtain ⟨q, hq⟩ : ∃ q, q = putStore s (v, nn) (bytesV sz bt) := ⟨_, rfl⟩
          have HDO := Lib.hid (show Calls Tryz.prog 20 #[.pointer (some ⟨Sb, 0, none⟩), .agg (actC 0 v nn sz bt)] wx fun e w' => e = .returned (.int .i64 q.1) ∧ StR w' base Sb q.2 m ∧ KeepS base m m wx w' from by
            have hi := HRX.out.inv
            rw [hq]
            exact doesPut_any HRX.out.str hi.all (hi.ok (by omega)) (by omega) (hi.waits (by omega)) (by have := hi.pu; omega) v nn sz bt hsz)
          have HQ := Lib.hid hq
          clear hq
          by_cases hq0 : q.1 = 0
          · rw [hq0] at HDO
            have HNO := Lib.hid (show ∀ w', StR w' base Sb q.2 m → KeepS base m m wx w' → ∀ wy, Below w'.heap.size w' wy → ∃ w9, (Instr.mapUpdate 87 (.map (some P)) (.agg #[.int .i64 v, .int .i64 nn]) (.string ⟨(bytesV sz bt).toArray⟩)).run Tryz.prog wy = .ok () w9 ∧ RotsL w w9 base Sb P m (j + 1) q.2 (putS (v, nn) (bytesV sz bt) ts) ∧ wy.mapTurned w9 P from fun w' h1 h2 => by
              rw [HQ.out] at h1 ⊢
              exact HRX.out.yes (n := (v, nn)) (by omega) h1 h2 (by rw [← HQ.out]; exact hq0))
            go_upto_region 14 with (go_at_call 20; refine HDO.out.mono ?_; rintro en w5 ⟨rfl, hs5, hk5⟩; (have HS5 := Lib.hid hs5); (have HK5 := Lib.hid hk5); clear hs5 hk5)
            have HX5 := Lib.hid (HK5.out.blk HRX.out.str HKX.out (by decide) (by decide))
            have hsm := HX5.out.lt
            clear c0 c1 c2 c3 c4
            have HNM := Lib.hid (fun wy => actName_any v nn wy)
            have HBY := Lib.hid (fun wy => actBytes_any 0 v nn sz bt hsz wy)
            have S0 := Lib.hid (SK.out _ HX5.out.drew)
            have SKb := Lib.hid (show ∀ wy, Below w5.heap.size w5 wy → _ from fun wy hy => SK.out wy (HX5.out.below hy HX5.out.lt))
            have HCV := Lib.hid (fun (wy : World) (A : Option Addr) (c : Nat) (h : Byt wy A (bytesV sz bt)) => strOfAny_run wy A c (bytesV sz bt) h)
            have HDR : Hid (Below w5.heap.size w5 w5.drew) := (Below.refl _ _).drew
            generalize bytesV sz bt = tx at *
            obtain ⟨z0, z1, z2, z3, z4⟩ := S0.out
            go_region_law (first
                | ((fail_if_success (have := HB6)); go_at_call 31; refine (HNM.out _).mono ?_; rintro en w6 ⟨rfl, hb⟩; (have HB6 : Hid (Below w5.heap.size w5 w6) := HDR.out.trans hb); (obtain ⟨y0, y1, y2, y3, y4⟩ := SKb.out _ HB6.out); clear hb)
                | ((fail_if_success (have := HB6)); go_at_call 38; refine (HBY.out _).mono ?_; rintro en w6 ⟨A6, c6, rfl, hy, hc, hb⟩; (have HB6 : Hid (Below w5.heap.size w5 w6) := HDR.out.trans hb); (have HY6 := Lib.hid hy); (have cv6 := HCV.out _ _ c6 hy); (obtain ⟨y0, y1, y2, y3, y4⟩ := SKb.out _ HB6.out); clear hb hy)
                | (go_at_call 31; refine (HNM.out _).mono ?_; rintro en w7 ⟨rfl, hb⟩; (have HB7 : Hid (Below w5.heap.size w5 w7) := HB6.out.trans (hb.mono HB6.out.size)); (have cv7 := HCV.out _ _ c6 (HY6.out.below hb)); (obtain ⟨w8, hrun8, hr8, ht8⟩ := HNO.out _ HS5.out HK5.out _ HB7.out); (have HR8 := Lib.hid hr8); clear hb hr8)
                | (go_at_call 38; refine (HBY.out _).mono ?_; rintro en w7 ⟨A6, c6, rfl, hy, hc, hb⟩; (have HB7 : Hid (Below w5.heap.size w5 w7) := HB6.out.trans (hb.mono HB6.out.size)); (have cv7 := HCV.out _ _ c6 hy); (obtain ⟨w8, hrun8, hr8, ht8⟩ := HNO.out _ HS5.out HK5.out _ HB7.out); (have HR8 := Lib.hid hr8); clear hb hy hr8)
                | ((fail_if_success (have := HB6)); go_simp; go_at_call 31; refine (HNM.out _).mono ?_; rintro en w6 ⟨rfl, hb⟩; (have HB6 : Hid (Below w5.heap.size w5 w6) := HDR.out.trans hb); (obtain ⟨y0, y1, y2, y3, y4⟩ := SKb.out _ HB6.out); clear hb)
                | ((fail_if_success (have := HB6)); go_simp; go_at_call 38; refine (HBY.out _).mono ?_; rintro en w6 ⟨A6, c6, rfl, hy, hc, hb⟩; (have HB6 : Hid (Below w5.heap.size w5 w6) := HDR.out.trans hb); (have HY6 := Lib.hid hy); (have cv6 := HCV.out _ _ c6 hy); (obtain ⟨y0, y1, y2, y3, y4⟩ := SKb.out _ HB6.out); clear hb hy)
                | (go_simp; go_at_call 31; refine (HNM.out _).mono ?_; rintro en w7 ⟨rfl, hb⟩; (have HB7 : Hid (Below w5.heap.size w5 w7) := HB6.out.trans (hb.mono HB6.out.size)); (have cv7 := HCV.out _ _ c6 (HY6.out.below hb)); (obtain ⟨w8, hrun8, hr8, ht8⟩ := HNO.out _ HS5.out HK5.out _ HB7.out); (have HR8 := Lib.hid hr8); clear hb hr8)
                | (go_simp; go_at_call 38; refine (HBY.out _).mono ?_; rintro en w7 ⟨A6, c6, rfl, hy, hc, hb⟩; (have HB7 : Hid (Below w5.heap.size w5 w7) := HB6.out.trans (hb.mono HB6.out.size)); (have cv7 := HCV.out _ _ c6 hy); (obtain ⟨w8, hrun8, hr8, ht8⟩ := HNO.out _ HS5.out HK5.out _ HB7.out); (have HR8 := Lib.hid hr8); clear hb hy hr8))
            all_goals
              go_wp2_with fail
              go_roundw
              case rel => exact ⟨j + 1, q.2, _, by omega, by go_num, HR8.out⟩
              case measure => simp [intOf]; omega
          · have hq0' : ¬ ((q.1 : Int) = 0) := by omega
            have hq0'' : ((q.1 : Int) == 0) = false := by simp; omega
            go_wp2_with (go_at_call 20; refine HDO.out.mono ?_; rintro en w5 ⟨rfl, hs5, hk5⟩; (have HS5 := Lib.hid hs5); (have HK5 := Lib.hid hk5); clear hs5 hk5)
            go_roundw
            case rel =>
              refine ⟨j + 1, q.2, ts, by omega, by go_num, ?_⟩
              have h1 := HS5.out
              rw [HQ.out] at h1 hq0 ⊢
              exact HRX.out.no (by omega) h1 HK5.out hq0
            case measure => simp [intOf]; omega
        · have hk' : (k == 0) = false := by simpa using hk
          go_wp2_with fail
          go_roundw
          case rel => exact ⟨j + 1, s, ts, by omega, by go_num, HRX.out.idle⟩
          case measure => simp [intOf]; omega
      · obtain rfl : j = n := by omega
        obtain ⟨ra, hra⟩ : ∃ ra, ra = sec % 90 := ⟨_, rfl⟩
        obtain ⟨rb, hrb⟩ : ∃ rb, rb = bit % 512 := ⟨_, rfl⟩
        have i1 : (sec : Int) % 90 = (ra : Int) := by omega
        have i2 : (bit : Int) % 512 = (rb : Int) := by omega
        have hra2 : ra < 90 := by omega
        have hrb2 : rb < 512 := by omega
        clear hra hrb
        obtain ⟨N, hN⟩ : ∃ N, N = 30 + ra := ⟨_, rfl⟩
        have i3 : (30 : Int) + (ra : Int) = (N : Int) := by omega
        have hN2 : N < 120 := by omega
        clear hN
        obtain ⟨d', hd', hall, hbad⟩ := HR.out.inv.rot hN2 hrb2
        have RO := Lib.hid (show Calls Tryz.prog 39 #[.pointer (some ⟨m.B, 0, none⟩), .int .i64 N, .int .i64 rb] wr fun e w' => e = .returned (.int .i64 0) ∧ RotsL w wr base Sb P m j s ts ∧ StR w' base Sb { s with d := d' } m ∧ Below base wr w' ∧ PK.In w' P j (getL ts) from by
          have := diskRot_any HR.out.str.dsk N rb
          rw [hd'] at this
          refine this.mono fun e w' ⟨h1, h2, h3, h4⟩ => ?_
          have hz : d'.size = s.d.size := by have := rotD_size s.d N rb; rw [hd'] at this; exact this
          exact ⟨h1, HR.out, HR.out.str.rotted h3 h2 hz h4, h3.below, HR.out.map.keeps h3 (by decide)⟩)
        have HALL := Lib.hid hall
        have HBAD := Lib.hid hbad
        have hbe : base ≤ wr.heap.size := HR.out.str.lt
        have HBEL := Lib.hid HR.out.bel
        have hwl := HR.out.wle
        have hPl := HR.out.low
        have i4 : ¬ ((j : Int) < (j : Int)) := by omega
        clear hall hbad hd'
        go_upto_region 19 with (go_at_call 39; refine RO.out.mono ?_; rintro en w5 ⟨rfl, _, hs5, hb5, hp5⟩; (have HS5 := Lib.hid hs5); (have HB5 := Lib.hid hb5); (have HP5 := Lib.hid hp5); clear hs5 hb5 hp5)
        obtain ⟨D0, hown, hf⟩ := HP5.out
        have HF := Lib.hid hf
        clear hf RO
        have hbe5 : base ≤ w5.heap.size := HS5.out.lt
        go_wp2_with (first
          | (at_range; refine wpList_range_own _ rfl _ 87 rfl 73 9 keyed73 Tryz.underlying87 _ P j _ rfl hown ?_; intro w0 hrg0 hg0 hs0)
          | go_in)
        go_frame
        have hb0 : Below w5.heap.size w5 w0 := grown_below hg0 (Nat.le_refl _) (fun k hk => by cases hk)
        have HS0 := Lib.hid (HS5.out.below hb0)
        have HB0 : Hid (Below w.heap.size w w0) := (HBEL.out.trans ((HB5.out.mono hwl))).trans (hb0.mono (Nat.le_trans HBEL.out.size HB5.out.size))
        go_loopw [14] (fun t wr => ∃ (left : Lit → Bool) (cnt : Nat) (ss : List NameV), t = .int .i64 (lostL { s with d := d' } ss).length ∧ wr.ranges Tryz.prog 73 PK.R P w5.heap.size j D0 left cnt ∧ PK.Come (getL ts) left ss ∧ StR wr base Sb { s with d := d' } m ∧ Below w.heap.size w wr)
          (fun _ wr => wr.rangeLeft P w5.heap.size)
        case atStart =>
          exact ⟨_, _, [], rfl, hrg0, KV.Come.start HF.out, HS0.out, HB0.out⟩
        case round =>
          obtain ⟨left, cnt, ss, rfl, hrg, hC, hSr, hBr⟩ := hrel
          have HC := Lib.hid hC
          have HSr := Lib.hid hSr
          have HBr := Lib.hid hBr
          have hlost : (lostL { s with d := d' } ss).length ≤ 1 := Nat.le_trans (lost_le hC.1 fun n hn => by
            have := ((hC.2.2 n (hC.2.1 n hn)).1 hn).1
            obtain ⟨t, ht⟩ := Option.isSome_iff_exists.1 this
            obtain ⟨x, _, hx, _⟩ := HALL.out.gets ht
            rw [hx]; rfl) HBAD.out
          obtain ⟨L, hL⟩ : ∃ L, L = (lostL { s with d := d' } ss).length := ⟨_, rfl⟩
          rw [← hL] at hlost ⊢
          have HLL := Lib.hid hL
          clear hC hSr hBr hL
          have hL1 : (L : Int) ≤ 1 := by omega
          go_wp2_with (first
            | (at_next; refine wpList_next_ranges _ rfl _ rfl 73 keyed73 PK.R nameV id (fun key kl hk => by obtain ⟨x, _, hx, _⟩ := keyOf_name_inv hk; exact ⟨x, hx⟩) (fun v _ _ => ⟨v, rfl⟩) P w5.heap.size j _ _ _ rfl hrg ?_ ?_)
            | go_in)
          · intro hc0 hl0
            go_wp2_with fail
            go_ret
            exact ⟨rfl, HBr.out⟩
          · intro x1 x2 cv kl yd yp w6 cnt2 hkey hlk hv hat hrg2 hlt2 hg2 hs2 hen
            obtain ⟨x', hx', ex, rfl⟩ := keyOf_name_inv hkey
            obtain rfl : (x1, x2) = x' := nameV_inj ex
            obtain ⟨t, ht, hyd⟩ := KV.Says.here HF.out hx' hat
            obtain ⟨t', hcv, hy⟩ := rOf_inv hv
            injection hy with hy _
            obtain rfl : t' = t := PK.dinj _ _ (hy.symm.trans hyd)
            have hbw6 : base ≤ wr.heap.size := HSr.out.lt
            have hk6 : Keeps base [] wr w6 := keeps_iter hrg hg2 hbw6 hbe5
            have hs6 : StR w6 base Sb { s with d := d' } m := HSr.out.keeps0 hk6
            have hC2 := HC.out.step hx' hlk (by rw [ht]; rfl)
            have hbw' : Below w.heap.size w w6 := HBr.out.trans (hk6.below.mono hwl)
            obtain ⟨x, hx, hcase⟩ := gets_any (hs6.below ((Below.refl _ _).alloc (Nat.le_refl _) (.cells #[.int .i64 x1, .int .i64 x2] 73))) HALL.out ht
            have hsn := lostL_snoc { s with d := d' } ss (x1, x2) hx
            have hrg3 := hrg2.alloc (.cells #[.int .i64 x1, .int .i64 x2] 73)
            have hb7 : Below w.heap.size w (w6.alloc (.cells #[.int .i64 x1, .int .i64 x2] 73)) := hbw'.alloc hbw'.size _
            have hs7 := hs6.below ((Below.refl _ _).alloc (Nat.le_refl _) (.cells #[.int .i64 x1, .int .i64 x2] 73))
            have HRG2 := Lib.hid hrg3
            have HB7 := Lib.hid hb7
            have HS7 := Lib.hid hs7
            have HX7 := Lib.hid (Blk.new w6 73 #[.int .i64 x1, .int .i64 x2])
            have HSN := Lib.hid hsn
            have HC2 := Lib.hid hC2
            have HLT2 := Lib.hid hlt2
            have HRG := Lib.hid hrg
            replace hcv : cv = .string ⟨t'.toArray⟩ := hcv
            subst hcv
            have hnm : nameV (x1, x2) = .agg #[.int .i64 x1, .int .i64 x2] := rfl
            rw [hnm] at hen
            rw [hnm] at hcase ⊢
            try simp only [id] at hen ⊢
            clear hs2 hkey hv hat hy hyd hk6 hs6 hC2 hbw' hsn hrg3 hb7 hs7 hlt2 hrg hrg2 hg2 hx
            go_upto_region 22 with fail
            generalize w6.alloc (.cells #[.int .i64 x1, .int .i64 x2] 73) = w7 at *
            obtain ⟨g, hg⟩ : ∃ g, g = w6.heap.size := ⟨_, rfl⟩
            rw [← hg] at HX7 ⊢
            have z0 : w7.cell? ⟨g, 0, none⟩ = some (.int .i64 x1) := HX7.out.cell 0
            have z1 : w7.cell? ⟨g, 1, none⟩ = some (.int .i64 x2) := HX7.out.cell 1
            have zl := HX7.out.lt
            clear hg hen
            rcases hcase with ⟨he, hcall⟩ | ⟨he, hcall⟩
            · have HCA := Lib.hid hcall
              rw [he] at HSN
              clear hcall he
              go_wp2_with (go_at_call 30; refine HCA.out.mono ?_; rintro en w8 ⟨A8, c8, rfl, hy8, hb8⟩; (have HB8 := Lib.hid hb8); (have cv8 := strOfAny_run _ _ c8 _ hy8); clear hy8 hb8)
              have hrg9 := ranges_below HRG2.out HB8.out
              go_roundw
              case rel => exact ⟨_, cnt2, ss ++ [(x1, x2)], by rw [HSN.out, ← HLL.out]; simp, hrg9, HC2.out, HS7.out.below HB8.out, HB7.out.trans (HB8.out.mono HB7.out.size)⟩
              case measure => rw [hrg9.left_eq, HRG.out.left_eq]; exact HLT2.out
            · have HCA := Lib.hid hcall
              rw [he] at HSN
              clear hcall he
              go_wp2_with (go_at_call 30; refine HCA.out.mono ?_; rintro en w8 ⟨rfl, hb8⟩; (have HB8 := Lib.hid hb8); clear hb8)
              have hrg9 := ranges_below HRG2.out HB8.out
              go_roundw
              case rel => exact ⟨_, cnt2, ss ++ [(x1, x2)], by rw [HSN.out, ← HLL.out]; simp, hrg9, HC2.out, HS7.out.below HB8.out, HB7.out.trans (HB8.out.mono HB7.out.size)⟩
              case measure => rw [hrg9.left_eq, HRG.out.left_eq]; exact HLT2.out
end Go.Proofs.YtmgmfnimaafkdaaGreatDoor
