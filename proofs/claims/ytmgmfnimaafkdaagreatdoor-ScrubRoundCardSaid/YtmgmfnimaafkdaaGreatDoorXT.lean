/- Whatever bits turned, what is good has just its bytes, and few are bad: the law's own walk. -/
import Derived.Test.YtmgmfnimaafkdaaGreatDoorXS
import Derived.Test.YtmgmfnimaafkdaaGreatDoorXC
import Derived.Test.YtmgmfnimaafkdaaGreatDoorXR
import Derived.Test.YtmgmfnimaafkdaaGreatDoorXB
import Derived.Test.YtmgmfnimaafkdaaGreatDoorXD
import Derived.Deep.RegionHeld3
namespace Go.Proofs.YtmgmfnimaafkdaaGreatDoor
section
open Go.RowKit Go.Maps
set_option maxRecDepth 100000

theorem gets_good {w : World} {base Sb lo E : Nat} {s : StV} {m : StM} {ts : List (NameV × List UInt8)} (h : StR w base Sb s m) (ha : StAll s lo E ts) {n : NameV} (hn : n ∈ goodL s) :
  ∃ t, getL ts n = some t ∧ Calls Tryz.prog 30 #[.pointer (some ⟨Sb, 0, none⟩), nameV n] w fun e w' => ∃ A c, e = .returned (.tuple #[.slice A t.length c, .int .i64 0]) ∧ Byt w' A t ∧ Below w.heap.size w w' := by
 obtain ⟨hn1, hn2⟩ := List.mem_filter.1 hn
 obtain ⟨y, hy, rfl⟩ := List.mem_map.1 hn1
 obtain ⟨q, hq, hye, hS⟩ := ha.side.mem _ hy
 have hs : (getL ts y.1).isSome = true := getL_some.2 (List.mem_map.2 ⟨q, hq, hye.symm⟩)
 obtain ⟨t, ht⟩ := Option.isSome_iff_exists.1 hs
 refine ⟨t, ht, ?_⟩
 obtain ⟨x, a, h1, h2, h3, h4, h5, h6, h7⟩ := ha.gets ht
 have hc := getM_any h y.1 ⟨wfI_right h6, wfI_right h7⟩ x h1 a h4 h2 h3
 unfold goodN at hn2
 rw [h1] at hn2
 simp only [Option.getD_some, decide_eq_true_eq] at hn2
 rcases h5 with e | e
 ·refine hc.mono fun en w' ⟨g1, g2⟩ => ?_
  rw [e] at g1
  rcases g1 with ⟨_, A, c, g3, g4⟩ | ⟨g3, _⟩
  ·exact ⟨A, c, g3, Byt.of_own g4, g2⟩
  ·exact absurd rfl g3
 ·rw [e] at hn2
  exact absurd hn2 (by decide)
set_option maxHeartbeats 8000000 in
theorem as_any {w : World} {base Sb lo E : Nat} {s : StV} {m : StM} {ts puts : List (NameV × List UInt8)} (h : StR w base Sb s m) (ha : StAll s lo E ts) (l : List NameV) (hl : ∀ n ∈ l, n ∈ goodL s) (hlast : ∀ n t, getL ts n = some t → lastOf puts n = t)
  (A1 A2 : Option Addr) (c1 c2 : Nat) (h1 : Sl w 73 2 A1 l.length (nameRows l)) (h2 : Sl w 188 3 A2 puts.length (putRows puts)) (hp : puts.length ≤ 1000) (hll : l.length ≤ 100000) :
  Calls Tryz.prog 43 #[.pointer (some ⟨Sb, 0, none⟩), .slice A1 l.length c1, .slice A2 puts.length c2] w fun e w' => e = .returned (.bool true) ∧ Below w.heap.size w w' := by
 obtain ⟨_, r1⟩ := row_of (f := nameRow) (k := 2) (fun _ => rfl) (by decide) (show Rd w w.heap.size 2 A1 l.length (l.flatMap nameRow) from sl_rd h1)
 obtain ⟨_, r2⟩ := row_of (f := putRow) (k := 3) (fun _ => rfl) (by decide) (show Rd w w.heap.size 3 A2 puts.length (puts.flatMap putRow) from sl_rd h2)
 have R1 := hZ9 r1
 have R2 := hZ9 r2
 have HB0 : Hid (Below w.heap.size w w) := bR0
 have GG := hZ9 (show ∀ (wy : World) (n : NameV), Below w.heap.size w wy → n ∈ l → Calls Tryz.prog 30 #[.pointer (some ⟨Sb, 0, none⟩), nameV n] wy fun e w' => ∃ A c, e = .returned (.tuple #[.slice A (lastOf puts n).length c, .int .i64 0]) ∧ Byt w' A (lastOf puts n) ∧ Below wy.heap.size wy w' from fun wy n hy hn => by
  obtain ⟨t, ht, hc⟩ := gets_good (h.below hy) ha (hl n hn)
  rw [hlast n t ht]
  exact hc)
 clear h ha hl hlast h1 h2 r1 r2
 go_enter Tryz.func43, Tryz.ntmps43
 go_wp2_with fail
 go_loopw [16] (fun i wr => ∃ j : Nat, j ≤ l.length ∧ i = .int .i64 j ∧ Below w.heap.size w wr) (fun i _ => l.length - (intOf i).toNat)
 case atStart => exact ⟨0, Nat.zero_le _, rfl, HB0.out⟩
 case round =>
  obtain ⟨j, hj, rfl, hb⟩ := hrel
  have HB := hZ9 hb
  clear hb HB0
  by_cases hlt : j < l.length
  ·obtain ⟨b, o, rfl, hbl, hra⟩ := R1.out j hlt
   have hmem := List.getElem_mem hlt
   generalize l[j] = nm at *
   obtain ⟨n1, n2⟩ := nm
   have HRA : Hid (wr.rangeAt b (o + j * 2) [.int .i64 n1, .int .i64 n2]) := fun i v hv => (HB.out.cell (p := ⟨b, o + j * 2 + i, none⟩) hbl).trans (hra i v hv)
   have HIL : Hid ((Tryz.prog.info? 73).map (·.size) = some ([.int .i64 n1, .int .i64 n2] : List Value).length) := sz73
   have HI : Hid ((Tryz.prog.info? 73).map (·.size) = some (#[.int .i64 n1, .int .i64 n2] : Array Value).size) := sz73
   have HI8 : Hid ((Tryz.prog.info? 188).map (·.size) = some 3) := size188
   have i1 : (0 : Int) ≤ (j : Int) := by omega
   have i2 : (j : Int) < (l.length : Int) := by omega
   clear hra
   go_upto_region 4 with first
    | (refine wpList_load_mid rfl 73 _ rfl b (o + j * 2) rfl [.int .i64 n1, .int .i64 n2] _ HRA.out Tryz.underlying73 rfl HIL.out ?_)
    | (refine wpList_store_row rfl 73 _ _ rfl wr.heap.size #[.int .i64 n1, .int .i64 n2] rfl rfl 73 _ (Blk.new wr 73 _) HI.out rfl (by simp [Value.oneCell']) ?_; rw [World.setRow_alloc_new])
   try go_frame
   have HBX := hZ9 (HB.out.alloc HB.out.size (.cells #[.int .i64 n1, .int .i64 n2] 73))
   have HKX := hZ9 (Blk.new wr 73 #[.int .i64 n1, .int .i64 n2])
   generalize wr.alloc (.cells #[.int .i64 n1, .int .i64 n2] 73) = wx at *
   generalize wr.heap.size = g at *
   clear HRA HIL HI
   have k0 : wx.cell? ⟨g, 0, none⟩ = some (.int .i64 n1) := HKX.out.cell 0
   have k1 : wx.cell? ⟨g, 1, none⟩ = some (.int .i64 n2) := HKX.out.cell 1
   have gl := HKX.out.lt
   have GT := hZ9 (GG.out wx (n1, n2) HBX.out hmem)
   go_upto_region 6 with (go_at_call 30; refine GT.out.mono ?_; rintro en w5 ⟨A5, c5, rfl, hy5, hb5⟩; (have HY5 := hZ9 hy5); (have HB5 := hZ9 hb5); clear hy5 hb5)
   have HBW := hZ9 (HBX.out.trans (HB5.out.mono HBX.out.size))
   have HK5 := hZ9 (HKX.out.below HB5.out gl)
   clear HB HBX HB5 HKX k0 k1 gl GT hmem
   obtain ⟨L, hL⟩ : ∃ L, L = lastOf puts (n1, n2) := ⟨_, rfl⟩
   rw [← hL] at HY5 ⊢
   have HL := hZ9 hL
   have HBQ : Hid (Below w5.heap.size w5 w5) := bR0
   clear hL
   go_wp2_with fail
   go_loopw [11, 28] (fun t i wq => ∃ q : Nat, q ≤ puts.length ∧ i = .int .i64 q ∧ t = .string ⟨(lastOf (puts.take q) (n1, n2)).toArray⟩ ∧ Below w5.heap.size w5 wq) (fun _ i _ => puts.length - (intOf i).toNat)
   case atStart => exact ⟨0, Nat.zero_le _, rfl, rfl, HBQ.out⟩
   case round =>
    obtain ⟨q, hq, rfl, rfl, hbq⟩ := hrel
    have HQ := hZ9 hbq
    clear hbq HBQ
    by_cases hlt2 : q < puts.length
    ·obtain ⟨b2, o2, rfl, hbl2, hra⟩ := R2.out q hlt2
     have htk : puts.take (q + 1) = puts.take q ++ [puts[q]] := List.take_succ_eq_append_getElem hlt2
     have hls := congrArg (fun z => lastOf z (n1, n2)) htk
     try simp only at hls
     rw [lastOf_snoc] at hls
     have HLS := hZ9 hls
     clear hls htk
     generalize puts[q] = p at *
     obtain ⟨⟨p1, p2⟩, pb⟩ := p
     have HRA : Hid (wr.rangeAt b2 (o2 + q * 3) [.int .i64 p1, .int .i64 p2, .string ⟨pb.toArray⟩]) := fun i v hv => (HQ.out.cell (p := ⟨b2, o2 + q * 3 + i, none⟩) (Nat.lt_of_lt_of_le hbl2 HBW.out.size)).trans ((HBW.out.cell (p := ⟨b2, o2 + q * 3 + i, none⟩) hbl2).trans (hra i v hv))
     have HIL : Hid ((Tryz.prog.info? 188).map (·.size) = some ([.int .i64 p1, .int .i64 p2, .string ⟨pb.toArray⟩] : List Value).length) := size188
     have HI : Hid ((Tryz.prog.info? 188).map (·.size) = some (#[.int .i64 p1, .int .i64 p2, .string ⟨pb.toArray⟩] : Array Value).size) := size188
     have j1 : (0 : Int) ≤ (q : Int) := by omega
     have j2 : (q : Int) < (puts.length : Int) := by omega
     clear hra
     go_upto_region 9 with first
      | (refine wpList_load_mid rfl 188 _ rfl b2 (o2 + q * 3) rfl [.int .i64 p1, .int .i64 p2, .string ⟨pb.toArray⟩] _ HRA.out Tryz.underlying188 rfl HIL.out ?_)
      | (refine wpList_store_row rfl 188 _ _ rfl wr.heap.size #[.int .i64 p1, .int .i64 p2, .string ⟨pb.toArray⟩] rfl rfl 188 _ (Blk.new wr 188 _) HI.out rfl (by simp [Value.oneCell']) ?_; rw [World.setRow_alloc_new])
     try go_frame
     have HQX := hZ9 (HQ.out.alloc HQ.out.size (.cells #[.int .i64 p1, .int .i64 p2, .string ⟨pb.toArray⟩] 188))
     have hpx := Blk.new wr 188 #[.int .i64 p1, .int .i64 p2, .string ⟨pb.toArray⟩]
     have hkx := HK5.out.below HQX.out HK5.out.lt
     generalize wr.alloc (.cells #[.int .i64 p1, .int .i64 p2, .string ⟨pb.toArray⟩] 188) = wz at *
     generalize wr.heap.size = gz at *
     have e0 : wz.cell? ⟨gz, 0, none⟩ = some (.int .i64 p1) := hpx.cell 0
     have e1 : wz.cell? ⟨gz, 1, none⟩ = some (.int .i64 p2) := hpx.cell 1
     have e2 : wz.cell? ⟨gz, 2, none⟩ = some (.string ⟨pb.toArray⟩) := hpx.cell 2
     have f0 : wz.cell? ⟨g, 0, none⟩ = some (.int .i64 n1) := hkx.cell 0
     have f1 : wz.cell? ⟨g, 1, none⟩ = some (.int .i64 n2) := hkx.cell 1
     clear HRA HIL HI hpx hkx
     by_cases hn1 : p1 = n1
     ·by_cases hn2 : p2 = n2
      ·subst hn1; subst hn2
       rw [if_pos rfl] at HLS
       go_wp2_with fail
       go_roundw
       case rel => exact ⟨q + 1, by omega, by go_num, by rw [HLS.out], HQX.out⟩
       case measure => simp [intOf]; omega
      ·rw [if_neg (by intro e; injection e with _ e; exact hn2 e)] at HLS
       go_wp2_with fail
       go_roundw
       case rel => exact ⟨q + 1, by omega, by go_num, by rw [HLS.out], HQX.out⟩
       case measure => simp [intOf]; omega
     ·rw [if_neg (by intro e; injection e with e _; exact hn1 e)] at HLS
      go_wp2_with fail
      go_roundw
      case rel => exact ⟨q + 1, by omega, by go_num, by rw [HLS.out], HQX.out⟩
      case measure => simp [intOf]; omega
    ·obtain rfl : q = puts.length := by omega
     rw [List.take_length, ← HL.out]
     have cv := strOfAny_run wr A5 c5 L (HY5.out.below HQ.out)
     go_wp2_with fail
     go_roundw
     case rel => exact ⟨j + 1, by omega, by go_num, HBW.out.trans (HQ.out.mono HBW.out.size)⟩
     case measure => simp [intOf]; omega
  ·obtain rfl : j = l.length := by omega
   go_wp2_with fail
   go_ret
   exact ⟨rfl, HB.out⟩
end
section
set_option maxRecDepth 100000

theorem badNs_lost (s : StV) : badNs s = lostL s (namesL s) := by
 unfold badNs lostL
 congr 1
 funext n
 unfold goodN
 simp
theorem filter_two {α : Type} (p : α → Bool) : ∀ l : List α, (l.filter p).length + (l.filter fun x => !p x).length = l.length
 | [] => rfl
 | a :: l => by
  have := filter_two p l
  cases hp : p a <;> simp [hp] <;> omega
theorem good_bad (s : StV) : (goodL s).length + (badNs s).length = (namesL s).length := filter_two _ _
theorem MadeI.bad {s : StV} {K T : Nat} {ts puts : List (NameV × List UInt8)} (h : MadeI s K ts puts T) : (badNs s).length ≤ T := by
 rw [badNs_lost]
 exact Nat.le_trans (lost_le h.all.srtS.nodup (fun n hn => getL_some.2 hn)) (Nat.le_trans (bad_le h.all) h.trn)
def lostStep (nts ls : List Int) (n : NameV) : List Int := if n.1 ∈ nts ∨ ls.getLast? = some n.1 then ls else ls ++ [n.1]
def lostF (nts : List Int) (l : List NameV) : List Int := l.foldl (lostStep nts) []
theorem lostF_snoc (nts : List Int) (l : List NameV) (n : NameV) : lostF nts (l ++ [n]) = lostStep nts (lostF nts l) n := by unfold lostF; rw [List.foldl_append]; rfl
theorem lostF_eq (nts : List Int) : ∀ (k : Nat) (l : List NameV), l.length = k → (l.Pairwise fun x y => ltN x y = true) → lostF nts l = (versL l).filter fun v => !decide (v ∈ nts) := by
 intro k
 induction k with
 | zero =>
  intro l hk _
  obtain rfl := List.eq_nil_of_length_eq_zero hk
  rfl
 | succ k ih =>
  intro l hk hs
  have hne : l ≠ [] := by intro e; rw [e] at hk; cases hk
  obtain ⟨q, n, rfl⟩ : ∃ q n, l = q ++ [n] := ⟨l.dropLast, l.getLast hne, (List.dropLast_concat_getLast hne).symm⟩
  have hs' := (versL_ok _ hs).1
  rw [List.pairwise_append] at hs
  obtain ⟨h1, _, _⟩ := hs
  rw [versL_snoc] at hs' ⊢
  rw [lostF_snoc, ih q (by simpa using hk) h1]
  unfold verStep at hs' ⊢
  unfold lostStep
  by_cases e : (versL q).getLast? = some n.1
  ·rw [if_pos e]
   by_cases hm : n.1 ∈ nts
   ·rw [if_pos (.inl hm)]
   ·refine if_pos (.inr ?_)
    obtain ⟨r, hr⟩ := List.getLast?_eq_some_iff.1 e
    rw [hr, List.filter_append]
    simp [hm]
  ·rw [if_neg e] at hs' ⊢
   rw [List.filter_append]
   by_cases hm : n.1 ∈ nts
   ·rw [if_pos (.inl hm)]
    simp [hm]
   ·rw [if_neg]
    ·simp [hm]
    ·rintro (h | h)
     ·exact hm h
     ·have h2 := (List.mem_filter.1 (List.mem_of_getLast? h)).1
      have := (List.pairwise_append.1 hs').2.2 _ h2 n.1 (by simp)
      omega
theorem lost_is (s : StV) (h : SrtS s.slices) : lostF (notesL s) (namesL s) = lostVs s := lostF_eq _ _ _ rfl (List.pairwise_map.2 h)
theorem vers_any (s : StV) (h : SrtS s.slices) (v : Int) : (namesL s).any (fun n => decide (n.1 = v)) = decide (v ∈ versL (namesL s)) := by
 have h1 := (versL_ok (namesL s) (List.pairwise_map.2 h)).2.2 v
 by_cases e : v ∈ versL (namesL s)
 ·rw [decide_eq_true e]
  obtain ⟨n, hn, hv⟩ := h1.1 e
  exact List.any_eq_true.2 ⟨n, hn, decide_eq_true hv⟩
 ·rw [decide_eq_false e]
  rw [List.any_eq_false]
  intro n hn
  simp only [decide_eq_true_eq]
  exact fun hv => e (h1.2 ⟨n, hn, hv⟩)
end
section
open Go.RowKit Go.Maps
set_option maxRecDepth 100000

theorem tabs_above {w wy : World} (h : TabsB w.heap.size w) (hy : Below w.heap.size w wy) : TabsB wy.heap.size wy := fun w' hw => h.below hy w' (hw.mono hy.size)
theorem awake_at {w : World} (hT : TabsB w.heap.size w) (hb2 : 2 < w.heap.size) : ∀ wy : World, Below w.heap.size w wy → Calls Tryz.prog 41 #[] wy fun e w' => e = .returned (.bool true) ∧ Below w.heap.size w w' ∧ Below wy.heap.size wy w' := fun wy hy =>
 (awake_any (tabs_above hT hy) (by have := hy.size; omega)).mono fun e w' ⟨q1, q2⟩ => ⟨q1, hy.trans (q2.mono hy.size), q2⟩
theorem MadeL.look {w wr : World} {base Sb B K T : Nat} {m : StM} {s : StV} {ts puts : List (NameV × List UInt8)} {out : Value} (h : MadeL w wr base Sb B m K s ts puts T out) (hK : K ≤ 20) :
  (∀ x ∈ s.slices, NumOK x ∧ x.2.len ≤ 1048576) ∧ s.slices.length ≤ 20 ∧ s.notes.length ≤ 20 ∧ puts.length ≤ 20 := by
 have h1 := h.inv.few
 have h2 := h.inv.nt
 have h3 := h.inv.pl
 refine ⟨(h.inv.ok (by omega)).l.num, ?_, by omega, by omega⟩
 rw [h.inv.all.side.len]
 omega
theorem sizeR96 : (Tryz.prog.info? 96).map (·.size) = some 4 := by kernel_rfl
set_option maxHeartbeats 16000000 in
theorem scrubFinds_any {w : World} (hT : TabsB w.heap.size w) (hb2 : 2 < w.heap.size) (A : Option Addr) (n c : Nat) (l : List OpW) (hrd : Rd w w.heap.size 5 A n (l.flatMap OpW.cells)) (hok : ∀ o ∈ l, OpOK w o) :
  Calls Tryz.prog 9 #[.slice A n c] w fun e w' => e = .returned (.bool true) ∧ Below w.heap.size w w' := by
 have AW := hZ9 (awake_at hT hb2)
 have HMD := hZ9 (made_any hT hb2 A n c l hrd hok)
 clear hT hrd hok
 go_enter Tryz.func9, Tryz.ntmps9
 go_wp2_with (go_at_call 40; refine HMD.out.mono ?_; rintro en w1 ⟨hb, rfl | ⟨base, Sb, B, m, K, s, ts, puts, T, A', c', rfl, hK, hM⟩⟩ <;> refine Hid.out ?_)
 ·refine hZ9 ?_
  have HB1 := hZ9 hb
  clear hb HMD
  go_wp2_with (go_at_call 41; refine (AW.out _ HB1.out).mono ?_; rintro en w2 ⟨rfl, hb, _⟩; (have HB2 := hZ9 hb); clear hb)
  go_ret
  exact ⟨rfl, HB2.out⟩
 ·refine hZ9 ?_
  have HB1 := hZ9 hb
  have HM := hZ9 hM
  obtain ⟨hnum, hl1, hl2, hl3⟩ := hM.look hK
  have HLK := hZ9 (look_any hM.str hM.inv.all hnum (by omega) (by omega))
  have hgb := good_bad s
  have hbad := hM.inv.bad
  have hnl : (namesL s).length = s.slices.length := by simp [namesL]
  have HNM := hZ9 (show ∀ wy, Below w1.heap.size w1 wy → Calls Tryz.prog 35 #[.pointer (some ⟨Sb, 0, none⟩)] wy fun e w' => (∃ A c, e = .returned (.slice A (namesL s).length c)) ∧ Below wy.heap.size wy w' from fun wy hy =>
   (names_any (HM.out.str.below hy) HM.out.inv.all.srtS hnum (by omega)).mono fun e w' ⟨A, c, h1, h2, h3⟩ => ⟨⟨A, c, by rw [hnl]; exact h1⟩, h3⟩)
  have HAS := hZ9 (show ∀ (wy : World) (A1 : Option Addr) (c1 : Nat), Below w1.heap.size w1 wy → Sl wy 73 2 A1 (goodL s).length (nameRows (goodL s)) → Calls Tryz.prog 43 #[.pointer (some ⟨Sb, 0, none⟩), .slice A1 (goodL s).length c1, .slice A' puts.length c'] wy fun e w' => e = .returned (.bool true) ∧ Below wy.heap.size wy w' from fun wy A1 c1 hy h1 =>
   as_any (HM.out.str.below hy) HM.out.inv.all (goodL s) (fun n hn => hn) HM.out.inv.last A1 A' c1 c' h1 ((Sl.of_own HM.out.row).below hy) (by omega) (by omega))
  have hg20 : (goodL s).length ≤ 20 := by omega
  have hb20 : (badNs s).length ≤ 20 := by omega
  have HI : Hid ((Tryz.prog.info? 96).map (·.size) = some 4) := sizeR96
  obtain ⟨gl, hgl⟩ : ∃ gl, gl = (goodL s).length := ⟨_, rfl⟩
  obtain ⟨bl, hbl⟩ : ∃ bl, bl = (badNs s).length := ⟨_, rfl⟩
  obtain ⟨nl, hnl2⟩ : ∃ nl, nl = (namesL s).length := ⟨_, rfl⟩
  rw [← hnl2] at HNM hgb
  rw [← hgl, ← hbl] at HLK hgb
  have a1 : (gl : Int) + (bl : Int) = (nl : Int) := by omega
  have a3 : IntKind.i64.wrap (nl : Int) = (nl : Int) := by rw [IntKind.wrap_i64]; omega
  rw [← hgl] at HAS hg20
  rw [← hbl] at hbad hb20
  have hbT : (bl : Int) ≤ (T : Int) := by omega
  clear hb hM hnum hl1 hl2 hl3 hnl hgb hgl hbl HMD hK HM hnl2
  go_upto_region 5 with (first
   | (go_at_call 42; refine HLK.out.mono ?_; rintro en w2 ⟨A1, c1, A2, c2, A3, c3, A4, c4, rfl, hs1, hs2, _, _, hb⟩; (have HS1 := hZ9 hs1); (have HB2 := hZ9 hb); (have HX2 := hZ9 (Blk.new w2 96 #[.slice none 0 0, .slice none 0 0, .slice none 0 0, .slice none 0 0])); clear hs1 hs2 hb)
   | (refine wpList_store_row rfl 96 _ _ rfl w2.heap.size #[.slice A1 gl c1, .slice A2 bl c2, .slice A3 (lostVs s).length c3, .slice A4 (bareVs s).length c4] rfl rfl 96 _ HX2.out HI.out rfl (by simp [Value.oneCell']) ?_))
  rw [World.setRow_alloc_new]
  have HBA : Hid (Below w2.heap.size w2 (w2.alloc (.cells #[.slice A1 gl c1, .slice A2 bl c2, .slice A3 (lostVs s).length c3, .slice A4 (bareVs s).length c4] 96))) := bR0.alloc nR0 _
  have HB3 := hZ9 (HB2.out.trans (HBA.out.mono HB2.out.size))
  have HXX := hZ9 (Blk.new w2 96 #[.slice A1 gl c1, .slice A2 bl c2, .slice A3 (lostVs s).length c3, .slice A4 (bareVs s).length c4])
  have HS3 := hZ9 (HS1.out.below HBA.out)
  generalize w2.alloc (.cells #[.slice A1 gl c1, .slice A2 bl c2, .slice A3 (lostVs s).length c3, .slice A4 (bareVs s).length c4] 96) = w3 at *
  generalize w2.heap.size = G at *
  clear HX2 HB2 HS1 HBA HLK HI
  have SK := hZ9 (show ∀ wy, Below w3.heap.size w3 wy → wy.cell? ⟨G, 0, none⟩ = some (.slice A1 gl c1) ∧ wy.cell? ⟨G, 1, none⟩ = some (.slice A2 bl c2) from fun wy hy => by
   have h1 := HXX.out.below hy HXX.out.lt
   exact ⟨h1.cell 0, h1.cell 1⟩)
  have HBL := hZ9 ((Below.refl w3.heap.size w3).drew)
  have hw3 := HB3.out.size
  have hw1 := HB1.out.size
  go_region_held3 (fun wy => wy.cell? ⟨G, 0, none⟩ = some (.slice A1 gl c1) ∧ wy.cell? ⟨G, 1, none⟩ = some (.slice A2 bl c2))
   (first | exact SK.out _ HBL.out)
   (first
    | (go_at_call 43; refine (HAS.out _ _ _ (HB3.out.trans (HBL.out.mono hw3)) (HS3.out.below HBL.out)).mono ?_; rintro en w4 ⟨rfl, hb⟩; (have HBL := hZ9 (HBL.out.trans (hb.mono HBL.out.size))); clear hb)
    | (go_at_call 35; refine (HNM.out _ (HB3.out.trans (HBL.out.mono hw3))).mono ?_; rintro en w4 ⟨⟨D1, d1, rfl⟩, hb⟩; (have HBL := hZ9 (HBL.out.trans (hb.mono HBL.out.size))); clear hb)
    | (go_at_call 41; refine (AW.out _ (HB1.out.trans ((HB3.out.trans (HBL.out.mono hw3)).mono hw1))).mono ?_; rintro en w4 ⟨rfl, hz, hb⟩; (have HBZ := hZ9 hz); (have HBL := hZ9 (HBL.out.trans (hb.mono HBL.out.size))); clear hz hb))
  all_goals
   go_wp2_with fail
   go_ret
   exact ⟨by simp, HBZ.out⟩
end
end Go.Proofs.YtmgmfnimaafkdaaGreatDoor
