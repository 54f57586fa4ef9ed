/- A record written into sectors. -/
import Derived.Test.YtmgmfnimaafkdaaGreatDoorVF
namespace Go.Proofs.YtmgmfnimaafkdaaGreatDoor
open Go.RowKit Go.Maps
set_option maxRecDepth 100000

theorem zeros_head {n : Nat} (h : 0 < n) : (zerosA n)[0]? = some (.int .u8 0) := by
 obtain ⟨m, rfl⟩ : ∃ m, n = m + 1 := ⟨n - 1, by omega⟩
 simp [zerosA, List.replicate_succ, u8v]
theorem Steps.keeps {base : Nat} {ts : List TypeId} {w w' : World} (h : Steps w) (k : Keeps base ts w w') (hb : 2 < base) : Steps w' := fun i hi => by
 rw [k.below.cell (p := ⟨2, i, none⟩) hb]; exact h i hi
theorem X1_set (size kind : Nat) (hk : kind < 256) : (zerosA size).setIfInBounds 0 (.int .u8 kind) = ((X1 size kind).map u8v).toArray := by
 have e : Value.int .u8 (kind : Int) = u8v (UInt8.ofNat kind) := by
  unfold u8v; congr 1; simp; omega
 unfold zerosA X1
 rw [e, List.setIfInBounds_toArray, List.map_set]
theorem drop_min (l : List UInt8) (k : Nat) : (l.drop (min l.length k)).take (l.length - min l.length k) = l.drop k := by
 by_cases h : l.length ≤ k
 ·rw [Nat.min_eq_left h, Nat.sub_self, List.take_zero, List.drop_eq_nil_of_le h]
 ·rw [Nat.min_eq_right (by omega), List.take_of_length_le (by rw [List.length_drop]; omega)]
theorem Steps.drew {w : World} (h : Steps w) : Steps w.drew := h
theorem writeD_same {d : DskV} {n : Nat} {b : List UInt8} {e : Nat} {d' : DskV} (h : writeD d n b = (e, d')) : d'.size = d.size ∧ d'.lasts.length = d.lasts.length ∧ d'.waits.length ≤ d.waits.length + 1 := by
 unfold writeD at h
 split at h
 ·cases h; exact ⟨rfl, rfl, by omega⟩
 ·split at h
  ·cases h; exact ⟨rfl, rfl, by omega⟩
  ·cases h; exact ⟨rfl, rfl, by simp⟩
def PutOut (w w' : World) (base B : Nat) (r : Nat × Nat × DskV) (e : Ending) : Prop := e = .returned (.tuple #[.int .i64 r.1, .int .i64 r.2.1]) ∧ Dsk w' base B r.2.2 ∧ Keeps base [121, 165, 167] w w'
structure PutR (w wr : World) (base B : Nat) (d : DskV) (a kind mark : Nat) (b : List UInt8) (j : Nat) (bs : Value) (dj : DskV) : Prop where
 dsk : Dsk wr base B dj
 keep : Keeps base [121, 165, 167] w wr
 same : dj.size = d.size ∧ dj.lasts.length = d.lasts.length ∧ dj.waits.length ≤ d.waits.length + j
 go : putGo kind mark b d.size a (needP d.size b.length) 0 d = putGo kind mark b d.size a (needP d.size b.length - j) j dj
 slc : ∃ A c, bs = .slice A (b.drop (j * (d.size - 18))).length c ∧ (b.drop (j * (d.size - 18))).length ≤ c ∧ ByL base wr A (b.drop (j * (d.size - 18)))
theorem putGo_go1 {kind mark size a k i : Nat} {b : List UInt8} {d d' : DskV} (hq : writeD d (a + i) (secP size kind mark (b.drop (i * (size - 18))) (i == 0)) = (0, d')) : putGo kind mark b size a (k + 1) i d = putGo kind mark b size a k (i + 1) d' := by
 conv => lhs; unfold putGo
 rw [hq]; rfl
theorem putGo_go0 {kind mark size a k i e : Nat} {b : List UInt8} {d d' : DskV} (he : e ≠ 0) (hq : writeD d (a + i) (secP size kind mark (b.drop (i * (size - 18))) (i == 0)) = (e, d')) : putGo kind mark b size a (k + 1) i d = (e, d') := by
 conv => lhs; unfold putGo
 rw [hq]
 cases e with
 | zero => exact absurd rfl he
 | succ n => rfl
theorem PutR.next {w wr w11 w12 : World} {base B a kind mark j : Nat} {d dj qd : DskV} {b : List UInt8} {bs bs' : Value} (h : PutR w wr base B d a kind mark b j bs dj) (hj : j < needP d.size b.length)
  (hq : writeD dj (a + j) (secP d.size kind mark (b.drop (j * (d.size - 18))) (j == 0)) = (0, qd)) (hD : Dsk w12 base B qd) (hb : Below wr.heap.size wr w11) (hk : Keeps base [121, 165, 167] w11 w12) (hbw : base ≤ wr.heap.size)
  (hs : ∃ A c, bs' = .slice A (b.drop ((j + 1) * (d.size - 18))).length c ∧ (b.drop ((j + 1) * (d.size - 18))).length ≤ c ∧ ByL base w12 A (b.drop ((j + 1) * (d.size - 18)))) : PutR w w12 base B d a kind mark b (j + 1) bs' qd := by
 obtain ⟨s1, s2, s3⟩ := writeD_same hq
 obtain ⟨t1, t2, t3⟩ := h.same
 refine ⟨hD, (h.keep.trans (Keeps.of_below hb hbw)).trans hk, ⟨s1.trans t1, s2.trans t2, by omega⟩, ?_, hs⟩
 rw [h.go, show needP d.size b.length - j = (needP d.size b.length - (j + 1)) + 1 by omega, putGo_go1 hq]
section
attribute [local go_sem ↓] run_make43
set_option maxHeartbeats 2000000 in
theorem recPut_any {w : World} {base B : Nat} {d : DskV} (h : Dsk w base B d) (hs : Steps w) (hb2 : 2 < base) (a kind mark : Nat) (ha : a < 2 ^ 62) (hkd : kind < 256) (hmk : mark < 2 ^ 63) (b : List UInt8) (hbl : b.length < 2 ^ 62) (A : Option Addr) (c : Nat) (hb : ByL base w A b) (hbc : b.length ≤ c)
  (hw : d.waits.length + 65536 < 2 ^ 40) :
  Calls Tryz.prog 107 #[.pointer (some ⟨B, 0, none⟩), .int .i64 a, .int .u8 kind, .int .i64 mark, .slice A b.length c] w fun e w' => PutOut w w' base B (putP d a kind mark b) e := by
 have HD := hZ9 h
 have hsz : d.size ≤ 4096 := by obtain ⟨m, h⟩ := h; exact h.sz.2
 have hlen : d.lasts.length ≤ 65536 := by obtain ⟨m, h⟩ := h; exact h.n1.2
 have hbase : base ≤ w.heap.size := by obtain ⟨m, h⟩ := h; have := h.low.1; have := h.blk.lt; omega
 obtain ⟨r, hr⟩ : ∃ r, r = putP d a kind mark b := ⟨_, rfl⟩
 rw [← hr]
 by_cases h1 : d.lasts.length ≤ a ∨ kind = 0
 ·have hr' : r = (0, 1, d) := by rw [hr]; unfold putP; rw [if_pos h1]
  subst hr'
  clear h hr
  by_cases ha1 : d.lasts.length ≤ a
  ·clear h1
   go_enter Tryz.func107, Tryz.ntmps107
   go_wp2_with (go_at_call 55; refine (diskSize_any HD.out).mono ?_; rintro e w1 ⟨rfl, hb1⟩)
   all_goals (go_ret2; exact ⟨rfl, HD.out.below hb1, Keeps.of_below hb1 hbase⟩)
  ·obtain rfl : kind = 0 := by omega
   clear h1
   go_enter Tryz.func107, Tryz.ntmps107
   go_wp2_with (go_at_call 55; refine (diskSize_any HD.out).mono ?_; rintro e w1 ⟨rfl, hb1⟩)
   all_goals (go_ret2; exact ⟨rfl, HD.out.below hb1, Keeps.of_below hb1 hbase⟩)
 ·by_cases h2 : fitsB d a b.length = true
  ·have hf := h2
   unfold fitsB at hf
   rw [decide_eq_true_iff] at hf
   obtain ⟨ha1, hn1, hn2⟩ := hf
   have hk0 : ((kind : Int) == 0) = false := by simp; omega
   have hr' : r = match putGo kind mark b d.size a (needP d.size b.length) 0 d with | (0, d') => (needP d.size b.length, 0, d') | (e, d') => (0, e, d') := by
    rw [hr]; unfold putP; rw [if_neg h1, if_neg (by omega)]
    rcases putGo kind mark b d.size a (needP d.size b.length) 0 d with ⟨_ | e, d'⟩ <;> rfl
   have HR := hZ9 hr'
   obtain ⟨nd, hnd⟩ : ∃ nd, nd = needP d.size b.length := ⟨_, rfl⟩
   rw [← hnd] at hn1 hn2
   have HND := hZ9 hnd
   have HB := hZ9 hb
   clear h hr h1 hr' hb
   go_enter Tryz.func107, Tryz.ntmps107
   go_wp2_with (first
    | (go_at_call 55; refine (diskSize_any HD.out).mono ?_; rintro e w1 ⟨rfl, hb1⟩)
    | (go_at_call 160; refine (pageFits_any (HD.out.below hb1) a b.length ha hbl).mono ?_; rintro e w2 ⟨rfl, hb2'⟩; rw [h2])
    | (go_at_call 56; refine (pageNeed_any d.size b.length (by omega) hbl _).mono ?_; rintro e w3 ⟨rfl, rfl⟩; rw [← HND.out]))
   go_loopw [4, 48] (fun bs i wr => ∃ j dj, j ≤ nd ∧ i = .int .i64 (j : Nat) ∧ PutR w wr base B d a kind mark b j bs dj) (fun _ i _ => nd - (intOf i).toNat)
   case atStart => exact ⟨0, d, Nat.zero_le _, rfl, HD.out.below (hb1.trans (hb2'.mono hb1.size)), Keeps.of_below (hb1.trans (hb2'.mono hb1.size)) hbase, ⟨rfl, rfl, nR0⟩, by rw [Nat.sub_zero], A, c, by simp, by simpa using hbc, by simpa using HB.out.below (hb1.trans (hb2'.mono hb1.size))⟩
   case round =>
    obtain ⟨j, dj, hj, rfl, hp⟩ := hrel
    by_cases hjn : j < nd
    ·obtain ⟨A1, c1, rfl, hc1, hbyt⟩ := hp.slc
     have HP := hZ9 hp
     have HBY := hZ9 hbyt
     have hsz0 : (0 : Int) ≤ d.size := by omega
     have hsz1 : (d.size : Int) ≤ 65536 := by omega
     have hsz19 : 19 ≤ d.size := by
      apply Decidable.byContradiction
      intro g
      have : needP d.size b.length = 0 := by unfold needP; rw [if_pos (by omega)]
      omega
     have hX0 : Blk (wr.alloc (.cells (zerosA d.size) 5)) wr.heap.size 5 (zerosA d.size) := Blk.new_eq0 rfl
     have hz0 : (wr.alloc (.cells (zerosA d.size) 5)).cell? ⟨wr.heap.size, 0, none⟩ = some (.int .u8 0) := by
      rw [hX0.cell]; exact zeros_head (by omega)
     have hf0 : (wr.alloc (.cells (zerosA d.size) 5)).frozen? ⟨wr.heap.size, 0, none⟩ = false := hX0.free 0
     have hX1 : Blk (wr.alloc (.cells ((zerosA d.size).setIfInBounds 0 (.int .u8 kind)) 5)) wr.heap.size 5 ((X1 d.size kind).map u8v).toArray := by
      rw [← X1_set d.size kind hkd]; exact Blk.new_eq0 rfl
     have hB1 : Below wr.heap.size wr (wr.alloc (.cells ((zerosA d.size).setIfInBounds 0 (.int .u8 kind)) 5)) := bR0.alloc nR0 _
     have hcap : j < 65536 := by omega
     clear hp hbyt
     generalize hb' : b.drop (j * (d.size - 18)) = bj at *
     have hbjl : bj.length < 2 ^ 62 := by rw [← hb', List.length_drop]; omega
     have HBJ := hZ9 hb'
     clear hb'
     go_upto_region 14 with fail
     generalize wr.alloc (.cells ((zerosA d.size).setIfInBounds 0 (.int .u8 kind)) 5) = w5 at *
     clear hX0 hz0 hf0
     obtain ⟨G, hG⟩ : ∃ G, G = wr.heap.size := ⟨_, rfl⟩
     rw [← hG] at hX1 hB1 ⊢
     have HG := hZ9 hG
     clear hG
     have HX1 := hZ9 hX1
     have HB1 := hZ9 hB1
     clear hX1 hB1
     have l1 := X1_len d.size kind
     have l2 := X2_len hsz19 kind mark
     have l3 := X3_len hsz19 kind mark bj.length
     go_upto_if 68 with (first
      | (go_at_call 161; refine (pagePut_bytes bj.length 4 G 9 _ (X2 d.size kind mark) _ (by decide) hX2 (by omega)).mono ?_; rintro e w7 ⟨rfl, hX3, hg7⟩)
      | (go_at_call 161; refine (pagePut_bytes mark 8 G 1 _ (X1 d.size kind) _ (by decide) HX1.out (by omega)).mono ?_; rintro e w6 ⟨rfl, hX2, hg6⟩))
     have HX3 := hZ9 hX3
     have HG7 := hZ9 (hg6.trans hg7)
     have hbl7 := hX3.lt
     have hc13 : ∃ v, w7.cell? ⟨G, 13, none⟩ = some v := by
      rw [hX3.cell, List.getElem?_toArray]
      exact ⟨_, List.getElem?_eq_getElem (by rw [List.length_map]; change 13 < (X3 d.size kind mark bj.length).length; omega)⟩
     obtain ⟨v13, hc13⟩ := hc13
     have hz13 := hX3.free 13
     clear hX2 hX3 hg6 hg7
     go_cut [68, 69, 70] (fun _ _ _ wx => Blk wx G 5 ((X4 d.size kind mark bj.length (j == 0)).map u8v).toArray ∧ w5.grownBy wx (some G))
     case first =>
      by_cases hj0 : j = 0
      ·subst hj0
       go_wp2_with fail
       go_meet
       refine ⟨?_, gby_set HG7.out _ _⟩
       have e : ((X4 d.size kind mark bj.length (0 == 0)).map u8v).toArray = ((X3 d.size kind mark bj.length).map u8v).toArray.setIfInBounds 13 (.int .u8 1) := by
        unfold X4; simp [List.map_set, u8v]
       rw [e]; exact HX3.out.set 13 _
      ·have hj1 : ((j : Int) == 0) = false := by simp; omega
       go_wp2_with fail
       go_meet
       refine ⟨?_, HG7.out⟩
       have e : (j == 0) = false := by simpa using hj0
       rw [e]; exact HX3.out
     case rest =>
      obtain ⟨hX4, hg8⟩ := hcut
      have l4 := X4_len hsz19 kind mark bj.length (j == 0)
      have HX4 := hZ9 hX4
      have HG8 := hZ9 hg8
      clear hX4 hg8
      have hBc : Below G wr wc := HB1.out.grown HG8.out (by have := HB1.out.size; have := HG.out; omega) (fun k e => by injection e with e; omega)
      have hByc : ByL base wc A1 bj := HBY.out.below (by rw [← HG.out]; exact hBc)
      obtain ⟨w9, hrun, hX5, hg9⟩ := run_copied wc G 14 (d.size - 4 - 14) (d.size - 14) (X4 d.size kind mark bj.length (j == 0)) bj A1 c1 HX4.out hByc (by omega)
      have e5 : splice (X4 d.size kind mark bj.length (j == 0)) 14 (bj.take (d.size - 4 - 14)) = X5 d.size kind mark bj (j == 0) := by unfold X5; rw [show d.size - 4 - 14 = d.size - 18 by omega]
      rw [e5] at hX5
      have hB9 : Below G wr w9 := hBc.grown hg9 (by have := hBc.size; have := HG.out; omega) (fun k e => by injection e with e; omega)
      have hBy9 : ByL base w9 A1 bj := HBY.out.below (by rw [← HG.out]; exact hB9)
      have HX5 := hZ9 hX5
      have HB9 := hZ9 hB9
      have HBY9 := hZ9 hBy9
      have l5 := X5_len hsz19 kind mark bj (j == 0)
      obtain ⟨mn, hmn⟩ : ∃ mn, mn = min bj.length (d.size - 4 - 14) := ⟨_, rfl⟩
      rw [← hmn] at hrun
      have hm1 : mn ≤ bj.length := by omega
      have HMN := hZ9 hmn
      clear hBc hByc hX5 hg9 hB9 hBy9 e5 hmn
      go_upto_region 19 with fail
      go_cut [77, 78, 79, 4] (fun _ _ _ s wx => wx = w9 ∧ ∃ A' c', s = .slice A' (bj.drop (d.size - 18)).length c' ∧ (bj.drop (d.size - 18)).length ≤ c' ∧ ByL base wr A' (bj.drop (d.size - 18)))
      case first =>
       by_cases hbe : bj = []
       ·subst hbe
        have hm0 : mn = 0 := by simpa using hm1
        subst hm0
        go_wp2_with fail
        go_meet
        exact ⟨rfl, A1, c1, by simp, by simp, by simpa using Byt.nil.byl⟩
       ·obtain ⟨bb, oo, rfl, _⟩ := HBY9.out.at (List.length_pos_iff.2 hbe)
        have hdl : (bj.drop (d.size - 18)).length = bj.length - mn := by rw [List.length_drop, HMN.out]; omega
        have HDL := hZ9 hdl
        clear hdl
        go_wp2_with fail
        ·go_meet
         refine ⟨rfl, some ⟨bb, oo, none⟩, 0, by rw [HDL.out], by rw [HDL.out]; omega, ?_⟩
         have : bj.drop (d.size - 18) = [] := List.eq_nil_of_length_eq_zero (by rw [HDL.out]; omega)
         rw [this]; exact Byt.nil.byl
        ·go_meet
         refine ⟨rfl, some ⟨bb, oo + mn, none⟩, c1 - mn, by rw [HDL.out], by rw [HDL.out]; omega, ?_⟩
         have h := HBY.out.sub (i := mn) (k := bj.length - mn) (by omega)
         rw [HMN.out, drop_min, show d.size - 4 - 14 = d.size - 18 by omega] at h
         rw [HMN.out]; exact h
      case rest =>
       obtain ⟨rfl, A2, c2, rfl, hc2, hbyt2⟩ := hcut
       have HBY2 := hZ9 hbyt2
       have HRUN := hZ9 hrun
       clear hbyt2 hrun
       generalize wc = w10 at *
       go_upto_region 20 with fail
       obtain ⟨crc, hcrc⟩ : ∃ crc, crc = crcOf ((X5 d.size kind mark bj (j == 0)).take (d.size - 4)) := ⟨_, rfl⟩
       obtain ⟨n4, hn4⟩ : ∃ n4, n4 = d.size - 4 := ⟨_, rfl⟩
       have q1 : IntKind.i64.wrap ((d.size : Int) - 4) = (n4 : Int) := by rw [IntKind.wrap_i64]; omega
       have q2 : n4 ≤ d.size := by omega
       have q3 : ¬ d.size = n4 := by omega
       have q4 : d.size - n4 = 4 := by omega
       have hcl : crc < 2 ^ 32 := by rw [hcrc]; exact crcOf_lt _
       have q5 : IntKind.u64.wrap (crc : Int) = (crc : Int) := by rw [IntKind.wrap_u64]; omega
       have HSUM := hZ9 (show ∀ wy c, Blk wy G 5 ((X5 d.size kind mark bj (j == 0)).map u8v).toArray → Steps wy → Calls Tryz.prog 162 #[.slice (some ⟨G, 0, none⟩) n4 c] wy fun e w' => e = .returned (.int .u32 crc) ∧ wy = w' from fun wy c hwy hst => by
        have hb0 := (Byt.of_blk hwy).sub (i := 0) (k := d.size - 4) (by omega)
        rw [Nat.add_zero, List.drop_zero] at hb0
        have hl : ((X5 d.size kind mark bj (j == 0)).take (d.size - 4)).length = d.size - 4 := by rw [List.length_take]; omega
        have h := sumOf_any ((X5 d.size kind mark bj (j == 0)).take (d.size - 4)) (some ⟨G, 0, none⟩) c wy hst (by rw [hl]; omega) (fun h0 => by obtain ⟨b1, o1, h1, h2, _, h4⟩ := hb0.at h0; exact ⟨b1, o1, h1, h2, h4⟩)
        rw [hl, ← hcrc, ← hn4] at h
        exact h)
       have HCRC := hZ9 hcrc
       have HN4 := hZ9 hn4
       clear hcrc hn4
       have hgl := HX5.out.lt
       have HST := hZ9 (hs.keeps (HP.out.keep.trans (Keeps.of_below (HG.out ▸ HB9.out) (by have := HP.out.keep.below.size; omega))) hb2)
       go_region_law (first
        | (go_simp; go_at_call 161; refine (pagePut_bytes crc 4 G n4 _ (X5 d.size kind mark bj (j == 0)) _ (by decide) HX5.out.drew (by omega)).mono ?_; rintro e w11 ⟨rfl, hX6, hg11⟩; (have HX6 := hZ9 hX6); (have HG11 := hZ9 hg11); clear hX6 hg11)
        | (go_simp; go_at_call 162; refine (HSUM.out _ d.size HX5.out.drew HST.out.drew).mono ?_; rintro e w' ⟨rfl, rfl⟩))
       have hX7 : Blk w11 G 5 ((secP d.size kind mark bj (j == 0)).map u8v).toArray := by
        have := HX6.out
        rw [HCRC.out, HN4.out, X6_eq hsz19] at this
        exact this
       have hB11 : Below G wr w11 := HB9.out.drew.grown HG11.out (by have := HB9.out.size; have := HG.out; simp; omega) (fun k e => by injection e with e; omega)
       have hlsec := secP_len (size := d.size) (kind := kind) (mark := mark) (b := bj) (first := j == 0) (by omega)
       have hD11 : Dsk w11 base B dj := HP.out.dsk.below (HG.out ▸ hB11)
       have hby11 := (Byt.of_blk hX7).rd
       have hwl := HP.out.same.2.2
       obtain ⟨qe, qd, hq⟩ : ∃ qe qd, writeD dj (a + j) (secP d.size kind mark bj (j == 0)) = (qe, qd) := ⟨_, _, rfl⟩
       have hwr := diskWrite_any hD11 (a + j) (secP d.size kind mark bj (j == 0)) (some ⟨G, 0, none⟩) d.size hby11 (by rw [hlsec]; omega) (by omega)
       rw [hlsec, hq, Int.natCast_add] at hwr
       have HWR := hZ9 hwr
       have HQ := hZ9 hq
       have HB11 := hZ9 hB11
       have HLS := hZ9 hlsec
       have hsame := writeD_same hq
       have HSAME := hZ9 hsame
       clear hwr hq hB11 hlsec hD11 hby11 hX7 HX6 HG11 hsame
       by_cases hqe : qe = 0
       ·subst hqe
        go_wp2_with (go_at_call 163; refine HWR.out.mono ?_; rintro e w12 ⟨rfl, hD12, hK12⟩; (have HD12 := hZ9 hD12); (have HK12 := hZ9 hK12); clear hD12 hK12)
        go_roundw
        case rel =>
         refine ⟨j + 1, qd, by omega, by go_num, ?_⟩
         have e1 : bj.drop (d.size - 18) = b.drop ((j + 1) * (d.size - 18)) := by rw [← HBJ.out, List.drop_drop, Nat.succ_mul]
         refine HP.out.next (by omega) (by rw [HBJ.out]; exact HQ.out) HD12.out (HG.out ▸ HB11.out) HK12.out (by have := HP.out.keep.below.size; omega) ⟨A2, c2, ?_, ?_, ?_⟩
         ·rw [← e1, List.length_drop]
         ·rw [← e1]; exact hc2
         ·rw [← e1]; exact (HBY2.out.below (HG.out ▸ HB11.out)).keeps HK12.out (by simp)
        case measure => simp [intOf]; omega
       ·have hqe' : ((qe : Int) != 0) = true := by simp; exact hqe
        go_wp2_with (go_at_call 163; refine HWR.out.mono ?_; rintro e w12 ⟨rfl, hD12, hK12⟩; (have HD12 := hZ9 hD12); (have HK12 := hZ9 hK12); clear hD12 hK12)
        go_ret2
        have hg := HP.out.go
        rw [show needP d.size b.length - j = (needP d.size b.length - (j + 1)) + 1 by omega, putGo_go0 hqe (by rw [HBJ.out]; exact HQ.out)] at hg
        have hr2 : r = (0, qe, qd) := by
         rw [HR.out, hg]
         cases qe with
         | zero => exact absurd rfl hqe
         | succ n => rfl
        rw [hr2]
        exact ⟨rfl, HD12.out, (HP.out.keep.trans (Keeps.of_below (HG.out ▸ HB11.out) (by have := HP.out.keep.below.size; omega))).trans HK12.out⟩
    ·obtain rfl : nd = j := by omega
     have HP := hZ9 hp
     clear hp
     go_wp2_with fail
     go_ret2
     have hg := HP.out.go
     rw [← HND.out, Nat.sub_self] at hg
     have hr2 : r = (nd, 0, dj) := by rw [HR.out, ← HND.out, hg]; rfl
     rw [hr2]
     refine ⟨?_, HP.out.dsk, HP.out.keep⟩
     show _ = Ending.returned (.tuple #[.int .i64 (nd : Nat), .int .i64 0])
     rw [HND.out]; rfl
  ·have hr' : r = (0, 5, d) := by
    rw [hr]; unfold putP; rw [if_neg h1, if_pos]
    intro g
    apply h2
    unfold fitsB
    rw [decide_eq_true_iff]
    omega
   subst hr'
   have h2' : fitsB d a b.length = false := by simpa using h2
   have ha1 : a < d.lasts.length := by omega
   have hk0 : ((kind : Int) == 0) = false := by simp; omega
   clear h hr h1
   go_enter Tryz.func107, Tryz.ntmps107
   go_wp2_with (first
    | (go_at_call 55; refine (diskSize_any HD.out).mono ?_; rintro e w1 ⟨rfl, hb1⟩)
    | (go_at_call 160; refine (pageFits_any (HD.out.below hb1) a b.length ha hbl).mono ?_; rintro e w2 ⟨rfl, hb2'⟩; rw [h2']))
   all_goals (go_ret2; exact ⟨rfl, HD.out.below (hb1.trans (hb2'.mono hb1.size)), Keeps.of_below (hb1.trans (hb2'.mono hb1.size)) hbase⟩)
end
end Go.Proofs.YtmgmfnimaafkdaaGreatDoor
