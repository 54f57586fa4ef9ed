/- The log turned to its other half. -/
import Derived.Test.YtmgmfnimaafkdaaGreatDoorVL
namespace Go.Proofs.YtmgmfnimaafkdaaGreatDoor
open Go.RowKit Go.Maps
set_option maxRecDepth 100000

structure TurnR (w wr : World) (base B : Nat) (d : DskV) (sz ep a0 : Nat) (rs : List RecL) (j aj : Nat) (dj : DskV) : Prop where
 dsk : Dsk wr base B dj
 keep : Keeps base [121, 165, 167] w wr
 same : dj.size = d.size ∧ dj.lasts.length = d.lasts.length ∧ dj.waits.length ≤ d.waits.length + j * 65536
 go : turnRecs sz ep rs 0 a0 d = turnRecs sz ep (rs.drop j) j aj dj
 ab : aj ≤ 262144
theorem putP_like {d d' : DskV} {a k m n e : Nat} {b : List UInt8} (hl : d.lasts.length ≤ 65536) (h : putP d a k m b = (n, e, d')) : d'.size = d.size ∧ d'.lasts.length = d.lasts.length ∧ d'.waits.length ≤ d.waits.length + 65536 := by
 have h := (putP_runs (P := fun _ => True) (fun _ => trivial) hl h).like
 exact ⟨h.1.1, h.1.2.1, h.2⟩
theorem putP_in {d d' : DskV} {a k m n : Nat} {b : List UInt8} (h : putP d a k m b = (n, 0, d')) : a + n ≤ d.lasts.length := by
 have hn := putP_n h
 unfold putP at h
 split at h
 ·simp at h
 ·split at h
  ·simp at h
  ·omega
theorem TurnR.next {w wr w5 : World} {base B : Nat} {d dj d' : DskV} {sz ep a0 j aj n : Nat} {rs : List RecL} (h : TurnR w wr base B d sz ep a0 rs j aj dj) (hl : d.lasts.length ≤ 65536) {r : RecL} {tl : List RecL} (hr : rs.drop j = r :: tl)
  (hp : putP dj aj 82 (ep * MARKS + j + 1) (recB r) = (n, 0, d')) (hd : Dsk w5 base B d') (hk : Keeps base [121, 165, 167] wr w5) : TurnR w w5 base B d sz ep a0 rs (j + 1) (aj + n) d' := by
 obtain ⟨s1, s2, s3⟩ := h.same
 obtain ⟨t1, t2, t3⟩ := putP_like (by rw [s2]; exact hl) hp
 have hin := putP_in hp
 refine ⟨hd, h.keep.trans hk, ⟨t1.trans s1, t2.trans s2, by omega⟩, ?_, by omega⟩
 have h1 : rs.drop (j + 1) = tl := by rw [← List.drop_drop, hr]; rfl
 rw [h.go, hr, h1]
 conv => lhs; unfold turnRecs
 rw [hp]
 rfl
theorem TurnR.fail {w wr : World} {base B : Nat} {d dj d' : DskV} {sz ep a0 j aj n e : Nat} {rs : List RecL} (h : TurnR w wr base B d sz ep a0 rs j aj dj) {r : RecL} {tl : List RecL} (hr : rs.drop j = r :: tl)
  (hp : putP dj aj 82 (ep * MARKS + j + 1) (recB r) = (n, e, d')) (he : e ≠ 0) : turnRecs sz ep rs 0 a0 d = (e, aj, d') := by
 rw [h.go, hr]
 unfold turnRecs
 rw [hp]
 cases e with
 | zero => exact absurd rfl he
 | succ e => rfl
structure ZeroR (w wr : World) (base B : Nat) (d1 : DskV) (a1 T j : Nat) (dj : DskV) : Prop where
 dsk : Dsk wr base B dj
 keep : Keeps base [121, 165, 167] w wr
 same : dj.size = d1.size ∧ dj.lasts.length = d1.lasts.length ∧ dj.waits.length ≤ d1.waits.length + j
 go : zeros T a1 d1 = zeros (T - j) (a1 + j) dj
def turnTail (l : LogV) (hf ep bg aj : Nat) (rs : List RecL) : Nat × DskV → Nat × DskV × LogV
 | (0, d2) => match flushD d2 with
  | (0, d3) => match putP d3 bg 72 ep [] with
   | (_, 0, d4) => match flushD d4 with
    | (0, d5) => (0, d5, { l with use := hf, epoch := ep, at' := aj, recs := rs })
    | (e, d5) => (e, d5, l)
   | (_, e, d4) => (e, d4, l)
  | (e, d3) => (e, d3, l)
 | (e, d2) => (e, d2, l)
theorem tail1 {l : LogV} {hf ep bg aj e : Nat} {rs : List RecL} {dk d3 : DskV} (h1 : flushD dk = (e, d3)) (he : e ≠ 0) : turnTail l hf ep bg aj rs (0, dk) = (e, d3, l) := by
 cases e with
 | zero => exact absurd rfl he
 | succ e => simp only [turnTail, h1]
theorem tail2 {l : LogV} {hf ep bg aj e n : Nat} {rs : List RecL} {dk d3 d4 : DskV} (h1 : flushD dk = (0, d3)) (h2 : putP d3 bg 72 ep [] = (n, e, d4)) (he : e ≠ 0) : turnTail l hf ep bg aj rs (0, dk) = (e, d4, l) := by
 cases e with
 | zero => exact absurd rfl he
 | succ e => simp only [turnTail, h1, h2]
theorem tail3 {l : LogV} {hf ep bg aj e n : Nat} {rs : List RecL} {dk d3 d4 d5 : DskV} (h1 : flushD dk = (0, d3)) (h2 : putP d3 bg 72 ep [] = (n, 0, d4)) (h3 : flushD d4 = (e, d5)) (he : e ≠ 0) : turnTail l hf ep bg aj rs (0, dk) = (e, d5, l) := by
 cases e with
 | zero => exact absurd rfl he
 | succ e => simp only [turnTail, h1, h2, h3]
theorem tail4 {l : LogV} {hf ep bg aj n : Nat} {rs : List RecL} {dk d3 d4 d5 : DskV} (h1 : flushD dk = (0, d3)) (h2 : putP d3 bg 72 ep [] = (n, 0, d4)) (h3 : flushD d4 = (0, d5)) : turnTail l hf ep bg aj rs (0, dk) = (0, d5, { l with use := hf, epoch := ep, at' := aj, recs := rs }) := by
 simp only [turnTail, h1, h2, h3]
theorem ZeroR.next {w wr w5 : World} {base B a1 T j : Nat} {d1 dj d' : DskV} (h : ZeroR w wr base B d1 a1 T j dj) (hj : j < T) (hq : writeD dj (a1 + j) (List.replicate dj.size 0) = (0, d')) (hd : Dsk w5 base B d') (hk : Keeps base [121, 165, 167] wr w5) : ZeroR w w5 base B d1 a1 T (j + 1) d' := by
 obtain ⟨s1, s2, s3⟩ := h.same
 obtain ⟨t1, t2⟩ := writeD_like hq
 refine ⟨hd, h.keep.trans hk, ⟨t1.1.trans s1, t1.2.1.trans s2, by omega⟩, ?_⟩
 rw [h.go, show T - j = (T - (j + 1)) + 1 by omega]
 conv => lhs; unfold zeros
 rw [hq]
 rfl
theorem ZeroR.fail {w wr : World} {base B a1 T j e : Nat} {d1 dj d' : DskV} (h : ZeroR w wr base B d1 a1 T j dj) (hj : j < T) (hq : writeD dj (a1 + j) (List.replicate dj.size 0) = (e, d')) (he : e ≠ 0) : zeros T a1 d1 = (e, d') := by
 rw [h.go, show T - j = (T - (j + 1)) + 1 by omega]
 unfold zeros
 rw [hq]
 cases e with
 | zero => exact absurd rfl he
 | succ e => rfl
section
attribute [local go_sem ↓] run_make43
set_option maxHeartbeats 8000000 in
theorem turn_any {w : World} {base Lb B : Nat} {l : LogV} {d : DskV} (hL : Log w base Lb B l) (hD : Dsk w base B d) (hs : Steps w) (hb2 : 2 < base) (hw : d.waits.length + 137438953472 < 2 ^ 40) (hsz : l.size = d.size) (he : l.epoch + 1 < 549755813888)
  (K : List RecM) (A : Option Addr) (c : Nat) (hK : w.ownsRow base 137 2 (.slice A K.length c) K.length (recRows K)) (hKb : Bods w K) (hKn : K.length ≤ 1000000) :
  Calls Tryz.prog 112 #[.pointer (some ⟨Lb, 0, none⟩), .slice A K.length c] w fun e w' => AddOut w w' base Lb B (turnGo d l (K.map (·.1))) e := by
 have hbw : base ≤ w.heap.size := by obtain ⟨L, A', c', h⟩ := hL; have := h.low; have := h.blk.lt; omega
 have hsz1 : 16 ≤ d.size ∧ d.size ≤ 4096 := by obtain ⟨m, h⟩ := hD; exact h.sz
 have hlen : d.lasts.length ≤ 65536 := by obtain ⟨m, h⟩ := hD; exact h.n1.2
 obtain ⟨L, AL, cL, hLR⟩ := hL
 have HLR := hZ9 hLR
 have hlbl := hLR.blk.lt
 have hlow := hLR.low
 have b1 := hLR.b1
 have b2 := hLR.b2
 have b4 := hLR.b4
 obtain ⟨q, hq⟩ : ∃ q, q = turnGo d l (K.map (·.1)) := ⟨_, rfl⟩
 rw [← hq]
 unfold turnGo at hq
 simp only at hq
 obtain ⟨ep, hep⟩ : ∃ ep, ep = l.epoch + 1 := ⟨_, rfl⟩
 obtain ⟨hf, hhf⟩ : ∃ hf, hf = 1 - l.use := ⟨_, rfl⟩
 obtain ⟨bg, hbg⟩ : ∃ bg, bg = l.begin hf := ⟨_, rfl⟩
 have hnd : needP l.size 0 ≤ 1 := by
  unfold needP
  split
  ·omega
  ·have : (0 + (l.size - 18) - 1) / (l.size - 18) = 0 := Nat.div_eq_of_lt (by omega)
   rw [this]; decide
 have hbgl : bg ≤ 131072 := by
  have := half_mul hf l.half (by omega)
  have : l.begin hf = l.frm + hf * l.half := rfl
  omega
 rw [← hep, ← hhf, ← hbg] at hq
 have hepi : (l.epoch : Int) + 1 = (ep : Int) := by omega
 have hhfi : (1 : Int) - (l.use : Int) = (hf : Int) := by omega
 have HBG := hZ9 (show ∀ wy, Below w.heap.size w wy → Calls Tryz.prog 164 #[.pointer (some ⟨Lb, 0, none⟩), .int .i64 hf] wy fun e w' => e = .returned (.int .i64 bg) ∧ Below wy.heap.size wy w' from fun wy hy => by
  have := begin_any (show Log wy base Lb B l from ⟨L, AL, cL, hLR.below hy⟩) hf (by omega)
  rw [← hbg] at this
  exact this)
 have HND := hZ9 (show ∀ wy, Calls Tryz.prog 56 #[.int .i64 l.size, .int .i64 0] wy fun e w' => e = .returned (.int .i64 (needP l.size 0 : Nat)) ∧ wy = w' from fun wy => pageNeed_any l.size 0 (by have := hLR.b3; omega) (by decide) wy)
 have e4 : w.cell? ⟨Lb, 4, none⟩ = some (.int .i64 l.use) := hLR.blk.cell 4
 have e5 : w.cell? ⟨Lb, 5, none⟩ = some (.int .i64 l.epoch) := hLR.blk.cell 5
 have b5 := hLR.b5
 have HQ := hZ9 hq
 have HD := hZ9 hD
 have HS := hZ9 hs
 have HK := hZ9 hK
 have HKB := hZ9 hKb
 have HHF := hZ9 hhf
 have HEP := hZ9 hep
 have HBGE := hZ9 hbg
 have HSZ := hZ9 hsz
 generalize hnde : needP l.size 0 = nd at *
 clear hq hD hs hK hKb hLR hhf hep hbg hsz hnde
 go_enter Tryz.func112, Tryz.ntmps112
 go_upto_region 1 with fail
 go_quiet (fail)
 have HB1 : Hid (Below w.heap.size w (w.drewN nq)) := bl_drewN bR0 nq
 generalize w.drewN nq = w1 at *
 have e3 : w1.cell? ⟨Lb, 3, none⟩ = some (.int .i64 l.size) := (HLR.out.blk.below HB1.out hlbl).cell 3
 go_wp2_with (first
  | (go_at_call 164; refine (HBG.out _ HB1.out).mono ?_; rintro en w2 ⟨rfl, hb2'⟩; (have HB2 := hZ9 (HB1.out.trans (hb2'.mono HB1.out.size))); (have e3' : w2.cell? ⟨Lb, 3, none⟩ = some (.int .i64 l.size) := (HLR.out.blk.below HB2.out hlbl).cell 3); (have lb2 := Nat.lt_of_lt_of_le hlbl HB2.out.size); clear hb2')
  | (go_at_call 56; refine (HND.out _).mono ?_; rintro en w' ⟨rfl, rfl⟩))
 clear e3 e3' e4 e5
 go_loopw [8, 41] (fun av i wr => ∃ (j aj : Nat) (dj : DskV), j ≤ K.length ∧ i = .int .i64 (j : Nat) ∧ av = .int .i64 (aj : Nat) ∧ TurnR w wr base B d l.size ep (bg + nd) (K.map (·.1)) j aj dj) (fun _ i _ => K.length - (intOf i).toNat)
 case atStart => exact ⟨0, bg + nd, d, Nat.zero_le _, rfl, by rw [Int.natCast_add], HD.out.below HB2.out, Keeps.of_below HB2.out hbw, ⟨rfl, rfl, by omega⟩, rfl, by omega⟩
 case round =>
  obtain ⟨j, aj, dj, hj, rfl, rfl, hp⟩ := hrel
  have HP := hZ9 hp
  have hkp := hp.keep
  have hab := hp.ab
  have hsame := hp.same
  have hwr : w.heap.size ≤ wr.heap.size := hkp.below.size
  have hlr := HLR.out.keeps hkp (by decide) (by decide) (by decide)
  have lbr := hlr.blk.lt
  have HLRR := hZ9 hlr
  clear hlr hp
  by_cases hjl : j < K.length
  ·have hown := own_keeps HK.out hkp (by decide)
   obtain ⟨b, o, hA, hbl, c1, c2⟩ := (Sl.of_own hown).at2r j hjl rfl
   obtain ⟨y1, y2, y3, y4⟩ := HKB.out (K[j]) (List.getElem_mem _)
   have y1 := y1.keeps hkp (by decide)
   have hjl' : (j : Int) < K.length := by omega
   have hdr : (K.map (·.1)).drop j = K[j].1 :: (K.map (·.1)).drop (j + 1) := by
    rw [List.drop_eq_getElem_cons (by simpa using hjl), List.getElem_map]
   have HDR := hZ9 hdr
   subst hA
   clear hdr hown
   generalize K[j] = x at *
   obtain ⟨r, Bx, cb⟩ := x
   simp only at y1 y2 y3 y4 c1 c2
   obtain ⟨n, er, d', hput⟩ : ∃ n er d', putP dj aj 82 (ep * MARKS + j + 1) (recB r) = (n, er, d') := ⟨_, _, _, rfl⟩
   have hrl : (recB r).length = 1 + r.2.length := by unfold recB; simp; omega
   have hmk := mark_wrap ep j (by omega) (by omega)
   have HBS := hZ9 (show ∀ wy, Below wr.heap.size wr wy → Calls Tryz.prog 166 #[.agg #[.int .u8 r.1, .slice Bx r.2.length cb]] wy fun e w' => (∃ A' c', e = .returned (.slice A' (recB r).length c') ∧ Byt w' A' (recB r) ∧ (recB r).length ≤ c') ∧ Below wy.heap.size wy w' from fun wy hy => bytes_any r y3 Bx cb (y1.below hy) y4)
   have HPUT := hZ9 (show ∀ wy A' c', Below wr.heap.size wr wy → Byt wy A' (recB r) → (recB r).length ≤ c' → Calls Tryz.prog 107 #[.pointer (some ⟨B, 0, none⟩), .int .i64 aj, .int .u8 82, .int .i64 (IntKind.i64.wrap (IntKind.i64.wrap (IntKind.i64.wrap ((ep : Int) * 1048576) + (j : Int)) + 1)), .slice A' (recB r).length c'] wy fun e w' => e = .returned (.tuple #[.int .i64 n, .int .i64 er]) ∧ Dsk w' base B d' ∧ Keeps base [121, 165, 167] wy w' from fun wy A' c' hy h1 h2 => by
    have := recPut_any (HP.out.dsk.below hy) ((HS.out.keeps hkp hb2).below hy) hb2 aj 82 (ep * MARKS + j + 1) (by omega) (by decide) (mark_lt _ _ (by omega) (by omega)) (recB r) (by rw [hrl]; omega) A' c' h1.byl h2 (by omega)
    rw [hmk, hput] at this
    exact this)
   have hx7 : Blk (wr.alloc (.cells #[.int .u8 r.1, .slice Bx r.2.length cb] 137)) wr.heap.size 137 #[.int .u8 r.1, .slice Bx r.2.length cb] := Blk.new wr 137 _
   have hb7 : Below wr.heap.size wr (wr.alloc (.cells #[.int .u8 r.1, .slice Bx r.2.length cb] 137)) := bR0.alloc nR0 _
   have HPT := hZ9 hput
   clear hput hrl hmk y1
   go_upto_region 7 with fail
   generalize wr.alloc (.cells #[.int .u8 r.1, .slice Bx r.2.length cb] 137) = w7 at *
   obtain ⟨X, hX⟩ : ∃ X, X = wr.heap.size := ⟨_, rfl⟩
   rw [← hX] at hx7 ⊢
   have HB7 := hZ9 hb7
   have HX7 := hZ9 hx7
   have hbr : base ≤ wr.heap.size := by omega
   have S1 := hZ9 (show ∀ wy, Keeps base [121, 165, 167] w7 wy → wy.cell? ⟨Lb, 0, none⟩ = some (.pointer (some ⟨B, 0, none⟩)) ∧ wy.cell? ⟨X, 0, none⟩ = some (.int .u8 r.1) ∧ wy.cell? ⟨X, 1, none⟩ = some (.slice Bx r.2.length cb) from fun wy hy => by
    have hb := (HLRR.out.blk.below HB7.out lbr).keeps hy (by decide)
    have hx := HX7.out.keeps hy (by decide)
    exact ⟨hb.cell 0, hx.cell 0, hx.cell 1⟩)
   have S0 := hZ9 (S1.out _ (Keeps.of_below bR0.drew (by have := HB7.out.size; omega)))
   clear hX hb7 hx7 c1 c2
   go_region_held3 (fun wy => wy.cell? ⟨Lb, 0, none⟩ = some (.pointer (some ⟨B, 0, none⟩)) ∧ wy.cell? ⟨X, 0, none⟩ = some (.int .u8 r.1) ∧ wy.cell? ⟨X, 1, none⟩ = some (.slice Bx r.2.length cb))
    (first | exact S1.out _ HK5.out | exact S1.out _ HK4.out | exact S0.out)
    (first
     | (go_at_call 166; refine (HBS.out _ (HB7.out.trans (bR0.drew.mono HB7.out.size))).mono ?_; rintro en w4 ⟨⟨A4, c4, rfl, hy4, hc4⟩, hb4⟩; (have HB4 : Hid (Below wr.heap.size wr w4) := HB7.out.trans ((bR0.drew.trans hb4).mono HB7.out.size)); (have HK4 : Hid (Keeps base [121, 165, 167] w7 w4) := Keeps.of_below (bR0.drew.trans hb4) (Nat.le_trans hbr HB7.out.size)); (have HY4 := hZ9 hy4); clear hy4 hb4)
     | (go_at_call 107; refine (HPUT.out w4 A4 c4 HB4.out HY4.out hc4).mono ?_; rintro en w5 ⟨rfl, hd5, hk5⟩; (have HD5 := hZ9 hd5); (have HK5 := hZ9 (HK4.out.trans hk5)); clear hd5 hk5))
   have KR5 := hZ9 ((Keeps.of_below (base := base) (ts := [121, 165, 167]) HB7.out hbr).trans HK5.out)
   by_cases hez : er = 0
   ·subst hez
    have hnin := putP_in HPT.out
    have hnl : (n : Int) ≤ 65536 := by omega
    go_wp2_with fail
    go_roundw
    case rel => exact ⟨j + 1, aj + n, d', by omega, by go_num, by rw [Int.natCast_add], HP.out.next hlen HDR.out HPT.out HD5.out KR5.out⟩
    case measure => simp [intOf]; omega
   ·have hen : ((er : Int) != 0) = true := by simp; omega
    have hq9 : q = (er, d', l) := by
     rw [HQ.out, HP.out.fail HDR.out HPT.out hez]
     cases er with
     | zero => exact absurd rfl hez
     | succ e => rfl
    subst hq9
    go_wp2_with fail
    go_ret
    have kf := HP.out.keep.trans KR5.out
    exact ⟨rfl, ⟨L, AL, cL, HLR.out.keeps kf (by decide) (by decide) (by decide)⟩, HD5.out, keeps_log kf (by simp)⟩
  ·obtain rfl : j = K.length := by omega
   have hdone : turnRecs l.size ep (K.map (·.1)) 0 (bg + nd) d = (0, aj, dj) := by
    rw [HP.out.go, List.drop_of_length_le (by simp)]; rfl
   obtain ⟨T, hT⟩ : ∃ T, T = bg + l.half - aj := ⟨_, rfl⟩
   have hq2 : q = turnTail l hf ep bg aj (K.map (·.1)) (zeros T aj dj) := by
    rw [HQ.out, hdone, hT]; rfl
   have HQ2 := hZ9 hq2
   have HT := hZ9 hT
   have c2 : wr.cell? ⟨Lb, 2, none⟩ = some (.int .i64 l.half) := HLRR.out.blk.cell 2
   have hTb : T ≤ 262144 := by omega
   have hz0 : (0 : Int) ≤ l.size := by omega
   have hz1 : (l.size : Int) ≤ 65536 := by have := HLR.out.b3; omega
   have hbr : base ≤ wr.heap.size := by omega
   have hdj0 : Dsk wr base B dj := HP.out.dsk
   have HDJ0 := hZ9 hdj0
   have hwt : dj.waits.length + 262144 < 2 ^ 40 := by omega
   have hszj : dj.size = l.size := by rw [hsame.1, HSZ.out]
   have HSZJ := hZ9 hszj
   clear hdone hq2 hT hszj hdj0 hsame
   obtain ⟨w8, rfl⟩ : ∃ w8, w8 = wr := ⟨_, rfl⟩
   go_wp2_with fail
   go_loopw [13] (fun nv wz => ∃ (k : Nat) (dk : DskV), k ≤ T ∧ nv = .int .i64 ((aj : Int) + (k : Int)) ∧ ZeroR w8 wz base B dj aj T k dk) (fun nv _ => (aj : Int).toNat + T - (intOf nv).toNat)
   case atStart => exact ⟨0, dj, Nat.zero_le _, by simp, HDJ0.out, Keeps.refl _ _ _, ⟨rfl, rfl, by omega⟩, by simp⟩
   case round =>
    obtain ⟨k, dk, hk, rfl, hp2⟩ := hrel
    have HP2 := hZ9 hp2
    have hk2 := hp2.keep
    have hlr2 := HLRR.out.keeps hk2 (by decide) (by decide) (by decide)
    have lb2 := hlr2.blk.lt
    have HLR2 := hZ9 hlr2
    have hsm2 := hp2.same
    have HSM2 := hZ9 hsm2
    have hwk : dk.waits.length < 2 ^ 40 := by omega
    have hb2r : base ≤ wr.heap.size := Nat.le_trans hbr hk2.below.size
    have c2' : wr.cell? ⟨Lb, 2, none⟩ = some (.int .i64 l.half) := hlr2.blk.cell 2
    clear hp2 hlr2 hsm2 c2
    by_cases hkT : k < T
    ·have hTe := HT.out
     have hlt : (aj : Int) + (k : Int) < (bg : Int) + (l.half : Int) := by omega
     obtain ⟨ez, d', hwd⟩ : ∃ ez d', writeD dk (aj + k) (List.replicate dk.size 0) = (ez, d') := ⟨_, _, rfl⟩
     have hdsz : dk.size = l.size := by rw [HSM2.out.1, HSZJ.out]
     have HWD := hZ9 hwd
     have HWR := hZ9 (show Calls Tryz.prog 163 #[.pointer (some ⟨B, 0, none⟩), .int .i64 ((aj : Int) + (k : Int)), .slice (some ⟨wr.heap.size, 0, none⟩) l.size l.size] (wr.alloc (.cells (zerosA l.size) 5)).drew (fun e w' => e = .returned (.int .i64 ez) ∧ Dsk w' base B d' ∧ Keeps base [121, 165, 167] (wr.alloc (.cells (zerosA l.size) 5)).drew w') from by
      have hbb : Blk (wr.alloc (.cells (zerosA l.size) 5)).drew wr.heap.size 5 ((List.replicate l.size (0 : UInt8)).map u8v).toArray := Blk.new_eq rfl
      have := diskWrite_any (HP2.out.dsk.below (bR0.alloc nR0 _).drew) (aj + k) (List.replicate l.size 0) (some ⟨wr.heap.size, 0, none⟩) l.size (by have h := (Byt.of_blk hbb).rd; exact h) (by simp; omega) hwk
      rw [List.length_replicate, ← hdsz, hwd, Int.natCast_add, hdsz] at this
      exact this)
     have S1 := hZ9 (show ∀ wy, Keeps base [121, 165, 167] wr wy → wy.cell? ⟨Lb, 0, none⟩ = some (.pointer (some ⟨B, 0, none⟩)) ∧ wy.cell? ⟨Lb, 3, none⟩ = some (.int .i64 l.size) from fun wy hy => by
      have hb := HLR2.out.blk.keeps hy (by decide)
      exact ⟨hb.cell 0, hb.cell 3⟩)
     have S0 := hZ9 (S1.out _ (Keeps.of_below bR0.drew hb2r))
     have S3 := hZ9 (S1.out _ (Keeps.of_below ((Below.refl wr.heap.size wr).alloc nR0 (.cells (zerosA l.size) 5)).drew hb2r))
     have K3 : Hid (Keeps base [121, 165, 167] wr (wr.alloc (.cells (zerosA l.size) 5)).drew) := Keeps.of_below (bR0.alloc nR0 _).drew hb2r
     clear hwd hdsz hTe
     go_upto_region 15 with fail
     go_region_held3 (fun wy => wy.cell? ⟨Lb, 0, none⟩ = some (.pointer (some ⟨B, 0, none⟩)) ∧ wy.cell? ⟨Lb, 3, none⟩ = some (.int .i64 l.size))
      (first | exact S1.out _ HK5.out | exact S0.out | exact S3.out)
      (first
       | (go_at_call 163; refine HWR.out.mono ?_; rintro en w5 ⟨rfl, hd5, hk5⟩; (have HD5 := hZ9 hd5); (have HK5 := hZ9 (K3.out.trans hk5)); clear hd5 hk5))
     by_cases hez : ez = 0
     ·subst hez
      go_wp2_with fail
      go_roundw
      case rel => exact ⟨k + 1, d', by omega, by go_num, HP2.out.next hkT HWD.out HD5.out HK5.out⟩
      case measure => simp [intOf]; omega
     ·have hen : ((ez : Int) != 0) = true := by simp; omega
      have hq9 : q = (ez, d', l) := by
       rw [HQ2.out, HP2.out.fail hkT HWD.out hez]
       cases ez with
       | zero => exact absurd rfl hez
       | succ e => rfl
      subst hq9
      go_wp2_with fail
      go_ret
      have kf := (HP.out.keep.trans HP2.out.keep).trans HK5.out
      exact ⟨rfl, ⟨L, AL, cL, HLR.out.keeps kf (by decide) (by decide) (by decide)⟩, HD5.out, keeps_log kf (by simp)⟩
    ·obtain rfl : k = T := by omega
     have hzd : zeros k aj dj = (0, dk) := by rw [HP2.out.go, Nat.sub_self]; rfl
     have hTe := HT.out
     have hnlt : ¬ ((aj : Int) + (k : Int) < (bg : Int) + (l.half : Int)) := by omega
     have c0 : wr.cell? ⟨Lb, 0, none⟩ = some (.pointer (some ⟨B, 0, none⟩)) := HLR2.out.blk.cell 0
     have HQ3 := hZ9 (show q = turnTail l hf ep bg aj (K.map (·.1)) (0, dk) from by rw [HQ2.out, hzd])
     obtain ⟨e2, d3, hf1⟩ : ∃ e2 d3, flushD dk = (e2, d3) := ⟨_, _, rfl⟩
     have hfl := diskFlush_any HP2.out.dsk
     rw [hf1] at hfl
     have HFL := hZ9 hfl
     have HF1 := hZ9 hf1
     have KW2 := hZ9 (HP.out.keep.trans HP2.out.keep)
     have hbgl2 : (bg : Int) ≤ 131072 := by omega
     clear hzd hTe hfl hf1
     go_upto_region 19 with (go_at_call 130; refine HFL.out.mono ?_; rintro en w3 ⟨rfl, hd3, hk3⟩; (have HD3 := hZ9 hd3); (have HK3 := hZ9 hk3); clear hd3 hk3)
     by_cases he2 : e2 = 0
     ·subst he2
      have hlr3 := HLR2.out.keeps HK3.out (by decide) (by decide) (by decide)
      have c03 : w3.cell? ⟨Lb, 0, none⟩ = some (.pointer (some ⟨B, 0, none⟩)) := hlr3.blk.cell 0
      have lb3 := hlr3.blk.lt
      have HLR3 := hZ9 hlr3
      have hfk := flushD_like HF1.out
      obtain ⟨n4, e4, d4, hp4⟩ : ∃ n4 e4 d4, putP d3 bg 72 ep [] = (n4, e4, d4) := ⟨_, _, _, rfl⟩
      have hpt := recPut_any HD3.out (HS.out.keeps (KW2.out.trans HK3.out) hb2) hb2 bg 72 ep (by omega) (by decide) (by omega) [] (by decide) none 0 Byt.nil.byl (by decide) (by omega)
      rw [hp4] at hpt
      have HPT4 := hZ9 (show Calls Tryz.prog 107 #[.pointer (some ⟨B, 0, none⟩), .int .i64 bg, .int .u8 72, .int .i64 ep, .slice none 0 0] w3 (fun e w' => e = .returned (.tuple #[.int .i64 n4, .int .i64 e4]) ∧ Dsk w' base B d4 ∧ Keeps base [121, 165, 167] w3 w') from hpt)
      have HP4 := hZ9 hp4
      clear hlr3 hpt hp4 c0
      go_upto_region 22 with (go_at_call 107; refine HPT4.out.mono ?_; rintro en w4 ⟨rfl, hd4, hk4⟩; (have HD4 := hZ9 hd4); (have HK4 := hZ9 hk4); clear hd4 hk4)
      by_cases he4 : e4 = 0
      ·subst he4
       have hlr4 := HLR3.out.keeps HK4.out (by decide) (by decide) (by decide)
       have c04 : w4.cell? ⟨Lb, 0, none⟩ = some (.pointer (some ⟨B, 0, none⟩)) := hlr4.blk.cell 0
       have lb4 := hlr4.blk.lt
       have HLR4 := hZ9 hlr4
       obtain ⟨e5, d5, hf5⟩ : ∃ e5 d5, flushD d4 = (e5, d5) := ⟨_, _, rfl⟩
       have hfl5 := diskFlush_any HD4.out
       rw [hf5] at hfl5
       have HFL5 := hZ9 hfl5
       have HF5 := hZ9 hf5
       clear hlr4 hfl5 hf5 c03
       go_upto_region 25 with (go_at_call 130; refine HFL5.out.mono ?_; rintro en w5 ⟨rfl, hd5, hk5⟩; (have HD5 := hZ9 hd5); (have HK5 := hZ9 hk5); clear hd5 hk5)
       by_cases he5 : e5 = 0
       ·subst he5
        have hq9 : q = (0, d5, { l with use := hf, epoch := ep, at' := aj, recs := K.map (·.1) }) := by rw [HQ3.out, tail4 HF1.out HP4.out HF5.out]
        subst hq9
        have hlr5 := HLR4.out.keeps HK5.out (by decide) (by decide) (by decide)
        have hb5 := hlr5.blk
        have lb5 := hb5.lt
        have c54 : w5.cell? ⟨Lb, 4, none⟩ = some (.int .i64 l.use) := hb5.cell 4
        have c55 : w5.cell? ⟨Lb, 5, none⟩ = some (.int .i64 l.epoch) := hb5.cell 5
        have c56 : w5.cell? ⟨Lb, 6, none⟩ = some (.int .i64 l.at') := hb5.cell 6
        have c57 : w5.cell? ⟨Lb, 7, none⟩ = some (.slice AL l.recs.length cL) := hb5.cell 7
        have f54 := hb5.free 4
        have f55 := hb5.free 5
        have f56 := hb5.free 6
        have f57 := hb5.free 7
        have HB5 := hZ9 hb5
        clear hlr5 hb5 c04
        go_wp2_with fail
        go_ret
        have kf := ((KW2.out.trans HK3.out).trans HK4.out).trans HK5.out
        have s1 := HB5.out.set 4 (.int .i64 hf)
        have s2 := s1.set 5 (.int .i64 ep)
        have s3 := s2.set 6 (.int .i64 aj)
        have s4 := s3.set 7 (.slice A K.length c)
        have kx := ((((Keeps.refl base [216] w5).set (o := 4) HB5.out hlow (by simp) (.int .i64 hf)).set (o := 5) s1 hlow (by simp) (.int .i64 ep)).set (o := 6) s2 hlow (by simp) (.int .i64 aj)).set (o := 7) s3 hlow (by simp) (.slice A K.length c)
        refine ⟨rfl, ⟨K, A, c, hlow, ?_, ?_, rfl, ?_, b1, b2, HLR.out.b3, ?_, ?_, by simp only; omega, by simp only [List.length_map]; exact hKn⟩, HD5.out.keeps kx (by decide) (by decide) (by decide) (by decide) (by decide), (keeps_log kf (by simp)).trans (keeps_log kx (by simp))⟩
        ·simp only [List.length_map]; exact s4
        ·simp only [List.length_map]; exact own_keeps (own_keeps HK.out kf (by decide)) kx (by decide)
        ·exact (HKB.out.keeps kf (by decide)).keeps kx (by decide)
        ·have := HHF.out; simp only; omega
        ·have := HEP.out; simp only; omega
       ·have hen : ((e5 : Int) != 0) = true := by simp; omega
        have hq9 : q = (e5, d5, l) := by rw [HQ3.out, tail3 HF1.out HP4.out HF5.out he5]
        subst hq9
        go_wp2_with fail
        go_ret
        have kf := ((KW2.out.trans HK3.out).trans HK4.out).trans HK5.out
        exact ⟨rfl, ⟨L, AL, cL, HLR.out.keeps kf (by decide) (by decide) (by decide)⟩, HD5.out, keeps_log kf (by simp)⟩
      ·have hen : ((e4 : Int) != 0) = true := by simp; omega
       have hq9 : q = (e4, d4, l) := by rw [HQ3.out, tail2 HF1.out HP4.out he4]
       subst hq9
       go_wp2_with fail
       go_ret
       have kf := (KW2.out.trans HK3.out).trans HK4.out
       exact ⟨rfl, ⟨L, AL, cL, HLR.out.keeps kf (by decide) (by decide) (by decide)⟩, HD4.out, keeps_log kf (by simp)⟩
     ·have hen : ((e2 : Int) != 0) = true := by simp; omega
      have hq9 : q = (e2, d3, l) := by rw [HQ3.out, tail1 HF1.out he2]
      subst hq9
      go_wp2_with fail
      go_ret
      have kf := KW2.out.trans HK3.out
      exact ⟨rfl, ⟨L, AL, cL, HLR.out.keeps kf (by decide) (by decide) (by decide)⟩, HD3.out, keeps_log kf (by simp)⟩
end
end Go.Proofs.YtmgmfnimaafkdaaGreatDoor
