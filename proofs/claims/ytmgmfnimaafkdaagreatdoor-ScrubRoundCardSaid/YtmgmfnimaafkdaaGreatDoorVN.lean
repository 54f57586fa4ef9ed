/- Plain: a record found on a disk stands within it. The log with records whose bytes aren't said. -/
import Derived.Test.YtmgmfnimaafkdaaGreatDoorVM
namespace Go.Proofs.YtmgmfnimaafkdaaGreatDoor
section
open Go.RowKit Go.Maps
set_option maxRecDepth 100000

theorem needR_le {l : LogV} {r : RecL} (hr : r.2.length ≤ 4000) (hs : l.size ≤ 65536) : l.needR r ≤ 131072 := by
 unfold LogV.needR needP
 split
 ·omega
 ·have : (1 + r.2.length + (l.size - 18) - 1) / (l.size - 18) ≤ 1 + r.2.length + (l.size - 18) - 1 := Nat.div_le_self _ _
  omega
set_option maxHeartbeats 8000000 in
theorem turnL_any {w : World} {base Lb B : Nat} {l : LogV} {d : DskV} (hL : Log w base Lb B l) (hD : Dsk w base B d) (hs : Steps w) (hb2 : 2 < base) (hw : d.waits.length + 137438953472 < 2 ^ 40) (hsz : l.size = d.size) (he : l.epoch + 1 < 549755813888)
  (K : List RecM) (A : Option Addr) (c : Nat) (hK : Sl w 137 2 A K.length (recRows K)) (hKb : Bods w K) (hKl : K.length < 1099511627776) :
  Calls Tryz.prog 63 #[.pointer (some ⟨Lb, 0, none⟩), .slice A K.length c] w fun e w' => AddOut w w' base Lb B (turnL d l (K.map (·.1))) e := by
 have hbw : base ≤ w.heap.size := by obtain ⟨L, A', c', h⟩ := hL; have := h.low; have := h.blk.lt; omega
 obtain ⟨L, AL, cL, hLR⟩ := hL
 have hL : Log w base Lb B l := ⟨L, AL, cL, hLR⟩
 have hlbl := hLR.blk.lt
 have b2 := hLR.b2
 have b3 := hLR.b3
 obtain ⟨q, hq⟩ : ∃ q, q = turnL d l (K.map (·.1)) := ⟨_, rfl⟩
 rw [← hq]
 unfold turnL at hq
 obtain ⟨nd, hnd⟩ : ∃ nd, nd = needP l.size 0 := ⟨_, rfl⟩
 have hndl : nd ≤ 1 := by
  rw [hnd]
  unfold needP
  split
  ·omega
  ·have : (0 + (l.size - 18) - 1) / (l.size - 18) = 0 := Nat.div_eq_of_lt (by omega)
   rw [this]; decide
 have HND := hZ9 (show ∀ wy, Calls Tryz.prog 56 #[.int .i64 l.size, .int .i64 0] wy fun e w' => e = .returned (.int .i64 (nd : Nat)) ∧ wy = w' from fun wy => by
  rw [hnd]
  exact pageNeed_any l.size 0 (by omega) (by decide) wy)
 rw [← hnd, List.length_map] at hq
 obtain ⟨T, hT⟩ : ∃ T, T = nd + ((K.map (·.1)).map l.needR).sum := ⟨_, rfl⟩
 rw [← hT] at hq
 have HN := hZ9 (show ∀ wy (r : RecL) (A : Option Addr) (c : Nat), Below w.heap.size w wy → r.2.length < 1099511627776 → Calls Tryz.prog 122 #[.pointer (some ⟨Lb, 0, none⟩), .agg #[.int .u8 r.1, .slice A r.2.length c]] wy fun e w' => e = .returned (.int .i64 (l.needR r : Nat)) ∧ Below wy.heap.size wy w' from fun wy r A c hy hn => need_any (hL.below hy) r A c hn)
 have e3 : w.cell? ⟨Lb, 3, none⟩ = some (.int .i64 l.size) := hLR.blk.cell 3
 have HQ := hZ9 hq
 have HL := hZ9 hL
 have HLR := hZ9 hLR
 have HD := hZ9 hD
 have HS := hZ9 hs
 have HK := hZ9 hK
 have HKB := hZ9 hKb
 have HSZ := hZ9 hsz
 have HT := hZ9 hT
 have HW := hZ9 hw
 have HE := hZ9 he
 clear hq hL hLR hD hs hK hKb hsz hnd hT hw he
 go_enter Tryz.func63, Tryz.ntmps63
 go_wp2_with (go_at_call 56; refine (HND.out _).mono ?_; rintro en w' ⟨rfl, rfl⟩)
 clear e3
 go_loopw [5, 17] (fun sv i wr => ∃ (k s : Nat), k ≤ K.length ∧ i = .int .i64 (k : Nat) ∧ sv = .int .i64 (s : Nat) ∧ T = s + (((K.drop k).map (·.1)).map l.needR).sum ∧ s ≤ nd + k * 131072 ∧ (∀ j (hj : j < K.length), j < k → K[j].1.2.length ≤ 4000) ∧ Below w.heap.size w wr) (fun _ i _ => K.length - (intOf i).toNat)
 case atStart => exact ⟨0, nd, Nat.zero_le _, rfl, rfl, HT.out, by omega, fun _ _ h => absurd h (by omega), bR0⟩
 case round =>
  obtain ⟨k, s, hk, rfl, rfl, hts, hsl, hall, hb⟩ := hrel
  have HTS := hZ9 hts
  have HALL := hZ9 hall
  have HB := hZ9 hb
  have hws := hb.size
  by_cases hkl : k < K.length
  ·obtain ⟨b, o, hA, hbl, c1, c2⟩ := (HK.out.below hb).at2r k hkl rfl
   obtain ⟨y1, y2, y3, y4⟩ := HKB.out (K[k]) (List.getElem_mem _)
   have hkl' : (k : Int) < K.length := by omega
   have HDR := hZ9 (show K.drop k = K[k] :: K.drop (k + 1) from List.drop_eq_getElem_cons hkl)
   have HKK := hZ9 (show K[k] ∈ K from List.getElem_mem _)
   have HX : Hid (K[k]? = some K[k]) := List.getElem?_eq_getElem hkl
   clear hts hall hb y1
   generalize K[k] = x at *
   obtain ⟨r, Bx, cb⟩ := x
   simp only at y2 y3 y4 c1 c2
   subst hA
   have hb7 : Below w.heap.size w (wr.alloc (.cells #[.int .u8 r.1, .slice Bx r.2.length cb] 137)) := HB.out.alloc hws _
   have hx7 : Blk (wr.alloc (.cells #[.int .u8 r.1, .slice Bx r.2.length cb] 137)) wr.heap.size 137 #[.int .u8 r.1, .slice Bx r.2.length cb] := Blk.new wr 137 _
   go_upto_region 7 with fail
   generalize wr.alloc (.cells #[.int .u8 r.1, .slice Bx r.2.length cb] 137) = w7 at *
   obtain ⟨X, hX⟩ : ∃ X, X = wr.heap.size := ⟨_, rfl⟩
   rw [← hX] at hx7 ⊢
   have x0 : w7.cell? ⟨X, 0, none⟩ = some (.int .u8 r.1) := hx7.cell 0
   have x1 : w7.cell? ⟨X, 1, none⟩ = some (.slice Bx r.2.length cb) := hx7.cell 1
   have xl := hx7.lt
   have HB7 := hZ9 hb7
   clear hX hb7 hx7 c1 c2
   by_cases hbig : 4000 < r.2.length
   ·have hbig' : (4000 : Int) < r.2.length := by omega
    have hany : (K.map (·.1)).any (fun r => decide (4000 < r.2.length)) = true := List.any_eq_true.2 ⟨r, List.mem_map.2 ⟨(r, Bx, cb), HKK.out, rfl⟩, by simpa using hbig⟩
    have hq9 : q = (1, d, l) := by rw [HQ.out, if_pos hany]
    subst hq9
    clear hany
    go_wp2_with fail
    go_ret
    exact ⟨rfl, HL.out.below HB7.out, HD.out.below HB7.out, Keeps.of_below HB7.out hbw⟩
   ·have hbig' : ¬ (4000 : Int) < r.2.length := by omega
    have hnr := needR_le (l := l) (r := r) (by omega) b3
    have HC := hZ9 (HN.out w7 r Bx cb HB7.out y4)
    have HRS : Hid (((K.drop k).map (·.1)).map l.needR = l.needR r :: ((K.drop (k + 1)).map (·.1)).map l.needR) := by
     show ((K.drop k).map (·.1)).map l.needR = l.needR r :: ((K.drop (k + 1)).map (·.1)).map l.needR
     rw [HDR.out]; rfl
    generalize l.needR r = nr at *
    go_wp2_with (go_at_call 122; refine HC.out.mono ?_; rintro en w8 ⟨rfl, hb8⟩; (have HB8 := hZ9 (HB7.out.trans (hb8.mono HB7.out.size))); clear hb8)
    go_roundw
    case rel =>
     refine ⟨k + 1, s + nr, by omega, by go_num, by rw [Int.natCast_add], ?_, by omega, fun j hj hjk => ?_, HB8.out⟩
     ·rw [HTS.out, HRS.out, List.sum_cons]; omega
     ·by_cases e : j = k
      ·subst e
       have := HX.out
       rw [List.getElem?_eq_getElem hj] at this
       injection this with this
       rw [this]; simp only; omega
      ·exact HALL.out j hj (by omega)
    case measure => simp [intOf]; omega
  ·obtain rfl : k = K.length := by omega
   have hno : (K.map (·.1)).any (fun r => decide (4000 < r.2.length)) = false := by
    rw [List.any_eq_false]
    intro r hr
    obtain ⟨x, hx, rfl⟩ := List.mem_map.1 hr
    obtain ⟨j, hj, rfl⟩ := List.mem_iff_getElem.1 hx
    have := hall j hj hj
    simp only [decide_eq_true_eq]; omega
   have hsT : s = T := by rw [hts, List.drop_length]; simp
   subst hsT
   have hq1 : q = if l.half < s ∨ 1000000 < K.length then (5, d, l) else turnGo d l (K.map (·.1)) := by
    rw [HQ.out, hno]; rfl
   have HQ1 := hZ9 hq1
   have c2 : wr.cell? ⟨Lb, 2, none⟩ = some (.int .i64 l.half) := (HLR.out.blk.below hb hlbl).cell 2
   have lbr : Lb < wr.heap.size := by omega
   clear hno hq1 hts hall hb
   by_cases g1 : l.half < s
   ·have hq9 : q = (5, d, l) := by rw [HQ1.out, if_pos (.inl g1)]
    have g1' : (l.half : Int) < s := by omega
    subst hq9
    go_wp2_with fail
    go_ret
    exact ⟨rfl, HL.out.below HB.out, HD.out.below HB.out, Keeps.of_below HB.out hbw⟩
   ·have g1' : ¬ (l.half : Int) < s := by omega
    by_cases g2 : 1000000 < K.length
    ·have hq9 : q = (5, d, l) := by rw [HQ1.out, if_pos (.inr g2)]
     have g2' : (1000000 : Int) < K.length := by omega
     subst hq9
     go_wp2_with fail
     go_ret
     exact ⟨rfl, HL.out.below HB.out, HD.out.below HB.out, Keeps.of_below HB.out hbw⟩
    ·have hq9 : q = turnGo d l (K.map (·.1)) := by rw [HQ1.out, if_neg (by omega)]
     have g2' : ¬ (1000000 : Int) < K.length := by omega
     have HQ9 := hZ9 hq9
     have HCP := hZ9 (show Calls Tryz.prog 113 #[.slice A K.length c] wr fun e w' => CopyOut wr w' K e from copied_any K A c (HK.out.below HB.out) (HKB.out.below HB.out) (by omega))
     have HTU := hZ9 (show ∀ wy (K' : List RecM) A' c', Below w.heap.size w wy → K'.map (·.1) = K.map (·.1) → wy.ownsRow base 137 2 (.slice A' K.length c') K.length (recRows K') → Bods wy K' → Calls Tryz.prog 112 #[.pointer (some ⟨Lb, 0, none⟩), .slice A' K.length c'] wy fun e w' => AddOut wy w' base Lb B q e from fun wy K' A' c' hy hm ho hbd => by
      have hl : K'.length = K.length := by simpa using congrArg List.length hm
      rw [← hl] at ho ⊢
      have := turn_any (HL.out.below hy) (HD.out.below hy) (HS.out.below hy) hb2 HW.out HSZ.out HE.out K' A' c' ho hbd (by omega)
      rw [hm, ← HQ9.out] at this
      exact this)
     clear hq9
     go_wp2_with (first
      | (go_at_call 113; refine HCP.out.mono ?_; rintro en w2 ⟨⟨K', A', c', rfl, ho', hm', hbd', hc'⟩, hb2'⟩; (have HB2 := hZ9 (HB.out.trans (hb2'.mono HB.out.size))); (have HTU2 := hZ9 (HTU.out w2 K' A' c' HB2.out hm' (own_base ho' (by have := HB.out.size; omega)) hbd')); clear ho' hm' hbd' hb2')
      | (go_at_call 112; refine HTU2.out.mono ?_; rintro en w3 ⟨rfl, hl3, hd3, hk3⟩; (have HL3 := hZ9 hl3); (have HD3 := hZ9 hd3); (have HK3 := hZ9 hk3); clear hl3 hd3 hk3))
     go_ret
     exact ⟨rfl, HL3.out, HD3.out, (Keeps.of_below HB2.out hbw).trans HK3.out⟩
end
section
open Go.RowKit Go.Maps
set_option maxRecDepth 100000

def findGo (d : DskV) : Nat → LogV → Bool → Nat × LogV
 | 0, l, f => if f then loadGo d (l.half + 1) { l with at' := l.begin l.use + needP l.size 0 } else (0, { l with at' := l.begin l.use })
 | k + 1, l, f => match findHalf d l (1 - k) f with
  | (0, l1, f1) => findGo d k l1 f1
  | (e, l1, _) => (e, l1)
theorem findL_go (d : DskV) (l0 : LogV) : findL d l0 = findGo d 2 { l0 with use := 1, epoch := 0 } false := by
 unfold findL
 have e : findGo d 2 { l0 with use := 1, epoch := 0 } false = (match findHalf d { l0 with use := 1, epoch := 0 } 0 false with
  | (0, l1, f1) => findGo d 1 l1 f1
  | (e, l1, _) => (e, l1)) := rfl
 rw [e]
 cases h1 : findHalf d { l0 with use := 1, epoch := 0 } 0 false with
 | mk e1 q =>
  obtain ⟨l1, f1⟩ := q
  cases e1 with
  | succ e => rfl
  | zero =>
   have e2 : findGo d 1 l1 f1 = (match findHalf d l1 1 f1 with
    | (0, l2, f2) => findGo d 0 l2 f2
    | (e, l2, _) => (e, l2)) := rfl
   simp only [e2]
   cases h2 : findHalf d l1 1 f1 with
   | mk e2 q =>
    obtain ⟨l2, f2⟩ := q
    cases e2 <;> rfl
theorem findGo_step {d : DskV} {l : LogV} {f : Bool} {k : Nat} (hk : k < 2) : findGo d (2 - k) l f = match findHalf d l k f with
  | (0, l1, f1) => findGo d (2 - (k + 1)) l1 f1
  | (e, l1, _) => (e, l1) := by
 match k, hk with
 | 0, _ => rfl
 | 1, _ => rfl
def FindOut (w w' : World) (base Lb B : Nat) (r : Nat × LogV) (e : Ending) : Prop := e = .returned (.int .i64 r.1) ∧ Log w' base Lb B r.2 ∧ Keeps base [216, 137] w w'
structure FindR (w wr : World) (base Lb B : Nat) (d : DskV) (E : Nat) (l : LogV) (q : Nat × LogV) (k : Nat) (l1 : LogV) (f : Bool) : Prop where
 log : Log wr base Lb B l1
 keep : Keeps base [216] w wr
 fnd : Found l l1 E
 recs : l1.recs = l.recs
 go : q = findGo d (2 - k) l1 f
theorem keeps_find {base : Nat} {w w' : World} {ts : List TypeId} (h : Keeps base ts w w') (ht : ∀ t ∈ ts, t ∈ [216, 137]) : Keeps base [216, 137] w w' := h.mono nR0 ht
theorem Log.sets {w : World} {base Lb B : Nat} {l : LogV} (h : Log w base Lb B l) (u e : Nat) (hu : u ≤ 1) (he : e < 549755813888) :
  Log ((w.setCell ⟨Lb, 4, none⟩ (.int .i64 u)).setCell ⟨Lb, 5, none⟩ (.int .i64 e)) base Lb B { l with use := u, epoch := e } ∧ Keeps base [216] w ((w.setCell ⟨Lb, 4, none⟩ (.int .i64 u)).setCell ⟨Lb, 5, none⟩ (.int .i64 e)) := by
 obtain ⟨L, A, c, h⟩ := h
 have s1 := h.blk.set 4 (.int .i64 u)
 have s2 := s1.set 5 (.int .i64 e)
 have kx := ((Keeps.refl base [216] w).set (o := 4) h.blk h.low (by simp) (.int .i64 u)).set (o := 5) s1 h.low (by simp) (.int .i64 e)
 exact ⟨⟨L, A, c, h.low, s2, own_keeps h.own kx (by decide), h.rcs, h.bod.keeps kx (by decide), h.b1, h.b2, h.b3, hu, he, h.b6, h.b7⟩, kx⟩
theorem Log.setAt {w : World} {base Lb B : Nat} {l : LogV} (h : Log w base Lb B l) (a : Nat) (ha : a ≤ 1048576) :
  Log (w.setCell ⟨Lb, 6, none⟩ (.int .i64 a)) base Lb B { l with at' := a } ∧ Keeps base [216] w (w.setCell ⟨Lb, 6, none⟩ (.int .i64 a)) := by
 obtain ⟨L, A, c, h⟩ := h
 have s1 := h.blk.set 6 (.int .i64 a)
 have kx := (Keeps.refl base [216] w).set (o := 6) h.blk h.low (by simp) (.int .i64 a)
 exact ⟨⟨L, A, c, h.low, s1, own_keeps h.own kx (by decide), h.rcs, h.bod.keeps kx (by decide), h.b1, h.b2, h.b3, h.b4, h.b5, ha, h.b7⟩, kx⟩
theorem Log.cells {w : World} {base Lb B : Nat} {l : LogV} (h : Log w base Lb B l) : Lb < w.heap.size ∧ base ≤ Lb ∧ w.cell? ⟨Lb, 0, none⟩ = some (.pointer (some ⟨B, 0, none⟩)) ∧ w.cell? ⟨Lb, 2, none⟩ = some (.int .i64 l.half) ∧ w.cell? ⟨Lb, 3, none⟩ = some (.int .i64 l.size) ∧ w.cell? ⟨Lb, 4, none⟩ = some (.int .i64 l.use) ∧ w.cell? ⟨Lb, 5, none⟩ = some (.int .i64 l.epoch) ∧ w.cell? ⟨Lb, 6, none⟩ = some (.int .i64 l.at') ∧ (∀ i, w.frozen? ⟨Lb, i, none⟩ = false) := by
 obtain ⟨L, A, c, h⟩ := h
 exact ⟨h.blk.lt, h.low, h.blk.cell 0, h.blk.cell 2, h.blk.cell 3, h.blk.cell 4, h.blk.cell 5, h.blk.cell 6, h.blk.free⟩
theorem Log.bounds {w : World} {base Lb B : Nat} {l : LogV} (h : Log w base Lb B l) : l.frm ≤ 65536 ∧ l.half ≤ 65536 ∧ l.size ≤ 65536 ∧ l.use ≤ 1 ∧ l.epoch < 549755813888 ∧ l.at' ≤ 1048576 ∧ l.recs.length ≤ 1000000 := by
 obtain ⟨L, A, c, h⟩ := h
 exact ⟨h.b1, h.b2, h.b3, h.b4, h.b5, h.b6, h.b7⟩
theorem begin_le {l : LogV} (h1 : l.frm ≤ 65536) (h2 : l.half ≤ 65536) {k : Nat} (hk : k ≤ 1) : l.begin k ≤ 131072 := by
 have := half_mul k l.half hk
 unfold LogV.begin
 omega
theorem findHalf_down {d : DskV} {l : LogV} {k : Nat} {f : Bool} {r : RecV} (h : getP d (l.begin k) = (10, r)) : findHalf d l k f = (10, l, f) := by unfold findHalf; rw [h]; rfl
theorem findHalf_err {d : DskV} {l : LogV} {k er : Nat} {f : Bool} {r : RecV} (h : getP d (l.begin k) = (er, r)) (h0 : er ≠ 0) (h1 : er ≠ 10) : findHalf d l k f = (0, l, f) := by
 unfold findHalf
 rw [h]
 split
 ·rename_i e; injection e with e _; exact absurd e h1
 ·rename_i e; injection e with e _; exact absurd e h0
 ·rfl
theorem findHalf_other {d : DskV} {l : LogV} {k : Nat} {f : Bool} {r : RecV} (h : getP d (l.begin k) = (0, r)) (hc : r.kind ≠ 72 ∨ r.bytes ≠ []) : findHalf d l k f = (0, l, f) := by
 unfold findHalf; rw [h]; simp only; rw [if_pos hc]
theorem findHalf_same {d : DskV} {l : LogV} {k : Nat} {f : Bool} {r : RecV} (h : getP d (l.begin k) = (0, r)) (hc : ¬ (r.kind ≠ 72 ∨ r.bytes ≠ [])) (hf : ¬ (f = false ∨ l.epoch < r.mark)) : findHalf d l k f = (0, l, f) := by
 unfold findHalf; rw [h]; simp only; rw [if_neg hc, if_neg hf]
theorem findHalf_set {d : DskV} {l : LogV} {k : Nat} {f : Bool} {r : RecV} (h : getP d (l.begin k) = (0, r)) (hc : ¬ (r.kind ≠ 72 ∨ r.bytes ≠ [])) (hf : f = false ∨ l.epoch < r.mark) : findHalf d l k f = (0, { l with use := k, epoch := r.mark }, true) := by
 unfold findHalf; rw [h]; simp only; rw [if_neg hc, if_pos hf]
theorem GetOut.ok {w' : World} {base : Nat} {r : RecV} {e : Ending} (h : GetOut w' base (0, r) e) (hm : r.mark < 2 ^ 60) : ∃ A c, e = .returned (.tuple #[.int .u8 r.kind, .int .i64 r.mark, .slice A r.bytes.length c, .int .i64 r.many, .int .i64 0]) ∧ w'.ownsRow base 5 1 (.slice A r.bytes.length c) r.bytes.length (r.bytes.map u8v) ∧ r.bytes.length ≤ c := by
 rcases h with ⟨_, v, rfl, ho⟩ | ⟨h, _⟩
 ·obtain ⟨A, c, rfl, hc⟩ := own_form ho
  refine ⟨A, c, ?_, ho, hc⟩
  have : IntKind.i64.wrap (r.mark : Int) = (r.mark : Int) := by rw [IntKind.wrap_i64]; omega
  simp only [this]
 ·exact absurd rfl h
theorem GetOut.no {w' : World} {base er : Nat} {r : RecV} {e : Ending} (h : GetOut w' base (er, r) e) (h0 : er ≠ 0) : e = .returned (.tuple #[.int .u8 0, .int .i64 0, .slice none 0 0, .int .i64 0, .int .i64 er]) := by
 rcases h with ⟨h, _⟩ | ⟨_, h⟩
 ·exact absurd h h0
 ·exact h
theorem FindR.next {w wr w3 : World} {base Lb B E k : Nat} {d : DskV} {l l1 : LogV} {q : Nat × LogV} {f : Bool} (h : FindR w wr base Lb B d E l q k l1 f) (hk : k < 2) (hb : base ≤ wr.heap.size) (hB : Below wr.heap.size wr w3) (hh : findHalf d l1 k f = (0, l1, f)) : FindR w w3 base Lb B d E l q (k + 1) l1 f :=
 ⟨h.log.below hB, h.keep.trans (Keeps.of_below hB hb), h.fnd, h.recs, by rw [h.go, findGo_step hk, hh]; rfl⟩
theorem FindR.set {w wr w3 : World} {base Lb B E k : Nat} {d : DskV} {l l1 : LogV} {q : Nat × LogV} {f : Bool} (h : FindR w wr base Lb B d E l q k l1 f) (hk : k < 2) (hb : base ≤ wr.heap.size) (hB : Below wr.heap.size wr w3) {e : Nat} (he : e ≤ E) (hE : E < 549755813888) (hh : findHalf d l1 k f = (0, { l1 with use := k, epoch := e }, true)) :
  FindR w ((w3.setCell ⟨Lb, 4, none⟩ (.int .i64 k)).setCell ⟨Lb, 5, none⟩ (.int .i64 e)) base Lb B d E l q (k + 1) { l1 with use := k, epoch := e } true := by
 obtain ⟨h1, h2⟩ := (h.log.below hB).sets k e (by omega) (by omega)
 have g := h.fnd
 exact ⟨h1, (h.keep.trans (Keeps.of_below hB hb)).trans h2, ⟨g.frm, g.half, g.size, by show k ≤ 1; omega, he⟩, h.recs, by rw [h.go, findGo_step hk, hh]; rfl⟩
set_option maxHeartbeats 8000000 in
theorem find_any {w : World} {base Lb B : Nat} {l : LogV} {d : DskV} {E : Nat} (hL : Log w base Lb B l) (hD : Dsk w base B d) (hs : Steps w) (hb2 : 2 < base) (hF : Fine d E) (hE : E < 549755813888)
  (hload : ∀ wy ly, Keeps base [216] w wy → Log wy base Lb B ly → Found l ly E → ly.recs = l.recs → Calls Tryz.prog 165 #[.pointer (some ⟨Lb, 0, none⟩)] wy fun e w' => FindOut wy w' base Lb B (loadGo d (ly.half + 1) { ly with at' := ly.begin ly.use + needP ly.size 0 }) e) :
  Calls Tryz.prog 111 #[.pointer (some ⟨Lb, 0, none⟩)] w fun e w' => FindOut w w' base Lb B (findL d l) e := by
 rw [findL_go]
 obtain ⟨q, hq⟩ : ∃ q, q = findGo d 2 { l with use := 1, epoch := 0 } false := ⟨_, rfl⟩
 rw [← hq]
 obtain ⟨hlbl, hlow, c0, c2, c3, c4, c5, c6, fz⟩ := hL.cells
 have f4 := fz 4
 have f5 := fz 5
 have hbw : base ≤ w.heap.size := by omega
 obtain ⟨hl1, k1⟩ := hL.sets 1 0 (by decide) (by decide)
 have HP0 : Hid (FindR w ((w.setCell ⟨Lb, 4, none⟩ (.int .i64 (1 : Nat))).setCell ⟨Lb, 5, none⟩ (.int .i64 (0 : Nat))) base Lb B d E l q 0 { l with use := 1, epoch := 0 } false) := ⟨hl1, k1, ⟨rfl, rfl, rfl, by show 1 ≤ 1; omega, Nat.zero_le _⟩, rfl, hq⟩
 have HD := hZ9 hD
 have HS := hZ9 hs
 have HF := hZ9 hF
 have HLD := hZ9 hload
 clear hl1 k1 hq hL hD hs hF hload c0 c2 c3 c6 fz
 go_enter Tryz.func111, Tryz.ntmps111
 go_upto_region 3 with fail
 have hw1 : ((w.setCell ⟨Lb, 4, none⟩ (.int .i64 (1 : Nat))).setCell ⟨Lb, 5, none⟩ (.int .i64 (0 : Nat))) = ((w.setCell ⟨Lb, 4, none⟩ (.int .i64 1)).setCell ⟨Lb, 5, none⟩ (.int .i64 0)) := rfl
 rw [hw1] at HP0
 clear hw1
 generalize ((w.setCell ⟨Lb, 4, none⟩ (.int .i64 1)).setCell ⟨Lb, 5, none⟩ (.int .i64 0)) = w1 at *
 go_wp2_with fail
 go_loopw [3, 16] (fun fv i wr => ∃ (k : Nat) (f : Bool) (l1 : LogV), k ≤ 2 ∧ i = .int .i64 (k : Nat) ∧ fv = .bool f ∧ FindR w wr base Lb B d E l q k l1 f) (fun _ i _ => 2 - (intOf i).toNat)
 case atStart => exact ⟨0, false, _, by omega, rfl, rfl, HP0.out⟩
 case round =>
  obtain ⟨k, f, l1, hk, rfl, rfl, hp⟩ := hrel
  have HP := hZ9 hp
  obtain ⟨lb1, _, c0, c2, c3, c4, c5, c6, fz⟩ := hp.log.cells
  obtain ⟨g1, g2, g3, g4, g5, g6, g7⟩ := hp.log.bounds
  have hbr : base ≤ wr.heap.size := by omega
  by_cases hk2 : k < 2
  ·have hk2' : (k : Int) < 2 := by omega
   have hbgl := begin_le g1 g2 (k := k) (by omega)
   have HBG := hZ9 (show ∀ wy, Below wr.heap.size wr wy → Calls Tryz.prog 164 #[.pointer (some ⟨Lb, 0, none⟩), .int .i64 k] wy fun e w' => e = .returned (.int .i64 (l1.begin k : Nat)) ∧ Below wy.heap.size wy w' from fun wy hy => begin_any (HP.out.log.below hy) k (by omega))
   obtain ⟨r, hr⟩ : ∃ r, getP d (l1.begin k) = r := ⟨_, rfl⟩
   obtain ⟨er, r⟩ := r
   have HGET := hZ9 (show ∀ wy, Below wr.heap.size wr wy → Calls Tryz.prog 118 #[.pointer (some ⟨B, 0, none⟩), .int .i64 (l1.begin k : Nat)] wy fun e w' => GetOut w' wy.heap.size (er, r) e ∧ Below wy.heap.size wy w' from fun wy hy => by
    have := recGet_any ((HD.out.keeps HP.out.keep (by decide) (by decide) (by decide) (by decide) (by decide)).below hy) ((HS.out.keeps HP.out.keep hb2).below hy) (l1.begin k) (by omega)
    rw [hr] at this
    exact this)
   have HGE := hZ9 hr
   have SK := hZ9 (show ∀ wy, Below wr.heap.size wr wy → wy.cell? ⟨Lb, 0, none⟩ = some (.pointer (some ⟨B, 0, none⟩)) from fun wy hy => (HP.out.log.below hy).cells.2.2.1)
   have S0 := hZ9 (SK.out _ bR0.drew)
   have HG := hZ9 hp.go
   clear hp hr c0 c2 c3 c4 c5 c6 fz
   have HBGE : Hid (l1.begin k = l1.begin k) := show l1.begin k = l1.begin k from rfl
   generalize hbge : l1.begin k = bg at HGET HBG hbgl
   by_cases he0 : er = 0
   ·subst he0
    obtain ⟨hmk, hmE⟩ := getP_mark HF.out HGE.out
    go_upto_region 6 with fail
    go_region_held3 (fun wy => wy.cell? ⟨Lb, 0, none⟩ = some (.pointer (some ⟨B, 0, none⟩)))
     (first | exact SK.out _ HB3.out | exact SK.out _ HB2.out | exact S0.out)
     (first
      | (go_at_call 164; refine (HBG.out _ bR0.drew).mono ?_; rintro en w2 ⟨rfl, hb2⟩; (have HB2 : Hid (Below wr.heap.size wr w2) := bR0.drew.trans hb2); clear hb2)
      | (go_at_call 118; refine (HGET.out w2 HB2.out).mono ?_; rintro en w3 ⟨hg3, hb3⟩; (obtain ⟨A3, c3, rfl, ho3, hc3⟩ := hg3.ok hmk); (have HB3 : Hid (Below wr.heap.size wr w3) := HB2.out.trans (hb3.mono HB2.out.size)); clear hb3 hg3 ho3 hc3))
    have HMK := hZ9 hmk
    have HME := hZ9 hmE
    clear hmk hmE
    by_cases hkd : r.kind = 72
    ·by_cases hbs : r.bytes = []
     ·have hkd' : ((r.kind : Int) != 72) = false := by simp; omega
      have hbl' : ¬ (0 : Int) < ((r.bytes.length : Nat) : Int) := by rw [hbs]; simp
      have hno : ¬ (r.kind ≠ 72 ∨ r.bytes ≠ []) := by simp [hkd, hbs]
      have HNO := hZ9 hno
      have HKD := hZ9 hkd
      obtain ⟨lb3, _, _, _, _, d4, d5, _, fz3⟩ := (HP.out.log.below HB3.out).cells
      have g4' := fz3 4
      have g5' := fz3 5
      clear hno hkd hbs fz3
      by_cases hset : f = false ∨ l1.epoch < r.mark
      ·have HSET := hZ9 hset
       cases f with
       | false =>
        clear hset
        go_wp2_with fail
        go_roundw
        case rel => exact ⟨k + 1, true, _, by omega, by go_num, rfl, HP.out.set hk2 hbr HB3.out (HME.out HKD.out) hE (findHalf_set HGE.out HNO.out HSET.out)⟩
        case measure => simp [intOf]; omega
       | true =>
        have hlt : (l1.epoch : Int) < (r.mark : Int) := by
         rcases hset with h | h
         ·cases h
         ·omega
        clear hset
        go_wp2_with fail
        go_roundw
        case rel => exact ⟨k + 1, true, _, by omega, by go_num, rfl, HP.out.set hk2 hbr HB3.out (HME.out HKD.out) hE (findHalf_set HGE.out HNO.out HSET.out)⟩
        case measure => simp [intOf]; omega
      ·have HSET := hZ9 hset
       have hft : f = true := by
        cases f with
        | false => exact absurd (.inl rfl) hset
        | true => rfl
       have hlt : ¬ (l1.epoch : Int) < (r.mark : Int) := fun h => hset (.inr (by omega))
       subst hft
       clear hset
       go_wp2_with fail
       go_roundw
       case rel => exact ⟨k + 1, true, l1, by omega, by go_num, rfl, HP.out.next hk2 hbr HB3.out (findHalf_same HGE.out HNO.out HSET.out)⟩
       case measure => simp [intOf]; omega
     ·have hkd' : ((r.kind : Int) != 72) = false := by simp; omega
      have hbl' : (0 : Int) < ((r.bytes.length : Nat) : Int) := by have := List.length_pos_iff.2 hbs; omega
      have HBS := hZ9 hbs
      clear hbs hkd
      go_wp2_with fail
      go_roundw
      case rel => exact ⟨k + 1, f, l1, by omega, by go_num, rfl, HP.out.next hk2 hbr HB3.out (findHalf_other HGE.out (.inr HBS.out))⟩
      case measure => simp [intOf]; omega
    ·have hkd' : ((r.kind : Int) != 72) = true := by simp; omega
     have HKD := hZ9 hkd
     clear hkd
     go_wp2_with fail
     go_roundw
     case rel => exact ⟨k + 1, f, l1, by omega, by go_num, rfl, HP.out.next hk2 hbr HB3.out (findHalf_other HGE.out (.inl HKD.out))⟩
     case measure => simp [intOf]; omega
   ·go_upto_region 6 with fail
    go_region_held3 (fun wy => wy.cell? ⟨Lb, 0, none⟩ = some (.pointer (some ⟨B, 0, none⟩)))
     (first | exact SK.out _ HB3.out | exact SK.out _ HB2.out | exact S0.out)
     (first
      | (go_at_call 164; refine (HBG.out _ bR0.drew).mono ?_; rintro en w2 ⟨rfl, hb2⟩; (have HB2 : Hid (Below wr.heap.size wr w2) := bR0.drew.trans hb2); clear hb2)
      | (go_at_call 118; refine (HGET.out w2 HB2.out).mono ?_; rintro en w3 ⟨hg3, hb3⟩; (obtain rfl := hg3.no he0); (have HB3 : Hid (Below wr.heap.size wr w3) := HB2.out.trans (hb3.mono HB2.out.size)); clear hb3 hg3))
    by_cases he1 : er = 10
    ·subst he1
     have hq9 : q = (10, l1) := by rw [HG.out, findGo_step hk2, findHalf_down HGE.out]; rfl
     subst hq9
     go_wp2_with fail
     go_ret
     exact ⟨rfl, HP.out.log.below HB3.out, keeps_find (HP.out.keep.trans (Keeps.of_below HB3.out hbr)) (by simp)⟩
    ·have h1' : ((er : Int) == 10) = false := by simp; omega
     have h0' : ((er : Int) != 0) = true := by simp; omega
     go_wp2_with fail
     go_roundw
     case rel => exact ⟨k + 1, f, l1, by omega, by go_num, rfl, HP.out.next hk2 hbr HB3.out (findHalf_err HGE.out he0 he1)⟩
     case measure => simp [intOf]; omega
  ·obtain rfl : k = 2 := by omega
   have f6 := fz 6
   cases f with
   | false =>
    have hq9 : q = (0, { l1 with at' := l1.begin l1.use }) := hp.go
    subst hq9
    have hbgl := begin_le g1 g2 (k := l1.use) g4
    have HBG := hZ9 (show Calls Tryz.prog 164 #[.pointer (some ⟨Lb, 0, none⟩), .int .i64 l1.use] wr fun e w' => e = .returned (.int .i64 (l1.begin l1.use : Nat)) ∧ Below wr.heap.size wr w' from begin_any HP.out.log l1.use g4)
    clear hp
    go_wp2_with (go_at_call 164; refine HBG.out.mono ?_; rintro en w2 ⟨rfl, hb2⟩; (obtain ⟨lb2, _, _, _, _, _, _, d6, fz2⟩ := (HP.out.log.below hb2).cells); (have f62 := fz2 6); (have HB2 := hZ9 hb2); clear hb2 fz2)
    go_ret
    obtain ⟨h1, h2⟩ := (HP.out.log.below HB2.out).setAt (l1.begin l1.use) (by omega)
    exact ⟨rfl, h1, keeps_find ((HP.out.keep.trans (Keeps.of_below HB2.out hbr)).trans h2) (by simp)⟩
   | true =>
    have hq9 : q = loadGo d (l1.half + 1) { l1 with at' := l1.begin l1.use + needP l1.size 0 } := hp.go
    have HLO := hZ9 (HLD.out wr l1 hp.keep hp.log hp.fnd hp.recs)
    rw [← hq9] at HLO
    clear hp hq9
    go_wp2_with (go_at_call 165; refine HLO.out.mono ?_; rintro en w2 ⟨rfl, h1, h2⟩; (have H1 := hZ9 h1); (have H2 := hZ9 h2); clear h1 h2)
    go_ret
    exact ⟨rfl, H1.out, (keeps_find HP.out.keep (by simp)).trans H2.out⟩
end
section
open Go.RowKit Go.Maps
set_option maxRecDepth 100000

theorem getGo_many {d : DskV} {at' : Nat} : ∀ (k i : Nat) (head : Sec) (out : List UInt8) (r : RecV), getGo d at' k i head out = (0, r) → i + 1 ≤ r.many ∧ r.many ≤ i + k
 | 0, i, head, out, r, hg => by unfold getGo at hg; simp at hg
 | k + 1, i, head, out, r, hg => by
  unfold getGo at hg
  cases hr : readD d (at' + i) with
  | mk e s =>
   rw [hr] at hg
   cases e with
   | succ e => simp at hg
   | zero =>
    simp only at hg
    split at hg
    ·simp at hg
    ·cases hx : secOf s with
     | none => rw [hx] at hg; simp at hg
     | some x =>
      rw [hx] at hg
      simp only at hg
      split at hg
      ·simp at hg
      ·split at hg
       ·simp at hg
       ·by_cases hi : i = 0
        ·simp only [if_pos hi] at hg
         split at hg
         ·injection hg with _ hg; subst hg; simp only; omega
         ·have := getGo_many k _ _ _ _ hg
          omega
        ·simp only [if_neg hi] at hg
         split at hg
         ·injection hg with _ hg; subst hg; simp only; omega
         ·have := getGo_many k _ _ _ _ hg
          omega
theorem getP_many {d : DskV} {at' : Nat} {r : RecV} (hg : getP d at' = (0, r)) : 1 ≤ r.many ∧ at' + r.many ≤ d.lasts.length := by
 unfold getP at hg
 split at hg
 ·simp at hg
 ·have := getGo_many _ _ _ _ _ hg
  omega
def relog (l : LogV) (rs : List RecL) : LogV := { l with recs := rs }
theorem addL_re {d d' : DskV} {l l' : LogV} {rs : List RecL} {r : RecL} {e : Nat} (hl : rs.length = l.recs.length) (h : addL d l r = (e, d', l')) : ∃ rs', rs'.length = l'.recs.length ∧ addL d (relog l rs) r = (e, d', relog l' rs') := by
 unfold addL at h ⊢
 by_cases h1 : 4000 < r.2.length
 ·rw [if_pos h1] at h ⊢
  injection h with h2 h; injection h with h3 h4; subst h2; subst h3; subst h4
  exact ⟨rs, hl, rfl⟩
 ·rw [if_neg h1] at h ⊢
  have e1 : (relog l rs).left = l.left := rfl
  have e2 : (relog l rs).needR r = l.needR r := rfl
  have e3 : (relog l rs).recs.length = l.recs.length := hl
  rw [e1, e2, e3]
  by_cases h2 : l.left < l.needR r ∨ l.recs.length = 1000000
  ·rw [if_pos h2] at h ⊢
   injection h with h2 h; injection h with h3 h4; subst h2; subst h3; subst h4
   exact ⟨rs, hl, rfl⟩
  ·rw [if_neg h2] at h ⊢
   show ∃ rs', _ ∧ (match putP d l.at' 82 (l.epoch * MARKS + l.recs.length + 1) (recB r) with
    | (n, 0, d') => (0, d', { relog l rs with at' := l.at' + n, recs := rs ++ [r] })
    | (_, e, d') => (e, d', relog l rs)) = _
   cases hp : putP d l.at' 82 (l.epoch * MARKS + l.recs.length + 1) (recB r) with
   | mk n q =>
    obtain ⟨e0, d0⟩ := q
    rw [hp] at h
    cases e0 with
    | zero =>
     injection h with h2 h; injection h with h3 h4; subst h2; subst h3; subst h4
     exact ⟨rs ++ [r], by simp [hl], rfl⟩
    | succ e0 =>
     injection h with h2 h; injection h with h3 h4; subst h2; subst h3; subst h4
     exact ⟨rs, hl, rfl⟩
theorem turnGo_re {d d' : DskV} {l l' : LogV} {rs keep : List RecL} {e : Nat} (hl : rs.length = l.recs.length) (h : turnGo d l keep = (e, d', l')) : ∃ rs', rs'.length = l'.recs.length ∧ turnGo d (relog l rs) keep = (e, d', relog l' rs') := by
 unfold turnGo at h ⊢
 simp only at h ⊢
 have e1 : ∀ k, (relog l rs).begin k = l.begin k := fun _ => rfl
 simp only [e1, show (relog l rs).size = l.size from rfl, show (relog l rs).use = l.use from rfl, show (relog l rs).epoch = l.epoch from rfl, show (relog l rs).half = l.half from rfl]
 cases h1 : turnRecs l.size (l.epoch + 1) keep 0 (l.begin (1 - l.use) + needP l.size 0) d with
 | mk a q =>
  obtain ⟨b, d1⟩ := q
  rw [h1] at h
  cases a with
  | succ a =>
   injection h with h2 h; injection h with h3 h4; subst h2; subst h3; subst h4
   exact ⟨rs, hl, rfl⟩
  | zero =>
   simp only at h ⊢
   cases h2 : zeros (l.begin (1 - l.use) + l.half - b) b d1 with
   | mk a2 d2 =>
    rw [h2] at h
    cases a2 with
    | succ a =>
     injection h with h2 h; injection h with h3 h4; subst h2; subst h3; subst h4
     exact ⟨rs, hl, rfl⟩
    | zero =>
     simp only at h ⊢
     cases h3 : flushD d2 with
     | mk a3 d3 =>
      rw [h3] at h
      cases a3 with
      | succ a =>
       injection h with h2 h; injection h with h3 h4; subst h2; subst h3; subst h4
       exact ⟨rs, hl, rfl⟩
      | zero =>
       simp only at h ⊢
       cases h4 : putP d3 (l.begin (1 - l.use)) 72 (l.epoch + 1) [] with
       | mk n q =>
        obtain ⟨a4, d4⟩ := q
        rw [h4] at h
        cases a4 with
        | succ a =>
         injection h with h2 h; injection h with h3 h4; subst h2; subst h3; subst h4
         exact ⟨rs, hl, rfl⟩
        | zero =>
         simp only at h ⊢
         cases h5 : flushD d4 with
         | mk a5 d5 =>
          rw [h5] at h
          cases a5 with
          | succ a =>
           injection h with h2 h; injection h with h3 h4; subst h2; subst h3; subst h4
           exact ⟨rs, hl, rfl⟩
          | zero =>
           injection h with h2 h; injection h with h3 h4; subst h2; subst h3; subst h4
           exact ⟨keep, rfl, rfl⟩
theorem turnL_re {d d' : DskV} {l l' : LogV} {rs keep : List RecL} {e : Nat} (hl : rs.length = l.recs.length) (h : turnL d l keep = (e, d', l')) : ∃ rs', rs'.length = l'.recs.length ∧ turnL d (relog l rs) keep = (e, d', relog l' rs') := by
 unfold turnL at h ⊢
 have e1 : ∀ r, (relog l rs).needR r = l.needR r := fun _ => rfl
 have e2 : (relog l rs).needR = l.needR := funext e1
 rw [show (relog l rs).half = l.half from rfl, show (relog l rs).size = l.size from rfl, e2]
 split at h
 ·rename_i h1
  rw [if_pos h1]
  injection h with h2 h; injection h with h3 h4; subst h2; subst h3; subst h4
  exact ⟨rs, hl, rfl⟩
 ·rename_i h1
  rw [if_neg h1]
  split at h
  ·rename_i h2
   rw [if_pos h2]
   injection h with h2 h; injection h with h3 h4; subst h2; subst h3; subst h4
   exact ⟨rs, hl, rfl⟩
  ·rename_i h2
   rw [if_neg h2]
   exact turnGo_re hl h
def LogW (w : World) (base Lb B : Nat) (l : LogV) : Prop := ∃ rs, rs.length = l.recs.length ∧ Log w base Lb B (relog l rs)
theorem Log.w {w : World} {base Lb B : Nat} {l : LogV} (h : Log w base Lb B l) : LogW w base Lb B l := ⟨l.recs, rfl, h⟩
theorem LogW.keeps {base base' Lb B : Nat} {ts : List TypeId} {w w' : World} {l : LogV} (h : LogW w base Lb B l) (k : Keeps base' ts w w') (h1 : 216 ∉ ts) (h2 : 137 ∉ ts) (h3 : 5 ∉ ts) : LogW w' base Lb B l := by
 obtain ⟨rs, hl, h⟩ := h
 exact ⟨rs, hl, h.keeps k h1 h2 h3⟩
theorem LogW.below {base Lb B : Nat} {w w' : World} {l : LogV} (h : LogW w base Lb B l) (k : Below w.heap.size w w') : LogW w' base Lb B l := by
 obtain ⟨rs, hl, h⟩ := h
 exact ⟨rs, hl, h.below k⟩
def AddOutW (w w' : World) (base Lb B : Nat) (r : Nat × DskV × LogV) (e : Ending) : Prop := e = .returned (.int .i64 r.1) ∧ LogW w' base Lb B r.2.2 ∧ Dsk w' base B r.2.1 ∧ Keeps base [121, 165, 167, 216, 137] w w'
theorem addW_any {w : World} {base Lb B : Nat} {l : LogV} {d : DskV} (hL : LogW w base Lb B l) (hD : Dsk w base B d) (hs : Steps w) (hb2 : 2 < base) (hat : l.at' ≤ l.begin l.use + l.half) (hw : d.waits.length + 65536 < 2 ^ 40) (hsz : l.size = d.size)
  (r : RecL) (hk : r.1 < 256) (A : Option Addr) (c : Nat) (hb : Byt w A r.2) (hn : r.2.length < 1099511627776) (hc : r.2.length ≤ c) :
  Calls Tryz.prog 129 #[.pointer (some ⟨Lb, 0, none⟩), .agg #[.int .u8 r.1, .slice A r.2.length c]] w fun e w' => AddOutW w w' base Lb B (addL d l r) e := by
 obtain ⟨rs, hl, hL⟩ := hL
 refine (add_any hL hD hs hb2 hat hw hsz r hk A c hb hn hc).mono ?_
 rintro e w' ⟨h1, h2, h3, h4⟩
 obtain ⟨rs', g1, g2⟩ := addL_re (d := d) (r := r) hl (show addL d l r = ((addL d l r).1, (addL d l r).2.1, (addL d l r).2.2) from rfl)
 rw [g2] at h1 h2 h3
 exact ⟨h1, ⟨rs', g1, h2⟩, h3, h4⟩
theorem syncW_any {w : World} {base Lb B : Nat} {l : LogV} {d : DskV} (h : LogW w base Lb B l) (hd : Dsk w base B d) :
  Calls Tryz.prog 73 #[.pointer (some ⟨Lb, 0, none⟩)] w fun e w' => WriteOut w w' base B (flushD d) e := by
 obtain ⟨rs, hl, h⟩ := h
 exact sync_any h hd
theorem epochW_any {w : World} {base Lb B : Nat} {l : LogV} (h : LogW w base Lb B l) :
  Calls Tryz.prog 159 #[.pointer (some ⟨Lb, 0, none⟩)] w fun e w' => e = .returned (.int .i64 (l.epoch : Nat)) ∧ w = w' := by
 obtain ⟨rs, hl, h⟩ := h
 have := epoch_any h
 exact this
end
end Go.Proofs.YtmgmfnimaafkdaaGreatDoor
