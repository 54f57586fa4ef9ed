/- The log that stands in sectors from the first one on, as far as it is right. -/
import Derived.Test.YtmgmfnimaafkdaaGreatDoorVN
namespace Go.Proofs.YtmgmfnimaafkdaaGreatDoor
section
open Go.RowKit Go.Maps
set_option maxRecDepth 100000

theorem loadGo_end {d : DskV} {l : LogV} (h : l.begin l.use + l.half ≤ l.at') : ∀ k, loadGo d k l = (0, l)
 | 0 => rfl
 | k + 1 => by unfold loadGo; rw [if_pos h]
theorem loadGo_down {d : DskV} {l : LogV} {k : Nat} {r : RecV} (h : ¬ l.begin l.use + l.half ≤ l.at') (hg : getP d l.at' = (10, r)) : loadGo d (k + 1) l = (10, l) := by
 unfold loadGo; rw [if_neg h, hg]; try rfl
theorem loadGo_err {d : DskV} {l : LogV} {k er : Nat} {r : RecV} (h : ¬ l.begin l.use + l.half ≤ l.at') (hg : getP d l.at' = (er, r)) (h0 : er ≠ 0) (h1 : er ≠ 10) : loadGo d (k + 1) l = (0, l) := by
 unfold loadGo; rw [if_neg h, hg]; try rfl
 split
 ·rename_i e; injection e with e _; exact absurd e h1
 ·rename_i e; injection e with e _; exact absurd e h0
 ·rfl
theorem loadGo_stop {d : DskV} {l : LogV} {k : Nat} {r : RecV} (h : ¬ l.begin l.use + l.half ≤ l.at') (hg : getP d l.at' = (0, r)) (hc : r.kind ≠ 82 ∨ r.mark ≠ l.epoch * MARKS + l.recs.length + 1 ∨ r.bytes = [] ∨ l.begin l.use + l.half - l.at' < r.many) : loadGo d (k + 1) l = (0, l) := by
 unfold loadGo; rw [if_neg h, hg]; simp only; rw [if_pos hc]
theorem loadGo_go {d : DskV} {l : LogV} {k : Nat} {r : RecV} (h : ¬ l.begin l.use + l.half ≤ l.at') (hg : getP d l.at' = (0, r)) (hc : ¬ (r.kind ≠ 82 ∨ r.mark ≠ l.epoch * MARKS + l.recs.length + 1 ∨ r.bytes = [] ∨ l.begin l.use + l.half - l.at' < r.many)) :
  loadGo d (k + 1) l = loadGo d k { l with recs := l.recs ++ [((r.bytes.headD 0).toNat, r.bytes.drop 1)], at' := l.at' + r.many } := by
 conv => lhs; unfold loadGo
 rw [if_neg h, hg]; simp only; rw [if_neg hc]
structure LoadR (w wr : World) (base Lb B : Nat) (d : DskV) (E0 ep : Nat) (q : Nat × LogV) (k : Nat) (lk : LogV) : Prop where
 log : Log wr base Lb B lk
 keep : Keeps base [216, 137] w wr
 same : lk.begin lk.use + lk.half = E0 ∧ lk.epoch = ep
 go : q = loadGo d k lk
 fuel : E0 < lk.at' + k
 few : lk.recs.length + k ≤ 1000000
def atOf (w : World) (Lb : Nat) : Int := match w.cell? ⟨Lb, 6, none⟩ with
 | some v => intOf v
 | none => 0
theorem Log.atOf {w : World} {base Lb B : Nat} {l : LogV} (h : Log w base Lb B l) : atOf w Lb = l.at' := by
 unfold Go.Proofs.YtmgmfnimaafkdaaGreatDoor.atOf
 rw [h.cells.2.2.2.2.2.2.2.1]
 rfl
theorem keeps_load {base : Nat} {w w' : World} {ts : List TypeId} (h : Keeps base ts w w') (ht : ∀ t ∈ ts, t ∈ [216, 137]) : Keeps base [216, 137] w w' := h.mono nR0 ht
theorem getGo_len {d : DskV} {at' : Nat} : ∀ (k i : Nat) (head : Sec) (out : List UInt8) (r : RecV), (0 < i → head.left ≤ 2 ^ 30) → getGo d at' k i head out = (0, r) → r.bytes.length ≤ 2 ^ 30
 | 0, i, head, out, r, _, hg => by unfold getGo at hg; simp at hg
 | k + 1, i, head, out, r, hh, hg => by
  unfold getGo at hg
  cases hr : readD d (at' + i) with
  | mk e s =>
   rw [hr] at hg
   cases e with
   | succ e => simp at hg
   | zero =>
    simp only at hg
    split at hg
    ·simp at hg
    ·cases hx : secOf s with
     | none => rw [hx] at hg; simp at hg
     | some x =>
      rw [hx] at hg
      have hx' := (secOf_bounds hx).2.2.1
      simp only at hg
      split at hg
      ·simp at hg
      ·split at hg
       ·simp at hg
       ·by_cases hi : i = 0
        ·simp only [if_pos hi] at hg
         split at hg
         ·rename_i hl
          injection hg with _ hg; subst hg; simp only; omega
         ·exact getGo_len k _ _ _ _ (fun _ => hx') hg
        ·simp only [if_neg hi] at hg
         have h0 := hh (by omega)
         split at hg
         ·rename_i hl
          injection hg with _ hg; subst hg; simp only; omega
         ·exact getGo_len k _ _ _ _ (fun _ => h0) hg
theorem getP_len {d : DskV} {at' : Nat} {r : RecV} (hg : getP d at' = (0, r)) : r.bytes.length ≤ 2 ^ 30 := by
 unfold getP at hg
 split at hg
 ·simp at hg
 ·exact getGo_len _ _ _ _ _ (fun h => absurd h (by omega)) hg
theorem headD_get {l : List UInt8} (h : 0 < l.length) : l.headD 0 = l[0] := by
 cases l with
 | nil => simp at h
 | cons a l => rfl
theorem load_push {w5 w9 : World} {base Lb B : Nat} {lk : LogV} {L : List RecM} {AL A9 A4 : Option Addr} {cL c9 c4 kd many : Nat} {bs : List UInt8} (h : LogR w5 base Lb B lk L AL cL) (hby : Byt w5 A4 bs) (hc : bs.length ≤ c4) (hkd : kd < 256) (hbl : bs.length < 1099511627776)
  (k59 : Keeps base [137] w5 w9) (hb9 : Blk w9 Lb 216 #[.pointer (some ⟨B, 0, none⟩), .int .i64 lk.frm, .int .i64 lk.half, .int .i64 lk.size, .int .i64 lk.use, .int .i64 lk.epoch, .int .i64 lk.at', .slice AL lk.recs.length cL])
  (hown : w9.ownsRow base 137 2 (.slice A9 (lk.recs.length + 1) c9) (lk.recs.length + 1) (recRows L ++ [.int .u8 kd, .slice A4 bs.length c4])) (ha : lk.at' + many ≤ 1048576) (hn : lk.recs.length + 1 ≤ 1000000) :
  Log ((w9.setCell ⟨Lb, 7, none⟩ (.slice A9 (lk.recs.length + 1) c9)).setCell ⟨Lb, 6, none⟩ (.int .i64 ((lk.at' : Int) + (many : Int)))) base Lb B { lk with recs := lk.recs ++ [(kd, bs)], at' := lk.at' + many } ∧
  Keeps base [216, 137] w5 ((w9.setCell ⟨Lb, 7, none⟩ (.slice A9 (lk.recs.length + 1) c9)).setCell ⟨Lb, 6, none⟩ (.int .i64 ((lk.at' : Int) + (many : Int)))) := by
 have s1 := hb9.set 7 (.slice A9 (lk.recs.length + 1) c9)
 have s2 := s1.set 6 (.int .i64 ((lk.at' : Int) + (many : Int)))
 have kx := ((Keeps.refl base [216] w9).set (o := 7) hb9 h.low (by simp) (.slice A9 (lk.recs.length + 1) c9)).set (o := 6) s1 h.low (by simp) (.int .i64 ((lk.at' : Int) + (many : Int)))
 have hl : (lk.recs ++ [(kd, bs)]).length = lk.recs.length + 1 := by simp
 refine ⟨⟨L ++ [((kd, bs), A4, c4)], A9, c9, h.low, ?_, ?_, ?_, ?_, h.b1, h.b2, h.b3, h.b4, h.b5, ha, by simp only [hl]; exact hn⟩, (keeps_load k59 (by simp)).trans (keeps_load kx (by simp))⟩
 ·simp only [hl, Int.natCast_add]; exact s2
 ·simp only [hl, recRows_append]; exact own_keeps hown kx (by decide)
 ·rw [List.map_append, h.rcs]; rfl
 ·intro z hz
  rcases List.mem_append.1 hz with hz | hz
  ·exact ((h.bod.keeps k59 (by decide)).keeps kx (by decide)) z hz
  ·rw [List.mem_singleton] at hz
   subst hz
   exact ⟨(hby.keeps k59 (by decide)).keeps kx (by decide), hc, hkd, hbl⟩
set_option maxHeartbeats 8000000 in
theorem load_any {w : World} {base Lb B : Nat} {l : LogV} {d : DskV} {E : Nat} (hL : Log w base Lb B l) (hD : Dsk w base B d) (hs : Steps w) (hb2 : 2 < base) (hF : Fine d E) (hr : l.recs.length + l.half + 1 ≤ 1000000) :
  Calls Tryz.prog 165 #[.pointer (some ⟨Lb, 0, none⟩)] w fun e w' => FindOut w w' base Lb B (loadGo d (l.half + 1) { l with at' := l.begin l.use + needP l.size 0 }) e := by
 obtain ⟨q, hq⟩ : ∃ q, q = loadGo d (l.half + 1) { l with at' := l.begin l.use + needP l.size 0 } := ⟨_, rfl⟩
 rw [← hq]
 obtain ⟨hlbl, hlow, _, _, _, _, _, _, fz0⟩ := hL.cells
 obtain ⟨g1, g2, g3, g4, g5, g6, g7⟩ := hL.bounds
 have hbw : base ≤ w.heap.size := by omega
 have hbgl := begin_le g1 g2 (k := l.use) g4
 have hndl : needP l.size 0 ≤ 1 := by
  unfold needP
  split
  ·omega
  ·have : (0 + (l.size - 18) - 1) / (l.size - 18) = 0 := Nat.div_eq_of_lt (by omega)
   rw [this]; decide
 have HBG := hZ9 (show ∀ wy, Below w.heap.size w wy → Calls Tryz.prog 164 #[.pointer (some ⟨Lb, 0, none⟩), .int .i64 l.use] wy fun e w' => e = .returned (.int .i64 (l.begin l.use : Nat)) ∧ Below wy.heap.size wy w' from fun wy hy => begin_any (hL.below hy) l.use g4)
 have HND := hZ9 (show ∀ wy, Calls Tryz.prog 56 #[.int .i64 l.size, .int .i64 0] wy fun e w' => e = .returned (.int .i64 (needP l.size 0 : Nat)) ∧ wy = w' from fun wy => pageNeed_any l.size 0 (by omega) (by decide) wy)
 have SK := hZ9 (show ∀ wy, Below w.heap.size w wy → wy.cell? ⟨Lb, 4, none⟩ = some (.int .i64 l.use) ∧ wy.cell? ⟨Lb, 2, none⟩ = some (.int .i64 l.half) from fun wy hy => ⟨(hL.below hy).cells.2.2.2.2.2.1, (hL.below hy).cells.2.2.2.1⟩)
 have S0 := hZ9 (SK.out _ bR0.drew)
 have HL := hZ9 hL
 have HD := hZ9 hD
 have HS := hZ9 hs
 have HF := hZ9 hF
 have HQ := hZ9 hq
 have HRC := hZ9 hr
 clear hL hD hs hF hq hr fz0
 obtain ⟨bg, hbg⟩ : ∃ bg, bg = l.begin l.use := ⟨_, rfl⟩
 obtain ⟨nd, hnd⟩ : ∃ nd, nd = needP l.size 0 := ⟨_, rfl⟩
 rw [← hbg] at hbgl HBG HQ
 rw [← hnd] at hndl HND HQ
 have HBGE := hZ9 hbg
 clear hbg hnd
 have QW1 : Hid (IntKind.i64.wrap ((bg : Int) + (l.half : Int)) = (bg : Int) + (l.half : Int)) := show IntKind.i64.wrap ((bg : Int) + (l.half : Int)) = (bg : Int) + (l.half : Int) from by rw [IntKind.wrap_i64]; omega
 have QW2 : Hid (IntKind.i64.wrap ((bg : Int) + (nd : Int)) = (bg : Int) + (nd : Int)) := show IntKind.i64.wrap ((bg : Int) + (nd : Int)) = (bg : Int) + (nd : Int) from by rw [IntKind.wrap_i64]; omega
 go_enter Tryz.func165, Tryz.ntmps165
 go_upto_region 1 with fail
 go_cut [3] (fun v wx => v = .int .i64 ((bg + l.half : Nat) : Int) ∧ Below w.heap.size w wx)
 case first =>
  go_region_held3 (fun wy => wy.cell? ⟨Lb, 4, none⟩ = some (.int .i64 l.use) ∧ wy.cell? ⟨Lb, 2, none⟩ = some (.int .i64 l.half))
   (first | exact SK.out _ HB2.out | exact S0.out)
   (first
    | (go_at_call 164; refine (HBG.out _ bR0.drew).mono ?_; rintro en w2 ⟨rfl, hb2⟩; (have HB2 : Hid (Below w.heap.size w w2) := bR0.drew.trans hb2); clear hb2))
  all_goals
   go_wp2_with fail
   go_meet
   exact ⟨by rw [Int.natCast_add, QW1.out], HB2.out⟩
 case rest =>
  obtain ⟨rfl, hb1⟩ := hcut
  have HB1 := hZ9 hb1
  have hL1 := HL.out.below hb1
  obtain ⟨lb1, _, _, _, c3, c4, _, c6, fz⟩ := hL1.cells
  have f6 := fz 6
  have hs1 := hb1.size
  have HBG1 := hZ9 (HBG.out wc.drew hb1.drew)
  clear hb1 hL1 fz
  go_upto_region 2 with fail
  go_cut [3] (fun v wx => v = .int .i64 ((bg + l.half : Nat) : Int) ∧ ∃ w2, Below w.heap.size w w2 ∧ wx = w2.setCell ⟨Lb, 6, none⟩ (.int .i64 ((bg + nd : Nat) : Int)))
  case first =>
   have e3 : wc.drew.cell? ⟨Lb, 3, none⟩ = some (.int .i64 l.size) := c3
   have e4 : wc.drew.cell? ⟨Lb, 4, none⟩ = some (.int .i64 l.use) := c4
   have e6 : wc.drew.cell? ⟨Lb, 6, none⟩ = some (.int .i64 l.at') := c6
   have h6 : wc.drew.frozen? ⟨Lb, 6, none⟩ = false := f6
   have l6 : Lb < wc.drew.heap.size := lb1
   go_region_law (first
    | (go_simp; go_at_call 164; refine HBG1.out.mono ?_; rintro en w2 ⟨rfl, hb2⟩; (have HB2 : Hid (Below w.heap.size w w2) := HB1.out.trans (((bR0.drew).trans hb2).mono HB1.out.size)); (obtain ⟨lb2, _, _, _, d3, d4, _, d6, fz2⟩ := (HL.out.below HB2.out).cells); (have f62 := fz2 6); clear hb2 fz2)
    | (go_simp; go_at_call 56; refine (HND.out _).mono ?_; rintro en w' ⟨rfl, rfl⟩))
   all_goals
    go_wp2_with fail
    go_meet
    exact ⟨rfl, _, HB2.out, by rw [Int.natCast_add, QW2.out]⟩
  case rest =>
   obtain ⟨rfl, w2, hb2, rfl⟩ := hcut
   obtain ⟨h1, h2⟩ := (HL.out.below hb2).setAt (bg + nd) (by omega)
   have HP0 : Hid (LoadR w (w2.setCell ⟨Lb, 6, none⟩ (.int .i64 ((bg + nd : Nat) : Int))) base Lb B d (bg + l.half) l.epoch q (l.half + 1) { l with at' := bg + nd }) :=
    ⟨h1, (Keeps.of_below hb2 hbw).trans (keeps_load h2 (by simp)), ⟨by rw [HBGE.out]; rfl, rfl⟩, HQ.out, by simp only; omega, by have := HRC.out; simp only; omega⟩
   clear h1 h2 hb2 c3 c4 c6 f6 lb1
   generalize w2.setCell ⟨Lb, 6, none⟩ (.int .i64 ((bg + nd : Nat) : Int)) = w3 at *
   obtain ⟨E0, hE0⟩ : ∃ E0, E0 = bg + l.half := ⟨_, rfl⟩
   have hE0b : E0 ≤ 262144 := by omega
   rw [← hE0] at HP0 ⊢
   obtain ⟨ep, hep⟩ : ∃ ep, ep = l.epoch := ⟨_, rfl⟩
   rw [← hep] at HP0 g5
   clear hE0 hep HB1 HBG1 HQ
   go_wp2_with fail
   go_loopw [4] (fun _ wr => ∃ (k : Nat) (lk : LogV), LoadR w wr base Lb B d E0 ep q k lk) (fun _ wr => ((E0 : Int) - atOf wr Lb).toNat)
   case atStart => exact ⟨_, _, HP0.out⟩
   case round =>
    obtain ⟨k, lk, hp⟩ := hrel
    have HP := hZ9 hp
    obtain ⟨lb4, _, c0, c2, c3, c4, c5, c6, fz⟩ := hp.log.cells
    obtain ⟨b1, b2, b3, b4, b5, b6, b7⟩ := hp.log.bounds
    have hbr : base ≤ wr.heap.size := by omega
    have hfuel := hp.fuel
    have hfew := hp.few
    have hsame := hp.same
    have HAT := hZ9 hp.log.atOf
    by_cases hlt : lk.at' < E0
    ·have hlt' : (lk.at' : Int) < E0 := by omega
     obtain ⟨k', rfl⟩ : ∃ k', k = k' + 1 := ⟨k - 1, by omega⟩
     have hnend : ¬ lk.begin lk.use + lk.half ≤ lk.at' := by omega
     obtain ⟨r, hr⟩ : ∃ r, getP d lk.at' = r := ⟨_, rfl⟩
     obtain ⟨er, r⟩ := r
     have HGET := hZ9 (show ∀ wy, Below wr.heap.size wr wy → Calls Tryz.prog 118 #[.pointer (some ⟨B, 0, none⟩), .int .i64 (lk.at' : Nat)] wy fun e w' => GetOut w' wy.heap.size (er, r) e ∧ Below wy.heap.size wy w' from fun wy hy => by
      have := recGet_any ((HD.out.keeps HP.out.keep (by decide) (by decide) (by decide) (by decide) (by decide)).below hy) ((HS.out.keeps HP.out.keep hb2).below hy) lk.at' (by omega)
      rw [hr] at this
      exact this)
     have HGE := hZ9 hr
     have HNE := hZ9 hnend
     have SK4 := hZ9 (show ∀ wy, Below wr.heap.size wr wy → wy.cell? ⟨Lb, 0, none⟩ = some (.pointer (some ⟨B, 0, none⟩)) ∧ wy.cell? ⟨Lb, 6, none⟩ = some (.int .i64 lk.at') from fun wy hy => ⟨(HP.out.log.below hy).cells.2.2.1, (HP.out.log.below hy).cells.2.2.2.2.2.2.2.1⟩)
     have S4 := hZ9 (SK4.out _ bR0.drew)
     clear hp hr c0 c2 c3 c4 c5 fz hnend
     by_cases he0 : er = 0
     ·subst he0
      obtain ⟨hmk, _⟩ := getP_mark HF.out HGE.out
      obtain ⟨hm1, hm2⟩ := getP_many HGE.out
      have hlen : d.lasts.length ≤ 65536 := by obtain ⟨m, h⟩ := HD.out; exact h.n1.2
      go_upto_region 4 with fail
      go_region_held3 (fun wy => wy.cell? ⟨Lb, 0, none⟩ = some (.pointer (some ⟨B, 0, none⟩)) ∧ wy.cell? ⟨Lb, 6, none⟩ = some (.int .i64 lk.at'))
       (first | exact SK4.out _ HB3.out | exact S4.out)
       (first
        | (go_at_call 118; refine (HGET.out _ bR0.drew).mono ?_; rintro en w4 ⟨hg3, hb3⟩; (obtain ⟨A3, c3, rfl, ho3, hc3⟩ := hg3.ok hmk); (have HB3 : Hid (Below wr.heap.size wr w4) := bR0.drew.trans hb3); (have HO3 := hZ9 ho3); clear hb3 hg3 ho3))
      have hsd := HP.out.log.below HB3.out
      obtain ⟨lb5, _, _, _, _, _, d5, d6, fz5⟩ := hsd.cells
      obtain ⟨L, AL, cL, hLR⟩ := hsd
      have d7 : w4.cell? ⟨Lb, 7, none⟩ = some (.slice AL lk.recs.length cL) := hLR.blk.cell 7
      have HLR4 := hZ9 hLR
      obtain ⟨nx, hnx⟩ : ∃ nx, nx = lk.epoch * MARKS + lk.recs.length + 1 := ⟨_, rfl⟩
      have hnxi : (nx : Int) = (ep : Int) * 1048576 + (lk.recs.length : Int) + 1 := by
       have hM : MARKS = 1048576 := rfl
       rw [hnx, hM, hsame.2]
       omega
      have HNX := hZ9 hnx
      have HNXI := hZ9 hnxi
      have hsz4 := HB3.out.size
      clear hnx hnxi hLR fz5
      go_upto_region 7 with fail
      go_quiet (fail)
      have HB5 : Hid (Below wr.heap.size wr (w4.drewN nq)) := bl_drewN HB3.out nq
      have HLR : Hid (LogR (w4.drewN nq) base Lb B lk L AL cL) := HLR4.out.below (bl_drewN bR0 nq)
      have HO5 : Hid ((w4.drewN nq).ownsRow wr.drew.heap.size 5 1 (.slice A3 r.bytes.length c3) r.bytes.length (r.bytes.map u8v)) := HO3.out
      have f6 : (w4.drewN nq).cell? ⟨Lb, 6, none⟩ = some (.int .i64 lk.at') := d6
      have f7 : (w4.drewN nq).cell? ⟨Lb, 7, none⟩ = some (.slice AL lk.recs.length cL) := d7
      have l5 : Lb < (w4.drewN nq).heap.size := lb5
      clear d5 d6 d7 lb5 HLR4 HO3 HB3 hsz4
      generalize w4.drewN nq = w5 at *
      by_cases h1 : r.kind = 82
      ·have h1' : ((r.kind : Int) != 82) = false := by simp; omega
       by_cases h2 : r.mark = nx
       ·have h2' : ((r.mark : Int) != (ep : Int) * 1048576 + (lk.recs.length : Int) + 1) = false := by rw [← HNXI.out]; simp; omega
        by_cases h3 : r.bytes = []
        ·have h3' : (((r.bytes.length : Nat) : Int) == 0) = true := by rw [h3]; rfl
         have hq9 : q = (0, lk) := by rw [HP.out.go, loadGo_stop HNE.out HGE.out (.inr (.inr (.inl h3)))]
         subst hq9
         clear h1 h2 h3
         go_wp2_with fail
         go_ret
         exact ⟨rfl, HP.out.log.below HB5.out, HP.out.keep.trans (Keeps.of_below HB5.out hbr)⟩
        ·have h3l : 0 < r.bytes.length := List.length_pos_iff.2 h3
         have h3' : (((r.bytes.length : Nat) : Int) == 0) = false := by simp; omega
         by_cases h4 : E0 - lk.at' < r.many
         ·have h4' : (E0 : Int) - (lk.at' : Int) < (r.many : Int) := by omega
          have hq9 : q = (0, lk) := by rw [HP.out.go, loadGo_stop HNE.out HGE.out (.inr (.inr (.inr (by rw [hsame.1]; exact h4))))]
          subst hq9
          clear h1 h2 h3 h4
          go_wp2_with fail
          go_ret
          exact ⟨rfl, HP.out.log.below HB5.out, HP.out.keep.trans (Keeps.of_below HB5.out hbr)⟩
         ·have h4' : ¬ (E0 : Int) - (lk.at' : Int) < (r.many : Int) := by omega
          have HC := hZ9 (show ¬ (r.kind ≠ 82 ∨ r.mark ≠ lk.epoch * MARKS + lk.recs.length + 1 ∨ r.bytes = [] ∨ lk.begin lk.use + lk.half - lk.at' < r.many) from by
           rw [← HNX.out, hsame.1]
           simp only [not_or, Classical.not_not]
           exact ⟨h1, h2, h3, h4⟩)
          clear h1 h2 h3 h4
          obtain ⟨g, rfl, hg1, hg2, _⟩ := own_at HO5.out h3l
          obtain ⟨bb, bo, hbe, _, _, hcs⟩ := (Byt.of_own HO5.out).at h3l
          injection hbe with hbe
          injection hbe with hbe1 hbe2
          subst hbe1
          subst hbe2
          have y0 : w5.cell? ⟨g, 0, none⟩ = some (.int .u8 (r.bytes[0]).toNat) := hcs 0 h3l
          obtain ⟨i0, hi0, hz0, hz1, hz2⟩ := info_parts info137
          obtain ⟨A4, hA4⟩ : ∃ A4, (if c3 = 1 then (some ⟨g, 0, none⟩ : Option Addr) else some ⟨g, 1, none⟩) = A4 := ⟨_, rfl⟩
          have HBY : Hid (Byt w5 A4 (r.bytes.drop 1)) := show Byt w5 A4 (r.bytes.drop 1) from by
           by_cases hc1 : c3 = 1
           ·have : r.bytes.drop 1 = [] := List.drop_of_length_le (by omega)
            rw [this]; exact Byt.nil
           ·rw [if_neg hc1] at hA4
            have := (Byt.of_own HO5.out).sub (i := 1) (k := r.bytes.length - 1) (by omega)
            rw [List.take_of_length_le (by simp), hA4] at this
            exact this
          have hdl : (r.bytes.drop 1).length = r.bytes.length - 1 := by simp
          have HDL := hZ9 hdl
          have hhd : (r.bytes.headD 0).toNat = (r.bytes[0]).toNat := by rw [headD_get h3l]
          have HHD := hZ9 hhd
          have hb256 := (r.bytes[0]).toNat_lt
          have HC3 : Hid (r.bytes.length ≤ c3) := show r.bytes.length ≤ c3 from hc3
          have HFU : Hid (E0 < lk.at' + (k' + 1)) := show E0 < lk.at' + (k' + 1) from hfuel
          have h3i : (1 : Int) ≤ ((r.bytes.length : Nat) : Int) := by omega
          generalize hb0 : (r.bytes[0]).toNat = b0 at *
          have hbl5 : r.bytes.length < 1099511627776 := by have := getP_len HGE.out; omega
          have z7 := HLR.out.blk.free 7
          have z6 := HLR.out.blk.free 6
          have hbr5 : base ≤ w5.heap.size := Nat.le_trans hbr HB5.out.size
          have HBD := hZ9 (show Blk (w5.alloc (.cells #[.int .u8 b0, .slice A4 (r.bytes.length - 1) (c3 - 1)] 137)).drew Lb 216 #[.pointer (some ⟨B, 0, none⟩), .int .i64 lk.frm, .int .i64 lk.half, .int .i64 lk.size, .int .i64 lk.use, .int .i64 lk.epoch, .int .i64 lk.at', .slice AL lk.recs.length cL] from HLR.out.blk.alloc _)
          have HOR := hZ9 (show (w5.alloc (.cells #[.int .u8 b0, .slice A4 (r.bytes.length - 1) (c3 - 1)] 137)).drew.ownsRow base 137 2 (.slice AL lk.recs.length cL) lk.recs.length (recRows L) from own_keep_alloc HLR.out.own _)
          have HRD := hZ9 (show Rd (w5.alloc (.cells #[.int .u8 b0, .slice A4 (r.bytes.length - 1) (c3 - 1)] 137)).drew (w5.alloc (.cells #[.int .u8 b0, .slice A4 (r.bytes.length - 1) (c3 - 1)] 137)).drew.heap.size 2 (some ⟨w5.heap.size, 0, none⟩) 1 [.int .u8 b0, .slice A4 (r.bytes.length - 1) (c3 - 1)] from sl_rd (Sl.of_blk (sz := 2) (n := 1) (Blk.new w5 137 _) rfl))
          have H1C : Hid (∀ u ∈ ([.int .u8 b0, .slice A4 (r.bytes.length - 1) (c3 - 1)] : List Value), u.oneCell' = true) := by
           show ∀ u ∈ ([.int .u8 b0, .slice A4 (r.bytes.length - 1) (c3 - 1)] : List Value), u.oneCell' = true
           simp [Value.oneCell']
          have hl6 : lk.recs.length ≤ 1000000 := b7
          clear hdl hhd hcs hb0
          go_upto_region 9 with fail
          go_region_law (first
           | (refine step_append_rd _ (by rfl) _ _ _ (by rfl) base 137 i0 _ 2 32 under134 hi0 hz0 hz1 hz2 rfl (by decide) (.slice AL lk.recs.length cL) lk.recs.length (recRows L) (by rfl) HOR.out (some ⟨w5.heap.size, 0, none⟩) 1 1 _ [.int .u8 b0, .slice A4 (r.bytes.length - 1) (c3 - 1)] (by rfl) HRD.out H1C.out (by unfold maxLen; omega) (by omega) (by simp; omega) ?_; intro A9 c9 w9 hown9 hgr9 hnc9; (have hb9 := HBD.out.grown hgr9 (own_ne HOR.out HBD.out (by decide))); (have e9 : w9.cell? ⟨Lb, 7, none⟩ = some (.slice AL lk.recs.length cL) := hb9.cell 7); (have e96 : w9.cell? ⟨Lb, 6, none⟩ = some (.int .i64 lk.at') := hb9.cell 6); (have z9 := hb9.free 7); (have z96 := hb9.free 6); (have l9 := hb9.lt); (have HB9 := hZ9 hb9); (have HOWN9 := hZ9 hown9); (have HGR9 := hZ9 hgr9); clear hown9 hgr9 hb9))
          all_goals
           go_wp2_with fail
           have k59 : Keeps base [137] w5 w9 := (Keeps.of_below (bR0.alloc nR0 _).drew hbr5).trans (keeps_own_grown HOR.out HGR9.out (by simp; omega))
           obtain ⟨hlf, hkf⟩ := load_push (many := r.many) (c4 := c3 - 1) (kd := b0) HLR.out HBY.out (by have := HC3.out; rw [HDL.out]; omega) (by omega) (by rw [HDL.out]; omega) k59 HB9.out (by rw [HDL.out]; exact HOWN9.out) (by omega) (by omega)
           have hge : q = loadGo d k' { lk with recs := lk.recs ++ [(b0, r.bytes.drop 1)], at' := lk.at' + r.many } := by
            rw [HP.out.go, loadGo_go HNE.out HGE.out HC.out, HHD.out]
           go_roundw
           case rel => exact ⟨k', { lk with recs := lk.recs ++ [(b0, r.bytes.drop 1)], at' := lk.at' + r.many }, hlf, (HP.out.keep.trans (Keeps.of_below HB5.out hbr)).trans hkf, hsame, hge, by have := HFU.out; show E0 < lk.at' + r.many + k'; omega, by show (lk.recs ++ [(b0, r.bytes.drop 1)]).length + k' ≤ 1000000; rw [List.length_append, List.length_singleton]; omega⟩
           case measure =>
            have e1 := hlf.atOf
            try simp only at e1
            rw [HAT.out, e1]
            omega
       ·have h2' : ((r.mark : Int) != (ep : Int) * 1048576 + (lk.recs.length : Int) + 1) = true := by rw [← HNXI.out]; simp; omega
        have hq9 : q = (0, lk) := by rw [HP.out.go, loadGo_stop HNE.out HGE.out (.inr (.inl (by rw [← HNX.out]; exact h2)))]
        subst hq9
        clear h1 h2
        go_wp2_with fail
        go_ret
        exact ⟨rfl, HP.out.log.below HB5.out, HP.out.keep.trans (Keeps.of_below HB5.out hbr)⟩
      ·have h1' : ((r.kind : Int) != 82) = true := by simp; omega
       have hq9 : q = (0, lk) := by rw [HP.out.go, loadGo_stop HNE.out HGE.out (.inl h1)]
       subst hq9
       clear h1
       go_wp2_with fail
       go_ret
       exact ⟨rfl, HP.out.log.below HB5.out, HP.out.keep.trans (Keeps.of_below HB5.out hbr)⟩
     ·obtain ⟨L, AL, cL, hLR⟩ := HP.out.log
      have SK7 := hZ9 (show ∀ wy, Below wr.heap.size wr wy → wy.cell? ⟨Lb, 7, none⟩ = some (.slice AL lk.recs.length cL) ∧ wy.cell? ⟨Lb, 5, none⟩ = some (.int .i64 lk.epoch) from fun wy hy => by
       have hb := hLR.blk.below hy hLR.blk.lt
       exact ⟨hb.cell 7, hb.cell 5⟩)
      clear hLR
      go_upto_region 4 with fail
      go_region_held3 (fun wy => wy.cell? ⟨Lb, 0, none⟩ = some (.pointer (some ⟨B, 0, none⟩)) ∧ wy.cell? ⟨Lb, 6, none⟩ = some (.int .i64 lk.at'))
       (first | exact SK4.out _ HB3.out | exact S4.out)
       (first
        | (go_at_call 118; refine (HGET.out _ bR0.drew).mono ?_; rintro en w4 ⟨hg3, hb3⟩; (obtain rfl := hg3.no he0); (have HB3 : Hid (Below wr.heap.size wr w4) := bR0.drew.trans hb3); clear hb3 hg3))
      by_cases he1 : er = 10
      ·subst he1
       have hq9 : q = (10, lk) := by rw [HP.out.go, loadGo_down HNE.out HGE.out]
       subst hq9
       go_wp2_with fail
       go_ret
       exact ⟨rfl, HP.out.log.below HB3.out, HP.out.keep.trans (Keeps.of_below HB3.out hbr)⟩
      ·have h1' : ((er : Int) == 10) = false := by simp; omega
       have h0' : ((er : Int) != 0) = true := by simp; omega
       have hq9 : q = (0, lk) := by rw [HP.out.go, loadGo_err HNE.out HGE.out he0 he1]
       obtain ⟨s7, s5⟩ := SK7.out _ HB3.out
       have l4 : Lb < w4.heap.size := Nat.lt_of_lt_of_le lb4 HB3.out.size
       subst hq9
       go_upto_region 7 with fail
       go_quiet (fail)
       go_wp2_with fail
       go_ret
       exact ⟨rfl, HP.out.log.below (bl_drewN HB3.out _), HP.out.keep.trans (Keeps.of_below (bl_drewN HB3.out _) hbr)⟩
    ·have hq9 : q = (0, lk) := by rw [hp.go, loadGo_end (by omega)]
     have hlt' : ¬ (lk.at' : Int) < E0 := by omega
     subst hq9
     clear hp
     go_wp2_with fail
     go_ret
     exact ⟨rfl, HP.out.log, HP.out.keep⟩
end
section
open Go.RowKit Go.Maps
set_option maxRecDepth 100000

def OpenLOut (w w' : World) (base B : Nat) (r : Nat × DskV × LogV) (e : Ending) : Prop :=
 ((r.1 = 0 ∧ ∃ Lb, e = .returned (.tuple #[.pointer (some ⟨Lb, 0, none⟩), .int .i64 0]) ∧ Log w' base Lb B r.2.2) ∨ (r.1 ≠ 0 ∧ e = .returned (.tuple #[.pointer none, .int .i64 r.1]))) ∧ Dsk w' base B r.2.1 ∧ Keeps base [121, 165, 167, 216, 137] w w'
set_option maxHeartbeats 8000000 in
theorem openL_any {w : World} {base B : Nat} {d : DskV} {E : Nat} (hD : Dsk w base B d) (hs : Steps w) (hb2 : 2 < base) (hF : Fine d E) (hE : E + 1 < 549755813888) (hw : d.waits.length + 137438953472 < 2 ^ 40) (h19 : 19 ≤ d.size) (q0 : Nat) (hq4 : 4 ≤ q0) (hql : q0 ≤ d.lasts.length) :
  Calls Tryz.prog 57 #[.pointer (some ⟨B, 0, none⟩), .int .i64 0, .int .i64 q0] w fun e w' => OpenLOut w w' base B (openL d 0 q0) e := by
 have hsz : 16 ≤ d.size ∧ d.size ≤ 4096 := by obtain ⟨m, h⟩ := hD; exact h.sz
 have hlen : d.lasts.length ≤ 65536 := by obtain ⟨m, h⟩ := hD; exact h.n1.2
 have hbw : base ≤ w.heap.size := by obtain ⟨m, h⟩ := hD; have := h.low.1; have := h.blk.lt; omega
 obtain ⟨q, hq⟩ : ∃ q, q = openL d 0 q0 := ⟨_, rfl⟩
 rw [← hq]
 unfold openL at hq
 simp only at hq
 rw [if_neg (by omega)] at hq
 have HD := hZ9 hD
 have HS := hZ9 hs
 have HF := hZ9 hF
 have HQ := hZ9 hq
 have HSZ := hZ9 (show ∀ wy, Below w.heap.size w wy → Calls Tryz.prog 55 #[.pointer (some ⟨B, 0, none⟩)] wy fun e w' => e = .returned (.tuple #[.int .i64 d.lasts.length, .int .i64 d.size]) ∧ Below wy.heap.size wy w' from fun wy hy => diskSize_any (hD.below hy))
 clear hD hs hF hq
 have i1 : ¬ ((d.size : Int) < 19) := by omega
 have i2 : ¬ ((q0 : Int) < 4) := by omega
 have i3 : ¬ (d.lasts.length < q0) := by omega
 have i4 : ¬ ((d.lasts.length : Int) - (q0 : Int) < 0) := by omega
 go_enter Tryz.func57, Tryz.ntmps57
 go_upto_region 5 with (go_at_call 55; refine (HSZ.out _ bR0).mono ?_; rintro en w1 ⟨rfl, hb1⟩; (have HB1 := hZ9 hb1); (have hs1 := hb1.size); clear hb1)
 obtain ⟨hf, hhf⟩ : ∃ hf, hf = q0 / 2 := ⟨_, rfl⟩
 have hhi : (q0 : Int) / 2 = (hf : Int) := by omega
 rw [hhi]
 have hx := Blk.new w1 216 #[.pointer (some ⟨B, 0, none⟩), .int .i64 0, .int .i64 hf, .int .i64 d.size, .int .i64 0, .int .i64 0, .int .i64 0, .slice none 0 0]
 have hb2' : Below w.heap.size w (w1.alloc (.cells #[.pointer (some ⟨B, 0, none⟩), .int .i64 0, .int .i64 hf, .int .i64 d.size, .int .i64 0, .int .i64 0, .int .i64 0, .slice none 0 0] 216)) := HB1.out.alloc HB1.out.size _
 have hL0 : Log (w1.alloc (.cells #[.pointer (some ⟨B, 0, none⟩), .int .i64 0, .int .i64 hf, .int .i64 d.size, .int .i64 0, .int .i64 0, .int .i64 0, .slice none 0 0] 216)) base w1.heap.size B ⟨0, hf, d.size, 0, 0, 0, []⟩ :=
  ⟨[], none, 0, by omega, hx, own_nil _ _ _ _, rfl, (fun x hx => by cases hx), by simp, by simp only; omega, by simp only; omega, by simp, by simp, by simp, by simp⟩
 generalize w1.alloc (.cells #[.pointer (some ⟨B, 0, none⟩), .int .i64 0, .int .i64 hf, .int .i64 d.size, .int .i64 0, .int .i64 0, .int .i64 0, .slice none 0 0] 216) = w2 at *
 generalize w1.heap.size = Lb at *
 have HB2 := hZ9 hb2'
 have HL0 := hZ9 hL0
 rw [← hhf] at HQ
 have HFI := hZ9 (show Calls Tryz.prog 111 #[.pointer (some ⟨Lb, 0, none⟩)] w2 (fun e w' => FindOut w2 w' base Lb B (findL d ⟨0, hf, d.size, 0, 0, 0, []⟩) e) from
  find_any HL0.out (HD.out.below HB2.out) (HS.out.below HB2.out) hb2 HF.out (by omega) fun wy ly hk hly hfd hrc => load_any hly ((HD.out.below HB2.out).keeps hk (by decide) (by decide) (by decide) (by decide) (by decide)) ((HS.out.below HB2.out).keeps hk hb2) hb2 HF.out (by rw [hrc, hfd.half]; simp only [List.length_nil]; omega))
 have hfb : hf ≤ 65536 := by omega
 clear hx hb2' hL0 hhf hhi
 obtain ⟨er, l1, hfl⟩ : ∃ er l1, findL d ⟨0, hf, d.size, 0, 0, 0, []⟩ = (er, l1) := ⟨_, _, rfl⟩
 rw [hfl] at HFI
 replace HFI : Hid (Calls Tryz.prog 111 #[.pointer (some ⟨Lb, 0, none⟩)] w2 fun e w' => e = .returned (.int .i64 (er : Nat)) ∧ Log w' base Lb B l1 ∧ Keeps base [216, 137] w2 w') := HFI.out
 obtain ⟨hfd, hrl⟩ := findL_found HF.out rfl hfl
 have HFL := hZ9 hfl
 have HFD := hZ9 hfd
 clear hfl hfd
 by_cases he0 : er = 0
 ·subst he0
  have hq1 : q = turnGo d l1 l1.recs := by rw [HQ.out, HFL.out]; rfl
  have HQ1 := hZ9 hq1
  clear hq1
  go_upto_region 8 with (go_at_call 111; refine HFI.out.mono ?_; rintro en w3 ⟨rfl, h3, k3⟩; (have H3 := hZ9 h3); (have K3 := hZ9 k3); clear h3 k3)
  obtain ⟨L, A, c, hLR⟩ := H3.out
  have hll : L.length = l1.recs.length := by have := congrArg List.length hLR.rcs; simpa using this
  have c7 : w3.cell? ⟨Lb, 7, none⟩ = some (.slice A L.length c) := by rw [hll]; exact hLR.blk.cell 7
  have lbl := hLR.blk.lt
  have ho := hLR.own
  rw [← hll] at ho
  have hL6 : L.length ≤ 1000000 := by have := hLR.b7; omega
  have HCP := hZ9 (show Calls Tryz.prog 113 #[.slice A L.length c] w3 fun e w' => CopyOut w3 w' L e from copied_any L A c (Sl.of_own ho) hLR.bod hL6)
  have HRC := hZ9 hLR.rcs
  have hbw3 : base ≤ w3.heap.size := by have := hLR.low; omega
  have HW23 := hZ9 ((Keeps.of_below (base := base) (ts := [216, 137]) HB2.out hbw).trans K3.out)
  have HTU := hZ9 (show ∀ wy (K' : List RecM) A' c', Below w3.heap.size w3 wy → K'.map (·.1) = L.map (·.1) → wy.ownsRow base 137 2 (.slice A' L.length c') L.length (recRows K') → Bods wy K' → Calls Tryz.prog 112 #[.pointer (some ⟨Lb, 0, none⟩), .slice A' L.length c'] wy fun e w' => AddOut wy w' base Lb B q e from fun wy K' A' c' hy hm ho hbd => by
   have hl : K'.length = L.length := by simpa using congrArg List.length hm
   rw [← hl] at ho ⊢
   have := turn_any (H3.out.below hy) ((HD.out.keeps HW23.out (by decide) (by decide) (by decide) (by decide) (by decide)).below hy) ((HS.out.keeps HW23.out hb2).below hy) hb2 hw HFD.out.size (by have := HFD.out.epoch; omega) K' A' c' ho hbd (by rw [hl]; exact hL6)
   rw [hm, HRC.out, ← HQ1.out] at this
   exact this)
  obtain ⟨e1, d1, l2⟩ := q
  replace HTU : Hid (∀ wy (K' : List RecM) A' c', Below w3.heap.size w3 wy → K'.map (·.1) = L.map (·.1) → wy.ownsRow base 137 2 (.slice A' L.length c') L.length (recRows K') → Bods wy K' → Calls Tryz.prog 112 #[.pointer (some ⟨Lb, 0, none⟩), .slice A' L.length c'] wy fun e w' => e = .returned (.int .i64 (e1 : Nat)) ∧ Log w' base Lb B l2 ∧ Dsk w' base B d1 ∧ Keeps base [121, 165, 167, 216, 137] wy w') := HTU.out
  clear hLR ho hll
  by_cases he1 : e1 = 0
  ·subst he1
   go_wp2_with (first
    | (go_at_call 113; refine HCP.out.mono ?_; rintro en w4 ⟨⟨K', A', c', rfl, ho', hm', hbd', hc'⟩, hb4⟩; (have HB4 := hZ9 hb4); (have HTU2 := hZ9 (HTU.out w4 K' A' c' hb4 hm' (own_base ho' hbw3) hbd')); clear ho' hm' hbd' hb4)
    | (go_at_call 112; refine HTU2.out.mono ?_; rintro en w5 ⟨rfl, hl5, hd5, hk5⟩; (have HL5 := hZ9 hl5); (have HD5 := hZ9 hd5); (have HK5 := hZ9 hk5); clear hl5 hd5 hk5))
   go_ret2
   exact ⟨.inl ⟨rfl, Lb, rfl, HL5.out⟩, HD5.out, ((keeps_log HW23.out (by simp)).trans (Keeps.of_below HB4.out hbw3)).trans HK5.out⟩
  ·have hen : ((e1 : Int) != 0) = true := by simp; omega
   go_wp2_with (first
    | (go_at_call 113; refine HCP.out.mono ?_; rintro en w4 ⟨⟨K', A', c', rfl, ho', hm', hbd', hc'⟩, hb4⟩; (have HB4 := hZ9 hb4); (have HTU2 := hZ9 (HTU.out w4 K' A' c' hb4 hm' (own_base ho' hbw3) hbd')); clear ho' hm' hbd' hb4)
    | (go_at_call 112; refine HTU2.out.mono ?_; rintro en w5 ⟨rfl, hl5, hd5, hk5⟩; (have HL5 := hZ9 hl5); (have HD5 := hZ9 hd5); (have HK5 := hZ9 hk5); clear hl5 hd5 hk5))
   go_ret2
   exact ⟨.inr ⟨he1, rfl⟩, HD5.out, ((keeps_log HW23.out (by simp)).trans (Keeps.of_below HB4.out hbw3)).trans HK5.out⟩
 ·have hq1 : q = (er, d, l1) := by
   rw [HQ.out, HFL.out]
   cases er with
   | zero => exact absurd rfl he0
   | succ e => rfl
  have hen : ((er : Int) != 0) = true := by simp; omega
  subst hq1
  go_wp2_with (go_at_call 111; refine HFI.out.mono ?_; rintro en w3 ⟨rfl, h3, k3⟩; (have H3 := hZ9 h3); (have K3 := hZ9 k3); clear h3 k3)
  go_ret2
  have kk := (Keeps.of_below (base := base) (ts := [216, 137]) HB2.out hbw).trans K3.out
  exact ⟨.inr ⟨he0, rfl⟩, HD.out.keeps kk (by decide) (by decide) (by decide) (by decide) (by decide), keeps_log kk (by simp)⟩
end
end Go.Proofs.YtmgmfnimaafkdaaGreatDoor
