/- A record put behind the log's others. -/
import Derived.Test.YtmgmfnimaafkdaaGreatDoorVK
import Derived.Test.YtmgmfnimaafkdaaGreatDoorVA
namespace Go.Proofs.YtmgmfnimaafkdaaGreatDoor
open Go.RowKit Go.Maps
set_option maxRecDepth 100000

theorem all_any {w : World} {base Lb B : Nat} {l : LogV} (h : Log w base Lb B l) : Calls Tryz.prog 59 #[.pointer (some ⟨Lb, 0, none⟩)] w fun e w' => ∃ L : List RecM, L.map (·.1) = l.recs ∧ CopyOut w w' L e := by
 obtain ⟨L, A, c, h⟩ := h
 have hlt := h.blk.lt
 have e7 : w.cell? ⟨Lb, 7, none⟩ = some (.slice A l.recs.length c) := h.blk.cell 7
 have hl : L.length = l.recs.length := by have := congrArg List.length h.rcs; simpa using this
 have ho := h.own
 rw [← hl] at e7 ho
 have HC := hZ9 (copied_any L A c (Sl.of_own ho) h.bod (by rw [hl]; exact h.b7))
 have HR := hZ9 h.rcs
 clear h ho hl
 go_enter Tryz.func59, Tryz.ntmps59
 go_wp2_with (go_at_call 113; refine HC.out.mono ?_; rintro en w2 ⟨⟨L', A', c', rfl, h1⟩, h2⟩)
 go_ret
 exact ⟨L, HR.out, ⟨L', A', c', rfl, h1⟩, h2⟩
def AddOut (w w' : World) (base Lb B : Nat) (r : Nat × DskV × LogV) (e : Ending) : Prop := e = .returned (.int .i64 r.1) ∧ Log w' base Lb B r.2.2 ∧ Dsk w' base B r.2.1 ∧ Keeps base [121, 165, 167, 216, 137] w w'
theorem keeps_log {base : Nat} {w w' : World} {ts : List TypeId} (h : Keeps base ts w w') (ht : ∀ t ∈ ts, t ∈ [121, 165, 167, 216, 137]) : Keeps base [121, 165, 167, 216, 137] w w' := h.mono nR0 ht
theorem putP_n {d d' : DskV} {a k m n : Nat} {b : List UInt8} (h : putP d a k m b = (n, 0, d')) : n = needP d.size b.length := by
 unfold putP at h
 split at h
 ·simp at h
 ·split at h
  ·simp at h
  ·cases hg : putGo k m b d.size a (needP d.size b.length) 0 d with
   | mk e1 d1 =>
    rw [hg] at h
    cases e1 with
    | zero => injection h with h _; exact h.symm
    | succ e1 => injection h with _ h; injection h with h _; exact absurd h (by simp)
theorem mark_lt (e n : Nat) (he : e < 549755813888) (hn : n ≤ 1000000) : e * MARKS + n + 1 < 2 ^ 63 := by
 have h : MARKS = 1048576 := rfl
 rw [h]
 have : (2 : Nat) ^ 63 = 9223372036854775808 := by decide
 rw [this]
 omega
theorem mark_wrap (e n : Nat) (he : e < 549755813888) (hn : n ≤ 1000000) : ((e * MARKS + n + 1 : Nat) : Int) = IntKind.i64.wrap (IntKind.i64.wrap (IntKind.i64.wrap ((e : Int) * 1048576) + (n : Int)) + 1) := by
 have h : MARKS = 1048576 := rfl
 have h1 : IntKind.i64.wrap ((e : Int) * 1048576) = (e : Int) * 1048576 := by rw [IntKind.wrap_i64]; omega
 have h2 : IntKind.i64.wrap ((e : Int) * 1048576 + (n : Int)) = (e : Int) * 1048576 + (n : Int) := by rw [IntKind.wrap_i64]; omega
 have h3 : IntKind.i64.wrap ((e : Int) * 1048576 + (n : Int) + 1) = (e : Int) * 1048576 + (n : Int) + 1 := by rw [IntKind.wrap_i64]; omega
 rw [h1, h2, h3, h]
 omega
set_option maxHeartbeats 4000000 in
theorem add_any {w : World} {base Lb B : Nat} {l : LogV} {d : DskV} (hL : Log w base Lb B l) (hD : Dsk w base B d) (hs : Steps w) (hb2 : 2 < base) (hat : l.at' ≤ l.begin l.use + l.half) (hw : d.waits.length + 65536 < 2 ^ 40) (hsz : l.size = d.size)
  (r : RecL) (hk : r.1 < 256) (A : Option Addr) (c : Nat) (hb : Byt w A r.2) (hn : r.2.length < 1099511627776) (hc : r.2.length ≤ c) :
  Calls Tryz.prog 129 #[.pointer (some ⟨Lb, 0, none⟩), .agg #[.int .u8 r.1, .slice A r.2.length c]] w fun e w' => AddOut w w' base Lb B (addL d l r) e := by
 have hbw : base ≤ w.heap.size := by obtain ⟨L, A', c', h⟩ := hL; have := h.low; have := h.blk.lt; omega
 have hb0 : Below w.heap.size w (w.alloc (.cells #[.int .u8 r.1, .slice A r.2.length c] 137)) := bR0.alloc nR0 _
 have hx0 := Blk.new w 137 #[.int .u8 r.1, .slice A r.2.length c]
 have HB0 := hZ9 hb0
 have HX0 := hZ9 hx0
 have HL := hZ9 hL
 have HD := hZ9 hD
 have HS := hZ9 hs
 have HBY := hZ9 hb
 obtain ⟨q, hq⟩ : ∃ q, q = addL d l r := ⟨_, rfl⟩
 rw [← hq]
 unfold addL at hq
 clear hb0 hx0 hL hD hs hb
 by_cases h1 : 4000 < r.2.length
 ·rw [if_pos h1] at hq
  subst hq
  have h1' : (4000 : Int) < r.2.length := by omega
  go_enter Tryz.func129, Tryz.ntmps129
  go_wp2_with fail
  go_ret
  exact ⟨rfl, HL.out.below HB0.out, HD.out.below HB0.out, Keeps.of_below HB0.out hbw⟩
 ·rw [if_neg h1] at hq
  have HN := hZ9 (show ∀ wy, Below w.heap.size w wy → Calls Tryz.prog 122 #[.pointer (some ⟨Lb, 0, none⟩), .agg #[.int .u8 r.1, .slice A r.2.length c]] wy fun e w' => e = .returned (.int .i64 (l.needR r : Nat)) ∧ Below wy.heap.size wy w' from fun wy hy => need_any (HL.out.below hy) r A c hn)
  have HF := hZ9 (show ∀ wy, Below w.heap.size w wy → Calls Tryz.prog 174 #[.pointer (some ⟨Lb, 0, none⟩)] wy fun e w' => e = .returned (.int .i64 (l.left : Nat)) ∧ Below wy.heap.size wy w' from fun wy hy => left_any (HL.out.below hy) hat)
  have HQ := hZ9 hq
  have h1' : ¬ (4000 : Int) < r.2.length := by omega
  have hle : l.left ≤ 262144 := by
   obtain ⟨L, A', c', h⟩ := HL.out
   have := h.b1
   have := h.b2
   have := half_mul l.use l.half h.b4
   unfold LogV.left LogV.begin
   omega
  have hnr : l.needR r ≤ 1099511627776 := by
   unfold LogV.needR needP
   split
   ·omega
   ·have : (1 + r.2.length + (l.size - 18) - 1) / (l.size - 18) ≤ 1 + r.2.length + (l.size - 18) - 1 := Nat.div_le_self _ _
    have h2 : l.size ≤ 65536 := by obtain ⟨L, A', c', h⟩ := HL.out; exact h.b3
    omega
  clear hq
  generalize hnre : l.needR r = nr at *
  generalize hlfe : l.left = lf at *
  obtain ⟨L, AL, cL, hLR⟩ := HL.out
  have hlbl := hLR.blk.lt
  have hlow := hLR.low
  have b5 := hLR.b5
  have b6 := hLR.b6
  have b7 := hLR.b7
  have SK := hZ9 (show ∀ wy, Below w.heap.size w wy → wy.cell? ⟨Lb, 0, none⟩ = some (.pointer (some ⟨B, 0, none⟩)) ∧ wy.cell? ⟨Lb, 6, none⟩ = some (.int .i64 l.at') ∧ wy.cell? ⟨Lb, 5, none⟩ = some (.int .i64 l.epoch) ∧ wy.cell? ⟨Lb, 7, none⟩ = some (.slice AL l.recs.length cL) from fun wy hy => by
   have hb := hLR.blk.below hy hlbl
   exact ⟨hb.cell 0, hb.cell 6, hb.cell 5, hb.cell 7⟩)
  have HLR := hZ9 hLR
  clear hLR
  by_cases g1 : lf < nr
  ·have hq9 : q = (5, d, l) := by rw [HQ.out, if_pos (.inl g1)]
   subst hq9
   go_enter Tryz.func129, Tryz.ntmps129
   go_wp2_with (first
    | (go_at_call 122; refine (HN.out _ HB0.out).mono ?_; rintro en w2 ⟨rfl, hb2'⟩; (have HB2 := hZ9 (HB0.out.trans (hb2'.mono HB0.out.size))); (have HX2 := hZ9 (HX0.out.below hb2' HX0.out.lt)); clear hb2')
    | (go_at_call 174; refine (HF.out _ HB2.out).mono ?_; rintro en w3 ⟨rfl, hb3'⟩; (have HB3 := hZ9 (HB2.out.trans (hb3'.mono HB2.out.size))); (have HX3 := hZ9 (HX2.out.below hb3' HX2.out.lt)); (have e7 := (SK.out _ HB3.out).2.2.2); (have lb3 := Nat.lt_of_lt_of_le hlbl HB3.out.size); clear hb3'))
   go_ret
   exact ⟨rfl, HL.out.below HB3.out, HD.out.below HB3.out, Keeps.of_below HB3.out hbw⟩
  ·by_cases g2 : l.recs.length = 1000000
   ·have hq9 : q = (5, d, l) := by rw [HQ.out, if_pos (.inr g2)]
    have g2' : ((l.recs.length : Int) == 1000000) = true := by simp; omega
    subst hq9
    clear g2
    go_enter Tryz.func129, Tryz.ntmps129
    go_wp2_with (first
     | (go_at_call 122; refine (HN.out _ HB0.out).mono ?_; rintro en w2 ⟨rfl, hb2'⟩; (have HB2 := hZ9 (HB0.out.trans (hb2'.mono HB0.out.size))); (have HX2 := hZ9 (HX0.out.below hb2' HX0.out.lt)); clear hb2')
     | (go_at_call 174; refine (HF.out _ HB2.out).mono ?_; rintro en w3 ⟨rfl, hb3'⟩; (have HB3 := hZ9 (HB2.out.trans (hb3'.mono HB2.out.size))); (have HX3 := hZ9 (HX2.out.below hb3' HX2.out.lt)); (have e7 := (SK.out _ HB3.out).2.2.2); (have lb3 := Nat.lt_of_lt_of_le hlbl HB3.out.size); clear hb3'))
    go_ret
    exact ⟨rfl, HL.out.below HB3.out, HD.out.below HB3.out, Keeps.of_below HB3.out hbw⟩
   ·have g2' : ((l.recs.length : Int) == 1000000) = false := by simp; omega
    have G2 := hZ9 g2
    obtain ⟨n, er, d', hput⟩ : ∃ n er d', putP d l.at' 82 (l.epoch * MARKS + l.recs.length + 1) (recB r) = (n, er, d') := ⟨_, _, _, rfl⟩
    have hq9 : q = match ((n, er, d') : Nat × Nat × DskV) with | (n, 0, d') => (0, d', { l with at' := l.at' + n, recs := l.recs ++ [r] }) | (_, e, d') => (e, d', l) := by
     rw [HQ.out, if_neg (by omega), hput]; cases er <;> rfl
    have HQ9 := hZ9 hq9
    have hmk : ((l.epoch * MARKS + l.recs.length + 1 : Nat) : Int) = IntKind.i64.wrap (IntKind.i64.wrap (IntKind.i64.wrap ((l.epoch : Int) * 1048576) + (l.recs.length : Int)) + 1) := mark_wrap _ _ b5 b7
    have hrl : (recB r).length = 1 + r.2.length := by unfold recB; simp; omega
    have HBS := hZ9 (show ∀ wy, Below w.heap.size w wy → Calls Tryz.prog 166 #[.agg #[.int .u8 r.1, .slice A r.2.length c]] wy fun e w' => (∃ A' c', e = .returned (.slice A' (recB r).length c') ∧ Byt w' A' (recB r) ∧ (recB r).length ≤ c') ∧ Below wy.heap.size wy w' from fun wy hy => bytes_any r hk A c (HBY.out.below hy) hn)
    have HPUT := hZ9 (show ∀ wy A' c', Below w.heap.size w wy → Byt wy A' (recB r) → (recB r).length ≤ c' → Calls Tryz.prog 107 #[.pointer (some ⟨B, 0, none⟩), .int .i64 l.at', .int .u8 82, .int .i64 (IntKind.i64.wrap (IntKind.i64.wrap (IntKind.i64.wrap ((l.epoch : Int) * 1048576) + (l.recs.length : Int)) + 1)), .slice A' (recB r).length c'] wy fun e w' => e = .returned (.tuple #[.int .i64 n, .int .i64 er]) ∧ Dsk w' base B d' ∧ Keeps base [121, 165, 167] wy w' from fun wy A' c' hy h1 h2 => by
     have := recPut_any (HD.out.below hy) (HS.out.below hy) hb2 l.at' 82 (l.epoch * MARKS + l.recs.length + 1) (by omega) (by decide) (mark_lt _ _ b5 b7) (recB r) (by rw [hrl]; omega) A' c' h1.byl h2 hw
     rw [hmk, hput] at this
     exact this)
    have HNE := hZ9 (show er = 0 → n ≤ lf from fun h0 => by rw [h0] at hput; rw [putP_n hput, hrl, ← hsz]; show needP l.size (1 + r.2.length) ≤ lf; have : l.needR r = needP l.size (1 + r.2.length) := rfl; omega)
    clear hq9 hput hmk g2 hrl hsz
    go_enter Tryz.func129, Tryz.ntmps129
    go_upto_region 5 with (first
     | (go_at_call 122; refine (HN.out _ HB0.out).mono ?_; rintro en w2 ⟨rfl, hb2'⟩; (have HB2 := hZ9 (HB0.out.trans (hb2'.mono HB0.out.size))); (have HX2 := hZ9 (HX0.out.below hb2' HX0.out.lt)); clear hb2')
     | (go_at_call 174; refine (HF.out _ HB2.out).mono ?_; rintro en w3 ⟨rfl, hb3'⟩; (have HB3 := hZ9 (HB2.out.trans (hb3'.mono HB2.out.size))); (have HX3 := hZ9 (HX2.out.below hb3' HX2.out.lt)); (have e7 := (SK.out _ HB3.out).2.2.2); (have lb3 := Nat.lt_of_lt_of_le hlbl HB3.out.size); clear hb3'))
    have S1 := hZ9 (show ∀ wy, Keeps base [121, 165, 167] w3 wy → (wy.cell? ⟨Lb, 0, none⟩ = some (.pointer (some ⟨B, 0, none⟩)) ∧ wy.cell? ⟨Lb, 6, none⟩ = some (.int .i64 l.at') ∧ wy.cell? ⟨Lb, 5, none⟩ = some (.int .i64 l.epoch) ∧ wy.cell? ⟨Lb, 7, none⟩ = some (.slice AL l.recs.length cL)) ∧ wy.cell? ⟨w.heap.size, 0, none⟩ = some (.int .u8 r.1) ∧ wy.cell? ⟨w.heap.size, 1, none⟩ = some (.slice A r.2.length c) from fun wy hy => by
     have hb := (HLR.out.blk.below HB3.out hlbl).keeps hy (by decide)
     have hx := HX3.out.keeps hy (by decide)
     exact ⟨⟨hb.cell 0, hb.cell 6, hb.cell 5, hb.cell 7⟩, hx.cell 0, hx.cell 1⟩)
    have S0 := hZ9 (S1.out _ (Keeps.of_below bR0.drew (by have := HB3.out.size; omega)))
    clear e7
    go_region_held3 (fun wy => (wy.cell? ⟨Lb, 0, none⟩ = some (.pointer (some ⟨B, 0, none⟩)) ∧ wy.cell? ⟨Lb, 6, none⟩ = some (.int .i64 l.at') ∧ wy.cell? ⟨Lb, 5, none⟩ = some (.int .i64 l.epoch) ∧ wy.cell? ⟨Lb, 7, none⟩ = some (.slice AL l.recs.length cL)) ∧ wy.cell? ⟨w.heap.size, 0, none⟩ = some (.int .u8 r.1) ∧ wy.cell? ⟨w.heap.size, 1, none⟩ = some (.slice A r.2.length c))
     (first | exact S1.out _ HK5.out | exact S1.out _ HK4.out | exact S0.out)
     (first
      | (go_at_call 166; refine (HBS.out _ (HB3.out.trans (bR0.drew.mono HB3.out.size))).mono ?_; rintro en w4 ⟨⟨A4, c4, rfl, hy4, hc4⟩, hb4⟩; (have HB4 : Hid (Below w.heap.size w w4) := HB3.out.trans ((bR0.drew.trans hb4).mono HB3.out.size)); (have HK4 : Hid (Keeps base [121, 165, 167] w3 w4) := Keeps.of_below (bR0.drew.trans hb4) (Nat.le_trans hbw HB3.out.size)); (have HY4 := hZ9 hy4); clear hy4 hb4)
      | (go_at_call 107; refine (HPUT.out w4 A4 c4 HB4.out HY4.out hc4).mono ?_; rintro en w5 ⟨rfl, hd5, hk5⟩; (have HD5 := hZ9 hd5); (have HK5 := hZ9 (HK4.out.trans hk5)); clear hd5 hk5))
    have KW := hZ9 ((Keeps.of_below (ts := [121, 165, 167]) HB3.out hbw).trans HK5.out)
    by_cases he : er = 0
    ·subst he
     have hg3 : l.recs.length + 1 ≤ 1000000 := by have := G2.out; omega
     have hq9 : q = (0, d', { l with at' := l.at' + n, recs := l.recs ++ [r] }) := HQ9.out
     subst hq9
     have hnl := HNE.out rfl
     have hlf : l.at' + lf ≤ 262144 := by
      have : l.left = l.begin l.use + l.half - l.at' := rfl
      have := HLR.out.b1
      have := HLR.out.b2
      have := half_mul l.use l.half HLR.out.b4
      have : l.begin l.use = l.frm + l.use * l.half := rfl
      omega
     have hL5 := HLR.out.keeps KW.out (by decide) (by decide) (by decide)
     have hb5 := hL5.blk
     have lb5 := hb5.lt
     have c6 : w5.cell? ⟨Lb, 6, none⟩ = some (.int .i64 l.at') := hb5.cell 6
     have f6 := hb5.free 6
     have HL5 := hZ9 hL5
     have HX5 := hZ9 (HX3.out.keeps HK5.out (by decide))
     have hws : w.heap.size ≤ w5.heap.size := KW.out.below.size
     have hxb : w.heap.size < w5.heap.size := HX5.out.lt
     clear hL5 hb5
     go_upto_region 9 with fail
     have hnat : ((l.at' + n : Nat) : Int) = (l.at' : Int) + (n : Int) := by omega
     have hb6 : Blk (w5.setCell ⟨Lb, 6, none⟩ (.int .i64 ((l.at' : Int) + (n : Int)))) Lb 216 #[.pointer (some ⟨B, 0, none⟩), .int .i64 l.frm, .int .i64 l.half, .int .i64 l.size, .int .i64 l.use, .int .i64 l.epoch, .int .i64 ((l.at' : Int) + (n : Int)), .slice AL l.recs.length cL] := HL5.out.blk.set 6 _
     have hk6 : Keeps base [216] w5 (w5.setCell ⟨Lb, 6, none⟩ (.int .i64 ((l.at' : Int) + (n : Int)))) := (Keeps.refl base _ w5).set HL5.out.blk hlow (by simp) _
     have hs6 : (w5.setCell ⟨Lb, 6, none⟩ (.int .i64 ((l.at' : Int) + (n : Int)))).heap.size = w5.heap.size := by simp
     generalize w5.setCell ⟨Lb, 6, none⟩ (.int .i64 ((l.at' : Int) + (n : Int))) = w6 at *
     have hx6 := HX5.out.keeps hk6 (by decide)
     have ho6 := own_keeps HL5.out.own hk6 (by decide)
     have hbd6 : Bods w6 L := HL5.out.bod.keeps hk6 (by decide)
     have hy6 : Byt w6 A r.2 := (HBY.out.keeps KW.out (by decide)).keeps hk6 (by decide)
     have KW6 := hZ9 (((keeps_log KW.out (by simp)).trans (keeps_log hk6 (by simp))))
     have d6 : Dsk w6 base B d' := HD5.out.keeps hk6 (by decide) (by decide) (by decide) (by decide) (by decide)
     have hL1 : L.length = l.recs.length := by have := congrArg List.length HL5.out.rcs; simpa using this
     -- the record, copied
     have hbn : Below w6.heap.size w6 (w6.alloc (.cells #[.int .u8 r.1, .slice A r.2.length c] 137)).drew := (bR0.alloc nR0 _).drew
     have hcp := copied_any (w := (w6.alloc (.cells #[.int .u8 r.1, .slice A r.2.length c] 137)).drew) [((r.1, r.2), A, c)] (some ⟨w6.heap.size, 0, none⟩) 1 (Sl.of_blk (Blk.new_eq rfl) rfl) (fun z hz => by rw [List.mem_singleton] at hz; subst hz; exact ⟨hy6.below hbn, hc, hk, hn⟩) (by simp)
     have HCP := hZ9 (show Calls Tryz.prog 113 #[.slice (some ⟨w6.heap.size, 0, none⟩) 1 1] (w6.alloc (.cells #[.int .u8 r.1, .slice A r.2.length c] 137)).drew (fun e w' => CopyOut (w6.alloc (.cells #[.int .u8 r.1, .slice A r.2.length c] 137)).drew w' [((r.1, r.2), A, c)] e) from hcp)
     have HS6 := hZ9 hs6
     have HBN := hZ9 hbn
     have HB6 := hZ9 hb6
     have HO6 := hZ9 ho6
     have HBD6 := hZ9 hbd6
     have HD6 := hZ9 d6
     have HL1 := hZ9 hL1
     have c7 : w6.drew.cell? ⟨Lb, 7, none⟩ = some (.slice AL l.recs.length cL) := hb6.cell 7
     have c7b : (w6.alloc (.cells #[.int .u8 r.1, .slice A r.2.length c] 137)).cell? ⟨Lb, 7, none⟩ = some (.slice AL l.recs.length cL) := (hb6.alloc _).cell 7
     have x0 : w6.drew.cell? ⟨w.heap.size, 0, none⟩ = some (.int .u8 r.1) := hx6.cell 0
     have x1 : w6.drew.cell? ⟨w.heap.size, 1, none⟩ = some (.slice A r.2.length c) := hx6.cell 1
     have lb6 : Lb < w6.drew.heap.size := hb6.lt
     have lx6 : w.heap.size < w6.drew.heap.size := hx6.lt
     have hbs6 : base ≤ w6.heap.size := by omega
     obtain ⟨i0, hi0, hz0, hz1, hz2⟩ := info_parts info137
     clear hs6 hb6 hk6 hx6 ho6 hbd6 hy6 d6 hcp hbn hL1 c6 f6
     go_upto_region 9 with fail
     go_region_law (first
      | (go_simp; go_at_call 113; refine HCP.out.mono ?_; rintro en w7 ⟨⟨L2, A2, c2, rfl, ho7, hm7, hbd7, hc7⟩, hb7'⟩; (have HO7 := hZ9 ho7); (have HM7 := hZ9 hm7); (have HBD7 := hZ9 hbd7); (have HB7 := hZ9 (HBN.out.trans (hb7'.mono HBN.out.size))); (have e7 : w7.cell? ⟨Lb, 7, none⟩ = some (.slice AL l.recs.length cL) := (HB6.out.below HB7.out lb6).cell 7); (have HOR := hZ9 (own_keeps HO6.out (Keeps.of_below HB7.out hbs6) (by simp : 137 ∉ []))); (have HRD := hZ9 (own_rd HO7.out)); clear ho7 hm7 hbd7 hb7')
      | (refine step_append_rd _ (by rfl) _ _ _ (by rfl) base 137 i0 _ 2 32 under134 hi0 hz0 hz1 hz2 rfl (by decide) (.slice AL l.recs.length cL) l.recs.length (recRows L) (by rfl) HOR.out A2 1 c2 _ (recRows L2) (by rfl) HRD.out (recRows_one _) (by unfold maxLen; omega) (by omega) (Nat.le_trans hbs6 HB7.out.size) ?_; intro A9 c9 w9 hown9 hgr9 hnc9; (have hb9 := (HB6.out.below HB7.out lb6).grown hgr9 (own_ne HOR.out (HB6.out.below HB7.out lb6) (by decide))); (have e9 : w9.cell? ⟨Lb, 7, none⟩ = some (.slice AL l.recs.length cL) := hb9.cell 7); (have z9 := hb9.free 7); (have l9 := hb9.lt); (have HB9 := hZ9 hb9); (have HOWN9 := hZ9 hown9); (have HGR9 := hZ9 hgr9); clear hown9 hgr9 hb9))
     all_goals
      go_wp2_with fail
      go_ret
      have k79 := keeps_own_grown HOR.out HGR9.out (Nat.le_trans hbs6 HB7.out.size)
      have k99 : Keeps base [216] w9 (w9.setCell ⟨Lb, 7, none⟩ (.slice A9 (l.recs.length + 1) c9)) := (Keeps.refl base _ w9).set HB9.out hlow (by simp) _
      have k67 : Keeps base [] w6 w7 := Keeps.of_below HB7.out hbs6
      refine ⟨rfl, ⟨L ++ L2, A9, c9, hlow, ?_, ?_, ?_, ?_, HLR.out.b1, HLR.out.b2, HLR.out.b3, HLR.out.b4, HLR.out.b5, by simp only; omega, by simp only [List.length_append, List.length_cons, List.length_nil]; omega⟩, ((HD6.out.keeps k67 (by simp) (by simp) (by simp) (by simp) (by simp)).keeps k79 (by decide) (by decide) (by decide) (by decide) (by decide)).keeps k99 (by decide) (by decide) (by decide) (by decide) (by decide), ((KW6.out.trans (keeps_log k67 (by simp))).trans (keeps_log k79 (by simp))).trans (keeps_log k99 (by simp))⟩
      ·have := HB9.out.set 7 (.slice A9 (l.recs.length + 1) c9)
       simp only [List.length_append, List.length_cons, List.length_nil, hnat]
       exact this
      ·have := own_keeps HOWN9.out k99 (by decide)
       simp only [List.length_append, List.length_cons, List.length_nil, recRows_append]
       exact this
      ·rw [List.map_append, HLR.out.rcs, HM7.out]; rfl
      ·intro z hz
       rcases List.mem_append.1 hz with hz | hz
       ·exact (((HBD6.out.keeps k67 (by simp)).keeps k79 (by decide)).keeps k99 (by decide)) z hz
       ·exact ((HBD7.out.keeps k79 (by decide)).keeps k99 (by decide)) z hz
    ·have hq9 : q = (er, d', l) := by
      rw [HQ9.out]
      cases er with
      | zero => exact absurd rfl he
      | succ e => rfl
     have hen : ((er : Int) != 0) = true := by simp; omega
     subst hq9
     go_wp2_with fail
     go_ret
     exact ⟨rfl, HL.out.keeps KW.out (by decide) (by decide) (by decide), HD5.out, keeps_log KW.out (by simp)⟩
end Go.Proofs.YtmgmfnimaafkdaaGreatDoor
