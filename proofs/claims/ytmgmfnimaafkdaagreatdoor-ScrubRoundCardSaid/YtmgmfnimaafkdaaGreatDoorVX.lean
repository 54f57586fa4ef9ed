/- A store is opened. -/
import Derived.Test.YtmgmfnimaafkdaaGreatDoorVV
import Derived.Test.YtmgmfnimaafkdaaGreatDoorVB
namespace Go.Proofs.YtmgmfnimaafkdaaGreatDoor
open Go.RowKit Go.Maps Go.Shelf Go.Sort
set_option maxRecDepth 100000

abbrev ALLT : List TypeId := [121, 165, 167, 216, 137, 129, 220, 1000000]
def OpenOut (w w' : World) (base B : Nat) (s : StV) (e : Ending) : Prop := ∃ Sb m, e = .returned (.tuple #[.pointer (some ⟨Sb, 0, none⟩), .int .i64 0]) ∧ m.B = B ∧ StR w' base Sb s m ∧ Keeps base [121, 165, 167, 216, 137, 129, 220, 1000000] w w'
theorem MapR.base {w : World} {base base' M : Nat} {m : MapV} (h : MapR w base M m) (hb : base' ≤ base) : MapR w base' M m := by
 exact { h with low := Nat.le_trans hb h.low }
theorem StR.striking {w : World} {base Sb : Nat} {s : StV} {m : StM} (h : StR w base Sb s m) (n : NameV) (hn : wfN n) (l' : List (NameV × SlotV)) (hl : ∀ y, getL l' y = if y = n then none else getL s.slices y) (hs : SrtS l') (hr : ∀ x ∈ l', NumOK x ∧ x.2.len ≤ 1048576) :
  ∃ w', (Builtin.delete_ #[125, 73] 0 #[.map (some m.Pb), nameV n]).run Tryz.prog w = .ok (.tuple #[]) w' ∧ StR w' base Sb { s with slices := l' } m ∧ KeepS base m m w w' ∧ Keeps base [1000000] w w' ∧ w.mapTurned w' m.Pb := by
 obtain ⟨w', hrun, hin, htu⟩ := h.pmap.drop hn 0
 obtain ⟨h1, h2⟩ := h.sliced htu (hin.congr fun y _ => hl y) hs hr
 exact ⟨w', hrun, h1, h2, KV.turned htu h.plow h.lt, htu⟩
attribute [local go_sem ↓] stSlot_fold
set_option maxHeartbeats 16000000 in
theorem open_any {w : World} {base B : Nat} {d d1 d2 : DskV} {l1 l2 : LogV} {sl : List (NameV × SlotV)} {mp : MapV} (hD : Dsk w base B d) (ht : TabsB base w) (hb2 : 2 < base) (hg : OpenGo d d1 l1 sl mp d2 l2) :
  Calls Tryz.prog 16 #[.pointer (some ⟨B, 0, none⟩)] w fun e w' => OpenOut w w' base B (openEnd d d1 l1 sl mp d2 l2) e := by
 have hsz : 16 ≤ d.size ∧ d.size ≤ 4096 := by obtain ⟨m, h⟩ := hD; exact h.sz
 have hlen : d.lasts.length ≤ 65536 := by obtain ⟨m, h⟩ := hD; exact h.n1.2
 have hbw : base ≤ w.heap.size := by obtain ⟨m, h⟩ := hD; have := h.low.1; have := h.blk.lt; omega
 have HD := hZ9 hD
 have HT := hZ9 ht
 have HG := hZ9 hg
 have hq4 := hg.q4
 have hn0 := hg.n0
 have hnd := hg.nd
 have HSZ := hZ9 (show ∀ wy, Below w.heap.size w wy → Calls Tryz.prog 55 #[.pointer (some ⟨B, 0, none⟩)] wy fun e w' => e = .returned (.tuple #[.int .i64 d.lasts.length, .int .i64 d.size]) ∧ Below wy.heap.size wy w' from fun wy hy => diskSize_any (hD.below hy))
 have HN1 := hZ9 (show ∀ wy, Calls Tryz.prog 56 #[.int .i64 d.size, .int .i64 201] wy fun e w' => e = .returned (.int .i64 (needP d.size 201 : Nat)) ∧ wy = w' from fun wy => pageNeed_any d.size 201 (by omega) (by omega) wy)
 have HN0 := hZ9 (show ∀ wy, Calls Tryz.prog 56 #[.int .i64 d.size, .int .i64 0] wy fun e w' => e = .returned (.int .i64 (needP d.size 0 : Nat)) ∧ wy = w' from fun wy => pageNeed_any d.size 0 (by omega) (by omega) wy)
 clear hD ht hg
 obtain ⟨q, hq⟩ : ∃ q, q = d.lasts.length / 4 := ⟨_, rfl⟩
 obtain ⟨n, hn⟩ : ∃ n, n = d.lasts.length := ⟨_, rfl⟩
 have HQ := hZ9 hq
 have HN := hZ9 hn
 rw [← hq] at hq4 hnd
 rw [← hn] at HSZ hlen
 have hqi : (n : Int) / 4 = (q : Int) := by omega
 obtain ⟨N1, hN1⟩ : ∃ N1, N1 = needP d.size 201 := ⟨_, rfl⟩
 obtain ⟨N0, hN0⟩ : ∃ N0, N0 = needP d.size 0 := ⟨_, rfl⟩
 rw [← hN1] at HN1 hn0 hnd
 rw [← hN0] at HN0 hnd
 have hqn : q ≤ n := by omega
 clear hq hn hN1 hN0
 have i1 : decide ((q : Int) < 4) = false := decide_eq_false (by omega)
 have i2 : ((N1 : Int) == 0) = false := by simp; omega
 obtain ⟨hf, hhf⟩ : ∃ hf, hf = q / 2 := ⟨_, rfl⟩
 have hhi : (q : Int) / 2 = (hf : Int) := by omega
 rw [← hhf] at hnd
 have i3 : decide ((hf : Int) - (N0 : Int) < (N1 : Int)) = false := decide_eq_false (by omega)
 have i4 : IntKind.i64.wrap ((hf : Int) - (N0 : Int)) = (hf : Int) - (N0 : Int) := by rw [IntKind.wrap_i64]; omega
 have hfb : hf ≤ 65536 := by omega
 clear hhf
 go_enter Tryz.func16, Tryz.ntmps16
 go_upto_region 3 with (go_at_call 55; refine (HSZ.out _ bR0).mono ?_; rintro en w1 ⟨rfl, hb1⟩; (have HB1 := hZ9 hb1); (have hs1 := hb1.size); clear hb1)
 go_upto_region 6 with (first
  | ((fail_if_success (have := RR)); go_at_call 56; refine (HN1.out _).mono ?_; rintro en w' ⟨rfl, rfl⟩; (have RR := hZ9 (show True from trivial)))
  | (go_at_call 56; refine (HN0.out _).mono ?_; rintro en w' ⟨rfl, rfl⟩))
 clear RR i1 i2 i3 i4 hhi HN1 HN0 HSZ
 have hmm := @run_makeMap Tryz.prog
 go_upto_region 8 with fail
 clear hmm
 obtain ⟨w3, hw3⟩ : ∃ w3, w3 = ((w1.alloc (.map #[] 0)).alloc (.map #[] 0)).alloc (.cells #[.pointer (some ⟨B, 0, none⟩), .int .i64 d.size, .pointer none, .pointer none, .map (some w1.heap.size), .map (some (w1.heap.size + 1)), .slice none 0 0, .int .i64 0, .int .i64 0] 129) := ⟨_, rfl⟩
 rw [← hw3]
 have HB3 : Hid (Below w.heap.size w w3) := by
  show Below w.heap.size w w3
  rw [hw3]; exact ((HB1.out.alloc hs1 _).alloc (by simp; omega) _).alloc (by simp; omega) _
 have HS3 : Hid (Blk w3 (w1.heap.size + 1 + 1) 129 #[.pointer (some ⟨B, 0, none⟩), .int .i64 d.size, .pointer none, .pointer none, .map (some w1.heap.size), .map (some (w1.heap.size + 1)), .slice none 0 0, .int .i64 0, .int .i64 0]) := by
  show Blk w3 _ 129 _
  rw [hw3]; exact Blk.new_eq0 (by simp)
 have hbel1 : Below (w1.alloc (.map #[] 0)).heap.size (w1.alloc (.map #[] 0)) w3 := by
  rw [hw3]; exact (bR0.alloc nR0 _).alloc (by simp) _
 have hbel2 : Below ((w1.alloc (.map #[] 0)).alloc (.map #[] 0)).heap.size ((w1.alloc (.map #[] 0)).alloc (.map #[] 0)) w3 := by
  rw [hw3]; exact bR0.alloc nR0 _
 have HNM := hZ9 ((KV.made NK w1).below hbel1)
 have HPM := hZ9 ((KV.made SK (w1.alloc (.map #[] 0))).below hbel2)
 rw [show (w1.alloc (.map #[] 0)).heap.size = w1.heap.size + 1 from by simp] at HPM
 clear hbel1 hbel2 hw3
 obtain ⟨Sb, hSb⟩ : ∃ Sb, Sb = w1.heap.size + 1 + 1 := ⟨_, rfl⟩
 obtain ⟨Pb, hPb⟩ : ∃ Pb, Pb = w1.heap.size + 1 := ⟨_, rfl⟩
 obtain ⟨Nb, hNb⟩ : ∃ Nb, Nb = w1.heap.size := ⟨_, rfl⟩
 have hSbl : w.heap.size ≤ Sb := by omega
 have hPbl : w.heap.size ≤ Pb := by omega
 have hNbl : w.heap.size ≤ Nb := by omega
 have hnp : Nb ≠ Pb := by omega
 rw [← hSb] at HS3 ⊢
 rw [← hPb] at HS3 HPM ⊢
 rw [← hNb] at HS3 HNM ⊢
 clear hSb hPb hNb HB1 hs1
 have hbs3 := HB3.out.size
 have hbw3 : base ≤ w3.heap.size := by omega
 have HOL := hZ9 (show Calls Tryz.prog 57 #[.pointer (some ⟨B, 0, none⟩), .int .i64 0, .int .i64 q] w3 fun e w' => ∃ Lb, e = .returned (.tuple #[.pointer (some ⟨Lb, 0, none⟩), .int .i64 0]) ∧ Log w' base Lb B l1 ∧ Dsk w' base B d1 ∧ Keeps base [121, 165, 167, 216, 137] w3 w' from by
  obtain ⟨E, hE, hF⟩ := HG.out.fine
  have := openL_any (HD.out.below HB3.out) (HT.out.below (HB3.out.mono hbw)).steps hb2 hF (by omega) (by have := HG.out.wt; omega) HG.out.s19 q hq4 (by rw [← HN.out]; exact hqn)
  rw [HQ.out, HG.out.ol, ← HQ.out] at this
  refine this.mono ?_
  rintro e w' ⟨h1, h2, h3⟩
  rcases h1 with ⟨_, Lb, h4, h5⟩ | ⟨h4, _⟩
  ·exact ⟨Lb, h4, h5, h2, h3⟩
  ·exact absurd rfl h4)
 go_upto_region 9 with (go_at_call 57; refine HOL.out.mono ?_; rintro en w4 ⟨Lb, rfl, hl4, hd4, hk4⟩; (have HL4 := hZ9 hl4); (have HD4 := hZ9 hd4); (have HK4 := hZ9 hk4); (have hsb4 := (HS3.out.keeps hk4 (by decide)).lt); (have hsf4 := (HS3.out.keeps hk4 (by decide)).free 2); (have hsc4 : w4.cell? ⟨Sb, 2, none⟩ = some (.pointer none) := (HS3.out.keeps hk4 (by decide)).cell 2); clear hl4 hd4 hk4)
 have hb4 := HS3.out.keeps HK4.out (by decide)
 have s5 : Blk (w4.setCell ⟨Sb, 2, none⟩ (.pointer (some ⟨Lb, 0, none⟩))) Sb 129 #[.pointer (some ⟨B, 0, none⟩), .int .i64 d.size, .pointer (some ⟨Lb, 0, none⟩), .pointer none, .map (some Nb), .map (some Pb), .slice none 0 0, .int .i64 0, .int .i64 0] := by
  have := hb4.set 2 (.pointer (some ⟨Lb, 0, none⟩))
  simpa using this
 have k5 := (Keeps.refl base [129] w4).set (o := 2) hb4 (by omega) (by simp) (.pointer (some ⟨Lb, 0, none⟩))
 have HS5 := hZ9 s5
 have HL5 := hZ9 (HL4.out.keeps k5 (by decide) (by decide) (by decide))
 have HD5 := hZ9 (HD4.out.keeps k5 (by decide) (by decide) (by decide) (by decide) (by decide))
 have HNM5 := hZ9 ((HNM.out.keeps HK4.out (by decide)).keeps k5 (by decide))
 have HPM5 := hZ9 ((HPM.out.keeps HK4.out (by decide)).keeps k5 (by decide))
 have HK5 := hZ9 (((Keeps.of_below (base := base) (ts := ALLT) (HB3.out.mono nR0) hbw).trans (HK4.out.mono nR0 (by simp))).trans (k5.mono nR0 (by simp)))
 clear hb4 s5 k5 hsb4 hsf4 hsc4 HS3 HNM HPM HB3 hbs3 hbw3 HL4 HD4 HK4 HOL
 generalize w4.setCell ⟨Sb, 2, none⟩ (.pointer (some ⟨Lb, 0, none⟩)) = w5 at *
 obtain ⟨r, hr⟩ : ∃ r, r = n - q := ⟨_, rfl⟩
 have hri : (n : Int) - (q : Int) = (r : Int) := by omega
 have HR := hZ9 hr
 have hrb : r ≤ 65536 := by omega
 have hbw5 : base ≤ w5.heap.size := Nat.le_trans hbw HK5.out.below.size
 have HNX := hZ9 (extNew_any q r (by omega) (by omega) w5)
 clear hr
 go_upto_region 12 with (go_at_call 58; refine HNX.out.mono ?_; rintro en w6 ⟨⟨M, rfl, hm6⟩, hb6⟩; (have HM6 := hZ9 hm6); (have HB6 := hZ9 hb6); (have hsb6 := (HS5.out.below hb6 HS5.out.lt).lt); (have hsf6 := (HS5.out.below hb6 HS5.out.lt).free 3); (have hsc6 : w6.cell? ⟨Sb, 3, none⟩ = some (.pointer none) := (HS5.out.below hb6 HS5.out.lt).cell 3); clear hm6 hb6)
 have hb6 := HS5.out.below HB6.out HS5.out.lt
 have s7 : Blk (w6.setCell ⟨Sb, 3, none⟩ (.pointer (some ⟨M, 0, none⟩))) Sb 129 #[.pointer (some ⟨B, 0, none⟩), .int .i64 d.size, .pointer (some ⟨Lb, 0, none⟩), .pointer (some ⟨M, 0, none⟩), .map (some Nb), .map (some Pb), .slice none 0 0, .int .i64 0, .int .i64 0] := by
  have := hb6.set 3 (.pointer (some ⟨M, 0, none⟩))
  simpa using this
 have k7 := (Keeps.of_below (base := base) (ts := [129]) HB6.out hbw5).trans ((Keeps.refl base [129] w6).set (o := 3) hb6 (by omega) (by simp) (.pointer (some ⟨M, 0, none⟩)))
 have k67 := ((Keeps.refl base [129] w6).set (o := 3) hb6 (by omega) (by simp) (.pointer (some ⟨M, 0, none⟩)))
 have HL7 := hZ9 (HL5.out.keeps k7 (by decide) (by decide) (by decide))
 have HK7 := hZ9 (HK5.out.trans (k7.mono nR0 (by simp)))
 have HST : Hid (StR (w6.setCell ⟨Sb, 3, none⟩ (.pointer (some ⟨M, 0, none⟩))) base Sb (openS0 d1 l1 q n) ⟨Lb, B, M, Nb, Pb, none, 0⟩) := by
  refine ⟨by omega, ?_, HD5.out.keeps k7 (by decide) (by decide) (by decide) (by decide) (by decide), HL7.out.w, ?_, (HNM5.out.keeps k7 (by decide)).congr (fun x _ => getL_nil x), by show base ≤ Nb; omega, (HPM5.out.keeps k7 (by decide)).congr (fun x _ => getL_nil x), by show base ≤ Pb; omega, hnp, own_nil _ _ _ _, HT.out.below HK7.out.below, hb2⟩
  ·have e := HG.out.sz1
   show Blk _ Sb 129 #[.pointer (some ⟨B, 0, none⟩), .int .i64 d1.size, .pointer (some ⟨Lb, 0, none⟩), .pointer (some ⟨M, 0, none⟩), .map (some Nb), .map (some Pb), .slice none 0 0, .int .i64 0, .int .i64 0]
   rw [e]; exact s7
  ·have := (HM6.out.base hbw5).keeps k67 (by decide) (by decide)
   rw [HR.out] at this
   exact this
 clear hb6 s7 k7 k67 hsb6 hsf6 hsc6 HS5 HL5 HD5 HNM5 HPM5 HK5 hbw5 HM6 HB6 HNX hri
 generalize w6.setCell ⟨Sb, 3, none⟩ (.pointer (some ⟨M, 0, none⟩)) = w7 at *
 have hbw7 := HST.out.lt
 have HALL := hZ9 (all_any HL7.out)
 have e2 : w7.cell? ⟨Sb, 2, none⟩ = some (.pointer (some ⟨Lb, 0, none⟩)) := HST.out.blk.cell 2
 have esl := HST.out.blk.lt
 go_wp2_with (go_at_call 59; refine HALL.out.mono ?_; rintro en w8 ⟨L, hL, ⟨L', A', c', rfl, ho8, hL', hbo8, hc8⟩, hb8⟩; (have HO8 := hZ9 ho8); (have HBO8 := hZ9 hbo8); (have HLL := hZ9 (hL'.trans hL)); (have HB8 := hZ9 hb8); (have hlL : L'.length = L.length := by have := congrArg List.length hL'; simpa using this); clear ho8 hbo8 hL hL' hb8)
 have hrl : L.length = l1.recs.length := by rw [← hlL, ← HLL.out, List.length_map]
 have hfew : L.length ≤ 100000 := by rw [hrl]; exact HG.out.few
 have HRL := hZ9 hrl
 have HLL' := hZ9 hlL
 have hbw8 : base ≤ w8.heap.size := Nat.le_trans hbw7 HB8.out.size
 have HEED := hZ9 (show ∀ (k : Nat) (wr : World) (A : Option Addr) (c : Nat) (x : RecL), l1.recs[k]? = some x → StR wr base Sb ((l1.recs.take k).foldl heedS (openS0 d1 l1 q n)) ⟨Lb, B, M, Nb, Pb, none, 0⟩ → Byt wr A x.2 →
   Calls Tryz.prog 60 #[.pointer (some ⟨Sb, 0, none⟩), .agg #[.int .u8 x.1, .slice A x.2.length c]] wr fun e w' => e = .returned (.tuple #[]) ∧ StR w' base Sb ((l1.recs.take (k + 1)).foldl heedS (openS0 d1 l1 q n)) ⟨Lb, B, M, Nb, Pb, none, 0⟩ ∧ Keeps base [1000000] wr w' from fun k wr A c x hx hst hby => by
  obtain ⟨hk, hxe⟩ := List.getElem?_eq_some_iff.1 hx
  have hh := HG.out.heeded k
  rw [← HQ.out, ← HN.out] at hh
  have hlt : (l1.recs.take k).length ≤ 100000 := by rw [List.length_take]; have := HG.out.few; omega
  obtain ⟨y, hy⟩ := HG.out.recs x (by rw [← hxe]; exact List.getElem_mem hk)
  have := heed_any hst hh.srt hh.num (by have := hh.len; omega) x y hy A c hby
  rw [List.take_succ_eq_append_getElem hk, List.foldl_append, hxe]
  exact this)
 clear hrl
 have HST8 := hZ9 (HST.out.below HB8.out)
 have HK8 := hZ9 (HK7.out.trans (Keeps.of_below (base := base) (ts := ALLT) HB8.out hbw7))
 have HL8 := hZ9 (HL7.out.below HB8.out)
 clear HST HK7 HL7 HB8 HALL hbw7 e2 esl
 go_loopw [84] (fun i wr => ∃ k : Nat, k ≤ L.length ∧ i = .int .i64 k ∧ StR wr base Sb ((l1.recs.take k).foldl heedS (openS0 d1 l1 q n)) ⟨Lb, B, M, Nb, Pb, none, 0⟩ ∧ Keeps base [1000000] w8 wr) (fun i _ => L.length - (intOf i).toNat)
 case atStart => exact ⟨0, Nat.zero_le _, rfl, HST8.out, Keeps.refl _ _ _⟩
 case round =>
  obtain ⟨k, hk, rfl, hst, hkw⟩ := hrel
  have HSTR := hZ9 hst
  have HKW := hZ9 hkw
  by_cases hkl : k < L.length
  ·have hkl' : (k : Int) < L.length := by omega
   have hkL : k < L'.length := by rw [HLL'.out]; exact hkl
   obtain ⟨b, o, hA, hbl, c0, c1⟩ := ((Sl.of_own HO8.out).keeps hkw (by decide)).at2r k hkL (by rw [HLL'.out])
   obtain ⟨y1, y2, y3, y4⟩ := (HBO8.out.keeps hkw (by decide)) (L'[k]) (List.getElem_mem _)
   have hrk : l1.recs[k]? = some L'[k].1 := by
    rw [← HLL.out, List.getElem?_map, List.getElem?_eq_getElem hkL]; rfl
   subst hA
   clear hst hkw
   generalize L'[k] = x at *
   obtain ⟨⟨kd, body⟩, Bx, cb⟩ := x
   simp only at y1 y2 y3 y4 c0 c1 hrk
   have HY1 := hZ9 y1
   have HRK := hZ9 hrk
   clear y1 y2 y3 y4 hrk hkL
   go_upto_region 17 with fail
   have HB2 : Hid (Below wr.heap.size wr (wr.alloc (.cells #[.int .u8 kd, .slice Bx body.length cb] 137))) := bR0.alloc nR0 _
   have HX2 := hZ9 (Blk.new wr 137 #[.int .u8 kd, .slice Bx body.length cb])
   have hrs := HSTR.out.lt
   generalize wr.alloc (.cells #[.int .u8 kd, .slice Bx body.length cb] 137) = w2 at *
   have x0 : w2.cell? ⟨wr.heap.size, 0, none⟩ = some (.int .u8 kd) := HX2.out.cell 0
   have x1 : w2.cell? ⟨wr.heap.size, 1, none⟩ = some (.slice Bx body.length cb) := HX2.out.cell 1
   have xl := HX2.out.lt
   clear c0 c1 hbl
   go_wp2_with (go_at_call 60; refine (HEED.out k w2 Bx cb (kd, body) HRK.out (HSTR.out.below HB2.out) (HY1.out.below HB2.out)).mono ?_; rintro en w3 ⟨rfl, h3, k3⟩; (have H3 := hZ9 h3); (have K3 := hZ9 k3); clear h3 k3)
   go_roundw
   case rel => exact ⟨k + 1, by omega, by simp, H3.out, (HKW.out.trans (Keeps.of_below HB2.out hrs)).trans K3.out⟩
   case measure => simp [intOf]; omega
  ·obtain rfl : k = L.length := by omega
   have hkl' : ¬ (L.length : Int) < L.length := by omega
   clear hst hkw
   have htk : l1.recs.take L.length = l1.recs := by rw [HRL.out, List.take_length]
   have HSTR := hZ9 (show StR wr base Sb (openS1 d1 l1 q n) ⟨Lb, B, M, Nb, Pb, none, 0⟩ from by
    have := HSTR.out
    rw [htk] at this
    exact this)
   have hh := HG.out.heeded L.length
   rw [← HQ.out, ← HN.out, htk] at hh
   have hcl := HG.out.cl
   rw [← HQ.out, ← HN.out] at hcl
   have heq : openS1 d1 l1 q n = { openS0 d1 l1 q n with slices := (openS1 d1 l1 q n).slices } := hh.eq
   have hmp : (openS1 d1 l1 q n).map = (openS0 d1 l1 q n).map := by rw [heq]
   rw [hmp] at hcl
   have hsrt : SrtS (openS1 d1 l1 q n).slices := hh.srt
   have hnum : ∀ x ∈ (openS1 d1 l1 q n).slices, NumOK x ∧ x.2.len ≤ 1048576 := hh.num
   have hal : (openS1 d1 l1 q n).slices.length ≤ L.length := by
    have := hh.len
    rw [HRL.out, List.take_length] at *
    show (l1.recs.foldl heedS (openS0 d1 l1 q n)).slices.length ≤ _
    omega
   rw [heq] at HSTR
   have HEQ := hZ9 heq
   clear hh hmp heq
   generalize (openS1 d1 l1 q n).slices = all at *
   have HC0 := hZ9 (ClaimR.start hcl (mapInv_fresh hqn))
   have HSRT := hZ9 hsrt
   have HNUM := hZ9 hnum
   have HNAM := hZ9 (names_any HSTR.out hsrt hnum (by show all.length ≤ _; omega))
   have HKR := hZ9 (HK8.out.trans (HKW.out.mono nR0 (ts' := ALLT) (by simp)))
   have hwrl := HSTR.out.lt
   clear hsrt hnum hcl HKW HEED HST8 HK8 htk
   obtain ⟨na, hna⟩ : ∃ na, na = all.length := ⟨_, rfl⟩
   have HNA := hZ9 hna
   replace HNAM : Hid (Calls Tryz.prog 35 #[.pointer (some ⟨Sb, 0, none⟩)] wr fun e w' => ∃ A c, e = .returned (.slice A na c) ∧ w'.ownsRow wr.heap.size 73 2 (.slice A na c) na (nameRows (all.map (·.1))) ∧ Below wr.heap.size wr w') := by
    have := HNAM.out
    show Calls Tryz.prog 35 _ _ _
    rw [hna]
    exact this
   rw [← hna] at hal
   clear hna
   go_wp2_with (go_at_call 35; refine HNAM.out.mono ?_; rintro en w9 ⟨A9, c9, rfl, ho9, hb9⟩; (have HO9 := hZ9 ho9); (have HB9 := hZ9 hb9); clear ho9 hb9)
   have hw9 := HB9.out.size
   have HST9 := hZ9 (HSTR.out.below HB9.out)
   have HK9 := hZ9 (HKR.out.trans (Keeps.of_below (base := base) (ts := ALLT) HB9.out hwrl))
   have hbw9 : base ≤ w9.heap.size := Nat.le_trans hwrl hw9
   have hwb : base ≤ wr.heap.size := hwrl
   clear HSTR HKR HB9 HNAM
   go_loopw [95] (fun i wq => ∃ (k : Nat) (kept : List (NameV × SlotV)) (mj : MapV), k ≤ na ∧ i = .int .i64 k ∧ ClaimR d1 all mp sl q n k kept mj ∧ StR wq base Sb { openS0 d1 l1 q n with slices := kept ++ all.drop k, map := mj } ⟨Lb, B, M, Nb, Pb, none, 0⟩ ∧ Keeps base [220, 1000000] w9 wq) (fun i _ => na - (intOf i).toNat)
   case atStart => exact ⟨0, [], _, Nat.zero_le _, rfl, HC0.out, HST9.out, Keeps.refl _ _ _⟩
   case round =>
    obtain ⟨k, kept, mj, hk, rfl, hcr, hst, hkq⟩ := hrel
    have HCR := hZ9 hcr
    have HSTQ := hZ9 hst
    have HKQ := hZ9 hkq
    have hbq := hst.lt
    by_cases hkl : k < na
    ·have hkl' : (k : Int) < na := by omega
     have hka : k < all.length := by rw [← HNA.out]; exact hkl
     obtain ⟨b, o, hA, hbl, c0, c1⟩ := names_at ((Sl.of_own HO9.out).keeps hkq (by decide)) k (by rw [List.length_map]; exact hka) (by rw [List.length_map]; exact HNA.out)
     have e1 : (all.map (·.1))[k]'(by rw [List.length_map]; exact hka) = all[k].1 := by simp
     rw [e1] at c0 c1
     have hne : l1.recs ≠ [] := by
      intro h0
      have : L.length = 0 := by rw [HRL.out, h0]; rfl
      omega
     obtain ⟨E1, hF1⟩ := HG.out.fine1 hne
     have h10 := HG.out.on1 hne all[k].2
     have hnum := HNUM.out _ (List.getElem_mem hka)
     obtain ⟨y, hy⟩ : ∃ y, all[k] = y := ⟨_, rfl⟩
     have HY := hZ9 hy
     rw [hy] at c0 c1 h10 hnum
     subst hA
     clear e1 hst hkq hcr hne hy
     obtain ⟨⟨n1, n2⟩, x⟩ := y
     simp only at c0 c1 h10 hnum
     have hxa := hnum.1.2.2.1
     have hxl := hnum.2
     obtain ⟨at', len, by', mk⟩ := x
     simp only at hxa hxl h10
     obtain ⟨a, rfl⟩ : ∃ a : Nat, at' = a := ⟨at'.toNat, by omega⟩
     have hwn : wfN (n1, n2) := ⟨wfI_right hnum.1.1, wfI_right hnum.1.2.1⟩
     have hdk := drop_at hka HY.out
     have hnd9 : ((kept ++ ((n1, n2), (⟨a, len, by', mk⟩ : SlotV)) :: all.drop (k + 1)).map (·.1)).Nodup := by rw [← hdk]; exact (HCR.out.srt HSRT.out).nodup
     have hgl : getL (kept ++ all.drop k) (n1, n2) = some ⟨a, len, by', mk⟩ := by
      rw [hdk]
      exact getL_in hnd9 (by simp)
     have HTE := hZ9 (show ∀ wy, Keeps base [220, 1000000] wr wy → StR wy base Sb { openS0 d1 l1 q n with slices := kept ++ all.drop k, map := mj } ⟨Lb, B, M, Nb, Pb, none, 0⟩ → Calls Tryz.prog 61 #[.pointer (some ⟨Sb, 0, none⟩), .agg #[.int .i64 a, .int .i64 len, .int .i64 by', .int .i64 mk]] wy fun e w' => ∃ A n c, e = .returned (.tuple #[.slice A n c, .int .i64 (tellsS d1 ⟨a, len, by', mk⟩).1]) ∧ Below wy.heap.size wy w' from fun wy _ hs =>
      (tells_any hs hF1 ⟨a, len, by', mk⟩ a rfl (by omega)).mono fun e w' h => by
       obtain ⟨A, n, c, h1, h2⟩ := h.shape
       exact ⟨A, n, c, h1, h2.2⟩)
     have HCLM := hZ9 (show ∀ wy, Below wr.heap.size wr wy → Calls Tryz.prog 62 #[.pointer (some ⟨M, 0, none⟩), .agg #[.int .i64 a, .int .i64 len]] wy fun e w' => ClaimOut wy w' base M (claimM mj a len) e from fun wy hy =>
      Claim_any (HSTQ.out.below hy).map HCR.out.inv (Nat.le_trans hbq hy.size) a len (by omega) (by omega))
     have hk1 : ¬ ((tellsS d1 ⟨a, len, by', mk⟩).1 = 0 ∧ (claimM mj a len).1 = 0) → ClaimR d1 all mp sl q n (k + 1) kept mj := fun h => HCR.out.skip hka HY.out (by show (0 : Int) ≤ (a : Int); omega) h10 h
     have hk2 : (tellsS d1 ⟨a, len, by', mk⟩).1 = 0 → (claimM mj a len).1 = 0 → ClaimR d1 all mp sl q n (k + 1) (kept ++ [((n1, n2), ⟨a, len, by', mk⟩)]) (claimM mj a len).2 := fun h1 h2 => HCR.out.keep hka HY.out (by show (0 : Int) ≤ (a : Int); omega) h10 h1 h2
     have HK1 := hZ9 hk1
     have HK2 := hZ9 hk2
     have HDK := hZ9 hdk
     have HND := hZ9 hnd9
     clear hk1 hk2 hdk hnd9
     obtain ⟨et, het⟩ : ∃ et, et = (tellsS d1 ⟨a, len, by', mk⟩).1 := ⟨_, rfl⟩
     obtain ⟨cm, hcm⟩ : ∃ cm, cm = claimM mj a len := ⟨_, rfl⟩
     have hcno : cm.1 ≠ 0 → cm.2 = mj := by rw [hcm]; exact claimM_no
     rw [← het] at HTE HK1 HK2 h10
     rw [← hcm] at HCLM HK1 HK2
     clear het hcm
     obtain ⟨ec, mj'⟩ := cm
     simp only at HK1 HK2 hcno
     replace HCLM : Hid (∀ wy, Below wr.heap.size wr wy → Calls Tryz.prog 62 #[.pointer (some ⟨M, 0, none⟩), .agg #[.int .i64 a, .int .i64 len]] wy fun e w' => e = .returned (.int .i64 ec) ∧ MapR w' base M mj' ∧ Keeps base [220] wy w') := HCLM.out
     have HCNO := hZ9 hcno
     have HGL := hZ9 hgl
     clear hcno hgl
     go_upto_region 22 with fail
     have HB2 : Hid (Below wr.heap.size wr (wr.alloc (.cells #[.int .i64 n1, .int .i64 n2] 73))) := bR0.alloc nR0 _
     have HX2 := hZ9 (Blk.new wr 73 #[.int .i64 n1, .int .i64 n2])
     clear c0 c1 hbl
     generalize wr.alloc (.cells #[.int .i64 n1, .int .i64 n2] 73) = w2 at *
     obtain ⟨g3, hg3⟩ : ∃ g3, g3 = wr.heap.size := ⟨_, rfl⟩
     rw [← hg3] at HX2 ⊢
     have hg3l : base ≤ g3 := by omega
     clear hg3
     have hw2 := HB2.out.size
     have SK2 := hZ9 (show ∀ wy, Below w2.heap.size w2 wy → wy.cell? ⟨Sb, 5, none⟩ = some (.map (some Pb)) ∧ (wy.cell? ⟨g3, 0, none⟩ = some (.int .i64 n1) ∧ wy.cell? ⟨g3, 1, none⟩ = some (.int .i64 n2)) ∧ (Instr.lookup 125 (.map (some Pb)) (.agg #[.int .i64 n1, .int .i64 n2]) false).run Tryz.prog wy = .ok (.agg #[.int .i64 a, .int .i64 len, .int .i64 by', .int .i64 mk]) wy from fun wy hy => by
      have hh := HSTQ.out.below (HB2.out.trans (hy.mono hw2))
      have hx := HX2.out.below hy HX2.out.lt
      refine ⟨hh.blk.cell 5, ⟨hx.cell 0, hx.cell 1⟩, ?_⟩
      have := hh.pmap.look (x := (n1, n2)) hwn
      rw [show getL (kept ++ all.drop k) (n1, n2) = _ from HGL.out] at this
      exact this)
     have S20 := hZ9 (SK2.out _ bR0.drew)
     have HBZ : Hid (Below w2.heap.size w2 ((w2.alloc (.cells #[.int .i64 0, .int .i64 0, .int .i64 0, .int .i64 0] 142)).drew.setRow w2.heap.size #[.int .i64 a, .int .i64 len, .int .i64 by', .int .i64 mk])) :=
      (bR0.alloc nR0 _).drew.trans (grown_below (setRow_gby _ _ _) (by simp) (fun k hk => by injection hk with hk; omega))
     have HXZ : Hid (Blk ((w2.alloc (.cells #[.int .i64 0, .int .i64 0, .int .i64 0, .int .i64 0] 142)).drew.setRow w2.heap.size #[.int .i64 a, .int .i64 len, .int .i64 by', .int .i64 mk]) w2.heap.size 142 #[.int .i64 a, .int .i64 len, .int .i64 by', .int .i64 mk]) := setRow_blk (Blk.new w2 142 _).drew _
     have zs : (stSlot (.pointer (some ⟨w2.heap.size, 0, none⟩)) (.agg #[.int .i64 a, .int .i64 len, .int .i64 by', .int .i64 mk])).run Tryz.prog (w2.alloc (.cells #[.int .i64 0, .int .i64 0, .int .i64 0, .int .i64 0] 142)).drew = .ok () ((w2.alloc (.cells #[.int .i64 0, .int .i64 0, .int .i64 0, .int .i64 0] 142)).drew.setRow w2.heap.size #[.int .i64 a, .int .i64 len, .int .i64 by', .int .i64 mk]) := run_stSlot (Blk.new w2 142 _).drew rfl rfl (by simp [Value.oneCell'])
     have S23 := hZ9 (SK2.out _ HBZ.out)
     go_cut [14] (fun v14 wx => v14 = .pointer (some ⟨w2.heap.size, 0, none⟩) ∧ Below w2.heap.size w2 wx ∧ Blk wx w2.heap.size 142 #[.int .i64 a, .int .i64 len, .int .i64 by', .int .i64 mk])
     case first =>
      go_region_held3 (fun wy => wy.cell? ⟨Sb, 5, none⟩ = some (.map (some Pb)) ∧ (wy.cell? ⟨g3, 0, none⟩ = some (.int .i64 n1) ∧ wy.cell? ⟨g3, 1, none⟩ = some (.int .i64 n2)) ∧ (Instr.lookup 125 (.map (some Pb)) (.agg #[.int .i64 n1, .int .i64 n2]) false).run Tryz.prog wy = .ok (.agg #[.int .i64 a, .int .i64 len, .int .i64 by', .int .i64 mk]) wy)
       (first | exact S20.out | exact S23.out | exact SK2.out _ (bR0.drew.alloc nR0 _) | exact SK2.out _ ((bR0.alloc nR0 _).drew))
       (fail)
      all_goals
       go_wp2_with fail
       go_meet
       exact ⟨rfl, HBZ.out, HXZ.out⟩
     case rest =>
      obtain ⟨rfl, hb3, hx3⟩ := hcut
      obtain ⟨g4, hg4⟩ : ∃ g4, g4 = w2.heap.size := ⟨_, rfl⟩
      rw [← hg4] at hx3 ⊢
      have hg4l : base ≤ g4 := by omega
      clear hg4 S20 S23 SK2 zs HBZ HXZ
      have HX33 := hZ9 (HX2.out.below hb3 HX2.out.lt)
      have HX34 := hZ9 hx3
      have HB3 := hZ9 (HB2.out.trans (hb3.mono hw2))
      have z0 := hx3.cell 0
      have z1 := hx3.cell 1
      have z2 := hx3.cell 2
      have z3 := hx3.cell 3
      have zl := hx3.lt
      have he10 : ((et : Int) == 10) = false := by simp; omega
      have HT3 := hZ9 (HTE.out _ (Keeps.of_below HB3.out hbq) (HSTQ.out.below HB3.out))
      clear hb3 hx3 HX2 HB2 hw2 HTE
      go_upto_region 26 with (go_at_call 61; refine HT3.out.mono ?_; rintro en w4 ⟨A4, n4, c4, rfl, hb4⟩; (have HB4 := hZ9 (HB3.out.trans (hb4.mono HB3.out.size))); (have HX43 := hZ9 (HX33.out.below hb4 HX33.out.lt)); (have HX44 := hZ9 (HX34.out.below hb4 HX34.out.lt)); clear hb4)
      clear z0 z1 z2 z3 zl he10 HT3 HX33 HX34 HB3
      have HS4 := hZ9 (HSTQ.out.below HB4.out)
      have hs4l := HB4.out.size
      have hb4l : base ≤ w4.heap.size := Nat.le_trans hbq hs4l
      obtain ⟨bq, hbq0⟩ : ∃ bq, bq = decide (¬ (et = 0 ∧ ec = 0)) := ⟨_, rfl⟩
      have HBQ := hZ9 hbq0
      clear hbq0
      go_cut [125] (fun v wx => v = .bool bq ∧ StR wx base Sb { openS0 d1 l1 q n with slices := kept ++ all.drop k, map := (if et = 0 then mj' else mj) } ⟨Lb, B, M, Nb, Pb, none, 0⟩ ∧ Keeps base [220] w4 wx)
      case first =>
       by_cases he : et = 0
       ·subst he
        have SK4 := hZ9 (show ∀ wy, Keeps base [220] w4 wy → wy.cell? ⟨Sb, 3, none⟩ = some (.pointer (some ⟨M, 0, none⟩)) ∧ wy.cell? ⟨g4, 0, none⟩ = some (.int .i64 a) ∧ wy.cell? ⟨g4, 1, none⟩ = some (.int .i64 len) from fun wy hy => by
         have h1 := HS4.out.blk.keeps hy (by decide)
         have h2 := HX44.out.keeps hy (by decide)
         exact ⟨h1.cell 3, h2.cell 0, h2.cell 1⟩)
        have S40 := hZ9 (SK4.out _ (Keeps.of_below bR0.drew hb4l))
        go_region_held3 (fun wy => wy.cell? ⟨Sb, 3, none⟩ = some (.pointer (some ⟨M, 0, none⟩)) ∧ wy.cell? ⟨g4, 0, none⟩ = some (.int .i64 a) ∧ wy.cell? ⟨g4, 1, none⟩ = some (.int .i64 len))
         (first | exact S40.out | exact SK4.out _ K5.out)
         (first | (go_at_call 62; refine (HCLM.out _ (HB4.out.trans (bR0.drew.mono hs4l))).mono ?_; rintro en w5 ⟨rfl, hm5, hk5⟩; (have HM5 := hZ9 hm5); (have HK5 := hZ9 hk5); (have K5 : Hid (Keeps base [220] w4 w5) := (Keeps.of_below bR0.drew hb4l).trans hk5); clear hm5 hk5))
        all_goals
         have kq := hZ9 (show StR w5 base Sb { openS0 d1 l1 q n with slices := kept ++ all.drop k, map := (if 0 = 0 then mj' else mj) } ⟨Lb, B, M, Nb, Pb, none, 0⟩ from HS4.out.mapped K5.out HM5.out)
         have bq' : Hid (bq = ((ec : Int) != 0)) := by
          show bq = ((ec : Int) != 0)
          rw [HBQ.out]
          by_cases h0 : ec = 0
          ·subst h0; rfl
          ·simp [h0]
         go_wp2_with fail
         go_meet
         exact ⟨by rw [bq'.out], kq.out, K5.out⟩
       ·have he' : ((et : Int) != 0) = true := by simp; omega
        have hbt : bq = true := by rw [HBQ.out]; simp [he]
        subst hbt
        have kq := hZ9 (show StR w4 base Sb { openS0 d1 l1 q n with slices := kept ++ all.drop k, map := (if et = 0 then mj' else mj) } ⟨Lb, B, M, Nb, Pb, none, 0⟩ from by rw [if_neg he]; exact HS4.out)
        clear he
        refine wp_region_quiet_below (by kernel_rfl) (by kernel_rfl) ?_
        repeat (go_big_quiet_step (fail))
        refine wpQuiet_nil ?_
        intro _ hw'
        obtain ⟨⟨dq, osq⟩, hw''⟩ := hw'
        subst hw''
        go_wp2_with fail
        go_meet
        exact ⟨rfl, kq.out.below (below_regrown w4 dq osq), Keeps.of_below (below_regrown w4 dq osq) hb4l⟩
      case rest =>
       obtain ⟨rfl, hs6, hk6⟩ := hcut
       have HS6 := hZ9 hs6
       have HK6 := hZ9 hk6
       have HX63 := hZ9 (HX43.out.keeps hk6 (by decide))
       have hb6l := hs6.lt
       have HKK := hZ9 ((HKQ.out.trans (Keeps.of_below (base := base) (ts := [220, 1000000]) HB4.out hbq)).trans (hk6.mono nR0 (by simp)))
       clear hs6 hk6 HX43 HX44 HCLM HS4 HB4 HSTQ HKQ HK6
       by_cases hb : et = 0 ∧ ec = 0
       ·have hbt : bq = false := by rw [HBQ.out]; simp [hb]
        subst hbt
        have HR6 := hZ9 (HK2.out hb.1 hb.2)
        have HS7 := hZ9 (show StR wc base Sb { openS0 d1 l1 q n with slices := (kept ++ [((n1, n2), (⟨a, len, by', mk⟩ : SlotV))]) ++ all.drop (k + 1), map := mj' } ⟨Lb, B, M, Nb, Pb, none, 0⟩ from by
         have h1 := HS6.out
         rw [if_pos hb.1, HDK.out] at h1
         rw [List.append_assoc]
         exact h1)
        clear hb
        go_wp2_with fail
        go_roundw
        case rel => exact ⟨k + 1, kept ++ [((n1, n2), ⟨a, len, by', mk⟩)], mj', by omega, by simp, HR6.out, HS7.out, HKK.out⟩
        case measure => simp [intOf]; omega
       ·have hbt : bq = true := by rw [HBQ.out]; simp only [hb]; rfl
        subst hbt
        have HR6 := hZ9 (HK1.out hb)
        have hmj : (if et = 0 then mj' else mj) = mj := by
         by_cases h0 : et = 0
         ·rw [if_pos h0]; exact HCNO.out (fun h => hb ⟨h0, h⟩)
         ·rw [if_neg h0]
        have HS7 := hZ9 (show StR wc base Sb { openS0 d1 l1 q n with slices := kept ++ all.drop k, map := mj } ⟨Lb, B, M, Nb, Pb, none, 0⟩ from by
         have h1 := HS6.out
         rw [hmj] at h1
         exact h1)
        have hsub : (kept ++ all.drop (k + 1)).Sublist all := HR6.out.subAll
        obtain ⟨w8, hrun, hs8, _, hk8, htu⟩ := (HS7.out.below bR0.drew).striking (n1, n2) hwn (kept ++ all.drop (k + 1)) (fun y => by
         show _ = if y = (n1, n2) then none else getL (kept ++ all.drop k) y
         rw [HDK.out]; exact getL_struck HND.out y) (HR6.out.srt HSRT.out) (HR6.out.num HNUM.out)
        have S60 := hZ9 (show wc.drew.cell? ⟨Sb, 5, none⟩ = some (.map (some Pb)) ∧ (wc.drew.cell? ⟨g3, 0, none⟩ = some (.int .i64 n1) ∧ wc.drew.cell? ⟨g3, 1, none⟩ = some (.int .i64 n2)) from
         ⟨HS7.out.blk.drew.cell 5, HX63.out.drew.cell 0, HX63.out.drew.cell 1⟩)
        have S61 := hZ9 (show w8.cell? ⟨Sb, 5, none⟩ = some (.map (some Pb)) ∧ (w8.cell? ⟨g3, 0, none⟩ = some (.int .i64 n1) ∧ w8.cell? ⟨g3, 1, none⟩ = some (.int .i64 n2)) from
         ⟨turned_cell htu S60.out.1, turned_cell htu S60.out.2.1, turned_cell htu S60.out.2.2⟩)
        have HS8 := hZ9 hs8
        have HK8 := hZ9 (HKK.out.trans ((Keeps.of_below (base := base) (ts := [220, 1000000]) bR0.drew hb6l).trans (hk8.mono nR0 (by simp))))
        clear hb hmj hsub hs8 hk8 htu HK1 HK2 HCNO
        replace hrun : (Builtin.delete_ #[125, 73] 0 #[.map (some Pb), .agg #[.int .i64 n1, .int .i64 n2]]).run Tryz.prog wc.drew = .ok (.tuple #[]) w8 := hrun
        go_upto_region 27 with fail
        go_region_held3 (fun wy => wy.cell? ⟨Sb, 5, none⟩ = some (.map (some Pb)) ∧ (wy.cell? ⟨g3, 0, none⟩ = some (.int .i64 n1) ∧ wy.cell? ⟨g3, 1, none⟩ = some (.int .i64 n2)))
         (first | exact S60.out | exact S61.out)
         (fail)
        all_goals
         go_wp2_with fail
         go_roundw
         case rel => exact ⟨k + 1, kept, mj, by omega, by simp, HR6.out, HS8.out, HK8.out⟩
         case measure => simp [intOf]; omega
    ·obtain rfl : k = na := by omega
     have hkl' : ¬ (k : Int) < k := by omega
     obtain ⟨hks, hmm⟩ := HCR.out.ended (by rw [← HNA.out]; exact nR0)
     have hdn : all.drop k = [] := by rw [HNA.out]; exact List.drop_length
     have hsrt2 := HCR.out.srt HSRT.out
     have hnum2 := HCR.out.num HNUM.out
     have hlen2 := HCR.out.subAll.length_le
     rw [hdn, List.append_nil, hks] at hsrt2 hnum2 hlen2
     have HS2 := hZ9 (show StR wr base Sb { openS0 d1 l1 q n with slices := sl, map := mp } ⟨Lb, B, M, Nb, Pb, none, 0⟩ from by
      have h1 := HSTQ.out
      rw [hdn, List.append_nil, hks, hmm] at h1
      exact h1)
     have hal2 : all.length ≤ 100000 := by rw [← HNA.out]; omega
     have HSL : Hid (StL { openS0 d1 l1 q n with slices := sl, map := mp }) :=
      ⟨hsrt2, hnum2, List.Pairwise.nil, (fun x hx => by cases hx), (fun x hx => by cases hx), by show sl.length ≤ _; omega, by show 0 ≤ _; omega, by show 0 ≤ _; omega⟩
     have htn := HG.out.tn
     rw [← HQ.out, ← HN.out] at htn
     have hs2e : { openS1 d1 l1 q n with slices := sl, map := mp } = ({ openS0 d1 l1 q n with slices := sl, map := mp } : StV) := by rw [HEQ.out]
     rw [hs2e] at htn
     have hend : openEnd d d1 l1 sl mp d2 l2 = { ({ openS0 d1 l1 q n with slices := sl, map := mp } : StV) with d := d2, log := l2 } := by
      unfold openEnd
      rw [← HQ.out, ← HN.out, HEQ.out]
     have HEND := hZ9 hend
     have HKF := hZ9 (HK9.out.trans (hkq.mono nR0 (ts' := ALLT) (by simp)))
     have hwrb := hst.lt
     have hnr : (recordsS { openS0 d1 l1 q n with slices := sl, map := mp }).length ≤ 100000 := by
      rw [records_eq, List.length_append, List.length_append, List.length_map, List.length_map, List.length_map]
      show 0 + sl.length + 0 ≤ _
      omega
     clear hks hmm hdn hsrt2 hnum2 hs2e hend hst hkq hcr HSTQ HKQ HK9 HST9 HCR HC0 HSRT HNUM HEQ HO9
     obtain ⟨s2, hs2⟩ : ∃ s2, s2 = ({ openS0 d1 l1 q n with slices := sl, map := mp } : StV) := ⟨_, rfl⟩
     have hd2 : s2.d = d1 := by rw [hs2]; rfl
     have hlg2 : s2.log = l1 := by rw [hs2]; rfl
     rw [← hs2] at HS2 HSL HEND htn hnr
     clear hs2
     have HREC := hZ9 (show ∀ wy, Below wr.heap.size wr wy → Calls Tryz.prog 64 #[.pointer (some ⟨Sb, 0, none⟩)] wy fun e w' => ∃ L A c, e = .returned (.slice A (recordsS s2).length c) ∧ RecsW wy w' (recordsS s2) (recordsS s2).length L (.slice A (recordsS s2).length c) from fun wy hy => records_any (HS2.out.below hy) HSL.out)
     have HTU := hZ9 (show ∀ wy w3 L A c, Below wr.heap.size wr wy → RecsW wy w3 (recordsS s2) (recordsS s2).length L (.slice A (recordsS s2).length c) → Calls Tryz.prog 63 #[.pointer (some ⟨Lb, 0, none⟩), .slice A (recordsS s2).length c] w3 fun e w' => e = .returned (.int .i64 0) ∧ StR w' base Sb { s2 with d := d2, log := l2 } ⟨Lb, B, M, Nb, Pb, none, 0⟩ ∧ Keeps base [121, 165, 167, 216, 137] wr w' from fun wy w3 L A c hy hR => by
      have hb3 : Below wr.heap.size wr w3 := hy.trans (hR.below.mono hy.size)
      have hh := HS2.out.below hb3
      have hL : L.map (·.1) = recordsS s2 := by rw [hR.rcs, List.take_length]
      have h1 := hh.log
      have h2 := hh.dsk
      rw [hlg2] at h1
      rw [hd2] at h2
      have := turnW_any h1 h2 hh.tab.steps hh.b2 (by have := HG.out.wt1; omega) HG.out.lsz HG.out.ep L A c (by rw [hR.len]; exact Sl.of_own hR.own) hR.bod (by rw [hR.len]; omega)
      rw [hL, hR.len, htn] at this
      refine this.mono ?_
      rintro e w' ⟨h1, h2', h3, h4⟩
      have kk := (Keeps.of_below (base := base) (ts := [121, 165, 167, 216, 137]) hb3 hwrb).trans h4
      have hsz2 : d2.size = s2.d.size := by
       have := turnL_size d1 l1 (recordsS s2)
       rw [htn] at this
       rw [hd2]; exact this
      exact ⟨h1, (HS2.out.logged kk h3 h2' hsz2), kk⟩)
     have SKF := hZ9 (show ∀ wy, Keeps base [121, 165, 167, 216, 137] wr wy → wy.cell? ⟨Sb, 2, none⟩ = some (.pointer (some ⟨Lb, 0, none⟩)) from fun wy hy => (HS2.out.blk.keeps hy (by decide)).cell 2)
     have SF0 := hZ9 (SKF.out _ (Keeps.of_below bR0.drew hwrb))
     clear htn hd2 hlg2
     generalize (recordsS s2).length = nr at *
     go_upto_region 29 with fail
     go_region_held3 (fun wy => wy.cell? ⟨Sb, 2, none⟩ = some (.pointer (some ⟨Lb, 0, none⟩)))
      (first | exact SKF.out _ HK4.out | exact SKF.out _ (Keeps.of_below HB3.out hwrb) | exact SF0.out)
      (first
       | (go_at_call 64; refine (HREC.out _ bR0.drew).mono ?_; rintro en w3 ⟨L, A3, c3, rfl, hR⟩; (have HR := hZ9 hR); (have HB3 : Hid (Below wr.heap.size wr w3) := bR0.drew.trans hR.below); clear hR)
       | (go_at_call 63; refine (HTU.out _ _ _ _ _ bR0.drew HR.out).mono ?_; rintro en w4 ⟨rfl, hs4, hk4⟩; (have HS4 := hZ9 hs4); (have HK4 := hZ9 hk4); clear hs4 hk4))
     all_goals
      go_wp2_with fail
      go_ret2
      rw [HEND.out]
      exact ⟨Sb, ⟨Lb, B, M, Nb, Pb, none, 0⟩, rfl, rfl, HS4.out, HKF.out.trans (HK4.out.mono nR0 (by simp))⟩
end Go.Proofs.YtmgmfnimaafkdaaGreatDoor
