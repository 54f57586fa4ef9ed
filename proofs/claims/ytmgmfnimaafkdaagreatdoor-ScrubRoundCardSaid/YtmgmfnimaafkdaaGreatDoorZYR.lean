/- So many slices behind one, round and round: the walk of Next. -/
import Derived.Test.YtmgmfnimaafkdaaGreatDoorZYQ
import Derived.Test.YtmgmfnimaafkdaaGreatDoorXW
import Derived.Test.YtmgmfnimaafkdaaGreatDoorXC
import Derived.Deep.RegionHeld3
import Derived.Deep.WholeRow
namespace Go.Proofs.YtmgmfnimaafkdaaGreatDoor
open Go.RowKit Go.Maps
set_option maxRecDepth 100000

theorem behind_gt {a1 a2 b1 b2 : Int} (h : b1 < a1) : ltN (b1, b2) (a1, a2) = true := by unfold ltN; simp [h]
theorem behind_eq {a1 a2 b2 : Int} : ltN (a1, b2) (a1, a2) = decide (b2 < a2) := by unfold ltN; simp
theorem behind_no {a1 a2 b1 b2 : Int} (h : ¬ b1 < a1) (h2 : ¬ a1 = b1) : ltN (b1, b2) (a1, a2) = false := by
 unfold ltN
 have : ¬ b1 = a1 := fun e => h2 e.symm
 simp [h, this]
set_option maxHeartbeats 4000000 in
theorem behind95_any (w : World) (a1 a2 b1 b2 : Int) :
  Calls Tryz.prog 95 #[.agg #[.int .i64 a1, .int .i64 a2], .agg #[.int .i64 b1, .int .i64 b2]] w fun e w' => e = .returned (.bool (ltN (b1, b2) (a1, a2))) ∧ Below w.heap.size w w' := by
 have HX := hZ9 (show Blk ((w.alloc (.cells #[.int .i64 a1, .int .i64 a2] 73)).alloc (.cells #[.int .i64 b1, .int .i64 b2] 73)) w.heap.size 73 #[.int .i64 a1, .int .i64 a2] from (Blk.new _ _ _).alloc _)
 have HY := hZ9 (show Blk ((w.alloc (.cells #[.int .i64 a1, .int .i64 a2] 73)).alloc (.cells #[.int .i64 b1, .int .i64 b2] 73)) (w.heap.size + 1) 73 #[.int .i64 b1, .int .i64 b2] from Blk.new_eq0 (by simp))
 have HB : Hid (Below w.heap.size w ((w.alloc (.cells #[.int .i64 a1, .int .i64 a2] 73)).alloc (.cells #[.int .i64 b1, .int .i64 b2] 73))) := (bR0.alloc nR0 _).alloc (by simp) _
 go_enter Tryz.func95, Tryz.ntmps95
 go_upto_region 1 with fail
 generalize (w.alloc (.cells #[.int .i64 a1, .int .i64 a2] 73)).alloc (.cells #[.int .i64 b1, .int .i64 b2] 73) = w1 at *
 have x0 : w1.cell? ⟨w.heap.size, 0, none⟩ = some (.int .i64 a1) := HX.out.cell 0
 have x1 : w1.cell? ⟨w.heap.size, 1, none⟩ = some (.int .i64 a2) := HX.out.cell 1
 have y0 : w1.cell? ⟨w.heap.size + 1, 0, none⟩ = some (.int .i64 b1) := HY.out.cell 0
 have y1 : w1.cell? ⟨w.heap.size + 1, 1, none⟩ = some (.int .i64 b2) := HY.out.cell 1
 have xl := HX.out.lt
 have yl := HY.out.lt
 by_cases h1 : b1 < a1
 ·have e := hZ9 (behind_gt (a2 := a2) (b2 := b2) h1)
  have h2 : a1 > b1 := h1
  go_wp2_with fail
  go_ret
  exact ⟨by rw [e.out]; simp, HB.out⟩
 ·by_cases h2 : a1 = b1
  ·subst h2
   have e := hZ9 (behind_eq (a1 := a1) (a2 := a2) (b2 := b2))
   have g1 : ¬ (a1 > a1) := by omega
   go_wp2_with fail
   go_ret
   exact ⟨by rw [e.out]; simp, HB.out⟩
  ·have e := hZ9 (behind_no (a2 := a2) (b2 := b2) h1 h2)
   have g1 : ¬ (a1 > b1) := h1
   have g2 : (a1 == b1) = false := beq_eq_false_iff_ne.2 h2
   go_wp2_with fail
   go_ret
   exact ⟨by rw [e.out]; simp, HB.out⟩
set_option maxHeartbeats 4000000 in
theorem behind96_any (w : World) (a1 a2 b1 b2 : Int) :
  Calls Tryz.prog 96 #[.agg #[.int .i64 a1, .int .i64 a2], .agg #[.int .i64 b1, .int .i64 b2]] w fun e w' => e = .returned (.bool (ltN (b1, b2) (a1, a2))) ∧ Below w.heap.size w w' := by
 have HX := hZ9 (show Blk ((w.alloc (.cells #[.int .i64 a1, .int .i64 a2] 105)).alloc (.cells #[.int .i64 b1, .int .i64 b2] 105)) w.heap.size 105 #[.int .i64 a1, .int .i64 a2] from (Blk.new _ _ _).alloc _)
 have HY := hZ9 (show Blk ((w.alloc (.cells #[.int .i64 a1, .int .i64 a2] 105)).alloc (.cells #[.int .i64 b1, .int .i64 b2] 105)) (w.heap.size + 1) 105 #[.int .i64 b1, .int .i64 b2] from Blk.new_eq0 (by simp))
 have HB : Hid (Below w.heap.size w ((w.alloc (.cells #[.int .i64 a1, .int .i64 a2] 105)).alloc (.cells #[.int .i64 b1, .int .i64 b2] 105))) := (bR0.alloc nR0 _).alloc (by simp) _
 go_enter Tryz.func96, Tryz.ntmps96
 go_upto_region 1 with fail
 generalize (w.alloc (.cells #[.int .i64 a1, .int .i64 a2] 105)).alloc (.cells #[.int .i64 b1, .int .i64 b2] 105) = w1 at *
 have x0 : w1.cell? ⟨w.heap.size, 0, none⟩ = some (.int .i64 a1) := HX.out.cell 0
 have x1 : w1.cell? ⟨w.heap.size, 1, none⟩ = some (.int .i64 a2) := HX.out.cell 1
 have y0 : w1.cell? ⟨w.heap.size + 1, 0, none⟩ = some (.int .i64 b1) := HY.out.cell 0
 have y1 : w1.cell? ⟨w.heap.size + 1, 1, none⟩ = some (.int .i64 b2) := HY.out.cell 1
 have xl := HX.out.lt
 have yl := HY.out.lt
 by_cases h1 : b1 < a1
 ·have e := hZ9 (behind_gt (a2 := a2) (b2 := b2) h1)
  have h2 : a1 > b1 := h1
  go_wp2_with fail
  go_ret
  exact ⟨by rw [e.out]; simp, HB.out⟩
 ·by_cases h2 : a1 = b1
  ·subst h2
   have e := hZ9 (behind_eq (a1 := a1) (a2 := a2) (b2 := b2))
   have g1 : ¬ (a1 > a1) := by omega
   go_wp2_with fail
   go_ret
   exact ⟨by rw [e.out]; simp, HB.out⟩
  ·have e := hZ9 (behind_no (a2 := a2) (b2 := b2) h1 h2)
   have g1 : ¬ (a1 > b1) := h1
   have g2 : (a1 == b1) = false := beq_eq_false_iff_ne.2 h2
   go_wp2_with fail
   go_ret
   exact ⟨by rw [e.out]; simp, HB.out⟩
theorem own_lowR {w : World} {base e size n : Nat} {v : Value} {xs : List Value} (h : w.ownsRow base e size v n xs) : ∀ k, v.ownBlock = some k → base ≤ k := fun k hk => by
 rcases h.2 with ⟨hv, _⟩ | ⟨g', cap, cur, hv, hbg, _, _⟩ <;> (rw [hv] at hk; simp [Value.ownBlock] at hk)
 omega
structure NextX (w1 w5 wr : World) (G : Nat) (last : NameV) (b : List NameV) (v : Value) : Prop where
 bel : Below w1.heap.size w1 wr
 blk : Blk wr G 73 #[.int .i64 last.1, .int .i64 last.2]
 own : wr.ownsRow w5.heap.size 73 2 v b.length (nameRows b)
 sz : w5.heap.size ≤ wr.heap.size
theorem NextX.below {w1 w5 wr w' : World} {G : Nat} {last : NameV} {b : List NameV} {v : Value} (h : NextX w1 w5 wr G last b v) (hb : Below wr.heap.size wr w') : NextX w1 w5 w' G last b v :=
 ⟨h.bel.trans (hb.mono h.bel.size), h.blk.below hb h.blk.lt, own_keeps h.own (Keeps.of_below (base := w5.heap.size) (ts := []) hb h.sz) (by simp), Nat.le_trans h.sz hb.size⟩
theorem NextX.stored {w1 w5 wr : World} {G : Nat} {last : NameV} {b : List NameV} {v : Value} (h : NextX w1 w5 wr G last b v) (hG : w1.heap.size ≤ G) (hG5 : G < w5.heap.size) (n : NameV) : NextX w1 w5 (wr.setRow G #[.int .i64 n.1, .int .i64 n.2]) G n b v :=
 ⟨h.bel.trans (grown_below (setRow_gby _ _ _) h.bel.size (fun k hk => by injection hk with hk; omega)), setRow_blk h.blk _, own_kept h.own (setRow_gby _ _ _) (fun k hk e => by injection e with e; have := own_lowR h.own k hk; omega), by rw [show (wr.setRow G #[.int .i64 n.1, .int .i64 n.2]).heap.size = wr.heap.size by simp [World.setRow]]; exact h.sz⟩
theorem NextX.put {w1 w5 wr w' : World} {G c : Nat} {last n : NameV} {b : List NameV} {v : Value} {A : Option Addr} (h : NextX w1 w5 wr G last b v) (h15 : w1.heap.size ≤ w5.heap.size) (hG5 : G < w5.heap.size)
  (hown : w'.ownsRow w5.heap.size 73 2 (.slice A (b.length + 1) c) (b.length + 1) (nameRows b ++ [.int .i64 n.1, .int .i64 n.2])) (hgr : wr.grownBy w' v.ownBlock) : NextX w1 w5 w' G last (b ++ [n]) (.slice A (b.length + 1) c) := by
 have hlow := own_lowR h.own
 refine ⟨h.bel.trans (grown_below hgr h.bel.size (fun k hk => Nat.le_trans h15 (hlow k hk))), h.blk.grown hgr (fun e => by have := hlow _ e; omega), ?_, Nat.le_trans h.sz (grown_below hgr h.sz hlow).size⟩
 rw [nameRows_append, nameRows_one, List.length_append, List.length_singleton]; exact hown
def NextTold (w w' : World) (V : List NameV) (f : NameV) (p : NameV → Bool) (e : Ending) : Prop := ∃ A c, e = .returned (.tuple #[.agg #[.int .i64 (lastN V f).1, .int .i64 (lastN V f).2], .slice A (V.filter p).length c]) ∧ Sl w' 73 2 A (V.filter p).length (nameRows (V.filter p)) ∧ Below w.heap.size w w'
set_option maxHeartbeats 16000000 in
theorem nextS_any {w : World} {base Sb lo E : Nat} {s : StV} {m : StM} {ts : List (NameV × List UInt8)} (h : StR w base Sb s m) (ha : StAll s lo E ts) (hr : ∀ x ∈ s.slices, NumOK x ∧ x.2.len ≤ 1048576) (hn1 : s.slices.length ≤ 100000) (f1 f2 many : Int) :
  Calls Tryz.prog 45 #[.pointer (some ⟨Sb, 0, none⟩), .agg #[.int .i64 f1, .int .i64 f2], .int .i64 many] w fun e w' => NextTold w w' ((rotL (namesL s) (f1, f2)).take many.toNat) (f1, f2) (fun n => !goodN s n) e := by
 have hl : (namesL s).length = s.slices.length := by simp [namesL]
 obtain ⟨i73, hi73, hz0, hz1, hz2⟩ := info_parts info73
 have HNA := hZ9 (show ∀ wy, Below w.heap.size w wy → Calls Tryz.prog 35 #[.pointer (some ⟨Sb, 0, none⟩)] wy fun e w' => ∃ A c, e = .returned (.slice A (namesL s).length c) ∧ Sl w' 73 2 A (namesL s).length (nameRows (namesL s)) ∧ Below wy.heap.size wy w' from fun wy hy => (names_any (h.below hy) ha.srtS hr (by omega)).mono fun e w' ⟨A, c, h1, h2, h3⟩ => ⟨A, c, by rw [hl]; exact h1, by rw [hl]; exact Sl.of_own h2, h3⟩)
 have HGD := hZ9 (show ∀ (n1 n2 : Int), (n1, n2) ∈ namesL s → ∀ wy : World, Below w.heap.size w wy → Calls Tryz.prog 93 #[.pointer (some ⟨Sb, 0, none⟩), .agg #[.int .i64 n1, .int .i64 n2]] wy fun e w' => e = .returned (.bool (goodN s (n1, n2))) ∧ Below wy.heap.size wy w' from fun n1 n2 hn wy hy => good_any (h.below hy) ha (n1, n2) hn)
 obtain ⟨l, hl2⟩ : ∃ l, l = namesL s := ⟨_, rfl⟩
 have hsrt : l.Pairwise fun x y => ltN x y = true := by rw [hl2]; exact List.pairwise_map.2 ha.srtS
 have hll : l.length ≤ 100000 := by rw [hl2, hl]; exact hn1
 rw [← hl2] at HNA HGD ⊢
 obtain ⟨k, hk⟩ : ∃ k, k = l.length := ⟨_, rfl⟩
 have HKL := hZ9 hk
 have hk6 : k ≤ 100000 := by omega
 have HFS := hZ9 (first_spec hsrt (f1, f2))
 have hfl := first_le l (f1, f2)
 have HRG := hZ9 (show ∀ (i : Nat) (hi : i < l.length), (rotL l (f1, f2))[i]? = some (l[(firstL l (f1, f2) + i) % l.length]'(Nat.mod_lt _ (Nat.lt_of_le_of_lt (Nat.zero_le i) hi))) from fun i hi => by rw [List.getElem?_eq_getElem (by rw [rot_len]; exact hi), rot_get l (f1, f2) i hi])
 have HRL := hZ9 (rot_len l (f1, f2))
 have HRM := hZ9 (fun n (hn : n ∈ rotL l (f1, f2)) => rot_mem l (f1, f2) hn)
 generalize firstL l (f1, f2) = ff at *
 generalize hV : rotL l (f1, f2) = R at *
 generalize goodN s = gd at *
 rw [← hk] at HNA hfl
 clear h ha hr hl hl2 hk hsrt hV
 have HB0 : Hid (Below w.heap.size w ((w.alloc (.cells #[.int .i64 f1, .int .i64 f2] 73)).alloc (.cells #[.int .i64 0, .int .i64 0] 73))) := (bR0.alloc nR0 _).alloc (by simp) _
 have HX0 := hZ9 (show Blk ((w.alloc (.cells #[.int .i64 f1, .int .i64 f2] 73)).alloc (.cells #[.int .i64 0, .int .i64 0] 73)) w.heap.size 73 #[.int .i64 f1, .int .i64 f2] from (Blk.new _ _ _).alloc _)
 have HY0 := hZ9 (show Blk ((w.alloc (.cells #[.int .i64 f1, .int .i64 f2] 73)).alloc (.cells #[.int .i64 0, .int .i64 0] 73)) (w.heap.size + 1) 73 #[.int .i64 0, .int .i64 0] from Blk.new_eq0 (by simp))
 have HI : Hid ((Tryz.prog.info? 73).map (·.size) = some 2) := sz73
 go_enter Tryz.func45, Tryz.ntmps45
 go_upto_region 1 with fail
 generalize (w.alloc (.cells #[.int .i64 f1, .int .i64 f2] 73)).alloc (.cells #[.int .i64 0, .int .i64 0] 73) = w0 at *
 obtain ⟨g4, hg4⟩ : ∃ g, g = w.heap.size := ⟨_, rfl⟩
 obtain ⟨g6, hg6⟩ : ∃ g, g = w.heap.size + 1 := ⟨_, rfl⟩
 have hg46 : g4 < w0.heap.size ∧ g6 < w0.heap.size := by have := HX0.out.lt; have := HY0.out.lt; omega
 rw [← hg6] at HY0 ⊢
 rw [← hg4] at HX0 ⊢
 have HGE := hZ9 (And.intro hg4 hg6)
 clear hg4 hg6
 have hw0 := HB0.out.size
 go_upto_region 3 with (go_at_call 35; refine (HNA.out _ HB0.out).mono ?_; rintro en w1 ⟨A1, c1, rfl, hs1, hb1⟩; (have HS1 := hZ9 hs1); (have HB1 := hZ9 (HB0.out.trans (hb1.mono hw0))); (have HX1 := hZ9 (HX0.out.below hb1 hg46.1)); (have HY1 := hZ9 (HY0.out.below hb1 hg46.2)); (have HSZ := hZ9 hb1.size); clear hs1 hb1)
 have hg41 := HX1.out.lt
 have hg61 := HY1.out.lt
 go_loopw [9] (fun i wr => ∃ j : Nat, j ≤ ff ∧ i = .int .i64 (j : Nat) ∧ Below w1.heap.size w1 wr) (fun i _ => ff - (intOf i).toNat)
 case atStart => exact ⟨0, Nat.zero_le _, rfl, bR0⟩
 case round =>
  obtain ⟨j, hj, rfl, hb⟩ := hrel
  have HB := hZ9 hb
  clear hb
  go_upto_region 3 with fail
  go_cut [27] from 15 to 29 (fun v27 wx => v27 = .bool (decide (j < ff)) ∧ Below w1.heap.size w1 wx)
  case first =>
   by_cases hlt : j < k
   ·have hjl : j < l.length := by have := HKL.out; omega
    have HSPF := hZ9 (HFS.out j hjl)
    obtain ⟨b, o, hA, hbl, q0, q1⟩ := names_rd (HS1.out.below HB.out).1 j hjl HKL.out
    generalize l[j] = nm at *
    obtain ⟨n1, n2⟩ := nm
    simp only at q0 q1
    subst hA
    have j1 : (j : Int) < (k : Int) := by omega
    have j2 : (0 : Int) ≤ (j : Int) := by omega
    have hdec : ltN (f1, f2) (n1, n2) = !decide (j < ff) := by
     by_cases h : j < ff
     ·rw [HSPF.out.1 h, decide_eq_true h]; rfl
     ·rw [HSPF.out.2 (by omega), decide_eq_false h]; rfl
    have HBH := hZ9 (fun wy => by have := behind95_any wy n1 n2 f1 f2; rw [hdec] at this; exact this)
    have SK := hZ9 (show ∀ wy, Below wr.heap.size wr wy → (wy.cell? ⟨g4, 0, none⟩ = some (.int .i64 f1) ∧ wy.cell? ⟨g4, 1, none⟩ = some (.int .i64 f2)) ∧ wy.cell? ⟨b, o + j * 2, none⟩ = some (.int .i64 n1) ∧ wy.cell? ⟨b, o + j * 2 + 1, none⟩ = some (.int .i64 n2) from fun wy hy => by
     have hx := (HX1.out.below HB.out hg41).below hy (HX1.out.below HB.out hg41).lt
     exact ⟨⟨hx.cell 0, hx.cell 1⟩, (hy.cell (p := ⟨b, o + j * 2, none⟩) hbl).trans q0, (hy.cell (p := ⟨b, o + j * 2 + 1, none⟩) hbl).trans q1⟩)
    have HBL := hZ9 ((Below.refl wr.heap.size wr).drew)
    generalize decide (j < ff) = dj at *
    clear q0 q1 hdec hbl HSPF
    have hsz := HB.out.size
    go_region_held3 (fun wy => (wy.cell? ⟨g4, 0, none⟩ = some (.int .i64 f1) ∧ wy.cell? ⟨g4, 1, none⟩ = some (.int .i64 f2)) ∧ wy.cell? ⟨b, o + j * 2, none⟩ = some (.int .i64 n1) ∧ wy.cell? ⟨b, o + j * 2 + 1, none⟩ = some (.int .i64 n2))
     (first | exact SK.out _ HBL.out)
     (first | (go_at_call 95; refine (HBH.out _).mono ?_; rintro en w5 ⟨rfl, hb⟩; (have HBL := hZ9 (HBL.out.trans (hb.mono HBL.out.size))); clear hb))
    all_goals
     go_wp2_with fail
     go_meet
     exact ⟨by simp, HB.out.trans (HBL.out.mono hsz)⟩
   ·obtain rfl : j = k := by omega
    have hjf : ¬ j < ff := by omega
    have HD := hZ9 (decide_eq_false hjf)
    have j1 : ¬ (j : Int) < (j : Int) := by omega
    clear hjf
    go_quiet (fail)
    go_wp2_with fail
    go_meet
    exact ⟨by rw [HD.out], bl_drewN HB.out _⟩
  case rest =>
   obtain ⟨rfl, hbc⟩ := hcut
   have HBC := hZ9 hbc
   clear hbc HB
   by_cases hjf : j < ff
   ·rw [decide_eq_true hjf]
    go_wp2_with fail
    go_roundw
    case rel => exact ⟨j + 1, by omega, by go_num, HBC.out⟩
    case measure => simp [intOf]; omega
   ·rw [decide_eq_false hjf]
    obtain rfl : j = ff := by omega
    have HX4 := hZ9 (HX1.out.below HBC.out hg41)
    have HY4 := hZ9 (HY1.out.below HBC.out hg61)
    have HN4 := hZ9 (Blk.new wc 73 #[.int .i64 0, .int .i64 0])
    have hsc := HBC.out.size
    clear HX1 HY1 HFS hjf
    go_upto_region 7 with (first
     | (refine wpList_load_row rfl 73 _ rfl g4 rfl 73 #[.int .i64 f1, .int .i64 f2] (0, 0) _ HX4.out Tryz.underlying73 rfl HI.out ?_)
     | (refine wpList_store_row rfl 73 _ _ rfl wc.heap.size #[.int .i64 f1, .int .i64 f2] rfl rfl 73 _ HN4.out HI.out rfl (by simp [Value.oneCell']) ?_))
    rw [World.setRow_alloc_new]
    have HBA : Hid (Below wc.heap.size wc (wc.alloc (.cells #[.int .i64 f1, .int .i64 f2] 73))) := bR0.alloc nR0 _
    have HN5 := hZ9 (Blk.new wc 73 #[.int .i64 f1, .int .i64 f2])
    have HY5 := hZ9 (HY4.out.below HBA.out HY4.out.lt)
    have HB5 := hZ9 (HBC.out.trans (HBA.out.mono hsc))
    have hG5 := HN5.out.lt
    generalize hw5 : wc.alloc (.cells #[.int .i64 f1, .int .i64 f2] 73) = w5 at *
    obtain ⟨G, hG⟩ : ∃ G, G = wc.heap.size := ⟨_, rfl⟩
    rw [← hG] at HN5 hG5 ⊢
    have hG1 : w1.heap.size ≤ G := by omega
    have hw15 := HB5.out.size
    clear hG hw5 HN4 HBA HX4 HBC hsc HY4
    obtain ⟨cn, hcn⟩ : ∃ cn : Nat, cn = min many.toNat k := ⟨_, rfl⟩
    go_cut [32, 35, 36] (fun _ v35 v36 wx => v35 = .int .i64 (cn : Nat) ∧ v36 = .int .i64 0 ∧ Below w5.heap.size w5 wx)
    case first =>
     have HC := hZ9 (show min (max many 0) (k : Int) = (cn : Int) from by omega)
     clear hcn
     go_wp2_with fail
     go_meet
     exact ⟨by rw [HC.out], rfl, bR0⟩
    case rest =>
     obtain ⟨rfl, rfl, hbc⟩ := hcut
     have HTK := hZ9 (show R.take many.toNat = R.take cn from by
      rw [hcn]
      by_cases h : many.toNat ≤ k
      ·rw [Nat.min_eq_left h]
      ·rw [Nat.min_eq_right (by omega), List.take_of_length_le (by have := HRL.out; have := HKL.out; omega), List.take_of_length_le (by have := HRL.out; have := HKL.out; omega)])
     have hck : cn ≤ k := by omega
     have HNX := hZ9 (show NextX w1 w5 wc G (f1, f2) [] (.slice none 0 0) from ⟨HB5.out.trans (hbc.mono hw15), HN5.out.below hbc HN5.out.lt, own_nil _ _ _ _, hbc.size⟩)
     have HYC := hZ9 (HY5.out.below hbc HY5.out.lt)
     clear hbc hcn HY5 HB5 HN5
     have HYB := hZ9 (show ∀ wy, Below w1.heap.size w1 wy → Blk wy g6 73 #[.int .i64 0, .int .i64 0] from fun wy hy => by
      have h1 : Blk w1 g6 73 #[.int .i64 0, .int .i64 0] := by
       have := HNX.out.bel.block g6 hg61
       exact this.symm.trans HYC.out
      exact h1.below hy hg61)
     clear HYC
     go_wp2_with fail
     go_loopw [11, 36] (fun v11 i wr => ∃ p : Nat, p ≤ cn ∧ i = .int .i64 (p : Nat) ∧ NextX w1 w5 wr G (lastN (R.take p) (f1, f2)) ((R.take p).filter fun n => !gd n) v11) (fun _ i _ => cn - (intOf i).toNat)
     case atStart => exact ⟨0, Nat.zero_le _, rfl, HNX.out⟩
     case round =>
      obtain ⟨p, hp, rfl, hX⟩ := hrel
      have HX := hZ9 hX
      clear hX HNX
      by_cases hlt : p < cn
      ·have hpl : p < l.length := by have := HKL.out; omega
       obtain ⟨q, hq⟩ : ∃ q, q = (j + p) % l.length := ⟨_, rfl⟩
       have hql : q < l.length := by rw [hq]; exact Nat.mod_lt _ (by omega)
       have hrq : R[p]? = some l[q] := by rw [HRG.out p hpl]; simp only [hq]
       obtain ⟨b, o, rfl, hbl, q0, q1⟩ := names_rd (HS1.out.below HX.out.bel).1 q hql HKL.out
       have hmem : l[q] ∈ l := List.getElem_mem hql
       have htk : R.take (p + 1) = R.take p ++ [l[q]] := by
        have hpR : p < R.length := by have := HRL.out; omega
        rw [List.take_succ_eq_append_getElem hpR]
        rw [List.getElem?_eq_getElem hpR] at hrq
        injection hrq with hrq
        rw [hrq]
       generalize l[q] = nm at *
       obtain ⟨n1, n2⟩ := nm
       simp only at q0 q1
       have hfl2 : ((R.take p).filter fun n => !gd n).length ≤ 100000 := by have := List.length_filter_le (fun n => !gd n) (R.take p); rw [List.length_take] at this; have := HRL.out; omega
       have e1 : lastN (R.take (p + 1)) (f1, f2) = (n1, n2) := by rw [htk, lastN_snoc]
       have e2 : (R.take (p + 1)).filter (fun n => !gd n) = (R.take p).filter (fun n => !gd n) ++ [(n1, n2)].filter (fun n => !gd n) := by rw [htk, List.filter_append]
       have HE := hZ9 (And.intro e1 e2)
       have a0 : (k : Int) = (l.length : Int) := by rw [HKL.out]
       have a1 : IntKind.i64.wrap ((j : Int) + (p : Int)) = (j : Int) + (p : Int) := by rw [IntKind.wrap_i64]; omega
       have a2 : ((j : Int) + (p : Int)) % (k : Int) = (q : Int) := by rw [a0, hq, Int.natCast_emod, Int.natCast_add]
       have a3 : ((j : Int) + (p : Int)).tmod (k : Int) = (q : Int) := by rw [Int.tmod_eq_emod_of_nonneg (by omega)]; exact a2
       have a4 : ¬ ((k : Int) = 0) := by omega
       have a5 : ((k : Int) == 0) = false := beq_eq_false_iff_ne.2 a4
       have a6 : (q : Int) < (k : Int) := by omega
       have a7 : (0 : Int) ≤ (q : Int) := by omega
       have p1 : (p : Int) < (cn : Int) := by omega
       have p2 : (0 : Int) ≤ (p : Int) := by omega
       have HBG := hZ9 HX.out.blk
       have HST := hZ9 (HX.out.stored hG1 hG5 (n1, n2))
       clear htk e1 e2 hq hrq hpl hql a0
       generalize (R.take p).filter (fun n => !gd n) = bs at *
       go_upto_region 11 with (refine wpList_store_row rfl 73 _ _ rfl G #[.int .i64 n1, .int .i64 n2] rfl rfl 73 _ HBG.out HI.out rfl (by simp [Value.oneCell']) ?_)
       have HS2 := HST
       generalize wr.setRow G #[.int .i64 n1, .int .i64 n2] = wx at *
       have z0 : wx.cell? ⟨G, 0, none⟩ = some (.int .i64 n1) := HST.out.blk.cell 0
       have z1 : wx.cell? ⟨G, 1, none⟩ = some (.int .i64 n2) := HST.out.blk.cell 1
       have zl := HST.out.blk.lt
       clear q0 q1 hbl a1 a2 a3 a4 a5 a6 a7 HBG HX
       have HC := hZ9 (HGD.out n1 n2 hmem wx (HB1.out.trans (HST.out.bel.mono HB1.out.size)))
       cases hg : gd (n1, n2) with
       | true =>
        rw [hg] at HC
        have e2 : (R.take (p + 1)).filter (fun n => !gd n) = bs := by rw [HE.out.2]; simp [hg]
        have HE2 := hZ9 e2
        clear hg e2
        go_wp2_with (go_at_call 93; refine HC.out.mono ?_; rintro en w7 ⟨rfl, hb⟩; (have HX7 := hZ9 (HST.out.below hb)); clear hb)
        go_roundw
        case rel => exact ⟨p + 1, by omega, by go_num, by rw [HE.out.1, HE2.out]; exact HX7.out⟩
        case measure => simp [intOf]; omega
       | false =>
        rw [hg] at HC
        have e2 : (R.take (p + 1)).filter (fun n => !gd n) = bs ++ [(n1, n2)] := by rw [HE.out.2]; simp [hg]
        have HE2 := hZ9 e2
        clear hg e2
        obtain ⟨A5, c5, hv5, hc5⟩ := own_form HST.out.own
        subst hv5
        go_upto_region 12 with (go_at_call 93; refine HC.out.mono ?_; rintro en w7 ⟨rfl, hb⟩; (have HX7 := hZ9 (HST.out.below hb)); clear hb)
        have y0 : w7.cell? ⟨G, 0, none⟩ = some (.int .i64 n1) := HX7.out.blk.cell 0
        have y1 : w7.cell? ⟨G, 1, none⟩ = some (.int .i64 n2) := HX7.out.blk.cell 1
        have yl := HX7.out.blk.lt
        have HXA := hZ9 (HX7.out.below (bR0.alloc nR0 (.cells #[.int .i64 n1, .int .i64 n2] 73)))
        have HOW := hZ9 HXA.out.own
        have HRD : Hid (Rd (w7.alloc (.cells #[.int .i64 n1, .int .i64 n2] 73)) (w7.alloc (.cells #[.int .i64 n1, .int .i64 n2] 73)).heap.size 2 (some ⟨w7.heap.size, 0, none⟩) 1 [.int .i64 n1, .int .i64 n2]) := sl_rd (Sl.of_blk (sz := 2) (n := 1) (xs := [.int .i64 n1, .int .i64 n2]) (Blk.new w7 73 _) rfl)
        have H1C : Hid (∀ u ∈ ([.int .i64 n1, .int .i64 n2] : List Value), u.oneCell' = true) := hZ9 (by intro u hu; simp at hu; rcases hu with rfl | rfl <;> rfl)
        have hs5 : w5.heap.size ≤ w7.heap.size := HX7.out.sz
        clear z0 z1 zl
        go_wp2_with (at_builtin; refine wpList_append_rd _ rfl _ _ 81 rfl w5.heap.size 73 i73 _ 2 16 under81 hi73 hz0 hz1 hz2 rfl (by decide) (.slice A5 bs.length c5) bs.length (nameRows bs) rfl HOW.out (some ⟨w7.heap.size, 0, none⟩) 1 1 _ [.int .i64 n1, .int .i64 n2] rfl HRD.out H1C.out (by unfold maxLen; omega) (by omega) (by simp; omega) ?_; intro A9 c9 w9 hown9 hgr9 hnc9 hat9; (have HX9 := hZ9 (NextX.put (n := (n1, n2)) HXA.out hw15 hG5 hown9 hgr9)); clear hown9 hgr9 hat9)
        go_roundw
        case rel => exact ⟨p + 1, by omega, by go_num, by rw [HE.out.1, HE2.out]; exact HX9.out⟩
        case measure => simp [intOf]; omega
      ·obtain rfl : p = cn := by omega
       obtain ⟨A5, c5, hv5, hc5⟩ := own_form HX.out.own
       subst hv5
       obtain ⟨ln, hln⟩ : ∃ ln, ln = lastN (R.take p) (f1, f2) := ⟨_, rfl⟩
       have HLB := hZ9 hln
       rw [← hln] at HX
       obtain ⟨l1, l2⟩ := ln
       clear hln
       have HBG := hZ9 HX.out.blk
       have HBR := hZ9 (HYB.out wr HX.out.bel)
       go_wp2_with (first
        | (refine wpList_load_row rfl 73 _ rfl G rfl 73 #[.int .i64 l1, .int .i64 l2] (0, 0) _ HBG.out Tryz.underlying73 rfl HI.out ?_)
        | (refine wpList_store_row rfl 73 _ _ rfl g6 #[.int .i64 l1, .int .i64 l2] rfl rfl 73 _ HBR.out HI.out rfl (by simp [Value.oneCell']) ?_))
       refine bodyPost_ret (v := .tuple #[.agg #[.int .i64 l1, .int .i64 l2], .slice A5 ((R.take p).filter fun n => !gd n).length c5]) (results_cell_tmp Tryz.results45 _ _ g6 73 #[.int .i64 l1, .int .i64 l2] (0, 0) _ rfl (setRow_blk HBR.out _) Tryz.underlying73 rfl HI.out) rfl ?_
       have hgb := setRow_gby wr g6 #[.int .i64 l1, .int .i64 l2]
       rw [HTK.out]
       refine ⟨A5, c5, by rw [← HLB.out], ?_, ?_⟩
       ·exact Sl.of_own (own_kept HX.out.own hgb (fun k hk e => by injection e with e; have := own_lowR HX.out.own k hk; omega))
       ·exact (HB1.out.trans (HX.out.bel.mono HB1.out.size)).trans (grown_below hgb (Nat.le_trans HB1.out.size HX.out.bel.size) (fun k hk => by injection hk with hk; have := HGE.out; omega))
end Go.Proofs.YtmgmfnimaafkdaaGreatDoor
