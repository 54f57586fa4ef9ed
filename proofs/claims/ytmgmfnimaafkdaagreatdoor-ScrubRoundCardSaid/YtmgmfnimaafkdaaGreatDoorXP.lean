/- Sectors given back, in general. -/
import Derived.Test.YtmgmfnimaafkdaaGreatDoorVK
import Derived.StillTailTactics
import Derived.BigRegion
namespace Go.Proofs.YtmgmfnimaafkdaaGreatDoor
open Go.RowKit Go.Maps
set_option maxRecDepth 100000
namespace GV

def gst140 (p v : Value) : Sem Unit := Instr.storeAt 140 p v
theorem gst140_fold (p v : Value) : Instr.storeAt 140 p v = gst140 p v := rfl
theorem run_gst140 {w : World} {g : Nat} {a b : Value} {x y : Value} (hk : Blk w g 140 #[a, b]) (hx : x.oneCell' = true) (hy : y.oneCell' = true) : (gst140 (.pointer (some ⟨g, 0, none⟩)) (.agg #[x, y])).run Tryz.prog w = .ok () (w.setRow g #[x, y]) := by
 have := run_storeVar_row (P := Tryz.prog) w g 140 140 #[a, b] #[x, y] hk size140 rfl (by simp [hx, hy])
 simp only [gst140, Instr.storeAt, Instr.sureAddr, Sem.run_bind, Sem.run_pure, Result.andThen_ok, this]
theorem old_below {w w' : World} {M : Nat} (h : Below w.heap.size w w') : ∀ k, k < w.heap.size → k ≠ M → w'.heap[k]? = w.heap[k]? := fun k hk _ => h.block k hk
def GiveOut (w w' : World) (base M : Nat) (r : Nat × MapV) (e : Ending) : Prop := ClaimOut w w' base M r e ∧ ∀ k, k < w.heap.size → k ≠ M → w'.heap[k]? = w.heap[k]?
theorem give_done {w w4 : World} {base M : Nat} {m : MapV} {i1 j c4 : Nat} {e2 : Nat × Nat} {A4 : Option Addr} {old : Value} (h : MapR w base M m) (hinn : ∀ e ∈ m.free.take i1 ++ e2 :: m.free.drop j, e.1 + e.2 ≤ 4194304) (hfew : (m.free.take i1 ++ e2 :: m.free.drop j).length ≤ 4194304) (hi1 : i1 ≤ m.free.length)
  (hs : Sl w4 140 2 A4 (i1 + (1 + (m.free.length - j))) (extC (m.free.take i1) ++ (extC [e2] ++ extC (m.free.drop j)))) (hc : i1 + (1 + (m.free.length - j)) ≤ c4) (hb : Below w.heap.size w w4)
  (hM : Blk w4 M 220 #[.int .i64 m.frm, .int .i64 m.sectors, old]) (hbw : base ≤ w.heap.size) :
  MapR (w4.setCell ⟨M, 2, none⟩ (.slice A4 (i1 + (1 + (m.free.length - j))) c4)) base M { m with free := m.free.take i1 ++ e2 :: m.free.drop j } ∧ Keeps base [220] w (w4.setCell ⟨M, 2, none⟩ (.slice A4 (i1 + (1 + (m.free.length - j))) c4)) ∧
  ∀ k, k < w.heap.size → k ≠ M → (w4.setCell ⟨M, 2, none⟩ (.slice A4 (i1 + (1 + (m.free.length - j))) c4)).heap[k]? = w.heap[k]? := by
 have hk : Keeps base [220] w4 (w4.setCell ⟨M, 2, none⟩ (.slice A4 (i1 + (1 + (m.free.length - j))) c4)) := (Keeps.refl base _ w4).set hM h.low (by simp) _
 have hl : (m.free.take i1 ++ e2 :: m.free.drop j).length = i1 + (1 + (m.free.length - j)) := by
  rw [List.length_append, List.length_cons, List.length_take, List.length_drop]; omega
 have he : extC (m.free.take i1 ++ e2 :: m.free.drop j) = extC (m.free.take i1) ++ (extC [e2] ++ extC (m.free.drop j)) := by
  rw [extC_append, ← extC_append [e2]]; rfl
 refine ⟨⟨h.low, h.frm, h.sec, hinn, hfew, A4, c4, ?_, ?_, ?_⟩, (Keeps.of_below hb hbw).trans hk, fun k hkl hne => (Below.heap_setCell w4 ⟨M, 2, none⟩ _ k hne).trans (hb.block k hkl)⟩
 ·simp only [hl]; exact hM.set 2 _
 ·simp only [hl]; exact hc
 ·simp only [hl, he]; exact hs.keeps hk (by decide)
theorem give_fin {w wb : World} {base M b0 : Nat} {m : MapV} {i1 j c : Nat} {e2 : Nat × Nat} {A : Option Addr} (h : MapR w base M m) (hbelow : Below w.heap.size w wb) (hi1 : i1 ≤ m.free.length)
  (hB : Blk wb M 220 #[.int .i64 m.frm, .int .i64 m.sectors, .slice A m.free.length c]) (hS : Sl w 140 2 A m.free.length (extC m.free))
  (hO : wb.ownsRow w.heap.size 140 2 (.slice (some ⟨b0, 0, none⟩) 1 1) 1 (extC [e2])) (A3 : Option Addr) (c3 : Nat) (w3 : World)
  (hown : w3.ownsRow w.heap.size 140 2 (.slice A3 (1 + (m.free.length - j)) c3) (1 + (m.free.length - j)) (extC [e2] ++ extC (m.free.drop j))) (hgr : wb.grownBy w3 (Value.slice (some ⟨b0, 0, none⟩) 1 1).ownBlock) :
  w3.cell? ⟨M, 2, none⟩ = some (.slice A m.free.length c) ∧ ∃ A4 c4 w4, (Builtin.append_ #[218, 218] 218 #[.slice A i1 i1, .slice A3 (1 + (m.free.length - j)) c3]).run Tryz.prog w3 = .ok (.slice A4 (i1 + (1 + (m.free.length - j))) c4) w4 ∧
   Sl w4 140 2 A4 (i1 + (1 + (m.free.length - j))) (extC (m.free.take i1) ++ (extC [e2] ++ extC (m.free.drop j))) ∧ i1 + (1 + (m.free.length - j)) ≤ c4 ∧ Below w.heap.size w w4 ∧ Blk w4 M 220 #[.int .i64 m.frm, .int .i64 m.sectors, .slice A m.free.length c] := by
 obtain ⟨i0, hi0, hz0, hz1, hz2⟩ := info_parts info140
 have hfew := h.few
 have hM3 := hB.grown hgr (own_ne hO hB (by decide))
 have hb3 : Below w.heap.size w w3 := hbelow.trans (grown_below hgr hbelow.size (fun k hk => (hO.lt k hk).1))
 have hk : Keeps w.heap.size [] w w3 := Keeps.of_below hb3 nR0
 have hpre : Sl w3 140 2 A i1 (extC (m.free.take i1)) := by
  by_cases hz : 0 < m.free.length
  ·obtain ⟨b, o, rfl, _⟩ := hS.at2 0 hz rfl
   have h := (hS.keeps hk (by simp)).part 0 i1 (by omega)
   rw [Nat.zero_mul, Nat.add_zero, List.drop_zero, extC_take] at h
   exact h
  ·obtain rfl : i1 = 0 := by omega
   exact Sl.nil
 obtain ⟨A4, c4, w4, r1, r2, r3, r4, r5⟩ := run_append_full w3 218 218 140 i0 _ 2 16 under218 hi0 hz0 hz1 hz2 rfl (by decide) A i1 _ hpre A3 (1 + (m.free.length - j)) c3 _ (own_rd hown) (by
  intro u hu
  rcases List.mem_append.1 hu with hu | hu
  ·exact extC_one _ u hu
  ·exact extC_one _ u hu) (by unfold maxLen; omega) (by omega)
 exact ⟨hM3.cell 2, A4, c4, w4, r1, r2, r3, hb3.trans (r4.mono hb3.size), hM3.below r4 hM3.lt⟩
def ap218 (args : Array Value) : Sem Value := Builtin.append_ #[218, 218] 218 args
theorem ap218_fold (args : Array Value) : Builtin.append_ #[218, 218] 218 args = ap218 args := rfl
theorem give_two {w wb : World} {base M b0 : Nat} {m : MapV} {i1 j c : Nat} {e2 : Nat × Nat} {A B : Option Addr} {cB : Nat} (h : MapR w base M m) (hbelow : Below w.heap.size w wb) (hi1 : i1 ≤ m.free.length)
  (hB : Blk wb M 220 #[.int .i64 m.frm, .int .i64 m.sectors, .slice A m.free.length c]) (hS : Sl w 140 2 A m.free.length (extC m.free))
  (hO : wb.ownsRow w.heap.size 140 2 (.slice (some ⟨b0, 0, none⟩) 1 1) 1 (extC [e2])) (hR : Rd wb wb.heap.size 2 B (m.free.length - j) (extC (m.free.drop j))) :
  ∃ A3 c3 w3 A4 c4 w4, (ap218 #[.slice (some ⟨b0, 0, none⟩) 1 1, .slice B (m.free.length - j) cB]).run Tryz.prog wb = .ok (.slice A3 (1 + (m.free.length - j)) c3) w3 ∧
   w3.cell? ⟨M, 2, none⟩ = some (.slice A m.free.length c) ∧ M < w3.heap.size ∧
   (ap218 #[.slice A i1 i1, .slice A3 (1 + (m.free.length - j)) c3]).run Tryz.prog w3 = .ok (.slice A4 (i1 + (1 + (m.free.length - j))) c4) w4 ∧
   w4.cell? ⟨M, 2, none⟩ = some (.slice A m.free.length c) ∧ w4.frozen? ⟨M, 2, none⟩ = false ∧ M < w4.heap.size ∧
   Hid (Sl w4 140 2 A4 (i1 + (1 + (m.free.length - j))) (extC (m.free.take i1) ++ (extC [e2] ++ extC (m.free.drop j))) ∧ i1 + (1 + (m.free.length - j)) ≤ c4 ∧ Below w.heap.size w w4 ∧ Blk w4 M 220 #[.int .i64 m.frm, .int .i64 m.sectors, .slice A m.free.length c]) := by
 obtain ⟨i0, hi0, hz0, hz1, hz2⟩ := info_parts info140
 have hfew := h.few
 obtain ⟨A3, c3, w3, r1, r2, r3, r4, r5⟩ := run_append_rd wb w.heap.size 218 218 140 i0 _ 2 16 under218 hi0 hz0 hz1 hz2 rfl (by decide) _ 1 _ hO B (m.free.length - j) cB _ _ hR (extC_one _) (by unfold maxLen; omega) (by omega) hbelow.size
 obtain ⟨q1, A4, c4, w4, q2, q3, q4, q5, q6⟩ := give_fin (j := j) h hbelow hi1 hB hS hO A3 c3 w3 r2 r3
 have hM3 := hB.grown r3 (own_ne hO hB (by decide))
 exact ⟨A3, c3, w3, A4, c4, w4, r1, q1, hM3.lt, q2, q6.cell 2, q6.free 2, q6.lt, hZ9 ⟨q3, q4, q5, q6⟩⟩
attribute [local go_sem ↓] gst140_fold ap218_fold
set_option maxHeartbeats 64000000 in
theorem GiveI_any {w : World} {base M lo N : Nat} {m : MapV} (h : MapR w base M m) (hinv : MapInv m lo N) (hbw : base ≤ w.heap.size) (a l : Nat) (ha : a < 1099511627776) (hl : l < 1099511627776) :
  Calls Tryz.prog 108 #[.pointer (some ⟨M, 0, none⟩), .agg #[.int .i64 a, .int .i64 l]] w fun e w' => GiveOut w w' base M (giveM m a l) e := by
 have hb0 : Below w.heap.size w (w.alloc (.cells #[.int .i64 a, .int .i64 l] 140)) := bR0.alloc nR0 _
 have hp0 := Blk.new w 140 #[.int .i64 a, .int .i64 l]
 have HH := hZ9 h
 have hfew := h.few
 obtain ⟨r, hr⟩ : ∃ r, r = giveM m a l := ⟨_, rfl⟩
 rw [← hr]
 have HOU := hZ9 (show ∀ wy, Below w.heap.size w wy → Calls Tryz.prog 119 #[.pointer (some ⟨M, 0, none⟩), .agg #[.int .i64 a, .int .i64 l]] wy fun e w' => e = .returned (.bool (oursM m a l)) ∧ Below wy.heap.size wy w' from fun wy hy => by
  have := ours_any (h.below hy) a l (by omega) (by omega) (by omega)
  rw [oursI_nat] at this
  exact this)
 have HME := hZ9 (show ∀ wy, Below w.heap.size w wy → Calls Tryz.prog 120 #[.pointer (some ⟨M, 0, none⟩), .int .i64 a] wy fun e w' => e = .returned (.int .i64 (meetsM m a : Nat)) ∧ Below wy.heap.size wy w' from fun wy hy => meets_any (h.below hy) hinv.srt a)
 by_cases ho : oursM m a l = false
 ·have hr' : r = (1, m) := by rw [hr]; unfold giveM; rw [if_pos ho]
  rw [ho] at HOU
  have HB0 := hZ9 hb0
  subst hr'
  clear hr h hb0 hp0
  go_enter Tryz.func108, Tryz.ntmps108
  go_wp2_with (go_at_call 119; refine (HOU.out _ HB0.out).mono ?_; rintro e w1 ⟨rfl, hb1⟩; (have HB1 := hZ9 (HB0.out.trans (hb1.mono HB0.out.size))); clear hb1)
  go_ret
  exact ⟨⟨rfl, HH.out.below HB1.out, Keeps.of_below HB1.out hbw⟩, old_below HB1.out⟩
 ·have ho' : oursM m a l = true := by simpa using ho
  rw [ho'] at HOU
  obtain ⟨i, hie⟩ : ∃ i, i = meetsM m a := ⟨_, rfl⟩
  rw [← hie] at HME
  have hmi := meetsM_is (at' := a) hinv
  rw [← hie] at hmi
  have hile := hmi.1
  have hal : a + l ≤ 4194304 ∧ 1 ≤ l := by
   have h1 := h.frm
   have h2 := h.sec
   unfold oursM at ho'
   simp at ho'
   omega
  have hal1 := hal.1
  have hal2 := hal.2
  have HB0 := hZ9 hb0
  have HP0 := hZ9 hp0
  have HR := hZ9 hr
  have HIE := hZ9 hie
  have HO := hZ9 ho
  clear hr h hb0 hp0 hie hmi ho ho' hal
  go_enter Tryz.func108, Tryz.ntmps108
  go_upto_region 4 with (first
   | (go_at_call 119; refine (HOU.out _ HB0.out).mono ?_; rintro e w1 ⟨rfl, hb1⟩; (have HB1 := hZ9 (HB0.out.trans (hb1.mono HB0.out.size))); (have hq0 : w1.cell? ⟨w.heap.size, 0, none⟩ = some (.int .i64 a) := (HP0.out.below hb1 HP0.out.lt).cell 0); (have HP1 := hZ9 (HP0.out.below hb1 HP0.out.lt)); (have hql := HP1.out.lt); clear hb1)
   | (go_at_call 120; refine (HME.out _ HB1.out).mono ?_; rintro e w2 ⟨rfl, hb2⟩; (have HB2 := hZ9 (HB1.out.trans (hb2.mono HB1.out.size))); (have HP2 := hZ9 (HP1.out.below hb2 HP1.out.lt)); clear hb2))
  clear hq0 hql
  obtain ⟨X, hX⟩ : ∃ X, X = w.heap.size := ⟨_, rfl⟩
  rw [← hX] at HP2 ⊢
  have HX := hZ9 hX
  clear hX HP1 HP0 HB1 HB0 HOU HME
  go_cut [37] (fun v wx => v = .bool (decide (i < m.free.length ∧ (m.free.getD i (0, 0)).1 < a + l)) ∧ Below w.heap.size w wx ∧ Blk wx X 140 #[.int .i64 a, .int .i64 l])
  case first => as_aux_lemma =>
   obtain ⟨A, c, hb, hc, hsl⟩ := (HH.out.below HB2.out).rep
   have hlt2 := hb.lt
   have e2 : w2.cell? ⟨M, 2, none⟩ = some (.slice A m.free.length c) := hb.cell 2
   have p0 : w2.cell? ⟨X, 0, none⟩ = some (.int .i64 a) := HP2.out.cell 0
   have p1 : w2.cell? ⟨X, 1, none⟩ = some (.int .i64 l) := HP2.out.cell 1
   have pl := HP2.out.lt
   have HSL := hZ9 hsl
   clear hb hsl
   by_cases hil : i < m.free.length
   ·obtain ⟨b, o, hA, hbl, c1, c2⟩ := HSL.out.at2 i hil rfl
    have hx := HH.out.inn (m.free[i]) (List.getElem_mem _)
    have hgd : m.free.getD i (0, 0) = m.free[i] := getD_at hil
    have hq : decide ((i : Int) < (m.free.length : Nat)) = true := by simp; omega
    have hil3 : (i : Int) < m.free.length := by omega
    have hi0 : (0 : Int) ≤ i := by omega
    subst hA
    have HGD := hZ9 hgd
    clear hgd
    generalize m.free[i] = x at *
    by_cases h2 : x.1 < a + l
    ·have d2 : decide ((x.1 : Int) < (a : Int) + (l : Int)) = true := decide_eq_true (by omega)
     have d3 : decide (x.1 < a + l) = true := decide_eq_true h2
     go_quiet (fail)
     go_wp2_with fail
     go_meet
     exact ⟨by rw [decide_eq_true (p := i < m.free.length ∧ (m.free.getD i (0, 0)).1 < a + l) ⟨hil, by rw [HGD.out]; exact h2⟩], bl_drewN HB2.out _, HP2.out⟩
    ·have d2 : decide ((x.1 : Int) < (a : Int) + (l : Int)) = false := decide_eq_false (by omega)
     have d3 : decide (x.1 < a + l) = false := decide_eq_false h2
     go_quiet (fail)
     go_wp2_with fail
     go_meet
     exact ⟨by rw [decide_eq_false (p := i < m.free.length ∧ (m.free.getD i (0, 0)).1 < a + l) (by rw [HGD.out]; exact fun h => h2 h.2)], bl_drewN HB2.out _, HP2.out⟩
   ·have hq : decide ((i : Int) < (m.free.length : Nat)) = false := by simp; omega
    have hq2 : decide (i < m.free.length) = false := decide_eq_false hil
    go_quiet (fail)
    go_wp2_with fail
    go_meet
    exact ⟨by rw [decide_eq_false (p := i < m.free.length ∧ (m.free.getD i (0, 0)).1 < a + l) (fun h => hil h.1)], bl_drewN HB2.out _, HP2.out⟩
  case rest =>
   obtain ⟨rfl, hb3, hp3⟩ := hcut
   have HB3 := hZ9 hb3
   have HP3 := hZ9 hp3
   clear hb3 hp3
   by_cases h6 : i < m.free.length ∧ (m.free.getD i (0, 0)).1 < a + l
   ·have hr9 : r = (6, m) := by rw [HR.out]; unfold giveM; rw [if_neg HO.out, ← HIE.out]; exact if_pos h6
    rw [decide_eq_true h6]
    subst hr9
    clear h6
    go_wp2_with fail
    go_ret
    exact ⟨⟨rfl, HH.out.below HB3.out, Keeps.of_below HB3.out hbw⟩, old_below HB3.out⟩
   ·rw [decide_eq_false h6]
    have H6 := hZ9 h6
    clear h6
    go_upto_region 7 with fail
    go_cut [64] (fun v wx => v = .bool (decide (0 < i ∧ (m.free.getD (i - 1) (0, 0)).1 + (m.free.getD (i - 1) (0, 0)).2 = a)) ∧ Below w.heap.size w wx ∧ Blk wx X 140 #[.int .i64 a, .int .i64 l])
    case first => as_aux_lemma =>
     obtain ⟨A, c, hb, hc, hsl⟩ := (HH.out.below HB3.out).rep
     have hlt2 := hb.lt
     have e2 : wc.cell? ⟨M, 2, none⟩ = some (.slice A m.free.length c) := hb.cell 2
     have p0 : wc.cell? ⟨X, 0, none⟩ = some (.int .i64 a) := HP3.out.cell 0
     have p1 : wc.cell? ⟨X, 1, none⟩ = some (.int .i64 l) := HP3.out.cell 1
     have pl := HP3.out.lt
     have HSL := hZ9 hsl
     clear hb hsl
     by_cases hi : 0 < i
     ·obtain ⟨i0, hi0⟩ : ∃ i0, i0 = i - 1 := ⟨_, rfl⟩
      have hil : i0 < m.free.length := by omega
      obtain ⟨b, o, hA, hbl, c1, c2⟩ := HSL.out.at2 i0 hil rfl
      have hx := HH.out.inn (m.free[i0]) (List.getElem_mem _)
      have hgd : m.free.getD i0 (0, 0) = m.free[i0] := getD_at hil
      have hil3 : (i0 : Int) < m.free.length := by omega
      have hi3 : (0 : Int) ≤ i0 := by omega
      have hi4 : (0 : Int) < i := by omega
      have hi5 : (i : Int) - 1 = (i0 : Int) := by omega
      have hi6 : IntKind.i64.wrap (i0 : Int) = (i0 : Int) := by rw [IntKind.wrap_i64]; omega
      have hi7 : decide ((i : Int) > 0) = true := decide_eq_true hi4
      have hi8 : decide (0 < i) = true := decide_eq_true hi
      subst hA
      have HGD := hZ9 hgd
      have HI0 := hZ9 hi0
      clear hgd hi0
      generalize m.free[i0] = x at *
      by_cases h2 : x.1 + x.2 = a
      ·have d2 : ((x.1 : Int) + (x.2 : Int) == (a : Int)) = true := by simp; omega
       have d3 : (x.1 : Int) + (x.2 : Int) = (a : Int) := by omega
       have H2 := hZ9 h2
       clear h2
       go_quiet (fail)
       go_wp2_with fail
       go_meet
       exact ⟨by rw [decide_eq_true (p := 0 < i ∧ (m.free.getD (i - 1) (0, 0)).1 + (m.free.getD (i - 1) (0, 0)).2 = a) ⟨hi, by rw [← HI0.out, HGD.out]; exact H2.out⟩], bl_drewN HB3.out _, HP3.out⟩
      ·have d2 : ((x.1 : Int) + (x.2 : Int) == (a : Int)) = false := by simp; omega
       have d3 : ¬ (x.1 : Int) + (x.2 : Int) = (a : Int) := by omega
       have H2 := hZ9 h2
       clear h2
       go_quiet (fail)
       go_wp2_with fail
       go_meet
       exact ⟨by rw [decide_eq_false (p := 0 < i ∧ (m.free.getD (i - 1) (0, 0)).1 + (m.free.getD (i - 1) (0, 0)).2 = a) (by rw [← HI0.out, HGD.out]; exact fun h => H2.out h.2)], bl_drewN HB3.out _, HP3.out⟩
     ·have hi4 : ¬ (0 : Int) < i := by omega
      have hi7 : decide ((i : Int) > 0) = false := decide_eq_false hi4
      have hi8 : decide (0 < i) = false := decide_eq_false hi
      go_quiet (fail)
      go_wp2_with fail
      go_meet
      exact ⟨by rw [decide_eq_false (p := 0 < i ∧ (m.free.getD (i - 1) (0, 0)).1 + (m.free.getD (i - 1) (0, 0)).2 = a) (fun h => hi h.1)], bl_drewN HB3.out _, HP3.out⟩
    case rest =>
     obtain ⟨rfl, hb4, hp4⟩ := hcut
     have HB4 := hZ9 hb4
     have HP4 := hZ9 hp4
     clear hb4 hp4
     obtain ⟨BK, hBK⟩ : ∃ P : Prop, P = (0 < i ∧ (m.free.getD (i - 1) (0, 0)).1 + (m.free.getD (i - 1) (0, 0)).2 = a) := ⟨_, rfl⟩
     haveI hdec : Decidable BK := Classical.propDecidable _
     obtain ⟨i1, hi1⟩ : ∃ i1 : Nat, i1 = if BK then i - 1 else i := ⟨_, rfl⟩
     obtain ⟨e1, he1⟩ : ∃ e1 : Nat × Nat, e1 = if BK then ((m.free.getD (i - 1) (0, 0)).1, (m.free.getD (i - 1) (0, 0)).2 + l) else (a, l) := ⟨_, rfl⟩
     have hdd : decide (0 < i ∧ (m.free.getD (i - 1) (0, 0)).1 + (m.free.getD (i - 1) (0, 0)).2 = a) = decide BK := decide_eq_decide.2 (by rw [hBK])
     rw [hdd]
     clear hdd
     go_upto_if 64 with fail
     go_cut [5] (fun v wx => v = .int .i64 i1 ∧ Below w.heap.size w wx ∧ Blk wx X 140 #[.int .i64 e1.1, .int .i64 e1.2])
     case first => as_aux_lemma =>
      by_cases hbk : BK
      ·rw [decide_eq_true hbk]
       rw [if_pos hbk] at hi1 he1
       rw [hBK] at hbk
       obtain ⟨hi, hbk2⟩ := hbk
       obtain ⟨A, c, hb, hc, hsl⟩ := (HH.out.below HB4.out).rep
       have hlt2 := hb.drew.lt
       have e2 : wc.drew.cell? ⟨M, 2, none⟩ = some (.slice A m.free.length c) := hb.drew.cell 2
       have p0 : wc.drew.cell? ⟨X, 0, none⟩ = some (.int .i64 a) := HP4.out.drew.cell 0
       have p1 : wc.drew.cell? ⟨X, 1, none⟩ = some (.int .i64 l) := HP4.out.drew.cell 1
       have f0 := HP4.out.drew.free 0
       have f1 := HP4.out.drew.free 1
       have pl := HP4.out.drew.lt
       have hil : i1 < m.free.length := by omega
       have hsl2 : Sl wc.drew 140 2 A m.free.length (extC m.free) := hsl
       obtain ⟨b, o, hA, hbl, c1, c2⟩ := hsl2.at2 i1 hil rfl
       have hx := HH.out.inn (m.free[i1]) (List.getElem_mem _)
       have hgd : m.free.getD i1 (0, 0) = m.free[i1] := getD_at hil
       have hil3 : (i1 : Int) < m.free.length := by omega
       have hi3 : (0 : Int) ≤ i1 := by omega
       have hi5 : (i : Int) - 1 = (i1 : Int) := by omega
       have hi6 : IntKind.i64.wrap (i1 : Int) = (i1 : Int) := by rw [IntKind.wrap_i64]; omega
       subst hA
       rw [← hi1, hgd] at he1 hbk2
       have HE1 := hZ9 he1
       have HI1 := hZ9 hi1
       have HBK2 := hZ9 hbk2
       have q1 : ((m.free[i1].1 : Nat) : Int) + (m.free[i1].2 : Nat) = (a : Int) := by omega
       clear hb hsl hsl2 hi1 he1 hbk2 hgd hBK
       generalize m.free[i1] = x at *
       have q2 : IntKind.i64.wrap ((x.2 : Int) + (l : Int)) = (x.2 : Int) + (l : Int) := by rw [IntKind.wrap_i64]; omega
       have zs := run_gst140 (x := .int .i64 x.1) (y := .int .i64 ((x.2 : Int) + (l : Int))) HP4.out.drew rfl rfl
       clear f0 f1
       go_upto_region 9 with fail
       go_still_tail 20, (by kernel_rfl)
       go_simp
       go_wp2_with fail
       go_meet
       refine ⟨rfl, below_setRow HB4.out.drew (by rw [HX.out]; exact nR0) _, ?_⟩
       have hrow := setRow_heap wc.drew X _ #[.int .i64 x.1, .int .i64 ((x.2 : Int) + (l : Int))] 140 (0, 0) HP4.out.drew
       rw [HE1.out]
       simp only [Int.natCast_add]
       exact hrow
      ·rw [decide_eq_false hbk]
       rw [if_neg hbk] at hi1 he1
       go_wp2_with fail
       go_meet
       exact ⟨by rw [hi1], HB4.out, by rw [he1]; exact HP4.out⟩
     case rest =>
      obtain ⟨rfl, hb5, hp5⟩ := hcut
      have HB5 := hZ9 hb5
      have HP5 := hZ9 hp5
      clear hb5 hp5
      have hes : e1.1 + e1.2 = a + l ∧ i1 ≤ i := by
       by_cases hbk : BK
       ·rw [if_pos hbk] at he1 hi1
        rw [hBK] at hbk
        rw [he1, hi1]
        omega
       ·rw [if_neg hbk] at he1 hi1
        rw [he1, hi1]
        omega
      have hes1 := hes.1
      have hes2 := hes.2
      have HE1 := hZ9 he1
      have HI1 := hZ9 hi1
      have HBK := hZ9 hBK
      clear hes he1 hi1 hBK
      go_upto_region 10 with fail
      go_cut [109] (fun v wx => v = .bool (decide (i < m.free.length ∧ (m.free.getD i (0, 0)).1 = a + l)) ∧ Below w.heap.size w wx ∧ Blk wx X 140 #[.int .i64 e1.1, .int .i64 e1.2])
      case first => as_aux_lemma =>
       obtain ⟨A, c, hb, hc, hsl⟩ := (HH.out.below HB5.out).rep
       have hlt2 := hb.lt
       have e2 : wc.cell? ⟨M, 2, none⟩ = some (.slice A m.free.length c) := hb.cell 2
       have p0 : wc.cell? ⟨X, 0, none⟩ = some (.int .i64 e1.1) := HP5.out.cell 0
       have p1 : wc.cell? ⟨X, 1, none⟩ = some (.int .i64 e1.2) := HP5.out.cell 1
       have pl := HP5.out.lt
       have hel : e1.1 ≤ 4194304 ∧ e1.2 ≤ 4194304 := by omega
       have hel1 := hel.1
       have hel2 := hel.2
       have hes3 : ((e1.1 : Nat) : Int) + (e1.2 : Nat) = (a : Int) + (l : Int) := by omega
       have HSL := hZ9 hsl
       clear hb hsl hel
       by_cases hil : i < m.free.length
       ·obtain ⟨b, o, hA, hbl, c1, c2⟩ := HSL.out.at2 i hil rfl
        have hx := HH.out.inn (m.free[i]) (List.getElem_mem _)
        have hgd : m.free.getD i (0, 0) = m.free[i] := getD_at hil
        have hq : decide ((i : Int) < (m.free.length : Nat)) = true := by simp; omega
        have hil3 : (i : Int) < m.free.length := by omega
        have hi0 : (0 : Int) ≤ i := by omega
        subst hA
        have HGD := hZ9 hgd
        clear hgd
        generalize m.free[i] = x at *
        by_cases h2 : x.1 = a + l
        ·have d2 : ((x.1 : Int) == (a : Int) + (l : Int)) = true := by simp; omega
         have d3 : (x.1 : Int) = (a : Int) + (l : Int) := by omega
         have H2 := hZ9 h2
         clear h2
         go_quiet (fail)
         go_wp2_with fail
         go_meet
         exact ⟨by rw [decide_eq_true (p := i < m.free.length ∧ (m.free.getD i (0, 0)).1 = a + l) ⟨hil, by rw [HGD.out]; exact H2.out⟩], bl_drewN HB5.out _, HP5.out⟩
        ·have d2 : ((x.1 : Int) == (a : Int) + (l : Int)) = false := by simp; omega
         have d3 : ¬ (x.1 : Int) = (a : Int) + (l : Int) := by omega
         have H2 := hZ9 h2
         clear h2
         go_quiet (fail)
         go_wp2_with fail
         go_meet
         exact ⟨by rw [decide_eq_false (p := i < m.free.length ∧ (m.free.getD i (0, 0)).1 = a + l) (by rw [HGD.out]; exact fun h => H2.out h.2)], bl_drewN HB5.out _, HP5.out⟩
       ·have hq : decide ((i : Int) < (m.free.length : Nat)) = false := by simp; omega
        have hq2 : decide (i < m.free.length) = false := decide_eq_false hil
        go_quiet (fail)
        go_wp2_with fail
        go_meet
        exact ⟨by rw [decide_eq_false (p := i < m.free.length ∧ (m.free.getD i (0, 0)).1 = a + l) (fun h => hil h.1)], bl_drewN HB5.out _, HP5.out⟩
      case rest =>
       obtain ⟨rfl, hb6, hp6⟩ := hcut
       have HB6 := hZ9 hb6
       have HP6 := hZ9 hp6
       clear hb6 hp6
       obtain ⟨ON, hON⟩ : ∃ P : Prop, P = (i < m.free.length ∧ (m.free.getD i (0, 0)).1 = a + l) := ⟨_, rfl⟩
       haveI hdec2 : Decidable ON := Classical.propDecidable _
       obtain ⟨j, hj⟩ : ∃ j : Nat, j = if ON then i + 1 else i := ⟨_, rfl⟩
       obtain ⟨e2, he2⟩ : ∃ e2 : Nat × Nat, e2 = if ON then (e1.1, e1.2 + (m.free.getD i (0, 0)).2) else e1 := ⟨_, rfl⟩
       have hdd : decide (i < m.free.length ∧ (m.free.getD i (0, 0)).1 = a + l) = decide ON := decide_eq_decide.2 (by rw [hON])
       rw [hdd]
       clear hdd
       go_upto_if 109 with fail
       go_cut [6] (fun v wx => v = .int .i64 j ∧ Below w.heap.size w wx ∧ Blk wx X 140 #[.int .i64 e2.1, .int .i64 e2.2])
       case first => as_aux_lemma =>
        by_cases hon : ON
        ·rw [decide_eq_true hon]
         rw [if_pos hon] at hj he2
         rw [hON] at hon
         obtain ⟨hil, hon2⟩ := hon
         obtain ⟨A, c, hb, hc, hsl⟩ := (HH.out.below HB6.out).rep
         have hlt2 := hb.drew.lt
         have x2 : wc.drew.cell? ⟨M, 2, none⟩ = some (.slice A m.free.length c) := hb.drew.cell 2
         have p0 : wc.drew.cell? ⟨X, 0, none⟩ = some (.int .i64 e1.1) := HP6.out.drew.cell 0
         have p1 : wc.drew.cell? ⟨X, 1, none⟩ = some (.int .i64 e1.2) := HP6.out.drew.cell 1
         have f1 := HP6.out.drew.free 1
         have pl := HP6.out.drew.lt
         have hsl2 : Sl wc.drew 140 2 A m.free.length (extC m.free) := hsl
         obtain ⟨b, o, hA, hbl, c1, c2⟩ := hsl2.at2 i hil rfl
         have hx := HH.out.inn (m.free[i]) (List.getElem_mem _)
         have hgd : m.free.getD i (0, 0) = m.free[i] := getD_at hil
         have hil3 : (i : Int) < m.free.length := by omega
         have hi3 : (0 : Int) ≤ i := by omega
         have hi5 : (i : Int) + 1 = (j : Int) := by omega
         have hi6 : IntKind.i64.wrap (j : Int) = (j : Int) := by rw [IntKind.wrap_i64]; omega
         subst hA
         rw [hgd] at he2
         have HE2 := hZ9 he2
         have HJ := hZ9 hj
         clear hb hsl hsl2 hj he2 hgd hON hon2
         generalize m.free[i] = x at *
         have q2 : IntKind.i64.wrap ((e1.2 : Int) + (x.2 : Int)) = (e1.2 : Int) + (x.2 : Int) := by rw [IntKind.wrap_i64]; omega
         go_upto_region 11 with fail
         go_still_tail 12, (by kernel_rfl)
         go_simp
         go_wp2_with fail
         go_meet
         refine ⟨rfl, (HB6.out.trans ((Keeps.refl w.heap.size [140] wc).set HP6.out (by rw [HX.out]; exact nR0) (by simp) (o := 1) (.int .i64 ((e1.2 : Int) + (x.2 : Int)))).below).drew, ?_⟩
         have hrow := (HP6.out.set 1 (.int .i64 ((e1.2 : Int) + (x.2 : Int)))).drew
         rw [HE2.out]
         simp only [Int.natCast_add]
         exact hrow
        ·rw [decide_eq_false hon]
         rw [if_neg hon] at hj he2
         go_wp2_with fail
         go_meet
         exact ⟨by rw [hj], HB6.out, by rw [he2]; exact HP6.out⟩
       case rest =>
        obtain ⟨rfl, hb7, hp7⟩ := hcut
        have hjl : j ≤ m.free.length ∧ j ≤ i + 1 ∧ i ≤ j := by
         by_cases hon : ON
         ·rw [if_pos hon] at hj
          rw [hON] at hon
          omega
         ·rw [if_neg hon] at hj
          omega
        have hr9 : r = (0, { m with free := m.free.take i1 ++ e2 :: m.free.drop j }) := by
         rw [HR.out]; unfold giveM; rw [if_neg HO.out, ← HIE.out]
         dsimp only
         rw [if_neg H6.out, hj, he2, HI1.out, HE1.out]
         by_cases hbk : BK <;> by_cases hon : ON
         all_goals
          simp only [hbk, hon, if_true, if_false]
          rw [HBK.out] at hbk
          rw [hON] at hon
          simp only [hbk, hon, and_self, if_true, if_false]
        have hm' : MapInv { m with free := m.free.take i1 ++ e2 :: m.free.drop j } lo N := by
         have h1 : (giveM m a l).1 = 0 := by rw [← HR.out, hr9]
         have := (giveM_ok hinv h1).1
         rw [← HR.out, hr9] at this
         exact this
        have hinn' : ∀ e ∈ m.free.take i1 ++ e2 :: m.free.drop j, e.1 + e.2 ≤ 4194304 := fun e he => by
         have h1 := (hm'.inn e he).2
         have h2 := hm'.frm
         have h3 := hm'.sectors
         have h4 := HH.out.frm
         have h5 := HH.out.sec
         simp only at h2 h3
         omega
        have hfew' := ext_few hm'.srt hinn'
        have hi1l : i1 ≤ m.free.length := by omega
        obtain ⟨A, c, hb, hc, hsl⟩ := HH.out.rep
        have hbc := hb.below hb7 hb.lt
        have hslc := hsl.below hb7
        obtain ⟨X2, hX2⟩ : ∃ X2, X2 = wc.heap.size := ⟨_, rfl⟩
        have hbelb : Below w.heap.size w (wc.alloc (.cells #[.int .i64 e2.1, .int .i64 e2.2] 140)).drew := (hb7.alloc hb7.size _).drew
        have hbB := ((hbc.alloc (.cells #[.int .i64 e2.1, .int .i64 e2.2] 140))).drew
        have hO : (wc.alloc (.cells #[.int .i64 e2.1, .int .i64 e2.2] 140)).drew.ownsRow w.heap.size 140 2 (.slice (some ⟨X2, 0, none⟩) 1 1) 1 (extC [e2]) :=
         ⟨rfl, .inr ⟨X2, 1, #[.int .i64 e2.1, .int .i64 e2.2], rfl, by rw [hX2]; exact hb7.size, by rw [hX2]; exact (Blk.new wc 140 _).drew, nR0, by decide, rfl, rfl⟩⟩
        have TWO := hZ9 (fun (B : Option Addr) (cB : Nat) hR => give_two (j := j) (i1 := i1) (c := c) (B := B) (cB := cB) HH.out hbelb hi1l hbB hsl hO hR)
        have DONE := hZ9 (fun w4 A4 c4 old => give_done (w4 := w4) (A4 := A4) (c4 := c4) (old := old) HH.out hinn' hfew' hi1l)
        have x1 : wc.drew.cell? ⟨M, 2, none⟩ = some (.slice A m.free.length c) := hbc.drew.cell 2
        have x2 := hbB.cell 2
        have p0 : wc.drew.cell? ⟨X, 0, none⟩ = some (.int .i64 e2.1) := hp7.drew.cell 0
        have p1 : wc.drew.cell? ⟨X, 1, none⟩ = some (.int .i64 e2.2) := hp7.drew.cell 1
        have pl := hp7.drew.lt
        have ml := hbc.drew.lt
        have hfewc := HH.out.few
        have hdl : (m.free.drop j).length = m.free.length - j := List.length_drop
        have hjl1 := hjl.1
        have hij : i1 ≤ j := by omega
        have r1 : (i1 : Int) ≤ c := by omega
        have r2 : (j : Int) ≤ m.free.length := by omega
        have r3 : (j : Int) ≤ c := by omega
        have r4 : (0 : Int) ≤ i1 := by omega
        have r5 : (0 : Int) ≤ j := by omega
        have r7 : i1 ≤ c := by omega
        have HR9 := hZ9 hr9
        obtain ⟨i0, hi0, hz0, hz1, hz2⟩ := info_parts info140
        have HSLC := hZ9 hslc
        have HHC := hZ9 hc
        have HX2 := hZ9 hX2
        rw [hX2] at TWO
        by_cases hz : 0 < m.free.length
        ·obtain ⟨b, o, rfl, hbl, _⟩ := hslc.at2 0 hz rfl
         clear hb hsl hslc hbc hbB hO hbelb hp7 hj he2 hr9 hm' hinn' hfew' hjl hX2 hON hc
         by_cases hc1 : c = j
         ·as_aux_lemma =>
           have hni : m.free.length - j = 0 := by have := HHC.out; omega
           have r8 : i1 ≤ j := hij
           have r9 : (i1 : Int) ≤ j := by omega
           have RT := hZ9 (show Rd (wc.alloc (.cells #[.int .i64 e2.1, .int .i64 e2.2] 140)).drew (wc.alloc (.cells #[.int .i64 e2.1, .int .i64 e2.2] 140)).drew.heap.size 2 (some ⟨b, o, none⟩) (m.free.length - j) (extC (m.free.drop j)) from ⟨by rw [extC_len, hdl], fun h => absurd h (by omega)⟩)
           clear hdl hni
           go_upto_region 13 with fail
           obtain ⟨A3, c3, w3, A4, c4, w4, k1, k2, k3, k4, k5, k6, k7, KF⟩ := TWO.out (some ⟨b, o, none⟩) 0 RT.out
           go_region
           all_goals
            go_wp2_with fail
            go_ret
            have hd := DONE.out w4 A4 c4 _ KF.out.1 KF.out.2.1 KF.out.2.2.1 KF.out.2.2.2 hbw
            rw [HR9.out]
            exact ⟨⟨rfl, hd.1, hd.2.1⟩, hd.2.2⟩
         ·as_aux_lemma =>
           have RT := hZ9 (show Rd (wc.alloc (.cells #[.int .i64 e2.1, .int .i64 e2.2] 140)).drew (wc.alloc (.cells #[.int .i64 e2.1, .int .i64 e2.2] 140)).drew.heap.size 2 (some ⟨b, o + j * 2, none⟩) (m.free.length - j) (extC (m.free.drop j)) from by
            have h := ((HSLC.out.below (bR0.alloc nR0 (.cells #[.int .i64 e2.1, .int .i64 e2.2] 140)).drew).part j (m.free.length - j) (by omega)).1
            rw [extC_drop, List.take_of_length_le (by rw [extC_len, hdl]; exact nR0)] at h
            exact h)
           clear hdl
           go_upto_region 13 with fail
           obtain ⟨A3, c3, w3, A4, c4, w4, k1, k2, k3, k4, k5, k6, k7, KF⟩ := TWO.out (some ⟨b, o + j * 2, none⟩) (c - j) RT.out
           go_region
           all_goals
            go_wp2_with fail
            go_ret
            have hd := DONE.out w4 A4 c4 _ KF.out.1 KF.out.2.1 KF.out.2.2.1 KF.out.2.2.2 hbw
            rw [HR9.out]
            exact ⟨⟨rfl, hd.1, hd.2.1⟩, hd.2.2⟩
        ·have hl0 : m.free.length = 0 := by omega
         have hf0 : m.free = [] := List.eq_nil_of_length_eq_zero hl0
         have hi10 : i1 = 0 := by omega
         have hj0 : j = 0 := by omega
         have RT : ∀ A : Option Addr, Hid (Rd (wc.alloc (.cells #[.int .i64 e2.1, .int .i64 e2.2] 140)).drew (wc.alloc (.cells #[.int .i64 e2.1, .int .i64 e2.2] 140)).drew.heap.size 2 A 0 (extC ([] : List (Nat × Nat)))) := fun A => ⟨rfl, fun h => absurd h (by omega)⟩
         clear hb hsl hslc hbc hbB hO hbelb hp7 hj he2 hr9 hm' hinn' hfew' hjl hX2 hON hc
         subst hi10; subst hj0
         have hd0 : m.free.drop 0 = [] := by rw [hf0]; rfl
         rw [hl0] at x1 x2 TWO DONE
         simp only [hd0, Nat.sub_zero, Nat.add_zero] at TWO DONE
         cases A with
         | none => as_aux_lemma =>
          go_upto_region 13 with fail
          obtain ⟨A3, c3, w3, A4, c4, w4, k1, k2, k3, k4, k5, k6, k7, KF⟩ := TWO.out none c (RT none).out
          go_region
          all_goals
           go_wp2_with fail
           go_ret
           have hd := DONE.out w4 A4 c4 _ KF.out.1 KF.out.2.1 KF.out.2.2.1 KF.out.2.2.2 hbw
           rw [HR9.out]
           simp only [hd0]
           exact ⟨⟨rfl, hd.1, hd.2.1⟩, hd.2.2⟩
         | some aa =>
          obtain ⟨ab, ao, ap⟩ := aa
          by_cases hc0 : c = 0
          ·as_aux_lemma =>
            subst hc0
            go_upto_region 13 with fail
            obtain ⟨A3, c3, w3, A4, c4, w4, k1, k2, k3, k4, k5, k6, k7, KF⟩ := TWO.out (some ⟨ab, ao, ap⟩) 0 (RT (some ⟨ab, ao, ap⟩)).out
            go_region
            all_goals
             go_wp2_with fail
             go_ret
             have hd := DONE.out w4 A4 c4 _ KF.out.1 KF.out.2.1 KF.out.2.2.1 KF.out.2.2.2 hbw
             rw [HR9.out]
             simp only [hd0]
             exact ⟨⟨rfl, hd.1, hd.2.1⟩, hd.2.2⟩
          ·as_aux_lemma =>
            have hc0' : 0 < c := by omega
            go_upto_region 13 with fail
            obtain ⟨A3, c3, w3, A4, c4, w4, k1, k2, k3, k4, k5, k6, k7, KF⟩ := TWO.out (some ⟨ab, ao, ap⟩) c (RT (some ⟨ab, ao, ap⟩)).out
            go_region
            all_goals
             go_wp2_with fail
             go_ret
             have hd := DONE.out w4 A4 c4 _ KF.out.1 KF.out.2.1 KF.out.2.2.1 KF.out.2.2.2 hbw
             rw [HR9.out]
             simp only [hd0]
             exact ⟨⟨rfl, hd.1, hd.2.1⟩, hd.2.2⟩
end GV
theorem Give_any {w : World} {base M lo N : Nat} {m : MapV} (h : MapR w base M m) (hinv : MapInv m lo N) (hbw : base ≤ w.heap.size) (a l : Nat) (ha : a < 1099511627776) (hl : l < 1099511627776) :
  Calls Tryz.prog 108 #[.pointer (some ⟨M, 0, none⟩), .agg #[.int .i64 a, .int .i64 l]] w fun e w' => ClaimOut w w' base M (giveM m a l) e :=
 (GV.GiveI_any h hinv hbw a l ha hl).mono fun _ _ hh => hh.1
end Go.Proofs.YtmgmfnimaafkdaaGreatDoor
