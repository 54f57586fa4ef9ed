/- Records apart from others. -/
import Derived.Test.YtmgmfnimaafkdaaGreatDoorVJ
namespace Go.Proofs.YtmgmfnimaafkdaaGreatDoor
section
open Go.RowKit Go.Maps
set_option maxRecDepth 100000

theorem size140 : (Tryz.prog.info? 140).map (·.size) = some 2 := by kernel_rfl
theorem MapR.grown {w w' : World} {base M g : Nat} {m : MapV} (h : MapR w base M m) (hg : w.grownBy w' (some g)) (hM : M ≠ g) (hf : FreeIn w M (· ≠ g)) : MapR w' base M m := by
 obtain ⟨a1, a2, a3, a4, a5, A, c, h3, h4, h6⟩ := h
 refine ⟨a1, a2, a3, a4, a5, A, c, h3.grown hg (by intro e; injection e with e; exact hM e.symm), h4, ⟨⟨h6.1.1, fun hn => ?_⟩, fun hn a ha => ?_⟩⟩
 ·obtain ⟨b, o, rfl, hb, hc⟩ := h6.1.2 hn
  have hne : b ≠ g := hf _ _ _ (h3.cell 2)
  refine ⟨b, o, rfl, Nat.lt_of_lt_of_le hb hg.size, fun j hj => ?_⟩
  rw [← hc j hj]
  have := hg.block b hb (by intro e; injection e with e; exact hne e)
  simp only [World.cell?, this]
 ·obtain ⟨b, o, hA, hb, _⟩ := h6.1.2 hn
  have hty := h6.2 hn a ha
  rw [ha] at hA
  injection hA with hA
  subst hA
  subst ha
  have hne : b ≠ g := hf _ _ _ (h3.cell 2)
  have := hg.block b hb (by intro e; injection e with e; exact hne e)
  unfold tyOf at hty ⊢
  rw [this]; exact hty
theorem Keeps.grown_new {base g : Nat} {ts : List TypeId} {a w w' : World} (h : Keeps base ts a w) (hg : w.grownBy w' (some g)) (hb : base ≤ a.heap.size) (hn : a.heap.size ≤ g) : Keeps base ts a w' := by
 have hs := h.below.size
 refine ⟨h.below.trans (grown_below hg (by omega) (fun k hk => by injection hk with hk; omega)), fun k t ht hts => ?_⟩
 have hk := tyOf_lt ht
 rw [hg.block k (by omega) (by intro e; injection e with e; omega)]
 exact h.old k t ht hts
def ClaimOut (w w' : World) (base M : Nat) (r : Nat × MapV) (e : Ending) : Prop := e = .returned (.int .i64 r.1) ∧ MapR w' base M r.2 ∧ Keeps base [220] w w'
set_option maxHeartbeats 4000000 in
theorem Claim_any {w : World} {base M lo N : Nat} {m : MapV} (h : MapR w base M m) (hinv : MapInv m lo N) (hbw : base ≤ w.heap.size) (a l : Nat) (ha : a < 1099511627776) (hl : l < 1099511627776) :
  Calls Tryz.prog 62 #[.pointer (some ⟨M, 0, none⟩), .agg #[.int .i64 a, .int .i64 l]] w fun e w' => ClaimOut w w' base M (claimM m a l) e := by
 have hb0 : Below w.heap.size w (w.alloc (.cells #[.int .i64 a, .int .i64 l] 140)) := bR0.alloc nR0 _
 have hp0 := Blk.new w 140 #[.int .i64 a, .int .i64 l]
 have HH := hZ9 h
 have hfew := h.few
 obtain ⟨r, hr⟩ : ∃ r, r = claimM m a l := ⟨_, rfl⟩
 rw [← hr]
 have HOU := hZ9 (show ∀ wy, Below w.heap.size w wy → Calls Tryz.prog 119 #[.pointer (some ⟨M, 0, none⟩), .agg #[.int .i64 a, .int .i64 l]] wy fun e w' => e = .returned (.bool (oursM m a l)) ∧ Below wy.heap.size wy w' from fun wy hy => by
  have := ours_any (h.below hy) a l (by omega) (by omega) (by omega)
  rw [oursI_nat] at this
  exact this)
 have HME := hZ9 (show ∀ wy, Below w.heap.size w wy → Calls Tryz.prog 120 #[.pointer (some ⟨M, 0, none⟩), .int .i64 a] wy fun e w' => e = .returned (.int .i64 (meetsM m a : Nat)) ∧ Below wy.heap.size wy w' from fun wy hy => meets_any (h.below hy) hinv.srt a)
 by_cases ho : oursM m a l = false
 ·have hr' : r = (1, m) := by rw [hr]; unfold claimM; rw [if_pos ho]
  rw [ho] at HOU
  have HB0 := hZ9 hb0
  subst hr'
  clear hr h hb0 hp0
  go_enter Tryz.func62, Tryz.ntmps62
  go_wp2_with (go_at_call 119; refine (HOU.out _ HB0.out).mono ?_; rintro e w1 ⟨rfl, hb1⟩; (have HB1 := hZ9 (HB0.out.trans (hb1.mono HB0.out.size))); clear hb1)
  go_ret
  exact ⟨rfl, HH.out.below HB1.out, Keeps.of_below HB1.out hbw⟩
 ·have ho' : oursM m a l = true := by simpa using ho
  rw [ho'] at HOU
  obtain ⟨i, hie⟩ : ∃ i, i = meetsM m a := ⟨_, rfl⟩
  rw [← hie] at HME
  have hr' : r = if i = m.free.length ∨ a < (m.free.getD i (0, 0)).1 ∨ (m.free.getD i (0, 0)).1 + (m.free.getD i (0, 0)).2 < a + l then (7, m) else (0, { m with free := takeAt m.free i a l }) := by
   rw [hr]; unfold claimM; rw [if_neg ho, hie]
  have hmi := meetsM_is (at' := a) hinv
  rw [← hie] at hmi
  have hile := hmi.1
  have HB0 := hZ9 hb0
  have HP0 := hZ9 hp0
  have HR := hZ9 hr'
  have hl1 : 1 ≤ l := by
   unfold oursM at ho'
   simp at ho'
   omega
  clear hr hr' h hb0 hp0 hie hmi ho ho'
  go_enter Tryz.func62, Tryz.ntmps62
  go_upto_region 4 with (first
   | (go_at_call 119; refine (HOU.out _ HB0.out).mono ?_; rintro e w1 ⟨rfl, hb1⟩; (have HB1 := hZ9 (HB0.out.trans (hb1.mono HB0.out.size))); (have hq0 : w1.cell? ⟨w.heap.size, 0, none⟩ = some (.int .i64 a) := (HP0.out.below hb1 HP0.out.lt).cell 0); (have HP1 := hZ9 (HP0.out.below hb1 HP0.out.lt)); (have hql := HP1.out.lt); clear hb1)
   | (go_at_call 120; refine (HME.out _ HB1.out).mono ?_; rintro e w2 ⟨rfl, hb2⟩; (have HB2 := hZ9 (HB1.out.trans (hb2.mono HB1.out.size))); (have HP2 := hZ9 (HP1.out.below hb2 HP1.out.lt)); clear hb2))
  obtain ⟨A, c, hb, hc, hsl⟩ := (HH.out.below HB2.out).rep
  have hlt2 := hb.lt
  have e2 : w2.cell? ⟨M, 2, none⟩ = some (.slice A m.free.length c) := hb.cell 2
  have p0 : w2.cell? ⟨w.heap.size, 0, none⟩ = some (.int .i64 a) := HP2.out.cell 0
  have p1 : w2.cell? ⟨w.heap.size, 1, none⟩ = some (.int .i64 l) := HP2.out.cell 1
  have pl := HP2.out.lt
  have HSL := hZ9 hsl
  clear hb hsl hq0 hql
  by_cases hil : i = m.free.length
  ·have hr9 : r = (7, m) := by rw [HR.out, if_pos (.inl hil)]
   have hq : ((i : Int) == (m.free.length : Nat)) = true := by simp; omega
   subst hr9
   clear hil
   go_quiet (fail)
   go_wp2_with fail
   go_ret
   exact ⟨rfl, HH.out.below (bl_drewN HB2.out _), Keeps.of_below (bl_drewN HB2.out _) hbw⟩
  ·have hil2 : i < m.free.length := by omega
   have hq : ((i : Int) == (m.free.length : Nat)) = false := by simp; omega
   obtain ⟨b, o, hA, hbl, c1, c2⟩ := HSL.out.at2 i hil2 rfl
   have hx := HH.out.inn (m.free[i]) (List.getElem_mem _)
   have hgd : m.free.getD i (0, 0) = m.free[i] := getD_at hil2
   have hil3 : (i : Int) < m.free.length := by omega
   have hi0 : (0 : Int) ≤ i := by omega
   subst hA
   by_cases h2 : a < m.free[i].1
   ·have hr9 : r = (7, m) := by rw [HR.out, if_pos (.inr (.inl (by rw [hgd]; exact h2)))]
    generalize m.free[i] = x at *
    have d2 : decide (a < x.1) = true := decide_eq_true (by omega)
    subst hr9
    clear hil h2 hgd
    go_quiet (fail)
    go_wp2_with fail
    go_ret
    exact ⟨rfl, HH.out.below (bl_drewN HB2.out _), Keeps.of_below (bl_drewN HB2.out _) hbw⟩
   ·by_cases h3 : m.free[i].1 + m.free[i].2 < a + l
    ·have hr9 : r = (7, m) := by rw [HR.out, if_pos (.inr (.inr (by rw [hgd]; exact h3)))]
     generalize m.free[i] = x at *
     have d2 : decide (a < x.1) = false := decide_eq_false (by omega)
     have d3 : decide ((x.1 : Int) + (x.2 : Int) < (a : Int) + (l : Int)) = true := decide_eq_true (by omega)
     have d4 : decide (x.1 + x.2 < a + l) = true := decide_eq_true (by omega)
     subst hr9
     clear hil h2 hgd h3
     go_quiet (fail)
     go_wp2_with fail
     go_ret
     exact ⟨rfl, HH.out.below (bl_drewN HB2.out _), Keeps.of_below (bl_drewN HB2.out _) hbw⟩
    ·have hr9 : r = (0, { m with free := takeAt m.free i a l }) := by
      rw [HR.out, if_neg]; rw [hgd]; omega
     obtain ⟨t1, _, _, t4⟩ := takeAt_ok (a := a) (n := l) hinv.srt hil2 hl1 (by rw [hgd]; omega) (by rw [hgd]; omega)
     have hinn' : ∀ e ∈ takeAt m.free i a l, e.1 + e.2 ≤ 4194304 := fun e he => by
      obtain ⟨e', he', h5, h6⟩ := t4 e he
      have := HH.out.inn e' he'
      omega
     have hfew' := ext_few t1 hinn'
     generalize m.free[i] = x at *
     have d2 : decide (a < x.1) = false := decide_eq_false (by omega)
     have d3 : decide ((x.1 : Int) + (x.2 : Int) < (a : Int) + (l : Int)) = false := decide_eq_false (by omega)
     have d4 : decide (x.1 + x.2 < a + l) = false := decide_eq_false (by omega)
     have HT := hZ9 (show ∀ k, Calls Tryz.prog 121 #[.pointer (some ⟨M, 0, none⟩), .int .i64 (i : Nat), .agg #[.int .i64 a, .int .i64 l]] (w2.drewN k) fun e w' => e = .returned (.tuple #[]) ∧ MapR w' base M { m with free := takeAt m.free i a l } ∧ Keeps base [220] (w2.drewN k) w' ∧ (∀ P, FreeIn (w2.drewN k) M P → FreeIn w' M fun g => P g ∨ (w2.drewN k).heap.size ≤ g) from fun k =>
      take_any (HH.out.below (bl_drewN HB2.out k)) (by have := HB2.out.size; show base ≤ w2.heap.size; omega) i a l hil2 (by omega) ⟨rfl, hinn', hfew'⟩)
     subst hr9
     clear hil h2 hgd h3 t1 t4 hinn' hfew'
     go_quiet (fail)
     have p0' : (w2.drewN nq).cell? ⟨w.heap.size, 0, none⟩ = some (.int .i64 a) := p0
     have p1' : (w2.drewN nq).cell? ⟨w.heap.size, 1, none⟩ = some (.int .i64 l) := p1
     go_wp2_with (go_at_call 121; refine (HT.out _).mono ?_; rintro e w5 ⟨rfl, hm5, hk5, _⟩; (have HM5 := hZ9 hm5); (have HK5 := hZ9 hk5); clear hm5 hk5)
     go_ret
     exact ⟨rfl, HM5.out, (Keeps.of_below (bl_drewN HB2.out _) hbw).trans HK5.out⟩
end
section
open Go.RowKit Go.Maps
set_option maxRecDepth 100000

theorem MapR.lt {w : World} {base M : Nat} {m : MapV} (h : MapR w base M m) : M < w.heap.size := by
 obtain ⟨A, c, hb, _⟩ := h.rep
 exact hb.lt
theorem MapR.freeIn {w : World} {base M : Nat} {m : MapV} (h : MapR w base M m) (hn : m.free ≠ []) : FreeIn w M (· < w.heap.size) := by
 intro a n c hc
 obtain ⟨A, c', hb, _, hs⟩ := h.rep
 have e2 : w.cell? ⟨M, 2, none⟩ = some (.slice A m.free.length c') := hb.cell 2
 have hl : 0 < m.free.length := by cases hf : m.free with
  | nil => exact absurd hf hn
  | cons x l => simp
 obtain ⟨b, o, hA, hbl, _⟩ := hs.1.2 hl
 rw [e2, hA] at hc
 injection hc with hc; injection hc with h1; injection h1 with h1
 rw [← h1]; exact hbl
def TakeOutF (w w' : World) (base M : Nat) (r : Nat × (Nat × Nat) × MapV) (e : Ending) : Prop := e = .returned (.tuple #[.agg #[.int .i64 r.2.1.1, .int .i64 r.2.1.2], .int .i64 r.1]) ∧ MapR w' base M r.2.2 ∧ Keeps base [220] w w' ∧ ∀ P : Nat → Prop, FreeIn w M P → FreeIn w' M fun g => P g ∨ w.heap.size ≤ g
set_option maxHeartbeats 4000000 in
theorem takeF_any {w : World} {base M lo N : Nat} {m : MapV} (h : MapR w base M m) (hinv : MapInv m lo N) (hbw : base ≤ w.heap.size) (n : Nat) (hn : n < 1099511627776) :
  Calls Tryz.prog 105 #[.pointer (some ⟨M, 0, none⟩), .int .i64 n] w fun e w' => TakeOutF w w' base M (takeM m n) e := by
 have hb0 : Below w.heap.size w (w.alloc (.cells #[.int .i64 0, .int .i64 0] 140)) := bR0.alloc nR0 _
 have HB0 := hZ9 hb0
 have HBL := hZ9 (Blk.new w 140 #[.int .i64 0, .int .i64 0])
 have HI : Hid ((Tryz.prog.info? 140).map (·.size) = some (#[.int .i64 0, .int .i64 0] : Array Value).size) := size140
 have HH := hZ9 h
 have hfew := h.few
 obtain ⟨A, c, hb, hc, hsl⟩ := h.rep
 have hlt := hb.lt
 have e2 : w.cell? ⟨M, 2, none⟩ = some (.slice A m.free.length c) := hb.cell 2
 have HSL := hZ9 hsl
 obtain ⟨r, hr⟩ : ∃ r, r = takeM m n := ⟨_, rfl⟩
 rw [← hr]
 clear hb0 h hb hsl
 by_cases h0 : n < 1
 ·have hr' : r = (1, (0, 0), m) := by rw [hr]; unfold takeM; rw [if_pos h0]
  subst hr'
  have hn0 : (n : Int) < 1 := by omega
  clear hr
  go_enter Tryz.func105, Tryz.ntmps105
  go_wp2_with fail
  exact bodyPost_ret (v := .tuple #[.agg #[.int .i64 0, .int .i64 0], .int .i64 1]) (results_cell_tmp Tryz.results105 _ _ w.heap.size 140 _ (0, 0) _ rfl HBL.out Tryz.underlying140 rfl HI.out) rfl ⟨rfl, HH.out.below HB0.out, Keeps.of_below HB0.out hbw, fun P hP a1 n1 c1 h1 => .inl (hP a1 n1 c1 ((HB0.out.cell hlt).symm.trans h1))⟩
 ·have hr0 : r = match m.free.findIdx? (fun f => decide (n ≤ f.2)) with | some i => (0, ((m.free.getD i (0, 0)).1, n), { m with free := takeAt m.free i (m.free.getD i (0, 0)).1 n }) | none => (5, (0, 0), m) := by
   rw [hr]; unfold takeM; rw [if_neg h0]
   cases m.free.findIdx? (fun f => decide (n ≤ f.2)) <;> rfl
  have HR := hZ9 hr0
  have hn1 : (1 : Int) ≤ n := by omega
  clear hr hr0
  go_enter Tryz.func105, Tryz.ntmps105
  go_wp2_with fail
  go_loopw [21] (fun t wr => ∃ i : Nat, i ≤ m.free.length ∧ t = .int .i64 (i : Nat) ∧ (∀ j (h : j < m.free.length), j < i → m.free[j].2 < n) ∧ Below w.heap.size w wr ∧ Blk wr w.heap.size 140 #[.int .i64 0, .int .i64 0]) (fun t _ => m.free.length - (intOf t).toNat)
  case atStart => exact ⟨0, Nat.zero_le _, rfl, fun _ _ h => absurd h (by omega), HB0.out, HBL.out⟩
  case round =>
   obtain ⟨i, hi, rfl, hno, hbw', hg0⟩ := hrel
   have HNO := hZ9 hno
   have HBW := hZ9 hbw'
   have HG0 := hZ9 hg0
   have hgl := hg0.lt
   have hwl := hbw'.size
   have hlt' : M < wr.heap.size := by omega
   have hsl' := HSL.out.below hbw'
   have e2' : wr.cell? ⟨M, 2, none⟩ = some (.slice A m.free.length c) := (hbw'.cell hlt).trans e2
   clear hno hg0
   by_cases hil : i < m.free.length
   ·obtain ⟨b, o, hA, hbl, c1, c2⟩ := hsl'.at2 i hil rfl
    have hb1 : b < w.heap.size := by
     obtain ⟨b', o', h1, h2, _⟩ := HSL.out.at2 i hil rfl
     rw [hA] at h1; injection h1 with h1; injection h1 with h1; omega
    have hx := HH.out.inn (m.free[i]) (List.getElem_mem _)
    have hgd : m.free.getD i (0, 0) = m.free[i] := getD_at hil
    have hil' : (i : Int) < m.free.length := by omega
    subst hA
    clear hsl' hbw'
    by_cases hq : n ≤ m.free[i].2
    ·have hfi : m.free.findIdx? (fun f => decide (n ≤ f.2)) = some i := by
      rw [List.findIdx?_eq_some_iff_getElem]
      exact ⟨hil, by simpa using hq, fun j hj => by have := HNO.out j (by omega) hj; simp; omega⟩
     have hr9 : r = (0, (m.free[i].1, n), { m with free := takeAt m.free i m.free[i].1 n }) := by
      rw [HR.out, hfi]; simp only [hgd]
     obtain ⟨t1, _, _, t4⟩ := takeAt_ok (a := m.free[i].1) (n := n) hinv.srt hil (by omega) (by rw [hgd]; exact nR0) (by rw [hgd]; omega)
     have hinn' : ∀ e ∈ takeAt m.free i m.free[i].1 n, e.1 + e.2 ≤ 4194304 := fun e he => by
      obtain ⟨e', he', h5, h6⟩ := t4 e he
      have := HH.out.inn e' he'
      omega
     have hfew' := ext_few t1 hinn'
     generalize m.free[i] = x at *
     have HT := hZ9 (show ∀ wy, Below wr.heap.size wr wy → Calls Tryz.prog 121 #[.pointer (some ⟨M, 0, none⟩), .int .i64 (i : Nat), .agg #[.int .i64 x.1, .int .i64 n]] wy fun e w' => e = .returned (.tuple #[]) ∧ MapR w' base M { m with free := takeAt m.free i x.1 n } ∧ Keeps base [220] wy w' ∧ (∀ P, FreeIn wy M P → FreeIn w' M fun g => P g ∨ wy.heap.size ≤ g) from fun wy hy =>
      take_any (HH.out.below (HBW.out.trans (hy.mono hwl))) (by have := hy.size; omega) i x.1 n hil (by omega) ⟨rfl, hinn', hfew'⟩)
     have hqi : (n : Int) ≤ x.2 := by omega
     have H1 : Hid ((#[.int .i64 x.1, .int .i64 n] : Array Value).all (·.oneCell') = true) := by show (#[.int .i64 x.1, .int .i64 n] : Array Value).all (·.oneCell') = true; simp [Value.oneCell']
     have HI2 : Hid ((Tryz.prog.info? 140).map (·.size) = some (#[.int .i64 x.1, .int .i64 n] : Array Value).size) := size140
     have HR9 := hZ9 hr9
     have hbw2 : Below wr.heap.size wr ((wr.alloc (.cells #[.int .i64 x.1, .int .i64 x.2] 140)).alloc (.cells #[.int .i64 x.1, .int .i64 n] 140)) := (bR0.alloc nR0 _).alloc (by simp) _
     have hx8 : Blk ((wr.alloc (.cells #[.int .i64 x.1, .int .i64 x.2] 140)).alloc (.cells #[.int .i64 x.1, .int .i64 n] 140)) (wr.heap.size + 1) 140 #[.int .i64 x.1, .int .i64 n] := Blk.new_eq0 (by simp)
     have HBW2 := hZ9 hbw2
     have HX8 := hZ9 hx8
     clear hbw2 hx8 t1 t4 hinn' hfew' hfi hr9 hq hgd hx
     go_upto_region 8 with fail
     generalize (wr.alloc (.cells #[.int .i64 x.1, .int .i64 x.2] 140)).alloc (.cells #[.int .i64 x.1, .int .i64 n] 140) = wy at *
     obtain ⟨X8, hX8⟩ : ∃ X8, X8 = wr.heap.size + 1 := ⟨_, rfl⟩
     rw [← hX8] at HX8 ⊢
     have cx0 : wy.cell? ⟨X8, 0, none⟩ = some (.int .i64 x.1) := HX8.out.cell 0
     have cx1 : wy.cell? ⟨X8, 1, none⟩ = some (.int .i64 n) := HX8.out.cell 1
     have cxl := HX8.out.lt
     have HX8E := hZ9 hX8
     have hys := HBW2.out.size
     clear hX8
     go_upto_region 9 with (go_at_call 121; refine (HT.out wy HBW2.out).mono ?_; rintro e w5 ⟨rfl, hm5, hk5, hf5⟩; (have HM5 := hZ9 hm5); (have HK5 := hZ9 hk5); (have HF5 := hZ9 hf5); clear hm5 hk5 hf5)
     have HX9 := hZ9 (HX8.out.keeps HK5.out (by decide))
     have HG5 := hZ9 ((HG0.out.below HBW2.out HG0.out.lt).keeps HK5.out (by decide))
     clear cx0 cx1 cxl
     go_wp2_with (first
      | (refine wpList_load_row rfl 140 _ rfl X8 rfl 140 #[.int .i64 x.1, .int .i64 n] (0, 0) _ HX9.out Tryz.underlying140 rfl HI2.out ?_)
      | (refine wpList_store_row rfl 140 _ _ rfl w.heap.size #[.int .i64 x.1, .int .i64 n] rfl rfl 140 #[.int .i64 0, .int .i64 0] HG5.out HI2.out rfl H1.out ?_))
     refine bodyPost_ret (v := .tuple #[.agg #[.int .i64 x.1, .int .i64 n], .int .i64 0]) (results_cell_tmp Tryz.results105 _ _ w.heap.size 140 _ (0, 0) _ rfl (setRow_blk HG5.out _) Tryz.underlying140 rfl HI2.out) rfl ?_
     have hcy : wy.cell? ⟨M, 2, none⟩ = some (.slice (some ⟨b, o, none⟩) m.free.length c) := (HBW2.out.cell hlt').trans e2'
     rw [HR9.out]
     refine ⟨rfl, HM5.out.grown (setRow_gby _ _ _) (by omega) (fun a' n' c' hcell => ?_), ((Keeps.of_below (HBW.out.trans (HBW2.out.mono hwl)) hbw).trans HK5.out).grown_new (setRow_gby _ _ _) hbw nR0, fun P hP a1 n1 c1 h1 => ?_⟩
     have hp := HF5.out (fun g => g = b) (fun a1 n1 c1 h1 => by
      rw [hcy] at h1; injection h1 with h1; injection h1 with h1; injection h1 with h1; rw [← h1]) a' n' c' hcell
     rcases hp with hp | hp <;> omega
     have hb6 : Below w.heap.size w wy := HBW.out.trans (HBW2.out.mono hwl)
     have h2 := (setRow_gby w5 w.heap.size #[.int .i64 x.1, .int .i64 n]).block M (HM5.out.lt) (by intro e; injection e with e; omega)
     have h3 : w5.cell? ⟨M, 2, none⟩ = some (.slice (some a1) n1 c1) := by rw [← h1]; simp only [World.cell?, h2]
     rcases HF5.out P (fun a2 n2 c2 g2 => hP a2 n2 c2 ((hb6.cell hlt).symm.trans g2)) a1 n1 c1 h3 with hp | hp
     ·exact .inl hp
     ·exact .inr (Nat.le_trans hb6.size hp)
    ·have hqi : ¬ ((n : Int) ≤ m.free[i].2) := by omega
     have HQ := hZ9 (show ∀ k (h : k < m.free.length), k = i → m.free[k].2 < n from fun k h e => by subst e; omega)
     generalize m.free[i] = x at *
     clear hq
     go_wp2_with fail
     go_roundw
     case rel =>
      refine ⟨i + 1, by omega, by go_num, fun j hj hji => ?_, HBW.out.alloc hwl _, HG0.out.alloc _⟩
      by_cases hjn : j < i
      ·exact HNO.out j hj hjn
      ·obtain rfl : j = i := by omega
       exact HQ.out j hj rfl
     case measure => simp [intOf]; omega
   ·obtain rfl : i = m.free.length := by omega
    have hfi : m.free.findIdx? (fun f => decide (n ≤ f.2)) = none := by
     rw [List.findIdx?_eq_none_iff]
     intro y hy
     obtain ⟨j, hj, rfl⟩ := List.mem_iff_getElem.1 hy
     have := HNO.out j hj hj
     simp; omega
    have hr9 : r = (5, (0, 0), m) := by rw [HR.out, hfi]
    subst hr9
    have H1 : Hid ((#[.int .i64 0, .int .i64 0] : Array Value).all (·.oneCell') = true) := by show (#[.int .i64 0, .int .i64 0] : Array Value).all (·.oneCell') = true; simp [Value.oneCell']
    clear hfi hsl' hbw'
    go_wp2_with (refine wpList_store_row rfl 140 _ _ rfl w.heap.size #[.int .i64 0, .int .i64 0] rfl rfl 140 #[.int .i64 0, .int .i64 0] HG0.out HI.out rfl H1.out ?_)
    refine bodyPost_ret (v := .tuple #[.agg #[.int .i64 0, .int .i64 0], .int .i64 5]) (results_cell_tmp Tryz.results105 _ _ w.heap.size 140 _ (0, 0) _ rfl (setRow_blk HG0.out _) Tryz.underlying140 rfl HI.out) rfl ?_
    have hbf : Below w.heap.size w (wr.setRow w.heap.size #[.int .i64 0, .int .i64 0]) := HBW.out.trans (grown_below (setRow_gby _ _ _) hwl (fun k hk => by injection hk with hk; omega))
    exact ⟨rfl, HH.out.below hbf, Keeps.of_below hbf hbw, fun P hP a1 n1 c1 h1 => .inl (hP a1 n1 c1 ((hbf.cell hlt).symm.trans h1))⟩
end
section
open Go.RowKit Go.Maps
set_option maxRecDepth 100000

abbrev RecM := RecL × Option Addr × Nat
def recRow (x : RecM) : List Value := [.int .u8 x.1.1, .slice x.2.1 x.1.2.length x.2.2]
def recRows (L : List RecM) : List Value := L.flatMap recRow
def Bods (w : World) (L : List RecM) : Prop := ∀ x ∈ L, Byt w x.2.1 x.1.2 ∧ x.1.2.length ≤ x.2.2 ∧ x.1.1 < 256 ∧ x.1.2.length < 1099511627776
theorem Bods.keeps {base : Nat} {ts : List TypeId} {w w' : World} {L : List RecM} (h : Bods w L) (k : Keeps base ts w w') (ht : 5 ∉ ts) : Bods w' L := fun x hx => ⟨(h x hx).1.keeps k ht, (h x hx).2⟩
theorem Bods.below {w w' : World} {L : List RecM} (h : Bods w L) (k : Below w.heap.size w w') : Bods w' L := h.keeps (ts := []) (Keeps.of_below (base := 0) k (Nat.zero_le _)) (by simp)
theorem recRows_len (L : List RecM) : (recRows L).length = L.length * 2 := by
 induction L with
 | nil => rfl
 | cons a L ih => unfold recRows at ih ⊢; simp [List.flatMap_cons, recRow, ih]; omega
theorem recRows_append (L M : List RecM) : recRows (L ++ M) = recRows L ++ recRows M := by unfold recRows; rw [List.flatMap_append]
theorem recRows_one (L : List RecM) : ∀ u ∈ recRows L, u.oneCell' = true := by
 intro u hu
 unfold recRows at hu
 obtain ⟨x, _, hx⟩ := List.mem_flatMap.1 hu
 simp [recRow] at hx
 rcases hx with rfl | rfl <;> rfl
structure LogR (w : World) (base Lb B : Nat) (l : LogV) (L : List RecM) (A : Option Addr) (c : Nat) : Prop where
 low : base ≤ Lb
 blk : Blk w Lb 216 #[.pointer (some ⟨B, 0, none⟩), .int .i64 l.frm, .int .i64 l.half, .int .i64 l.size, .int .i64 l.use, .int .i64 l.epoch, .int .i64 l.at', .slice A l.recs.length c]
 own : w.ownsRow base 137 2 (.slice A l.recs.length c) l.recs.length (recRows L)
 rcs : L.map (·.1) = l.recs
 bod : Bods w L
 b1 : l.frm ≤ 65536
 b2 : l.half ≤ 65536
 b3 : l.size ≤ 65536
 b4 : l.use ≤ 1
 b5 : l.epoch < 549755813888
 b6 : l.at' ≤ 1048576
 b7 : l.recs.length ≤ 1000000
def Log (w : World) (base Lb B : Nat) (l : LogV) : Prop := ∃ L A c, LogR w base Lb B l L A c
theorem LogR.keeps {base base' Lb B : Nat} {ts : List TypeId} {w w' : World} {l : LogV} {L : List RecM} {A : Option Addr} {c : Nat} (h : LogR w base Lb B l L A c) (k : Keeps base' ts w w') (h1 : 216 ∉ ts) (h2 : 137 ∉ ts) (h3 : 5 ∉ ts) : LogR w' base Lb B l L A c :=
 ⟨h.low, h.blk.keeps k h1, own_keeps h.own k h2, h.rcs, h.bod.keeps k h3, h.b1, h.b2, h.b3, h.b4, h.b5, h.b6, h.b7⟩
theorem Log.keeps {base base' Lb B : Nat} {ts : List TypeId} {w w' : World} {l : LogV} (h : Log w base Lb B l) (k : Keeps base' ts w w') (h1 : 216 ∉ ts) (h2 : 137 ∉ ts) (h3 : 5 ∉ ts) : Log w' base Lb B l := by
 obtain ⟨L, A, c, h⟩ := h
 exact ⟨L, A, c, h.keeps k h1 h2 h3⟩
theorem LogR.below {base Lb B : Nat} {w w' : World} {l : LogV} {L : List RecM} {A : Option Addr} {c : Nat} (h : LogR w base Lb B l L A c) (k : Below w.heap.size w w') : LogR w' base Lb B l L A c := h.keeps (ts := []) (Keeps.of_below (base := 0) k (Nat.zero_le _)) (by simp) (by simp) (by simp)
theorem Log.below {base Lb B : Nat} {w w' : World} {l : LogV} (h : Log w base Lb B l) (k : Below w.heap.size w w') : Log w' base Lb B l := h.keeps (ts := []) (Keeps.of_below (base := 0) k (Nat.zero_le _)) (by simp) (by simp) (by simp)
theorem half_mul (h a : Nat) (hh : h ≤ 1) : h * a ≤ a := by
 have := Nat.mul_le_mul_right a hh
 omega
theorem begin_any {w : World} {base Lb B : Nat} {l : LogV} (h : Log w base Lb B l) (k : Nat) (hk : k ≤ 1) :
  Calls Tryz.prog 164 #[.pointer (some ⟨Lb, 0, none⟩), .int .i64 k] w fun e w' => e = .returned (.int .i64 (l.begin k : Nat)) ∧ Below w.heap.size w w' := by
 obtain ⟨L, A, c, h⟩ := h
 have b1 := h.b1
 have b2 := h.b2
 have hlt := h.blk.lt
 have e1 : w.cell? ⟨Lb, 1, none⟩ = some (.int .i64 l.frm) := h.blk.cell 1
 have e2 : w.cell? ⟨Lb, 2, none⟩ = some (.int .i64 l.half) := h.blk.cell 2
 have hm := half_mul k l.half hk
 have hm2 : (k : Int) * (l.half : Int) = ((k * l.half : Nat) : Int) := by rw [Int.natCast_mul]
 have q1 : IntKind.i64.wrap ((k : Int) * (l.half : Int)) = ((k * l.half : Nat) : Int) := by rw [IntKind.wrap_i64, hm2]; omega
 have HE : Hid (l.begin k = l.frm + k * l.half) := show l.begin k = l.frm + k * l.half from rfl
 clear h hm2
 generalize k * l.half = p at *
 go_enter Tryz.func164, Tryz.ntmps164
 go_upto_region 1 with fail
 go_quiet (fail)
 go_wp2_with fail
 go_ret
 exact ⟨by rw [HE.out, Int.natCast_add]; rfl, bl_drewN bR0 _⟩
theorem epoch_any {w : World} {base Lb B : Nat} {l : LogV} (h : Log w base Lb B l) :
  Calls Tryz.prog 159 #[.pointer (some ⟨Lb, 0, none⟩)] w fun e w' => e = .returned (.int .i64 (l.epoch : Nat)) ∧ w = w' := by
 obtain ⟨L, A, c, h⟩ := h
 have hlt := h.blk.lt
 have e5 : w.cell? ⟨Lb, 5, none⟩ = some (.int .i64 l.epoch) := h.blk.cell 5
 clear h
 go_enter Tryz.func159, Tryz.ntmps159
 go_wp2_with fail
 go_ret
 exact ⟨rfl, rfl⟩
theorem left_any {w : World} {base Lb B : Nat} {l : LogV} (h : Log w base Lb B l) (hat : l.at' ≤ l.begin l.use + l.half) :
  Calls Tryz.prog 174 #[.pointer (some ⟨Lb, 0, none⟩)] w fun e w' => e = .returned (.int .i64 (l.left : Nat)) ∧ Below w.heap.size w w' := by
 have HB := hZ9 (show ∀ wy, Below w.heap.size w wy → Calls Tryz.prog 164 #[.pointer (some ⟨Lb, 0, none⟩), .int .i64 l.use] wy fun e w' => e = .returned (.int .i64 (l.begin l.use : Nat)) ∧ Below wy.heap.size wy w' from fun wy hy => by
  have b4 := h
  obtain ⟨L, A, c, b4⟩ := b4
  exact begin_any (h.below hy) l.use b4.b4)
 obtain ⟨L, A, c, h⟩ := h
 have HH := hZ9 h
 have b1 := h.b1
 have b2 := h.b2
 have hlt := h.blk.lt
 have hm := half_mul l.use l.half h.b4
 have hbg : l.begin l.use ≤ 131072 := by unfold LogV.begin; omega
 have sk : ∀ wy, Below w.heap.size w wy → wy.cell? ⟨Lb, 4, none⟩ = some (.int .i64 l.use) ∧ wy.cell? ⟨Lb, 2, none⟩ = some (.int .i64 l.half) ∧ wy.cell? ⟨Lb, 6, none⟩ = some (.int .i64 l.at') := fun wy hy => by
  have hb := h.blk.below hy hlt
  exact ⟨hb.cell 4, hb.cell 2, hb.cell 6⟩
 have SK := hZ9 sk
 have HL : Hid (l.left = l.begin l.use + l.half - l.at') := show l.left = l.begin l.use + l.half - l.at' from rfl
 obtain ⟨bg, hbge⟩ : ∃ bg, bg = l.begin l.use := ⟨_, rfl⟩
 rw [← hbge] at *
 clear h sk hm hbge
 go_enter Tryz.func174, Tryz.ntmps174
 go_upto_region 3 with fail
 have S0 := hZ9 (SK.out _ bR0.drew)
 go_region_held3 (fun wy => wy.cell? ⟨Lb, 4, none⟩ = some (.int .i64 l.use) ∧ wy.cell? ⟨Lb, 2, none⟩ = some (.int .i64 l.half) ∧ wy.cell? ⟨Lb, 6, none⟩ = some (.int .i64 l.at'))
  (first | exact SK.out _ HB2.out | exact S0.out)
  (first
   | (go_at_call 164; refine (HB.out _ bR0.drew).mono ?_; rintro en w2 ⟨rfl, hb2⟩; (have HB2 : Hid (Below w.heap.size w w2) := bR0.drew.trans hb2); clear hb2))
 all_goals
  go_wp2_with fail
  go_ret
  refine ⟨?_, HB2.out⟩
  rw [HL.out]
  exact ret_int (by simp only [IntKind.wrap_i64]; omega)
theorem need_any {w : World} {base Lb B : Nat} {l : LogV} (h : Log w base Lb B l) (r : RecL) (A : Option Addr) (c : Nat) (hn : r.2.length < 1099511627776) :
  Calls Tryz.prog 122 #[.pointer (some ⟨Lb, 0, none⟩), .agg #[.int .u8 r.1, .slice A r.2.length c]] w fun e w' => e = .returned (.int .i64 (l.needR r : Nat)) ∧ Below w.heap.size w w' := by
 obtain ⟨L, A', c', h⟩ := h
 have hlt := h.blk.lt
 have b3 := h.b3
 have hb0 : Below w.heap.size w (w.alloc (.cells #[.int .u8 r.1, .slice A r.2.length c] 137)) := bR0.alloc nR0 _
 have e3 : (w.alloc (.cells #[.int .u8 r.1, .slice A r.2.length c] 137)).cell? ⟨Lb, 3, none⟩ = some (.int .i64 l.size) := (hb0.cell hlt).trans (h.blk.cell 3)
 have HB0 := hZ9 hb0
 have HN := hZ9 (show ∀ wy, Calls Tryz.prog 56 #[.int .i64 l.size, .int .i64 ((1 : Int) + (r.2.length : Nat))] wy fun e w' => e = .returned (.int .i64 (l.needR r : Nat)) ∧ wy = w' from fun wy => by
  have := pageNeed_any l.size (1 + r.2.length) (by omega) (by omega) wy
  rw [Int.natCast_add] at this
  exact this)
 clear h hb0
 go_enter Tryz.func122, Tryz.ntmps122
 go_upto_region 1 with fail
 go_quiet ((go_at_call 56; exact quiet_left (HN.out _)))
 go_wp2_with fail
 go_ret
 exact ⟨rfl, bl_drewN HB0.out _⟩
theorem bytes_any {w : World} (r : RecL) (hk : r.1 < 256) (A : Option Addr) (c : Nat) (hb : Byt w A r.2) (hn : r.2.length < 1099511627776) :
  Calls Tryz.prog 166 #[.agg #[.int .u8 r.1, .slice A r.2.length c]] w fun e w' => (∃ A' c', e = .returned (.slice A' (recB r).length c') ∧ Byt w' A' (recB r) ∧ (recB r).length ≤ c') ∧ Below w.heap.size w w' := by
 obtain ⟨i0, hi0, hz0, hz1, hz2⟩ := info_parts info5
 have hkv : Value.int .u8 (r.1 : Int) = u8v (UInt8.ofNat r.1) := by unfold u8v; congr 1; simp; omega
 have hb1 : Below w.heap.size w (w.alloc (.cells #[.int .u8 r.1, .slice A r.2.length c] 137)) := bR0.alloc nR0 _
 have hb2 : Below w.heap.size w ((w.alloc (.cells #[.int .u8 r.1, .slice A r.2.length c] 137)).alloc (.cells #[.int .u8 r.1] 5)) := hb1.alloc (by simp) _
 have hfst : Sl ((w.alloc (.cells #[.int .u8 r.1, .slice A r.2.length c] 137)).alloc (.cells #[.int .u8 r.1] 5)) 5 1 (some ⟨w.heap.size + 1, 0, none⟩) 1 [u8v (UInt8.ofNat r.1)] := by
  have : Blk ((w.alloc (.cells #[.int .u8 r.1, .slice A r.2.length c] 137)).alloc (.cells #[.int .u8 r.1] 5)) (w.heap.size + 1) 5 [u8v (UInt8.ofNat r.1)].toArray := by
   rw [← hkv]; exact Blk.new_eq0 (by simp)
  exact Sl.of_blk this rfl
 obtain ⟨A', c', w', hrun, hs, hc, hbw, _⟩ := run_append_full _ 43 43 5 i0 _ 1 1 under43 hi0 hz0 hz1 hz2 rfl (by decide) _ 1 _ hfst A r.2.length c (r.2.map u8v) (hb.below hb2).rd (u8v_one _) (by unfold maxLen; omega) (by omega)
 have hl : (recB r).length = 1 + r.2.length := by unfold recB; simp; omega
 have HRUN := hZ9 hrun
 have HF := hZ9 (show Byt w' A' (recB r) from by
  have h := hs
  rw [← hl] at h
  exact h)
 have HBW := hZ9 (hb2.trans (hbw.mono (by simp; omega)))
 have HL := hZ9 hl
 clear hrun hs hbw hfst hb1 hb2 hkv
 go_enter Tryz.func166, Tryz.ntmps166
 go_wp2_with (at_builtin; refine wpList_append_eq _ _ rfl _ _ 43 rfl _ _ _ rfl rfl HRUN.out ?_)
 go_ret
 exact ⟨⟨A', c', by rw [HL.out]; rfl, HF.out, by rw [HL.out]; exact hc⟩, HBW.out⟩
theorem sync_any {w : World} {base Lb B : Nat} {l : LogV} {d : DskV} (h : Log w base Lb B l) (hd : Dsk w base B d) :
  Calls Tryz.prog 73 #[.pointer (some ⟨Lb, 0, none⟩)] w fun e w' => WriteOut w w' base B (flushD d) e := by
 obtain ⟨L, A, c, h⟩ := h
 have hlt := h.blk.lt
 have e0 : w.cell? ⟨Lb, 0, none⟩ = some (.pointer (some ⟨B, 0, none⟩)) := h.blk.cell 0
 have HF := hZ9 (diskFlush_any hd)
 clear h hd
 go_enter Tryz.func73, Tryz.ntmps73
 go_wp2_with (go_at_call 130; refine HF.out.mono ?_; rintro en w2 ⟨rfl, h2⟩)
 go_ret
 exact ⟨rfl, h2⟩
end
section
open Go.RowKit Go.Maps
set_option maxRecDepth 100000

theorem under134 : Tryz.prog.underlying 134 = some (.slice 137) := by kernel_rfl
theorem info137 : (Tryz.prog.info? 137).map (fun i => (i.zero, i.size, i.bytes)) = some (some (.agg #[.int .u8 0, .slice none 0 0]), 2, 32) := by kernel_rfl
theorem Sl.at2r {w : World} {A : Option Addr} {n : Nat} {L : List RecM} (h : Sl w 137 2 A n (recRows L)) (i : Nat) (hi : i < L.length) (hn : n = L.length) : ∃ b o, A = some ⟨b, o, none⟩ ∧ b < w.heap.size ∧ w.cell? ⟨b, o + i * 2, none⟩ = some (.int .u8 (L[i].1.1 : Nat)) ∧ w.cell? ⟨b, o + i * 2 + 1, none⟩ = some (.slice L[i].2.1 L[i].1.2.length L[i].2.2) := by
 obtain ⟨b, o, rfl, hb, hc⟩ := h.1.2 (by omega)
 have hp := pair_cells (fun x : RecM => Value.int .u8 x.1.1) (fun x => .slice x.2.1 x.1.2.length x.2.2) L i hi
 obtain ⟨p1, p2⟩ := hp
 have l1 : i * 2 < (recRows L).length := by rw [recRows_len]; omega
 have l2 : i * 2 + 1 < (recRows L).length := by rw [recRows_len]; omega
 refine ⟨b, o, rfl, hb, ?_, ?_⟩
 ·rw [hc _ l1, ← p1]; exact (List.getElem?_eq_getElem l1).symm
 ·rw [Nat.add_assoc, hc _ l2, ← p2]; exact (List.getElem?_eq_getElem l2).symm
theorem keeps_own_grown {w w' : World} {base e size n : Nat} {v : Value} {xs : List Value} (h : w.ownsRow base e size v n xs) (hg : w.grownBy w' v.ownBlock) (hb : base ≤ w.heap.size) : Keeps base [e] w w' :=
 Keeps.of_grown hg hb fun g hgg => ⟨(h.lt g hgg).1, fun t ht => by
  have := own_ty h hgg
  rw [this] at ht; injection ht with ht; simp [← ht]⟩
def CopyOut (w w' : World) (L : List RecM) (e : Ending) : Prop := (∃ L' A' c', e = .returned (.slice A' L.length c') ∧ w'.ownsRow w.heap.size 137 2 (.slice A' L.length c') L.length (recRows L') ∧ L'.map (·.1) = L.map (·.1) ∧ Bods w' L' ∧ L.length ≤ c') ∧ Below w.heap.size w w'
set_option maxHeartbeats 4000000 in
theorem copied_any {w : World} (L : List RecM) (A : Option Addr) (c : Nat) (h : Sl w 137 2 A L.length (recRows L)) (hb : Bods w L) (hl : L.length ≤ 1000000) :
  Calls Tryz.prog 113 #[.slice A L.length c] w fun e w' => CopyOut w w' L e := by
 have HSL := hZ9 h
 have HBO := hZ9 hb
 obtain ⟨i0, hi0, hz0, hz1, hz2⟩ := info_parts info137
 obtain ⟨i5, hi5, hy0, hy1, hy2⟩ := info_parts info5
 clear h hb
 go_enter Tryz.func113, Tryz.ntmps113
 go_wp2_with fail
 go_loopw [3, 8] (fun out i wr => ∃ (k : Nat) (L' : List RecM), k ≤ L.length ∧ i = .int .i64 (k : Nat) ∧ L'.map (·.1) = (L.take k).map (·.1) ∧ wr.ownsRow w.heap.size 137 2 out k (recRows L') ∧ Bods wr L' ∧ Below w.heap.size w wr) (fun _ i _ => L.length - (intOf i).toNat)
 case atStart => exact ⟨0, [], Nat.zero_le _, rfl, rfl, own_nil _ _ _ _, (fun x hx => by cases hx), bR0⟩
 case round =>
  obtain ⟨k, L', hk, rfl, hmap, hown, hbod, hbw⟩ := hrel
  have HMAP := hZ9 hmap
  have HOWN := hZ9 hown
  have HBOD := hZ9 hbod
  have HBW := hZ9 hbw
  have hwl := hbw.size
  by_cases hkl : k < L.length
  ·obtain ⟨b, o, hA, hbl, c1, c2⟩ := (HSL.out.below hbw).at2r k hkl rfl
   obtain ⟨y1, y2, y3, y4⟩ := HBO.out (L[k]) (List.getElem_mem _)
   have hkl' : (k : Int) < L.length := by omega
   have htk : (L.take (k + 1)).map (·.1) = (L.take k).map (·.1) ++ [L[k].1] := by rw [List.take_succ_eq_append_getElem hkl, List.map_append]; rfl
   subst hA
   clear hmap hown hbod
   generalize L[k] = x at *
   obtain ⟨⟨kd, body⟩, B, cb⟩ := x
   simp only at y1 y2 y3 y4 c1 c2 htk
   have HTK := hZ9 htk
   clear htk
   have hb2 : Below w.heap.size w (wr.alloc (.cells #[.int .u8 kd, .slice B body.length cb] 137)) := hbw.alloc hwl _
   have hx2 : Blk (wr.alloc (.cells #[.int .u8 kd, .slice B body.length cb] 137)) wr.heap.size 137 #[.int .u8 kd, .slice B body.length cb] := Blk.new wr 137 _
   have ho2 := own_keep_alloc HOWN.out (.cells #[.int .u8 kd, .slice B body.length cb] 137)
   have hd2 : Bods (wr.alloc (.cells #[.int .u8 kd, .slice B body.length cb] 137)) L' := HBOD.out.below (bR0.alloc nR0 _)
   have hy2' : Byt (wr.alloc (.cells #[.int .u8 kd, .slice B body.length cb] 137)) B body := y1.below hb2
   clear hbw HBOD y1
   go_upto_region 5 with fail
   generalize wr.alloc (.cells #[.int .u8 kd, .slice B body.length cb] 137) = w2 at *
   obtain ⟨X, hX⟩ : ∃ X, X = wr.heap.size := ⟨_, rfl⟩
   rw [← hX] at hx2 ⊢
   have x0 : w2.drew.cell? ⟨X, 0, none⟩ = some (.int .u8 kd) := hx2.cell 0
   have x1 : w2.drew.cell? ⟨X, 1, none⟩ = some (.slice B body.length cb) := hx2.cell 1
   have xl : X < w2.drew.heap.size := hx2.lt
   obtain ⟨A3, c3, w3, hrun, hs3, hc3, hb3, _⟩ := run_append_full w2.drew 43 43 5 i5 _ 1 1 under43 hi5 hy0 hy1 hy2 rfl (by decide) none 0 [] Sl.nil B body.length cb (body.map u8v) hy2'.rd (u8v_one _) (by unfold maxLen; omega) (by omega)
   rw [Nat.zero_add] at hrun hc3
   rw [Nat.zero_add, List.nil_append] at hs3
   have x0' : w3.cell? ⟨X, 0, none⟩ = some (.int .u8 kd) := (hb3.cell xl).trans x0
   have hw23 : Below w2.heap.size w2 w3 := bR0.drew.trans hb3
   have HRUN := hZ9 hrun
   have HY3 := hZ9 (show Byt w3 A3 body from hs3)
   have HC3 := hZ9 hc3
   have HO3 := hZ9 (own_keeps (base := w.heap.size) (ts := []) ho2 (Keeps.of_below hw23 (by have := hb2.size; omega)) (by simp))
   have HD3 := hZ9 (hd2.below hw23)
   have HB3 := hZ9 (hb2.trans (hw23.mono hb2.size))
   have H1C : Hid (∀ u ∈ ([.int .u8 kd, .slice A3 body.length c3] : List Value), u.oneCell' = true) := by
    show ∀ u ∈ ([.int .u8 kd, .slice A3 body.length c3] : List Value), u.oneCell' = true
    simp [Value.oneCell']
   have HR := hZ9 (sl_rd (Sl.of_blk (sz := 2) (n := 1) (Blk.new w3 137 #[.int .u8 kd, .slice A3 body.length c3]) rfl))
   clear hx2 hrun hs3 hc3 hb3 hw23 ho2 hd2 hb2 hy2' hX
   go_region_law (first
    | (refine step_append_run (by rfl) _ _ _ (by rfl) _ _ _ (by rfl) (by rfl) HRUN.out ?_)
    | (refine step_append_rd _ (by rfl) _ _ _ (by rfl) w.heap.size 137 i0 _ 2 32 under134 hi0 hz0 hz1 hz2 rfl (by decide) u3 k (recRows L') (by rfl) (own_keep_alloc HO3.out _) (some ⟨w3.heap.size, 0, none⟩) 1 1 _ [.int .u8 kd, .slice A3 body.length c3] (by rfl) HR.out H1C.out (by unfold maxLen; omega) (by omega) (by have := HB3.out.size; simp; omega) ?_; intro A5 c5 w5 hown5 hgr5 hnc5; (have HOWN5 := hZ9 hown5); (have HGR5 := hZ9 hgr5); clear hown5 hgr5))
   all_goals
    go_wp2_with fail
    go_roundw
    case rel =>
     have hk5 := keeps_own_grown (own_keep_alloc HO3.out (.cells #[.int .u8 kd, .slice A3 body.length c3] 137)) HGR5.out (by have := HB3.out.size; simp; omega)
     have hb35 : Below w3.heap.size w3 (w3.alloc (.cells #[.int .u8 kd, .slice A3 body.length c3] 137)) := bR0.alloc nR0 _
     refine ⟨k + 1, L' ++ [((kd, body), A3, c3)], by omega, by go_num, ?_, ?_, ?_, ?_⟩
     ·rw [HTK.out, List.map_append, HMAP.out]; rfl
     ·rw [recRows_append]; exact HOWN5.out
     ·intro z hz
      rcases List.mem_append.1 hz with hz | hz
      ·exact ((HD3.out.below hb35).keeps hk5 (by decide)) z hz
      ·rw [List.mem_singleton] at hz
       subst hz
       exact ⟨(HY3.out.below hb35).keeps hk5 (by decide), HC3.out, y3, y4⟩
     ·exact (HB3.out.alloc HB3.out.size _).trans (hk5.below.mono (by exact nR0))
    case measure => simp [intOf]; omega
  ·obtain rfl : k = L.length := by omega
   clear hmap hown hbod hbw
   rw [List.take_length] at HMAP
   obtain ⟨A', c', rfl, hc'⟩ := own_form HOWN.out
   go_wp2_with fail
   go_ret
   exact ⟨⟨L', A', c', rfl, HOWN.out, HMAP.out, HBOD.out, hc'⟩, HBW.out⟩
end
end Go.Proofs.YtmgmfnimaafkdaaGreatDoor
