/- A sector, written step by step, plain. -/
import Derived.Test.YtmgmfnimaafkdaaGreatDoorVD
import Derived.Laws.Bits64b
namespace Go.Proofs.YtmgmfnimaafkdaaGreatDoor
section
open Go.RowKit Go.Maps
set_option maxRecDepth 100000

theorem under119 : Tryz.prog.underlying 119 = some (.slice 167) := by kernel_rfl
theorem info167 : (Tryz.prog.info? 167).map (fun i => (i.zero, i.size, i.bytes)) = some (some (.agg #[.int .i64 0, .pointer none]), 2, 16) := by kernel_rfl
theorem appended43 (w : World) (ty : TypeId) (b : List UInt8) (A : Option Addr) (c B : Nat) (h0 : 0 < b.length) (h1 : b.length ≤ 65536) (hr : Rd w B 1 A b.length (b.map u8v)) :
  ∃ c' w1, (Builtin.append_ #[43, 43] ty #[.slice none 0 0, .slice A b.length c]).run Tryz.prog w = .ok (.slice (some ⟨w.heap.size, 0, none⟩) b.length c') w1 ∧ w1.heap.size = w.heap.size + 1 ∧
   w1.ownsRow w.heap.size 5 1 (.slice (some ⟨w.heap.size, 0, none⟩) b.length c') b.length (b.map u8v) ∧ Below w.heap.size w w1 := by
 obtain ⟨i, hi, hz0, hz1, hz2⟩ := info_parts info5
 obtain ⟨bb, o, rfl, hb, hc⟩ := hr.2 h0
 have hnews : ∀ j v, (b.map u8v)[j]? = some v → w.cell? ((⟨bb, o, none⟩ : Addr).add j) = some v := fun j u hu => by
  obtain ⟨hj, rfl⟩ := List.getElem?_eq_some_iff.1 hu; rw [addr_add]; exact hc j hj
 have hrun := run_append_nil (P := Tryz.prog) w 43 ty 5 i _ under43 hi hz0 ⟨bb, o, none⟩ b.length c (b.map u8v) (by simp [hz1]) hnews h0 (by omega) (by rw [hz2]; omega)
 have hge := grownCap_ge w b.length 0 5
 have hcm : grownCap w b.length 0 5 ≤ maxLen := grownCap_le_maxLen w b.length 0 5 (by simp [maxLen]; omega)
 refine ⟨_, _, hrun, by simp, ⟨by simp, .inr ⟨w.heap.size, _, _, rfl, nR0, heap_alloc_new w.drew _, hge, hcm, ?_, ?_⟩⟩, (bR0.drew.alloc (by simp) _)⟩
 ·simp only [Array.size_append, List.size_toArray, size_zeroCells, List.length_map]
  simp [Value.cells]; omega
 ·simp only [Array.toList_append, Nat.mul_one]
  rw [List.take_append_of_le_length (by simp)]
  exact List.take_of_length_le (by simp)
theorem wpList_append_eq {P : Program} (w w1 : World) {ops : Array Oper} {rest : List Oper} {o : Oper} {a : Act} {Q : Exit → Act → World → Prop} (hgd : o.guard = none) (s x : Operand) (t : TypeId)
  (ho : o.op = .call { callee := .builtin .append, args := #[s, x], argTypes := #[t, t] }) (vs vx v : Value) (hs : a.eval s = vs) (hx : a.eval x = vx) (hrun : (Builtin.append_ #[t, t] o.type #[vs, vx]).run P w = .ok v w1)
  (h : wpList P ops Q rest (a.put o.dst v) w1) : wpList P ops Q (o :: rest) a w := by
 refine wpList_plain hgd fun K hK => ?_
 unfold Oper.wp execOp
 simp only [ho, resolve, invoke, builtin, Sem.run_bind, Sem.run_pure, Result.andThen_ok, List.map_toArray, List.map_cons, List.map_nil, hs, hx, hrun]
 exact hK _ _ h
theorem DskR.grown {w2 w4 : World} {base B : Nat} {d : DskV} {m : DskM} (h : DskR w2 base B d m) (hb : base ≤ w2.heap.size) {o : Obj} (hg : (w2.alloc o).grownBy w4 (Value.slice m.A m.wi.length m.c).ownBlock) :
  Blk w4 B 121 (dskC d m) ∧ Blk w4 m.TB 165 ((List.range d.lasts.length).map fun k => ptrV (m.told k)).toArray ∧ Blk w4 m.LB 165 (m.li.map ptrV).toArray ∧ m.TB ≠ B ∧ m.LB ≠ B ∧ Keeps base [121, 165, 167] w2 w4 := by
 have ho := own_keep_alloc h.own o
 have b3 := own_ne ho (h.blk.alloc o) (by decide)
 have t3 := own_ne ho (h.tb.alloc o) (by decide)
 have l3 := own_ne ho (h.lb.alloc o) (by decide)
 refine ⟨(h.blk.alloc o).grown hg b3, (h.tb.alloc o).grown hg t3, (h.lb.alloc o).grown hg l3, h.tb.ne h.blk (by decide), h.lb.ne h.blk (by decide), ?_⟩
 refine ((Keeps.refl base _ w2).alloc hb o).trans (Keeps.of_grown hg (by simp; omega) fun g hgg => ⟨?_, fun t ht => ?_⟩)
 ·rcases ho.2 with ⟨hv, _⟩ | ⟨gg, cp, cu, hv, hbb, _⟩
  ·rw [hv] at hgg; simp [Value.ownBlock] at hgg
  ·rw [hv] at hgg; simp [Value.ownBlock] at hgg; omega
 ·have := own_ty ho hgg
  rw [this] at ht
  injection ht with ht
  simp [← ht]
def WriteOut (w w' : World) (base B : Nat) (r : Nat × DskV) (e : Ending) : Prop := e = .returned (.int .i64 r.1) ∧ Dsk w' base B r.2 ∧ Keeps base [121, 165, 167] w w'
theorem diskWrite_any {w : World} {base B : Nat} {d : DskV} (h : Dsk w base B d) (n : Nat) (b : List UInt8) (A : Option Addr) (c : Nat) (hr : Rd w w.heap.size 1 A b.length (b.map u8v)) (hb : b.length ≤ 65536) (hw : d.waits.length < 2 ^ 40) :
  Calls Tryz.prog 163 #[.pointer (some ⟨B, 0, none⟩), .int .i64 n, .slice A b.length c] w fun e w' => WriteOut w w' base B (writeD d n b) e := by
 have hD := h
 obtain ⟨m, h⟩ := h
 have hbk := h.blk
 have hlt := hbk.lt
 have e0 : w.cell? ⟨B, 0, none⟩ = some (.int .i64 d.size) := hbk.cell 0
 have e2 : w.cell? ⟨B, 2, none⟩ = some (.slice (some ⟨m.TB, 0, none⟩) d.lasts.length d.lasts.length) := hbk.cell 2
 have e3 : w.cell? ⟨B, 3, none⟩ = some (.slice m.A m.wi.length m.c) := hbk.cell 3
 have e4 : w.cell? ⟨B, 4, none⟩ = some (.bool d.off) := hbk.cell 4
 have HD := hZ9 hD
 obtain ⟨r, hr0⟩ : ∃ r, r = writeD d n b := ⟨_, rfl⟩
 rw [← hr0]
 by_cases hn : d.lasts.length ≤ n
 ·have hr' : r = (1, d) := by rw [hr0]; unfold writeD; rw [if_pos (.inl hn)]
  subst hr'
  clear h hD hbk hr0 hr
  go_enter Tryz.func163, Tryz.ntmps163
  go_wp2_with (go_at_call 92; refine (diskHas_no HD.out hn).mono ?_; rintro e w' ⟨rfl, rfl⟩)
  all_goals (go_ret; exact ⟨rfl, HD.out, Keeps.refl _ _ _⟩)
 ·by_cases hs : b.length = d.size
  ·by_cases ho : d.off = true
   ·have hr' : r = (10, d) := by rw [hr0]; unfold writeD; rw [if_neg (by simp [hs]; omega), if_pos ho]
    subst hr'
    rw [ho] at e4
    clear h hD hbk hr0 hr
    go_enter Tryz.func163, Tryz.ntmps163
    go_wp2_with (go_at_call 92; refine (diskHas_ok HD.out (by omega)).mono ?_; rintro e w' ⟨rfl, rfl⟩)
    go_ret
    exact ⟨rfl, HD.out, Keeps.refl _ _ _⟩
   ·have hr' : r = (0, { d with waits := d.waits ++ [(n, .data b false)] }) := by rw [hr0]; unfold writeD; rw [if_neg (by simp [hs]; omega), if_neg ho]
    have ho' : d.off = false := by simpa using ho
    have hn' : n < d.lasts.length := by omega
    rw [ho'] at e4
    obtain ⟨c1, w1, hap, hsz, hown1, hbl⟩ := appended43 w 43 b A c w.heap.size (by have := h.sz.1; omega) hb hr
    have f2 : w1.cell? ⟨B, 2, none⟩ = some (.slice (some ⟨m.TB, 0, none⟩) d.lasts.length d.lasts.length) := (hbl.cell hlt).trans e2
    have f3 : w1.cell? ⟨B, 3, none⟩ = some (.slice m.A m.wi.length m.c) := (hbl.cell hlt).trans e3
    have hlt1 : B < w1.heap.size := by omega
    have HH := hZ9 h
    have sz1 := h.sz.1
    have HAP := hZ9 hap
    have HR := hZ9 hr'
    have HS := hZ9 hs
    have HO1 := hZ9 hown1
    have HBL := hZ9 hbl
    have HSZ := hZ9 hsz
    have hs' : ((b.length : Nat) : Int) = (d.size : Int) := by omega
    clear h hD hbk hr0 hr hr' hown1 hbl hap hs
    go_enter Tryz.func163, Tryz.ntmps163
    go_upto_region 8 with (first
     | (go_at_call 92; refine (diskHas_ok HD.out (by omega)).mono ?_; rintro e w' ⟨rfl, rfl⟩)
     | (at_builtin; refine wpList_append_eq _ _ rfl _ _ 43 rfl _ _ _ rfl rfl HAP.out ?_))
    have hB2 : Below w.heap.size w (w1.alloc (.cells #[.slice (some ⟨w.heap.size, 0, none⟩) b.length c1, .bool false, .bool false] 169)) := HBL.out.alloc (by omega) _
    have hC2 : Cont (w1.alloc (.cells #[.slice (some ⟨w.heap.size, 0, none⟩) b.length c1, .bool false, .bool false] 169)) base d.size (w.heap.size + 1) (.data b false) := by
     have h3 := HH.out.low.1
     refine ⟨HS.out, by omega, c1, ?_, ?_⟩
     ·rw [← HS.out, Nat.add_sub_cancel]; exact Blk.new_eq0 hsz
     ·rw [Nat.add_sub_cancel, ← HS.out]; exact own_keep_alloc (own_base HO1.out (by omega)) _
    have hz2 : (w1.alloc (.cells #[.slice (some ⟨w.heap.size, 0, none⟩) b.length c1, .bool false, .bool false] 169)).heap.size = w.heap.size + 2 := by simp [hsz]
    have f2' : (w1.alloc (.cells #[.slice (some ⟨w.heap.size, 0, none⟩) b.length c1, .bool false, .bool false] 169)).cell? ⟨B, 2, none⟩ = some (.slice (some ⟨m.TB, 0, none⟩) d.lasts.length d.lasts.length) := (hB2.cell hlt).trans e2
    have f3' : (w1.alloc (.cells #[.slice (some ⟨w.heap.size, 0, none⟩) b.length c1, .bool false, .bool false] 169)).cell? ⟨B, 3, none⟩ = some (.slice m.A m.wi.length m.c) := (hB2.cell hlt).trans e3
    clear f2 f3
    generalize w1.alloc (.cells #[.slice (some ⟨w.heap.size, 0, none⟩) b.length c1, .bool false, .bool false] 169) = w2 at *
    clear HAP HO1 HBL HSZ hsz
    have hk2 : Keeps base [] w w2 := Keeps.of_below hB2 (by have := HH.out.low.1; omega)
    have h2 : DskR w2 base B d m := HH.out.keeps hk2 (by simp) (by simp) (by simp) (by simp) (by simp)
    obtain ⟨i0, hi, hz0, hz1, hz2'⟩ := info_parts info167
    have HK2 := hZ9 hk2
    have H2 := hZ9 h2
    have HC2 := hZ9 hC2
    have HB2 := hZ9 hB2
    have HZ2 := hZ9 hz2
    have hltw : B < w2.heap.size := by omega
    have OWN3 := hZ9 (own_keep_alloc h2.own (.cells #[.int .i64 n, .pointer (some ⟨w.heap.size + 1, 0, none⟩)] 167))
    have RD3 := hZ9 (show Rd (w2.alloc (.cells #[.int .i64 n, .pointer (some ⟨w.heap.size + 1, 0, none⟩)] 167)) (w2.heap.size + 1) 2 (some ⟨w2.heap.size, 0, none⟩) 1 [.int .i64 n, .pointer (some ⟨w.heap.size + 1, 0, none⟩)] from by
     refine ⟨rfl, fun _ => ⟨_, _, rfl, by omega, fun j hj => ?_⟩⟩
     rw [(Blk.new w2 167 _).cell]
     simp at hj ⊢)
    have hwl : m.wi.length < 2 ^ 40 := by have := congrArg List.length h2.wl; simp at this; omega
    have hbw : base ≤ w2.heap.size := by have := HH.out.low.1; omega
    clear hk2 h2 hC2 hB2 hz2
    go_wp2_with (at_builtin; refine wpList_append_rd _ rfl _ _ 119 rfl base 167 i0 (.agg #[.int .i64 0, .pointer none]) 2 16 under119 hi hz0 hz1 hz2' rfl (by decide) (.slice m.A m.wi.length m.c) m.wi.length _ rfl OWN3.out (some ⟨w2.heap.size, 0, none⟩) 1 1 _ _ rfl RD3.out (by simp [Value.oneCell']) (by unfold maxLen; omega) (by omega) (by simp; omega) ?_; intro A4 c4 w4 hown4 hgrow4 hnc4 hat4; obtain ⟨bB4, bT4, bL4, ntb, nlb, k4⟩ := DskR.grown H2.out hbw hgrow4; have x2 : w4.cell? ⟨B, 2, none⟩ = some (.slice (some ⟨m.TB, 0, none⟩) d.lasts.length d.lasts.length) := bB4.cell 2; have x3 : w4.cell? ⟨B, 3, none⟩ = some (.slice m.A m.wi.length m.c) := bB4.cell 3; have z3 := bB4.free 3; have xt : w4.cell? ⟨m.TB, n, none⟩ = some (ptrV (m.told n)) := (by rw [bT4.cell n]; simp [hn']); have zt := bT4.free n; have HK4 := hZ9 k4; have HO4 := hZ9 hown4; have BB4 := hZ9 bB4; have BT4 := hZ9 bT4; have BL4 := hZ9 bL4; clear hgrow4 hown4 bB4 bT4 bL4 k4 hat4)
    go_ret
    have k46 : Keeps base [121, 165] w4 ((w4.setCell ⟨B, 3, none⟩ (.slice A4 (m.wi.length + 1) c4)).setCell ⟨m.TB, n, none⟩ (.pointer (some ⟨w.heap.size + 1, 0, none⟩))) :=
     ((Keeps.refl base _ w4).set BB4.out HH.out.low.1 (by simp) _).set (BT4.out.far ntb _) HH.out.low.2.2 (by simp) _
    have kw : Keeps base [121, 165, 167] w ((w4.setCell ⟨B, 3, none⟩ (.slice A4 (m.wi.length + 1) c4)).setCell ⟨m.TB, n, none⟩ (.pointer (some ⟨w.heap.size + 1, 0, none⟩))) :=
     ((HK2.out.mono nR0 (by simp)).trans HK4.out).trans (k46.mono nR0 (by simp))
    have hfin := HH.out.wrote (g := w.heap.size + 1) (b := b) (A := A4) (c := c4) hn' (by omega) kw
     (by
      have := (BB4.out.set 3 (.slice A4 (m.wi.length + 1) c4)).far (b := m.TB) (o := n) (Ne.symm ntb) (.pointer (some ⟨w.heap.size + 1, 0, none⟩))
      have e : dskC { d with waits := d.waits ++ [(n, .data b false)] } (m.wrote n (w.heap.size + 1) A4 c4) = (dskC d m).setIfInBounds 3 (.slice A4 (m.wi.length + 1) c4) := by
       simp [dskC, DskM.wrote]
      rw [e]; exact this)
     ((BL4.out.far nlb _).far HH.out.ne _) ((BT4.out.far ntb _).set n _) (own_keeps HO4.out k46 (by simp)) ((HC2.out.keeps HK4.out (by simp) (by simp)).keeps k46 (by simp) (by simp))
    refine ⟨?_, ?_, kw⟩
    ·rw [HR.out]; rfl
    ·rw [HR.out]; exact ⟨_, hfin⟩
  ·have hr' : r = (1, d) := by rw [hr0]; unfold writeD; rw [if_pos (.inr hs)]
   subst hr'
   clear h hD hbk hr0 hr
   go_enter Tryz.func163, Tryz.ntmps163
   go_wp2_with (go_at_call 92; refine (diskHas_ok HD.out (by omega)).mono ?_; rintro e w' ⟨rfl, rfl⟩)
   all_goals (go_ret; exact ⟨rfl, HD.out, Keeps.refl _ _ _⟩)
end
section
open Go.RowKit Go.Maps
set_option maxRecDepth 100000

theorem need_cast (s n : Nat) (h : 19 ≤ s) : ((n : Int) + ((s : Int) - 18) - 1) / ((s : Int) - 18) = (((n + (s - 18) - 1) / (s - 18) : Nat) : Int) := by
 have e1 : ((s : Int) - 18) = ((s - 18 : Nat) : Int) := by omega
 rw [e1]
 have e2 : (n : Int) + ((s - 18 : Nat) : Int) - 1 = ((n + (s - 18) - 1 : Nat) : Int) := by omega
 rw [e2]
 exact (Int.natCast_ediv _ _).symm
theorem pageNeed_any (s n : Nat) (hs : s < 2 ^ 62) (hn : n < 2 ^ 62) (w : World) :
  Calls Tryz.prog 56 #[.int .i64 s, .int .i64 n] w fun e w' => e = .returned (.int .i64 (needP s n : Nat)) ∧ w = w' := by
 by_cases h : s < 19 ∨ 4096 < s ∨ 2 ^ 30 < n
 ·have e : needP s n = 0 := by unfold needP; rw [if_pos h]
  rw [e]
  go_enter Tryz.func56, Tryz.ntmps56
  go_wp2
  all_goals first
   | (go_ret; exact ⟨rfl, rfl⟩)
   | (exfalso; omega)
 ·have e : needP s n = max ((n + (s - 18) - 1) / (s - 18)) 1 := by unfold needP; rw [if_neg h]
  rw [e]
  go_enter Tryz.func56, Tryz.ntmps56
  go_wp2
  all_goals
   go_ret
   refine ⟨ret_int ?_, rfl⟩
   have hq := need_cast s n (by omega)
   generalize (n + (s - 18) - 1) / (s - 18) = q at *
   generalize ((n : Int) + ((s : Int) - 18) - 1) / ((s : Int) - 18) = z at *
   omega
end
section
open Go.RowKit Go.Maps
set_option maxRecDepth 100000

theorem num_take_succ (l : List UInt8) (k : Nat) (h : k < l.length) : num (l.take (k + 1)) = num (l.take k) * 256 + l[k].toNat := by
 rw [List.take_succ_eq_append_getElem h, num_snoc]
theorem num_take_lt (l : List UInt8) (k : Nat) (h : k ≤ 7) : num (l.take k) < 2 ^ 56 := by
 have h1 := num_lt (l.take k)
 have h2 : (l.take k).length ≤ 7 := by rw [List.length_take]; omega
 have h3 : (256 : Nat) ^ (l.take k).length ≤ 256 ^ 7 := Nat.pow_le_pow_right (by decide) h2
 have h4 : (256 : Nat) ^ 7 = 2 ^ 56 := by decide
 omega
theorem bits_snoc (a : Nat) (c : UInt8) (h : a < 2 ^ 56) : bits .or .u64 ((a : Int) * 256) (c.toNat : Int) = ((a * 256 + c.toNat : Nat) : Int) := by
 have hc := c.toNat_lt
 have := bits_join .u64 64 (by decide) (fun n h0 h1 => by rw [IntKind.wrap_u64]; omega) 8 ((a : Int) * 256) (c.toNat : Int) (by omega) (by omega) (by omega) (by omega) (by omega) (by omega)
 rw [this]; omega
theorem number_any (l : List UInt8) (A : Option Addr) (c B : Nat) (w : World) (hl : l.length ≤ 8) (hb : Rd w B 1 A l.length (l.map u8v)) :
  Calls Tryz.prog 195 #[.slice A l.length c] w fun e w' => e = .returned (.int .u64 (num l : Nat)) ∧ w = w' := by
 go_enter Tryz.func195, Tryz.ntmps195
 go_wp2
 go_loop [3, 8] (fun s i => ∃ k : Nat, k ≤ l.length ∧ i = .int .i64 k ∧ s = .int .u64 (num (l.take k) : Nat)) (fun _ i => l.length - (intOf i).toNat)
 case atStart => exact ⟨0, Nat.zero_le _, rfl, rfl⟩
 case round =>
  obtain ⟨k, hk, rfl, rfl⟩ := hrel
  by_cases hlt : k < l.length
  ·obtain ⟨b, o, rfl, hB, hc⟩ := hb.2 (by omega)
   have h1 : w.cell? ⟨b, o + k, none⟩ = some (.int .u8 (l[k].toNat : Int)) := by
    have := hc k (by simpa using hlt); simpa [u8v] using this
   clear hc
   have hs := num_take_lt l k (by omega)
   have hr := num_take_succ l k hlt
   have hx := bits_snoc (num (l.take k)) l[k] hs
   have hc8 := l[k].toNat_lt
   generalize num (l.take k) = s at *
   go_wp2
   exact ⟨⟨k + 1, by omega, by go_num, by rw [hr]; exact congrArg (Value.int IntKind.u64) (by omega)⟩, by simp [intOf]; omega⟩
  ·obtain rfl : k = l.length := by omega
   rw [List.take_length] at *
   go_wp2
   go_ret
   exact ⟨rfl, rfl⟩
theorem plain_take_succ (l : List UInt8) (k : Nat) (h : k < l.length) : plainB (l.take (k + 1)) = (plainB (l.take k) && (l[k] == 0)) := by
 rw [List.take_succ_eq_append_getElem h]
 unfold plainB
 rw [List.all_append]; simp only [List.all_cons, List.all_nil, Bool.and_true]
theorem plain_any (l : List UInt8) (A : Option Addr) (c B : Nat) (w : World) (hl : l.length ≤ 65536) (hb : Rd w B 1 A l.length (l.map u8v)) :
  Calls Tryz.prog 172 #[.slice A l.length c] w fun e w' => e = .returned (.bool (plainB l)) ∧ w = w' := by
 obtain ⟨r, hr⟩ : ∃ r, r = plainB l := ⟨_, rfl⟩
 rw [← hr]
 go_enter Tryz.func172, Tryz.ntmps172
 go_wp2
 go_loop [7] (fun i => ∃ k : Nat, k ≤ l.length ∧ i = .int .i64 k ∧ plainB (l.take k) = true) (fun i => l.length - (intOf i).toNat)
 case atStart => exact ⟨0, Nat.zero_le _, rfl, rfl⟩
 case round =>
  obtain ⟨k, hk, rfl, hp⟩ := hrel
  by_cases hlt : k < l.length
  ·obtain ⟨b, o, rfl, hB, hc⟩ := hb.2 (by omega)
   have h1 : w.cell? ⟨b, o + k, none⟩ = some (.int .u8 (l[k].toNat : Int)) := by
    have := hc k (by simpa using hlt); simpa [u8v] using this
   clear hc
   have hs := plain_take_succ l k hlt
   by_cases hz : l[k] = 0
   ·have h1' : w.cell? ⟨b, o + k, none⟩ = some (.int .u8 0) := by rw [h1, hz]; rfl
    have HS := hZ9 (show plainB (l.take (k + 1)) = true by rw [hs, hp, hz]; rfl)
    clear h1 hs hz hp
    go_wp2
    exact ⟨⟨k + 1, by omega, by go_num, HS.out⟩, by simp [intOf]; omega⟩
   ·have hz' : l[k].toNat ≠ 0 := fun e => hz (UInt8.toNat_inj.1 (by simpa using e))
    have hr' : r = false := by
     rw [hr]
     unfold plainB
     rw [List.all_eq_false]
     exact ⟨l[k], List.getElem_mem _, by simpa using hz⟩
    subst hr'
    generalize l[k].toNat = q at h1 hz'
    clear hz hs hp hr
    go_wp2
    go_ret
    exact ⟨rfl, rfl⟩
  ·obtain rfl : k = l.length := by omega
   rw [List.take_length] at hp
   rw [hp] at hr
   go_wp2
   go_ret
   exact ⟨rfl, rfl⟩
end
section
open Go.RowKit Go.Maps
set_option maxRecDepth 100000

def fitsB (d : DskV) (a n : Nat) : Bool := decide (a < d.lasts.length ∧ 1 ≤ needP d.size n ∧ needP d.size n ≤ d.lasts.length - a)
theorem pageFits_any {w : World} {base B : Nat} {d : DskV} (h : Dsk w base B d) (a n : Nat) (ha : a < 2 ^ 62) (hn : n < 2 ^ 62) :
  Calls Tryz.prog 160 #[.pointer (some ⟨B, 0, none⟩), .int .i64 a, .int .i64 n] w fun e w' => e = .returned (.bool (fitsB d a n)) ∧ Below w.heap.size w w' := by
 have hsz : d.size < 2 ^ 62 := by obtain ⟨m, h⟩ := h; have := h.sz.2; omega
 have hlen : d.lasts.length ≤ 65536 := by obtain ⟨m, h⟩ := h; exact h.n1.2
 have hnd : needP d.size n < 2 ^ 62 := by
  unfold needP
  split
  ·omega
  ·have : (n + (d.size - 18) - 1) / (d.size - 18) ≤ n + (d.size - 18) - 1 := Nat.div_le_self _ _
   omega
 obtain ⟨r, hr⟩ : ∃ r, r = fitsB d a n := ⟨_, rfl⟩
 rw [← hr]
 unfold fitsB at hr
 have HR := hZ9 hr
 clear hr
 go_enter Tryz.func160, Tryz.ntmps160
 go_wp2_with (first
  | (go_at_call 55; refine (diskSize_any h).mono ?_; rintro e w1 ⟨rfl, hb⟩)
  | (go_at_call 56; refine (pageNeed_any _ _ hsz hn _).mono ?_; rintro e w2 ⟨rfl, rfl⟩))
 all_goals (go_ret; refine ⟨ret_bool ?_, hb⟩; rw [HR.out, Bool.eq_iff_iff]; simp; omega)
end
section
open Go.RowKit Go.Maps
set_option maxRecDepth 100000

theorem put_step (L : List Value) (o j k n : Nat) (hj : j < k) (ho : o + k ≤ L.length) :
  (splice L o (((be k n).take j).map u8v)).toArray.setIfInBounds (o + j) (.int .u8 ((n : Int) / 2 ^ (8 * (k - 1 - j)) % 256)) = (splice L o (((be k n).take (j + 1)).map u8v)).toArray := by
 have hbl : j < (be k n).length := by rw [be_len]; exact hj
 have e : (be k n)[j] = UInt8.ofNat (n >>> (8 * (k - 1 - j))) := by simp [be]
 have ev : Value.int .u8 ((n : Int) / 2 ^ (8 * (k - 1 - j)) % 256) = u8v (be k n)[j] := by
  rw [e]
  unfold u8v
  rw [Nat.shiftRight_eq_div_pow]
  simp
 rw [ev, List.take_succ_eq_append_getElem hbl, List.map_append, List.map_singleton]
 unfold splice
 have h1 : (L.take o).length = o := by rw [List.length_take]; omega
 have h2 : (((be k n).take j).map u8v).length = j := by rw [List.length_map, List.length_take]; omega
 rw [h2, List.length_append, h2, List.length_singleton]
 have h3 : L.drop (o + j) = L[o + j] :: L.drop (o + (j + 1)) := by rw [List.drop_eq_getElem_cons (by omega)]; rfl
 rw [h3]
 simp only [List.setIfInBounds_toArray]
 congr 1
 rw [List.set_append_right _ _ (by omega), h1, show o + j - o = j by omega, List.set_append_right _ _ (by omega), h2, Nat.sub_self, List.set_cons_zero]
 simp
theorem pagePut_any (n k g o c : Nat) (L : List Value) (w : World) (hk : k ≤ 8) (hb : Blk w g 5 L.toArray) (ho : o + k ≤ L.length) :
  Calls Tryz.prog 161 #[.slice (some ⟨g, o, none⟩) k c, .int .u64 n] w fun e w' => e = .returned (.tuple #[]) ∧ Blk w' g 5 (splice L o ((be k n).map u8v)).toArray ∧ w.grownBy w' (some g) := by
 have hlt := hb.lt
 have HB := hZ9 hb
 clear hb
 go_enter Tryz.func161, Tryz.ntmps161
 go_wp2
 go_loopw [7] (fun i wr => ∃ j : Nat, j ≤ k ∧ i = .int .i64 j ∧ Blk wr g 5 (splice L o (((be k n).take j).map u8v)).toArray ∧ w.grownBy wr (some g)) (fun i _ => k - (intOf i).toNat)
 case atStart => exact ⟨0, Nat.zero_le _, rfl, by simpa [splice] using HB.out, gby_refl _ _⟩
 case round =>
  obtain ⟨j, hj, rfl, hbr, hgr⟩ := hrel
  by_cases hjk : j < k
  ·have hcell : ∃ v, wr.cell? ⟨g, o + j, none⟩ = some v := by
    rw [hbr.cell]
    have : o + j < (splice L o (((be k n).take j).map u8v)).length := by
     rw [length_splice _ _ _ (by simp [be_len]; omega)]; omega
    exact ⟨_, by rw [List.getElem?_toArray]; exact List.getElem?_eq_getElem this⟩
   obtain ⟨v, hcell⟩ := hcell
   have hfz := hbr.free (o + j)
   have HBR := hZ9 hbr
   have HGR := hZ9 hgr
   clear hbr hgr
   go_wp2
   refine ⟨⟨j + 1, by omega, by go_num, ?_, gby_set HGR.out _ _⟩, by simp [intOf]; omega⟩
   rw [← put_step L o j k n hjk ho]
   exact HBR.out.set _ _
  ·obtain rfl : j = k := by omega
   rw [List.take_of_length_le (by simp [be_len])] at hbr
   have HBR := hZ9 hbr
   have HGR := hZ9 hgr
   clear hbr hgr
   go_wp2
   go_end0
   exact ⟨rfl, HBR.out, HGR.out⟩
end
section
open Go.RowKit Go.Maps
set_option maxRecDepth 100000

def laid {α β : Type} (f : β → α) (ws : List (Nat × β)) (l : List α) : List α := ws.foldl (fun l w => l.set w.1 (f w.2)) l
theorem laid_len {α β : Type} (f : β → α) : ∀ (ws : List (Nat × β)) (l : List α), (laid f ws l).length = l.length
 | [], _ => rfl
 | w :: ws, l => by unfold laid; rw [List.foldl_cons]; have := laid_len f ws (l.set w.1 (f w.2)); unfold laid at this; rw [this, List.length_set]
theorem laid_snoc {α β : Type} (f : β → α) (ws : List (Nat × β)) (x : Nat × β) (l : List α) : laid f (ws ++ [x]) l = (laid f ws l).set x.1 (f x.2) := by simp [laid]
theorem laid_get {α β : Type} (f : β → α) (z : α) (l : List α) (k : Nat) (hk : k < l.length) : ∀ (n : Nat) (ws : List (Nat × β)), ws.length = n →
  (laid f ws l).getD k z = (match ws.reverse.find? (fun x => x.1 == k) with | some x => f x.2 | none => l.getD k z)
 | 0, ws, h => by obtain rfl := List.eq_nil_of_length_eq_zero h; rfl
 | n + 1, ws, h => by
  obtain ⟨ws', x, rfl⟩ : ∃ ws' x, ws = ws' ++ [x] := ⟨ws.dropLast, ws.getLast (fun e => by simp [e] at h), (List.dropLast_concat_getLast _).symm⟩
  have ih := laid_get f z l k hk n ws' (by simpa using h)
  rw [laid_snoc, List.reverse_append, List.reverse_singleton, List.singleton_append, List.find?_cons]
  by_cases hx : x.1 = k
  ·have : (x.1 == k) = true := by simpa using hx
   rw [this, hx]
   have hlt : k < (laid f ws' l).length := by rw [laid_len]; exact hk
   simp [List.getD, hlt]
  ·have : (x.1 == k) = false := by simpa using hx
   rw [this]
   have e : ((laid f ws' l).set x.1 (f x.2)).getD k z = (laid f ws' l).getD k z := by
    simp only [List.getD]; rw [List.getElem?_set_ne hx]
   rw [e, ih]
theorem mem_set_ids (g : Nat) : ∀ (l : List (Option Nat)) (n a : Nat), a ∈ (l.set n (some g)).filterMap id → a = g ∨ a ∈ l.filterMap id
 | [], _, _, h => by simp at h
 | x :: l, 0, a, h => by
  rw [List.set_cons_zero, List.filterMap_cons] at h
  simp only [id, List.mem_cons] at h
  rcases h with h | h
  ·exact .inl h
  ·refine .inr ?_
   rw [List.mem_filterMap] at h ⊢
   obtain ⟨o, h1, h2⟩ := h
   exact ⟨o, List.mem_cons_of_mem _ h1, h2⟩
 | x :: l, n + 1, a, h => by
  rw [List.set_cons_succ] at h
  rw [List.mem_filterMap] at h
  obtain ⟨o, h1, h2⟩ := h
  rcases List.mem_cons.1 h1 with rfl | h1
  ·exact .inr (List.mem_filterMap.2 ⟨_, List.mem_cons_self, h2⟩)
  ·rcases mem_set_ids g l n a (List.mem_filterMap.2 ⟨o, h1, h2⟩) with h | h
   ·exact .inl h
   ·refine .inr ?_
    rw [List.mem_filterMap] at h ⊢
    obtain ⟨o, h1, h2⟩ := h
    exact ⟨o, List.mem_cons_of_mem _ h1, h2⟩
theorem nodup_set (g : Nat) : ∀ (l : List (Option Nat)) (n : Nat), (l.filterMap id).Nodup → g ∉ l.filterMap id → ((l.set n (some g)).filterMap id).Nodup
 | [], _, _, _ => by simp
 | x :: l, 0, h, hg => by
  rw [List.set_cons_zero, List.filterMap_cons]
  simp only [id]
  cases x with
  | none => exact List.nodup_cons.2 ⟨by simpa using hg, by simpa using h⟩
  | some y =>
   rw [List.filterMap_cons] at h hg
   simp only [id, List.nodup_cons, List.mem_cons, not_or] at h hg
   exact List.nodup_cons.2 ⟨hg.2, h.2⟩
 | x :: l, n + 1, h, hg => by
  rw [List.set_cons_succ]
  cases x with
  | none =>
   have := nodup_set g l n (by simpa using h) (by simpa using hg)
   simpa using this
  | some y =>
   rw [List.filterMap_cons] at h hg ⊢
   simp only [id, List.nodup_cons, List.mem_cons, not_or] at h hg ⊢
   refine ⟨fun hy => ?_, nodup_set g l n h.2 hg.2⟩
   rcases mem_set_ids g l n y hy with e | e
   ·exact hg.1 e.symm
   ·exact h.1 e
theorem nodup_laid : ∀ (ws : List (Nat × Nat)) (l : List (Option Nat)), (ws.map (·.2) ++ l.filterMap id).Nodup → ((laid some ws l).filterMap id).Nodup
 | [], _, h => by simpa [laid] using h
 | w :: ws, l, h => by
  show ((laid some ws (l.set w.1 (some w.2))).filterMap id).Nodup
  refine nodup_laid ws _ ?_
  rw [List.map_cons, List.cons_append, List.nodup_cons, List.mem_append, not_or, List.nodup_append] at h
  obtain ⟨⟨h1, h2⟩, h3, h4, h5⟩ := h
  rw [List.nodup_append]
  refine ⟨h3, nodup_set w.2 l w.1 h4 h2, fun a ha b hb => ?_⟩
  rcases mem_set_ids w.2 l w.1 b hb with rfl | hb
  ·intro e; subst e; exact h1 ha
  ·exact h5 a ha b hb
end
section
open Go.RowKit Go.Maps
set_option maxRecDepth 100000

def flushedV (d : DskV) : DskV := { d with lasts := d.waits.foldl (fun l w => l.set w.1 w.2) d.lasts, waits := [] }
theorem flushed_lasts (d : DskV) : (flushedV d).lasts = laid id d.waits d.lasts := rfl
def DskM.flushed (m : DskM) : DskM := { m with li := laid some m.wi m.li, wi := [], A := none, c := 0 }
theorem DskM.told_flushed (m : DskM) (k : Nat) (hk : k < m.li.length) : (m.flushed).told k = m.told k := by
 unfold DskM.told DskM.flushed DskM.last
 simp only [List.reverse_nil, List.find?_nil]
 rw [laid_get some none m.li k hk _ m.wi rfl]
 split <;> (rename_i hh; rw [hh]; first | rfl | skip)
theorem told_flushed (d : DskV) (k : Nat) (hk : k < d.lasts.length) : (flushedV d).lasts.getD k .zero = d.told k := by
 rw [flushed_lasts, laid_get id .zero d.lasts k hk _ d.waits rfl]
 unfold DskV.told
 split <;> (rename_i hh; rw [hh]; first | rfl | skip)
theorem DskR.flushed {base B : Nat} {w w' : World} {d : DskV} {m : DskM} (h : DskR w base B d m) (hk : Keeps base [121, 165] w w') (hblk : Blk w' B 121 (dskC (flushedV d) m.flushed)) (hlb : Blk w' m.LB 165 ((laid some m.wi m.li).map ptrV).toArray)
  (htb : Blk w' m.TB 165 ((List.range d.lasts.length).map fun k => ptrV (m.told k)).toArray) : DskR w' base B (flushedV d) m.flushed := by
 have hl : (flushedV d).lasts.length = d.lasts.length := by rw [flushed_lasts, laid_len]
 have hll : (laid some m.wi m.li).length = d.lasts.length := by rw [laid_len, h.ll]
 refine ⟨h.low, h.ne, h.sz, by rw [hl]; exact h.n1, hblk, hlb, ?_, ⟨by simp [DskM.flushed], .inl ⟨rfl, rfl⟩⟩, by rw [hl]; exact hll, rfl, by simp [DskM.flushed], fun k hk' => ?_, fun k h1 _ => by simp [DskM.flushed] at h1, ?_⟩
 ·rw [hl]
  have : ((List.range d.lasts.length).map fun k => ptrV (m.flushed.told k)) = ((List.range d.lasts.length).map fun k => ptrV (m.told k)) := by
   refine List.map_congr_left fun k hk' => ?_
   rw [List.mem_range] at hk'
   rw [m.told_flushed k (by rw [h.ll]; exact hk')]
  rw [this]; exact htb
 ·rw [hl] at hk'
  have e1 : m.flushed.last k = m.told k := by
   have := m.told_flushed k (by rw [h.ll]; exact hk')
   rw [← this]; rfl
  rw [e1, told_flushed d k hk']
  exact (h.told_at k hk').keeps hk (by simp) (by simp)
 ·simp only [DskM.flushed, List.map_nil, List.nil_append]
  exact nodup_laid _ _ h.nd
end
section
open Go.RowKit Go.Maps
set_option maxRecDepth 100000

structure FlR (w wr : World) (base B : Nat) (d : DskV) (m : DskM) (j : Nat) : Prop where
 keep : Keeps base [165] w wr
 blk : Blk wr B 121 (dskC d m)
 lb : Blk wr m.LB 165 ((laid some (m.wi.take j) m.li).map ptrV).toArray
 tb : Blk wr m.TB 165 ((List.range d.lasts.length).map fun k => ptrV (m.told k)).toArray
 own : wr.ownsRow base 167 2 (.slice m.A m.wi.length m.c) m.wi.length (m.wi.flatMap fun x => [.int .i64 x.1, ptrV (some x.2)])
theorem FlR.step {w wr : World} {base B : Nat} {d : DskV} {m : DskM} {j : Nat} (h0 : DskR w base B d m) (h : FlR w wr base B d m j) (hb : base ≤ wr.heap.size) (hj : j < m.wi.length) (o : Obj) :
  FlR w ((wr.setCell ⟨m.LB, m.wi[j].1, none⟩ (.pointer (some ⟨m.wi[j].2, 0, none⟩))).alloc o).drew base B d m (j + 1) := by
 have n1 := h.blk.ne h.lb (by decide)
 have k : Keeps base [165] wr (wr.setCell ⟨m.LB, m.wi[j].1, none⟩ (.pointer (some ⟨m.wi[j].2, 0, none⟩))) := (Keeps.refl base _ wr).set h.lb h0.low.2.1 (by simp) _
 refine ⟨?_, ((h.blk.far n1 _).alloc o).drew, ?_, ((h.tb.far (Ne.symm h0.ne) _).alloc o).drew, ?_⟩
 ·exact (((h.keep.trans k).alloc (by simpa [World.setCell] using hb) o).trans ⟨⟨rfl, rfl, rfl, nR0, fun _ _ => rfl⟩, fun _ _ _ _ => rfl⟩)
 ·have e : ((laid some (m.wi.take (j + 1)) m.li).map ptrV).toArray = ((laid some (m.wi.take j) m.li).map ptrV).toArray.setIfInBounds m.wi[j].1 (.pointer (some ⟨m.wi[j].2, 0, none⟩)) := by
   rw [List.take_succ_eq_append_getElem hj, laid_snoc, List.map_set]
   simp [ptrV]
  rw [e]
  exact ((h.lb.set _ _).alloc o).drew
 ·exact own_keep_alloc (own_keeps h.own k (by simp)) o
theorem pair_cells {α : Type} (f g : α → Value) : ∀ (l : List α) (j : Nat) (h : j < l.length), (l.flatMap fun x => [f x, g x])[j * 2]? = some (f l[j]) ∧ (l.flatMap fun x => [f x, g x])[j * 2 + 1]? = some (g l[j])
 | [], _, h => by simp at h
 | x :: l, 0, _ => ⟨rfl, rfl⟩
 | x :: l, j + 1, h => by
  have := pair_cells f g l j (by simpa using h)
  rw [List.flatMap_cons]
  have e1 : (j + 1) * 2 = j * 2 + 2 := by omega
  rw [e1]
  exact this
theorem diskFlush_any {w : World} {base B : Nat} {d : DskV} (h : Dsk w base B d) :
  Calls Tryz.prog 130 #[.pointer (some ⟨B, 0, none⟩)] w fun e w' => WriteOut w w' base B (flushD d) e := by
 have hD := h
 obtain ⟨m, h⟩ := h
 have hlt := h.blk.lt
 have e3 : w.cell? ⟨B, 3, none⟩ = some (.slice m.A m.wi.length m.c) := h.blk.cell 3
 have e4 : w.cell? ⟨B, 4, none⟩ = some (.bool d.off) := h.blk.cell 4
 have HD := hZ9 hD
 have HH := hZ9 h
 obtain ⟨r, hr0⟩ : ∃ r, r = flushD d := ⟨_, rfl⟩
 rw [← hr0]
 by_cases ho : d.off = true
 ·have hr' : r = (10, d) := by rw [hr0]; unfold flushD; rw [if_pos ho]
  subst hr'
  rw [ho] at e4
  clear h hD hr0
  go_enter Tryz.func130, Tryz.ntmps130
  go_wp2
  go_ret
  exact ⟨rfl, HD.out, Keeps.refl _ _ _⟩
 ·have hr' : r = (0, flushedV d) := by rw [hr0]; unfold flushD; rw [if_neg ho]; rfl
  have HR := hZ9 hr'
  have ho' : d.off = false := by simpa using ho
  rw [ho'] at e4
  clear h hD hr0 hr'
  go_enter Tryz.func130, Tryz.ntmps130
  go_wp2_with fail
  go_loopw [16] (fun i wr => ∃ j : Nat, j ≤ m.wi.length ∧ i = .int .i64 j ∧ FlR w wr base B d m j) (fun i _ => m.wi.length - (intOf i).toNat)
  case atStart => exact ⟨0, Nat.zero_le _, rfl, Keeps.refl _ _ _, HH.out.blk, HH.out.lb, HH.out.tb, HH.out.own⟩
  case round =>
   obtain ⟨j, hj, rfl, hf⟩ := hrel
   have HF := hZ9 hf
   by_cases hjk : j < m.wi.length
   ·obtain ⟨wg, hA⟩ : ∃ wg, m.A = some ⟨wg, 0, none⟩ := by
     obtain ⟨g, hg⟩ := own_at hf.own (by omega)
     exact ⟨g, hg.1⟩
    have hc := pair_cells (fun x : Nat × Nat => Value.int .i64 x.1) (fun x => ptrV (some x.2)) m.wi j hjk
    have y0 : wr.cell? ⟨wg, j * 2, none⟩ = some (.int .i64 (m.wi[j].1 : Nat)) := by
     have := (hA ▸ hf.own).cells (g := wg) rfl (j * 2) _ hc.1
     simpa [addr_add] using this
    have y1 : wr.cell? ⟨wg, j * 2 + 1, none⟩ = some (.pointer (some ⟨m.wi[j].2, 0, none⟩)) := by
     have := (hA ▸ hf.own).cells (g := wg) rfl (j * 2 + 1) _ hc.2
     simpa [addr_add, ptrV] using this
    have x1 : wr.cell? ⟨B, 1, none⟩ = some (.slice (some ⟨m.LB, 0, none⟩) d.lasts.length d.lasts.length) := hf.blk.cell 1
    have hjw : m.wi[j].1 < d.lasts.length := HH.out.wlt _ (List.getElem_mem _)
    obtain ⟨vl, hvl⟩ : ∃ v, wr.cell? ⟨m.LB, m.wi[j].1, none⟩ = some v := by
     rw [hf.lb.cell, List.getElem?_toArray]
     exact ⟨_, List.getElem?_eq_getElem (by rw [List.length_map, laid_len, HH.out.ll]; exact hjw)⟩
    have zl := hf.lb.free m.wi[j].1
    have hltb := hf.blk.lt
    have hltl := hf.lb.lt
    have hmax : m.wi.length ≤ 9223372036854775807 := by
     rcases hf.own.2 with ⟨_, h0⟩ | ⟨_, cap, _, hv, _, _, h1, h2, _⟩
     ·omega
     ·simp only [maxLen] at h2; omega
    have HA := hZ9 hA
    rw [hA]
    clear hf hc hA
    generalize hx : m.wi[j] = xj at y0 y1 hjw hvl zl
    have HX := hZ9 hx
    clear hx
    go_wp2_with fail
    go_region
    all_goals (try go_wp2_with fail)
    refine ⟨⟨j + 1, by omega, by go_num, ?_⟩, by simp [intOf]; omega⟩
    rw [← HX.out]
    exact HF.out.step HH.out (by have := HF.out.keep.below.size; have := HH.out.low.1; omega) hjk _
   ·obtain rfl : j = m.wi.length := by omega
    have x3 : wr.cell? ⟨B, 3, none⟩ = some (.slice m.A m.wi.length m.c) := hf.blk.cell 3
    have z3 := hf.blk.free 3
    have hltr := hf.blk.lt
    clear hf
    go_wp2_with fail
    go_ret
    have hb := HF.out.blk.set 3 (.slice none 0 0)
    have k : Keeps base [121] wr (wr.setCell ⟨B, 3, none⟩ (.slice none 0 0)) := (Keeps.refl base _ wr).set HF.out.blk HH.out.low.1 (by simp) _
    have kw : Keeps base [121, 165] w (wr.setCell ⟨B, 3, none⟩ (.slice none 0 0)) := (HF.out.keep.mono nR0 (by simp)).trans (k.mono nR0 (by simp))
    have n1 := HF.out.lb.ne HF.out.blk (by decide)
    have n2 := HF.out.tb.ne HF.out.blk (by decide)
    have hl : (flushedV d).lasts.length = d.lasts.length := by rw [flushed_lasts, laid_len]
    have hfin := HH.out.flushed kw (by
      have e : dskC (flushedV d) m.flushed = (dskC d m).setIfInBounds 3 (.slice none 0 0) := by
       unfold dskC; rw [hl]; simp [flushedV, DskM.flushed]
      rw [e]; exact hb) (by
      have := HF.out.lb.far (b := B) (o := 3) n1 (.slice none 0 0)
      rw [List.take_length] at this; exact this) (HF.out.tb.far n2 _)
    rw [HR.out]
    exact ⟨rfl, ⟨_, hfin⟩, kw.mono nR0 (by simp)⟩
end
section
open Go.RowKit Go.Maps
set_option maxRecDepth 100000

def Byt (w : World) (A : Option Addr) (l : List UInt8) : Prop := Rd w w.heap.size 1 A l.length (l.map u8v) ∧ (0 < l.length → ∀ a, A = some a → tyOf w a.block = some 5)
theorem Byt.keeps {base : Nat} {ts : List TypeId} {w w' : World} {A : Option Addr} {l : List UInt8} (h : Byt w A l) (k : Keeps base ts w w') (ht : 5 ∉ ts) : Byt w' A l := by
 refine ⟨⟨h.1.1, fun hn => ?_⟩, fun hn a ha => ?_⟩
 ·obtain ⟨b, o, rfl, hb, hc⟩ := h.1.2 hn
  have e := k.old b 5 (h.2 hn _ rfl) ht
  exact ⟨b, o, rfl, Nat.lt_of_lt_of_le hb k.below.size, fun j hj => by rw [← hc j hj]; simp only [World.cell?, e]⟩
 ·have := h.2 hn a ha
  have e := k.old a.block 5 this ht
  unfold tyOf at this ⊢
  rw [e]; exact this
theorem Byt.below {w w' : World} {A : Option Addr} {l : List UInt8} (h : Byt w A l) (k : Below w.heap.size w w') : Byt w' A l := h.keeps (ts := []) (Keeps.of_below (base := 0) k (Nat.zero_le _)) (by simp)
theorem splice_map {α β : Type} (f : α → β) (L : List α) (o : Nat) (cs : List α) : splice (L.map f) o (cs.map f) = (splice L o cs).map f := by simp [splice]
theorem pagePut_bytes (n k g o c : Nat) (L : List UInt8) (w : World) (hk : k ≤ 8) (hb : Blk w g 5 (L.map u8v).toArray) (ho : o + k ≤ L.length) :
  Calls Tryz.prog 161 #[.slice (some ⟨g, o, none⟩) k c, .int .u64 n] w fun e w' => e = .returned (.tuple #[]) ∧ Blk w' g 5 ((splice L o (be k n)).map u8v).toArray ∧ w.grownBy w' (some g) :=
 (pagePut_any n k g o c (L.map u8v) w hk hb (by simpa using ho)).mono fun e w' ⟨h1, h2, h3⟩ => ⟨h1, by rw [← splice_map]; exact h2, h3⟩
end
section
open Go.RowKit Go.Maps
set_option maxRecDepth 100000

theorem rep_add (a b : Nat) : List.replicate (a + b) (0 : UInt8) = List.replicate a 0 ++ List.replicate b 0 := List.replicate_append_replicate.symm
theorem splice_mid {α : Type} (a old r cs : List α) (h : old.length = cs.length) {n : Nat} (hn : n = a.length) : splice (a ++ (old ++ r)) n cs = a ++ (cs ++ r) := by
 subst hn
 unfold splice
 rw [List.take_left, ← h, List.drop_append, List.drop_of_length_le (by omega)]
 simp
def X1 (size kind : Nat) : List UInt8 := (List.replicate size 0).set 0 (UInt8.ofNat kind)
def X2 (size kind mark : Nat) : List UInt8 := splice (X1 size kind) 1 (be 8 mark)
def X3 (size kind mark n : Nat) : List UInt8 := splice (X2 size kind mark) 9 (be 4 n)
def X4 (size kind mark n : Nat) (first : Bool) : List UInt8 := if first then (X3 size kind mark n).set 13 1 else X3 size kind mark n
def X5 (size kind mark : Nat) (b : List UInt8) (first : Bool) : List UInt8 := splice (X4 size kind mark b.length first) 14 (b.take (size - 18))
theorem X1_eq {size : Nat} (h : 19 ≤ size) (kind : Nat) : X1 size kind = [UInt8.ofNat kind] ++ (List.replicate 8 0 ++ (List.replicate 4 0 ++ ([0] ++ List.replicate (size - 14) 0))) := by
 unfold X1
 obtain ⟨m, rfl⟩ : ∃ m, size = m + 14 := ⟨size - 14, by omega⟩
 rw [show m + 14 = (8 + (4 + (1 + m))) + 1 by omega, List.replicate_succ, List.set_cons_zero, rep_add, rep_add, rep_add]
 rw [show 8 + (4 + (1 + m)) + 1 - 14 = m by omega]; rfl
theorem X2_eq {size : Nat} (h : 19 ≤ size) (kind mark : Nat) : X2 size kind mark = [UInt8.ofNat kind] ++ (be 8 mark ++ (List.replicate 4 0 ++ ([0] ++ List.replicate (size - 14) 0))) := by
 unfold X2; rw [X1_eq h]
 exact splice_mid _ _ _ _ (by simp [be_len]) (by simp)
theorem X3_eq {size : Nat} (h : 19 ≤ size) (kind mark n : Nat) : X3 size kind mark n = [UInt8.ofNat kind] ++ (be 8 mark ++ (be 4 n ++ ([0] ++ List.replicate (size - 14) 0))) := by
 unfold X3; rw [X2_eq h, ← List.append_assoc]
 rw [splice_mid ([UInt8.ofNat kind] ++ be 8 mark) (List.replicate 4 0) _ (be 4 n) (by simp [be_len]) (by simp [be_len]), List.append_assoc]
theorem X4_eq {size : Nat} (h : 19 ≤ size) (kind mark n : Nat) (first : Bool) : X4 size kind mark n first = [UInt8.ofNat kind] ++ (be 8 mark ++ (be 4 n ++ ([if first then 1 else 0] ++ List.replicate (size - 14) 0))) := by
 unfold X4
 cases first with
 | false => simp only [Bool.false_eq_true, if_false]; exact X3_eq h _ _ _
 | true =>
  simp only [if_true]
  rw [X3_eq h, List.set_append_right _ _ (by simp), List.set_append_right _ _ (by simp [be_len]), List.set_append_right _ _ (by simp [be_len])]
  simp [be_len]
theorem X5_eq {size : Nat} (h : 19 ≤ size) (kind mark : Nat) (b : List UInt8) (first : Bool) : X5 size kind mark b first = headP size kind mark b first ++ List.replicate 4 0 := by
 unfold X5
 rw [X4_eq h]
 have e : List.replicate (size - 14) (0 : UInt8) = List.replicate (min (size - 18) b.length) 0 ++ (List.replicate (size - 18 - b.length) 0 ++ List.replicate 4 0) := by
  rw [← rep_add, ← rep_add]; congr 1; omega
 rw [e]
 have := splice_mid ([UInt8.ofNat kind] ++ (be 8 mark ++ (be 4 b.length ++ [if first then 1 else 0]))) (List.replicate (min (size - 18) b.length) (0 : UInt8)) (List.replicate (size - 18 - b.length) 0 ++ List.replicate 4 0) (b.take (size - 18)) (by simp) (n := 14) (by simp [be_len])
 simp only [List.append_assoc] at this ⊢
 rw [this]
 unfold headP
 simp
theorem X5_take {size : Nat} (h : 19 ≤ size) (kind mark : Nat) (b : List UInt8) (first : Bool) : (X5 size kind mark b first).take (size - 4) = headP size kind mark b first := by
 rw [X5_eq h, ← headP_len (kind := kind) (mark := mark) (b := b) (first := first) (by omega : 18 ≤ size), List.take_left]
theorem X6_eq {size : Nat} (h : 19 ≤ size) (kind mark : Nat) (b : List UInt8) (first : Bool) : splice (X5 size kind mark b first) (size - 4) (be 4 (crcOf ((X5 size kind mark b first).take (size - 4)))) = secP size kind mark b first := by
 rw [X5_take h, X5_eq h]
 have := splice_mid (headP size kind mark b first) (List.replicate 4 (0 : UInt8)) [] (be 4 (crcOf (headP size kind mark b first))) (by simp [be_len]) (n := size - 4) (by rw [headP_len (by omega)])
 simp only [List.append_nil] at this
 rw [this]; rfl
theorem X1_len (size kind : Nat) : (X1 size kind).length = size := by simp [X1]
theorem X2_len {size : Nat} (h : 19 ≤ size) (kind mark : Nat) : (X2 size kind mark).length = size := by rw [X2_eq h]; simp [be_len]; omega
theorem X3_len {size : Nat} (h : 19 ≤ size) (kind mark n : Nat) : (X3 size kind mark n).length = size := by rw [X3_eq h]; simp [be_len]; omega
theorem X4_len {size : Nat} (h : 19 ≤ size) (kind mark n : Nat) (first : Bool) : (X4 size kind mark n first).length = size := by rw [X4_eq h]; simp [be_len]; omega
theorem X5_len {size : Nat} (h : 19 ≤ size) (kind mark : Nat) (b : List UInt8) (first : Bool) : (X5 size kind mark b first).length = size := by rw [X5_eq h, List.length_append, headP_len (by omega)]; simp; omega
end
end Go.Proofs.YtmgmfnimaafkdaaGreatDoor
