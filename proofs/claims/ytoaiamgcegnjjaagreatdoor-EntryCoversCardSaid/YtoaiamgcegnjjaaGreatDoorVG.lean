/- Use, as the law calls it; fresh.Covers; EntryUses' walk: whatever the acts, the purges and whoever asks, true. No condition. -/
import Derived.Test.YtoaiamgcegnjjaaGreatDoorVF
import Derived.Test.YtoaiamgcegnjjaaGreatDoorVC
import Derived.Test.YtoaiamgcegnjjaaGreatDoorUQ
namespace Go.Proofs.YtoaiamgcegnjjaaGreatDoor
open Go.RowKit Go.Maps Go.WideMaps Go.Sort
set_option maxRecDepth 100000
attribute [local go_sem ↓] st32_fold

section
variable {w : World} {base tb m k : Nat} {T : TabS} {x : RTab}
theorem use_log (hT : Tab w base tb m T) (hS : Sim k T x) (hm : m ≤ 100000) {obj : ByteArray} (hs : obj.size ≤ maxLen) {lb B : Nat} {fl : Int} {ms : List LineM} (hL : LogAt w B lb fl ms) (hB : B ≤ w.heap.size) (ti mo ge : Int) :
    Calls Tryz.prog 20 #[.pointer (some ⟨tb, 0, none⟩), .string obj, .agg (askC ti mo ge), .pointer (some ⟨lb, 0, none⟩)] w fun e w' => e = .returned (.tuple #[.int .i64 (useU T obj mo (deadP fl (ms.map (·.l)) ge) (stP fl (ms.map (·.l)) ti ge)).1, .int .i64 (useU T obj mo (deadP fl (ms.map (·.l)) ge) (stP fl (ms.map (·.l)) ti ge)).2]) ∧ Below w.heap.size w w' := by
  have hD : DeadC w lb ti mo ge T (deadP fl (ms.map (·.l)) ge) := by
    intro wy e A n c hb he hk hn
    have := dead_any ⟨e, A, n, c, false⟩ ti mo ge lb B fl ms wy hk hn (hL.below (hb.mono hB)) (Nat.le_trans hB hb.size)
    unfold deadP
    exact this
  have hSt : StateC w lb ti mo ge T (stP fl (ms.map (·.l)) ti ge) := by
    intro wy e A n c hb he hk hn
    obtain ⟨r, hr, h1, h2⟩ := (hS.ents _ _).1 he
    have hg := (hS.gd r hr).1
    have b1 : 0 ≤ e.fr ∧ e.fr ≤ 1099511627776 := by rw [← h2]; exact hg.fr
    have b2 : 0 ≤ e.wh ∧ e.wh ≤ 1099511627776 := by rw [← h2]; exact hg.wh
    have b3 : 0 ≤ e.er ∧ e.er ≤ 1099511627776 := by rw [← h2]; exact hg.er
    exact stateG_any ⟨e, A, n, c, false⟩ ti mo ge lb B fl ms wy hk hn (hL.below (hb.mono hB)) (Nat.le_trans hB hb.size) b1 b2 b3
  obtain ⟨be, bo, kf, of_, rf, h⟩ := hT
  generalize deadP fl (ms.map (·.l)) ge = dead at *
  generalize stP fl (ms.map (·.l)) ti ge = stf at *
  exact use_any h hs hm lb ti mo ge dead stf hD hSt
theorem use_same (hS : Sim k T x) {fl : Int} {ls : List LineS} (hr : Rise ls) (obj : ByteArray) (ti mo ge : Int) : useU T obj mo (deadP fl ls ge) (stP fl ls ti ge) = useR x.L obj mo (fun e => underR fl ls e ge true) (stR fl ls ti ge) :=
  use_is hS (fun e he => dead_is hr e (hS.gd e he).2 ge) (fun e he => st_is hr e (hS.gd e he).2 ti ge) (fun e _ => (stR_le fl ls ti ge e).2)
end

/-- what both laws lay ahead: the acts are few, the purges can be, who asks is short -/
def ask63 (obj : ByteArray) (ti mo ge : Int) : Array Value := #[.string obj, .int .i64 ti, .int .i64 mo, .int .i64 ge]

set_option maxHeartbeats 8000000 in
theorem entryUses_any (A : Option Addr) (n c : Nat) (l : List ActS) (PA : Option Addr) (pn pc : Nat) (ps : List PgM) (fl : Int) (obj : ByteArray) (ti mo ge : Int) (W : World) (hr : Rd W W.heap.size 25 A n (l.flatMap ActS.cells)) (hok : ∀ a ∈ l, a.Ok W W.heap.size) (hn : n ≤ 9223372036854775807)
    (hp : Rd W W.heap.size 2 PA pn (ps.flatMap PgM.cells)) (hpk : ∀ p ∈ ps, p.n ≤ p.c ∧ p.n ≤ 9223372036854775807 ∧ Strs W W.heap.size p.A p.n p.keys) (hpn : pn ≤ 9223372036854775807) (hob : obj.size ≤ maxLen) :
    Calls Tryz.prog 7 #[.slice A n c, .agg #[.int .i64 fl, .slice PA pn pc], .agg #[.string obj, .int .i64 ti, .int .i64 mo, .int .i64 ge]] W fun e w' => e = .returned (.bool true) ∧ Below W.heap.size W w' := by
  have HRD := Lib.hid hr
  have HOK := Lib.hid hok
  have HPR := Lib.hid hp
  have HPK := Lib.hid hpk
  have hb0 : Below W.heap.size W ((W.alloc (.cells #[.int .i64 fl, .slice PA pn pc] 61)).alloc (.cells #[.string obj, .int .i64 ti, .int .i64 mo, .int .i64 ge] 63)) := ((Below.refl _ _).alloc (Nat.le_refl _) _).alloc (by simp) _
  have k4 : Blk ((W.alloc (.cells #[.int .i64 fl, .slice PA pn pc] 61)).alloc (.cells #[.string obj, .int .i64 ti, .int .i64 mo, .int .i64 ge] 63)) W.heap.size 61 #[.int .i64 fl, .slice PA pn pc] := (Blk.new W 61 _).alloc _
  have k5 : Blk ((W.alloc (.cells #[.int .i64 fl, .slice PA pn pc] 61)).alloc (.cells #[.string obj, .int .i64 ti, .int .i64 mo, .int .i64 ge] 63)) (W.heap.size + 1) 63 #[.string obj, .int .i64 ti, .int .i64 mo, .int .i64 ge] := new2 W _ 63 _
  clear hr hok hp hpk
  go_enter Tryz.func7, Tryz.ntmps7
  go_upto_region 1 with fail
  generalize (W.alloc (.cells #[.int .i64 fl, .slice PA pn pc] 61)).alloc (.cells #[.string obj, .int .i64 ti, .int .i64 mo, .int .i64 ge] 63) = w0 at *
  have HB0 := Lib.hid hb0
  have hs0 := k5.lt
  go_wp2_with fail
  refine (wakes_any w0).mono ?_
  rintro en w1 ⟨rfl, hb1⟩
  have HB1 := Lib.hid (HB0.out.trans (hb1.mono HB0.out.size))
  have k41 := k4.below hb1 k4.lt
  have K51 := Lib.hid (k5.below hb1 k5.lt)
  have hs01 := hb1.size
  have c0 : w1.cell? ⟨W.heap.size, 0, none⟩ = some (.int .i64 fl) := (k41.cell 0).trans rfl
  have c1 : w1.cell? ⟨W.heap.size, 1, none⟩ = some (.slice PA pn pc) := (k41.cell 1).trans rfl
  have CLG := Lib.hid (log_any PA pn pc ps fl W.heap.size w1 (HPR.out.below HB1.out (Nat.le_refl _)) (fun p hp => ⟨(HPK.out p hp).1, (HPK.out p hp).2.1, (HPK.out p hp).2.2.below HB1.out (Nat.le_refl _)⟩) HB1.out.size hpn)
  clear hb1 hb0 k4 k5 k41
  go_wp2_with fail
  refine CLG.out.mono ?_
  rintro en w2 ⟨po, QA, qn, qc, ok, rfl, hb2, hyes⟩
  have HB2 := Lib.hid (HB1.out.trans (hb2.mono HB1.out.size))
  have K52 := Lib.hid (K51.out.below hb2 K51.out.lt)
  have HYES := Lib.hid hyes
  have hs12 := hb2.size
  clear hb2 hyes CLG c0 c1
  go_upto_region 4 with fail
  have hb3 : Below w2.heap.size w2 (w2.alloc (.cells #[.slice QA qn qc, .int .i64 fl] 67)) := (Below.refl _ _).alloc (Nat.le_refl _) _
  have k8 : Blk (w2.alloc (.cells #[.slice QA qn qc, .int .i64 fl] 67)) w2.heap.size 67 #[.slice QA qn qc, .int .i64 fl] := Blk.new _ _ _
  generalize w2.alloc (.cells #[.slice QA qn qc, .int .i64 fl] 67) = w3 at *
  have HB23 := Lib.hid hb3
  have HB3 := Lib.hid (HB2.out.trans (hb3.mono HB2.out.size))
  have K53 := Lib.hid (K52.out.below hb3 K52.out.lt)
  have K83 := Lib.hid k8
  have hs23 := k8.lt
  have CS := Lib.hid (small_any A n c l W.heap.size w3 (HRD.out.below HB3.out (Nat.le_refl _)) (fun a ha => (HOK.out a ha).keys.below HB3.out (Nat.le_refl _)) HB3.out.size hn)
  clear hb3 k8
  go_wp2_with fail
  refine CS.out.mono ?_
  rintro en w4 ⟨⟨b, rfl, hbb⟩, hb4⟩
  have HB24 := Lib.hid (HB23.out.trans (hb4.mono HB23.out.size))
  have HB4 := Lib.hid (HB3.out.trans (hb4.mono HB3.out.size))
  have K54 := Lib.hid (K53.out.below hb4 K53.out.lt)
  have K84 := Lib.hid (K83.out.below hb4 K83.out.lt)
  have hs34 := hb4.size
  have HBB := Lib.hid hbb
  have q0 : w4.cell? ⟨W.heap.size + 1, 0, none⟩ = some (.string obj) := (K54.out.cell 0).trans rfl
  clear hb4 hbb CS HB1 HB2 HB3 K51 K52 K53 K83
  cases b with
  | false =>
    go_wp2_with fail
    go_ret
    exact ⟨rfl, HB4.out⟩
  | true =>
    have hfew := HBB.out (by first | rfl | trivial)
    have hn30 := hfew.1
    have HFEW := Lib.hid hfew.2
    clear hfew HBB
    cases ok with
    | false =>
      go_wp2_with fail
      go_ret
      exact ⟨rfl, HB4.out⟩
    | true =>
      obtain ⟨lb, ms, ms', rfl, hL, hPu, hmm, hrise⟩ := HYES.out rfl
      have HL4 := Lib.hid (hL.below HB24.out)
      have HP4 := Lib.hid (hPu.below HB24.out)
      have HMM := Lib.hid hmm
      have HRISE := Lib.hid hrise
      clear hL hPu hmm hrise HYES
      by_cases h300 : (300 : Int) < (obj.size : Int)
      · go_wp2_with fail
        go_ret
        exact ⟨rfl, HB4.out⟩
      have CP := Lib.hid (play_any A n c l W.heap.size w4 (HRD.out.below HB4.out (Nat.le_refl _)) (fun a ha => { HOK.out a ha with keys := (HOK.out a ha).keys.below HB4.out (Nat.le_refl _) }) HB4.out.size hn30 HFEW.out)
      go_upto_region 6 with fail
      go_wp2_with fail
      refine CP.out.mono ?_
      rintro en w5 ⟨base, tb, v, T, x, LA, ln, lc, NA, nn, nc, rs, rfl, hb5, hba, hbw, hT5, hR5, hS5⟩
      have hv := hR5.val
      subst hv
      have st5 := run_st32 (v := #[.slice LA ln lc, .slice NA nn nc, .int .i64 x.next]) (Blk.new w5 32 zero32) rfl rfl (by simp [Value.oneCell'])
      have HB5 := Lib.hid (HB4.out.trans (hb5.mono HB4.out.size))
      have K55 := Lib.hid (K54.out.below hb5 K54.out.lt)
      have K85 := Lib.hid (K84.out.below hb5 K84.out.lt)
      have HL5 := Lib.hid (HL4.out.below (hb5.mono (by omega)))
      have HP5 := Lib.hid (HP4.out.below (hb5.mono (by omega)))
      have hs45 := hb5.size
      have HT5 := Lib.hid hT5
      have HR5 := Lib.hid hR5
      have HS := Lib.hid hS5
      clear hb5 hT5 hR5 hS5 CP q0 HB4 K54 K84 HL4 HP4
      go_upto_region 7 with fail
      have hb6 : Below w5.heap.size w5 ((w5.alloc (.cells zero32 32)).setRow w5.heap.size #[.slice LA ln lc, .slice NA nn nc, .int .i64 x.next]) := ((Below.refl _ _).alloc (Nat.le_refl _) _).trans (grown_below (setRow_gby _ _ _) (by simp) (fun k hk => by injection hk with hk; omega))
      have k6 : Blk ((w5.alloc (.cells zero32 32)).setRow w5.heap.size #[.slice LA ln lc, .slice NA nn nc, .int .i64 x.next]) w5.heap.size 32 #[.slice LA ln lc, .slice NA nn nc, .int .i64 x.next] := setRow_blk (Blk.new w5 32 zero32) _
      generalize (w5.alloc (.cells zero32 32)).setRow w5.heap.size #[.slice LA ln lc, .slice NA nn nc, .int .i64 x.next] = w6 at *
      have HB6 := Lib.hid (HB5.out.trans (hb6.mono HB5.out.size))
      have K56 := Lib.hid (K55.out.below hb6 K55.out.lt)
      have K86 := Lib.hid (K85.out.below hb6 K85.out.lt)
      have HL6 := Lib.hid (HL5.out.below (hb6.mono (by omega)))
      have HP6 := Lib.hid (HP5.out.below (hb6.mono (by omega)))
      have K66 := Lib.hid k6
      have hs56 := k6.lt
      have HT6 := Lib.hid (HT5.out.keepsBox hb6)
      have HR6 := Lib.hid (HR5.out.below hb6 hbw)
      clear hb6 st5 HB5 K55 K85 HL5 HP5 HT5 HR5 k6
      have HSAME := Lib.hid (use_same HS.out (fl := fl) HRISE.out obj ti mo ge)
      -- the program's Use, in whatever order
      have r0 := cell_regrown (show w6.cell? ⟨W.heap.size + 1, 0, none⟩ = some (.string obj) from (K56.out.cell 0).trans rfl)
      have r1 := cell_regrown (show w6.cell? ⟨W.heap.size + 1, 1, none⟩ = some (.int .i64 ti) from (K56.out.cell 1).trans rfl)
      have r2 := cell_regrown (show w6.cell? ⟨W.heap.size + 1, 2, none⟩ = some (.int .i64 mo) from (K56.out.cell 2).trans rfl)
      have r3 := cell_regrown (show w6.cell? ⟨W.heap.size + 1, 3, none⟩ = some (.int .i64 ge) from (K56.out.cell 3).trans rfl)
      have c21 : ∀ d os, Calls Tryz.prog 21 #[.agg #[.int .i64 ti, .int .i64 mo, .int .i64 ge]] (grow (redrawn w6 d) os) fun en w'' => en = .returned (.agg #[.int .i64 ti, .int .i64 mo, .int .i64 ge]) ∧ ∃ p : Regrown, w'' = grow (redrawn w6 p.d) p.os := fun d os => Calls.regrown_of (asked_any ti mo ge _)
      obtain ⟨u, hu⟩ : ∃ u, useU T obj mo (deadP fl (ms'.map (·.l)) ge) (stP fl (ms'.map (·.l)) ti ge) = u := ⟨_, rfl⟩
      have c20 : ∀ d os, Calls Tryz.prog 20 #[.pointer (some ⟨tb, 0, none⟩), .string obj, .agg #[.int .i64 ti, .int .i64 mo, .int .i64 ge], .pointer (some ⟨lb, 0, none⟩)] (grow (redrawn w6 d) os) fun en w'' => en = .returned (.tuple #[.int .i64 u.1, .int .i64 u.2]) ∧ ∃ p : Regrown, w'' = grow (redrawn w6 p.d) p.os := fun d os => by
        have hb := below_regrown w6 d os
        have := use_log (HT6.out.keepsBox hb) HS.out (by omega) hob (HL6.out.below (hb.mono (by omega))) (by have := hb.size; omega) ti mo ge
        rw [hu] at this
        exact Calls.regrown_of this
      have HU : Hid (useR x.L obj mo (fun e => underR fl (ms.map (·.l)) e ge true) (stR fl (ms.map (·.l)) ti ge) = u) := by
        show useR x.L obj mo (fun e => underR fl (ms.map (·.l)) e ge true) (stR fl (ms.map (·.l)) ti ge) = u
        rw [← HSAME.out, ← HMM.out]
        exact hu
      clear hu
      refine wp_region_quiet_below (by kernel_rfl) (by kernel_rfl) ?_
      repeat (go_big_quiet_step (first | exact c21 _ _ | exact c20 _ _))
      refine wpQuiet_nil ?_
      intro _ hw'
      obtain ⟨⟨dq, osq⟩, hw''⟩ := hw'
      subst hw''
      have hb7 := below_regrown w6 dq osq
      generalize grow (redrawn w6 dq) osq = w7 at *
      have HB7 := Lib.hid (HB6.out.trans (hb7.mono HB6.out.size))
      have K57 := Lib.hid (K56.out.below hb7 K56.out.lt)
      have K87 := Lib.hid (K86.out.below hb7 K86.out.lt)
      have K67 := Lib.hid (K66.out.below hb7 K66.out.lt)
      have HP7 := Lib.hid (HP6.out.below (hb7.mono (by omega)))
      have HT7 := Lib.hid (HT6.out.keepsBox hb7)
      have HR7 := Lib.hid (HR6.out.below hb7 (by omega))
      have hs67 := hb7.size
      have CU := Lib.hid (ruse_any HR7.out (by omega) (by omega) HS.out.gd obj ti mo ge QA qn qc fl ms w2.heap.size HP7.out (by omega))
      have a0 : w7.cell? ⟨W.heap.size + 1, 0, none⟩ = some (.string obj) := (K57.out.cell 0).trans rfl
      have a1 : w7.cell? ⟨W.heap.size + 1, 1, none⟩ = some (.int .i64 ti) := (K57.out.cell 1).trans rfl
      have a2 : w7.cell? ⟨W.heap.size + 1, 2, none⟩ = some (.int .i64 mo) := (K57.out.cell 2).trans rfl
      have a3 : w7.cell? ⟨W.heap.size + 1, 3, none⟩ = some (.int .i64 ge) := (K57.out.cell 3).trans rfl
      have p0 : w7.cell? ⟨w2.heap.size, 0, none⟩ = some (.slice QA qn qc) := (K87.out.cell 0).trans rfl
      have p1 : w7.cell? ⟨w2.heap.size, 1, none⟩ = some (.int .i64 fl) := (K87.out.cell 1).trans rfl
      have t0 : w7.cell? ⟨w5.heap.size, 0, none⟩ = some (.slice LA ln lc) := (K67.out.cell 0).trans rfl
      have t1 : w7.cell? ⟨w5.heap.size, 1, none⟩ = some (.slice NA nn nc) := (K67.out.cell 1).trans rfl
      have t2 : w7.cell? ⟨w5.heap.size, 2, none⟩ = some (.int .i64 x.next) := (K67.out.cell 2).trans rfl
      clear hb7 r0 r1 r2 r3 c20 c21 HB6 K56 K86 K66 HP6 HT6 HR6 HL6
      go_wp2_with fail
      refine CU.out.mono ?_
      rintro en w8 ⟨rfl, hb8⟩
      rw [HU.out]
      have HB8 := Lib.hid (HB7.out.trans (hb8.mono HB7.out.size))
      have k68 := K67.out.below hb8 K67.out.lt
      have t0 : w8.cell? ⟨w5.heap.size, 0, none⟩ = some (.slice LA ln lc) := (k68.cell 0).trans rfl
      have t1 : w8.cell? ⟨w5.heap.size, 1, none⟩ = some (.slice NA nn nc) := (k68.cell 1).trans rfl
      have t2 : w8.cell? ⟨w5.heap.size, 2, none⟩ = some (.int .i64 x.next) := (k68.cell 2).trans rfl
      have CSM := Lib.hid (same_any (HT7.out.keepsBox hb8) (HR7.out.below hb8 (by omega)) HS.out (by have := hb8.size; omega) (by omega) (by omega))
      clear hb8 k68 CU a0 a1 a2 a3 p0 p1
      go_wp2_with fail
      refine CSM.out.mono ?_
      rintro en w9 ⟨rfl, hb9⟩
      have HB9 := Lib.hid (HB8.out.trans (hb9.mono HB8.out.size))
      clear hb9
      go_wp2_with fail
      go_ret
      exact ⟨by first | rfl | simp, HB9.out⟩
end Go.Proofs.YtoaiamgcegnjjaaGreatDoor
