/- fresh.Covers; EntryCovers' walk: whatever the acts, the purges and whoever asks, true. No condition. -/
import Derived.Test.YtoaiamgcegnjjaaGreatDoorVG
namespace Go.Proofs.YtoaiamgcegnjjaaGreatDoor
open Go.RowKit Go.Maps Go.WideMaps Go.Sort
set_option maxRecDepth 100000
attribute [local go_sem ↓] st32_fold ld57_fold st57_fold ld39_fold

theorem covers_any (t : ByteArray) (wk : Bool) (mo le ha fr wh er : Int) (A : Option Addr) (n c : Nat) (ten : ByteArray) (kp : Bool) (said now st : Int) (w : World) (h1 : 1 ≤ st ∧ st ≤ 3) (h2 : stateOf fr wh er said now ≤ st) :
    Calls Tryz.prog 25 #[.agg (metaC t wk mo le ha fr wh er A n c ten kp), .int .i64 said, .int .i64 now, .int .i64 st] w fun e w' => e = .returned (.bool true) ∧ Below w.heap.size w w' := by
  have hb0 : Below w.heap.size w (w.alloc (.cells (metaC t wk mo le ha fr wh er A n c ten kp) 39)) := (Below.refl _ _).alloc (Nat.le_refl _) _
  have k0 : Blk (w.alloc (.cells (metaC t wk mo le ha fr wh er A n c ten kp) 39)) w.heap.size 39 (metaC t wk mo le ha fr wh er A n c ten kp) := Blk.new _ _ _
  go_enter Tryz.func25, Tryz.ntmps25
  go_upto_region 1 with fail
  generalize w.alloc (.cells (metaC t wk mo le ha fr wh er A n c ten kp) 39) = w1 at *
  have HB := Lib.hid hb0
  have l39 : (ld39 (.pointer (some ⟨w.heap.size, 0, none⟩))).run Tryz.prog w1 = .ok (.agg (metaC t wk mo le ha fr wh er A n c ten kp)) w1 := by
    have := run_loadVar_row (P := Tryz.prog) w1 w.heap.size 39 39 (metaC t wk mo le ha fr wh er A n c ten kp) (0, 0) _ k0 Tryz.underlying39 rfl size39
    simp only [ld39, Instr.loadAt, Instr.sureAddr, Sem.run_bind, Sem.run_pure, Result.andThen_ok, this]
  have CS := Lib.hid (state_any t wk mo le ha fr wh er A n c ten kp said now w1)
  have s1 : ¬ st < 1 := by omega
  have s2 : ¬ (3 : Int) < st := by omega
  clear hb0 k0
  by_cases hg : tickOf now ≤ tickOf said
  · go_wp2_with (go_at_call 72; refine (tick_any _ _).mono ?_; rintro e w' ⟨rfl, rfl⟩)
    go_ret
    exact ⟨by first | rfl | simp [hg], HB.out⟩
  · go_wp2_with (first
      | (go_at_call 72; refine (tick_any _ _).mono ?_; rintro e w' ⟨rfl, rfl⟩)
      | (go_at_call 73; refine CS.out.mono ?_; rintro e w2 ⟨rfl, hb2⟩; (have HB2 := Lib.hid (HB.out.trans (hb2.mono HB.out.size))); clear hb2))
    go_ret
    exact ⟨by first | rfl | simp [h2], HB2.out⟩

theorem st_cover {fl : Int} {ls : List LineS} {ti ge : Int} {e : Ent} (hf : 0 ≤ e.fr ∧ e.fr ≤ 1099511627776) (hw : 0 ≤ e.wh ∧ e.wh ≤ 1099511627776) (he : 0 ≤ e.er ∧ e.er ≤ 1099511627776) (h : stP fl ls ti ge e ≠ 4) :
    (1 ≤ stP fl ls ti ge e ∧ stP fl ls ti ge e ≤ 3) ∧ stateOf e.fr e.wh e.er e.said ti ≤ stP fl ls ti ge e := by
  have b := state_bd e.fr e.wh e.er e.said ti
  have t1 : tickOf e.fr = e.fr := by unfold tickOf; omega
  have t2 : tickOf e.wh = e.wh := by unfold tickOf; omega
  have t3 : tickOf e.er = e.er := by unfold tickOf; omega
  unfold stP at *
  split at h
  · rename_i h0
    rw [if_pos h0]
    omega
  · rename_i h0
    rw [if_neg h0]
    unfold staleR at *
    unfold stateOf
    rw [t1, t2, t3]
    generalize ageOf e.said ti = old at *
    (repeat' split at h) <;> (repeat' split) <;> omega

set_option maxHeartbeats 8000000 in
theorem entryCovers_any (A : Option Addr) (n c : Nat) (l : List ActS) (PA : Option Addr) (pn pc : Nat) (ps : List PgM) (fl : Int) (obj : ByteArray) (ti mo ge : Int) (W : World) (hr : Rd W W.heap.size 25 A n (l.flatMap ActS.cells)) (hok : ∀ a ∈ l, a.Ok W W.heap.size) (hn : n ≤ 9223372036854775807)
    (hp : Rd W W.heap.size 2 PA pn (ps.flatMap PgM.cells)) (hpk : ∀ p ∈ ps, p.n ≤ p.c ∧ p.n ≤ 9223372036854775807 ∧ Strs W W.heap.size p.A p.n p.keys) (hpn : pn ≤ 9223372036854775807) (hob : obj.size ≤ maxLen) :
    Calls Tryz.prog 5 #[.slice A n c, .agg #[.int .i64 fl, .slice PA pn pc], .agg #[.string obj, .int .i64 ti, .int .i64 mo, .int .i64 ge]] W fun e w' => e = .returned (.bool true) ∧ Below W.heap.size W w' := by
  have HRD := Lib.hid hr
  have HOK := Lib.hid hok
  have HPR := Lib.hid hp
  have HPK := Lib.hid hpk
  have hb0 : Below W.heap.size W ((W.alloc (.cells #[.int .i64 fl, .slice PA pn pc] 61)).alloc (.cells #[.string obj, .int .i64 ti, .int .i64 mo, .int .i64 ge] 63)) := ((Below.refl _ _).alloc (Nat.le_refl _) _).alloc (by simp) _
  have k4 : Blk ((W.alloc (.cells #[.int .i64 fl, .slice PA pn pc] 61)).alloc (.cells #[.string obj, .int .i64 ti, .int .i64 mo, .int .i64 ge] 63)) W.heap.size 61 #[.int .i64 fl, .slice PA pn pc] := (Blk.new W 61 _).alloc _
  have k5 : Blk ((W.alloc (.cells #[.int .i64 fl, .slice PA pn pc] 61)).alloc (.cells #[.string obj, .int .i64 ti, .int .i64 mo, .int .i64 ge] 63)) (W.heap.size + 1) 63 #[.string obj, .int .i64 ti, .int .i64 mo, .int .i64 ge] := new2 W _ 63 _
  clear hr hok hp hpk
  go_enter Tryz.func5, Tryz.ntmps5
  go_upto_region 1 with fail
  generalize (W.alloc (.cells #[.int .i64 fl, .slice PA pn pc] 61)).alloc (.cells #[.string obj, .int .i64 ti, .int .i64 mo, .int .i64 ge] 63) = w0 at *
  have HB0 := Lib.hid hb0
  have hs0 := k5.lt
  go_wp2_with fail
  refine (wakes_any w0).mono ?_
  rintro en w1 ⟨rfl, hb1⟩
  have HB1 := Lib.hid (HB0.out.trans (hb1.mono HB0.out.size))
  have k41 := k4.below hb1 k4.lt
  have K51 := Lib.hid (k5.below hb1 k5.lt)
  have hs01 := hb1.size
  have c0 : w1.cell? ⟨W.heap.size, 0, none⟩ = some (.int .i64 fl) := (k41.cell 0).trans rfl
  have c1 : w1.cell? ⟨W.heap.size, 1, none⟩ = some (.slice PA pn pc) := (k41.cell 1).trans rfl
  have CLG := Lib.hid (log_any PA pn pc ps fl W.heap.size w1 (HPR.out.below HB1.out (Nat.le_refl _)) (fun p hp => ⟨(HPK.out p hp).1, (HPK.out p hp).2.1, (HPK.out p hp).2.2.below HB1.out (Nat.le_refl _)⟩) HB1.out.size hpn)
  clear hb1 hb0 k4 k5 k41
  go_wp2_with fail
  refine CLG.out.mono ?_
  rintro en w2 ⟨po, QA, qn, qc, ok, rfl, hb2, hyes⟩
  have HB2 := Lib.hid (HB1.out.trans (hb2.mono HB1.out.size))
  have K52 := Lib.hid (K51.out.below hb2 K51.out.lt)
  have HYES := Lib.hid hyes
  have hs12 := hb2.size
  clear hb2 hyes CLG c0 c1
  go_upto_region 4 with fail
  have hb3 : Below w2.heap.size w2 (w2.alloc (.cells #[.slice QA qn qc, .int .i64 fl] 67)) := (Below.refl _ _).alloc (Nat.le_refl _) _
  have k8 : Blk (w2.alloc (.cells #[.slice QA qn qc, .int .i64 fl] 67)) w2.heap.size 67 #[.slice QA qn qc, .int .i64 fl] := Blk.new _ _ _
  generalize w2.alloc (.cells #[.slice QA qn qc, .int .i64 fl] 67) = w3 at *
  have HB23 := Lib.hid hb3
  have HB3 := Lib.hid (HB2.out.trans (hb3.mono HB2.out.size))
  have K53 := Lib.hid (K52.out.below hb3 K52.out.lt)
  have K83 := Lib.hid k8
  have hs23 := k8.lt
  have CS := Lib.hid (small_any A n c l W.heap.size w3 (HRD.out.below HB3.out (Nat.le_refl _)) (fun a ha => (HOK.out a ha).keys.below HB3.out (Nat.le_refl _)) HB3.out.size hn)
  clear hb3 k8
  go_wp2_with fail
  refine CS.out.mono ?_
  rintro en w4 ⟨⟨b, rfl, hbb⟩, hb4⟩
  have HB24 := Lib.hid (HB23.out.trans (hb4.mono HB23.out.size))
  have HB4 := Lib.hid (HB3.out.trans (hb4.mono HB3.out.size))
  have K54 := Lib.hid (K53.out.below hb4 K53.out.lt)
  have K84 := Lib.hid (K83.out.below hb4 K83.out.lt)
  have hs34 := hb4.size
  have HBB := Lib.hid hbb
  have q0 : w4.cell? ⟨W.heap.size + 1, 0, none⟩ = some (.string obj) := (K54.out.cell 0).trans rfl
  clear hb4 hbb CS HB1 HB2 HB3 K51 K52 K53 K83
  cases b with
  | false =>
    go_wp2_with fail
    go_ret
    exact ⟨rfl, HB4.out⟩
  | true =>
    have hfew := HBB.out (by first | rfl | trivial)
    have hn30 := hfew.1
    have HFEW := Lib.hid hfew.2
    clear hfew HBB
    cases ok with
    | false =>
      go_wp2_with fail
      go_ret
      exact ⟨rfl, HB4.out⟩
    | true =>
      obtain ⟨lb, ms, ms', rfl, hL, hPu, hmm, hrise⟩ := HYES.out rfl
      have HL4 := Lib.hid (hL.below HB24.out)
      have HP4 := Lib.hid (hPu.below HB24.out)
      have HMM := Lib.hid hmm
      have HRISE := Lib.hid hrise
      clear hL hPu hmm hrise HYES
      by_cases h300 : (300 : Int) < (obj.size : Int)
      · go_wp2_with fail
        go_ret
        exact ⟨rfl, HB4.out⟩
      have CP := Lib.hid (play_any A n c l W.heap.size w4 (HRD.out.below HB4.out (Nat.le_refl _)) (fun a ha => { HOK.out a ha with keys := (HOK.out a ha).keys.below HB4.out (Nat.le_refl _) }) HB4.out.size hn30 HFEW.out)
      go_upto_region 6 with fail
      go_wp2_with fail
      refine CP.out.mono ?_
      rintro en w5 ⟨base, tb, v, T, x, LA, ln, lc, NA, nn, nc, rs, rfl, hb5, hba, hbw, hT5, hR5, hS5⟩
      have hv := hR5.val
      subst hv
      have st5 := run_st32 (v := #[.slice LA ln lc, .slice NA nn nc, .int .i64 x.next]) (Blk.new w5 32 zero32) rfl rfl (by simp [Value.oneCell'])
      have HB5 := Lib.hid (HB4.out.trans (hb5.mono HB4.out.size))
      have K55 := Lib.hid (K54.out.below hb5 K54.out.lt)
      have K85 := Lib.hid (K84.out.below hb5 K84.out.lt)
      have HL5 := Lib.hid (HL4.out.below (hb5.mono (by omega)))
      have HP5 := Lib.hid (HP4.out.below (hb5.mono (by omega)))
      have hs45 := hb5.size
      have HT5 := Lib.hid hT5
      have HR5 := Lib.hid hR5
      have HS := Lib.hid hS5
      clear hb5 hT5 hR5 hS5 CP q0 HB4 K54 K84 HL4 HP4
      go_upto_region 7 with fail
      have hb6 : Below w5.heap.size w5 ((w5.alloc (.cells zero32 32)).setRow w5.heap.size #[.slice LA ln lc, .slice NA nn nc, .int .i64 x.next]) := ((Below.refl _ _).alloc (Nat.le_refl _) _).trans (grown_below (setRow_gby _ _ _) (by simp) (fun k hk => by injection hk with hk; omega))
      have k6 : Blk ((w5.alloc (.cells zero32 32)).setRow w5.heap.size #[.slice LA ln lc, .slice NA nn nc, .int .i64 x.next]) w5.heap.size 32 #[.slice LA ln lc, .slice NA nn nc, .int .i64 x.next] := setRow_blk (Blk.new w5 32 zero32) _
      generalize (w5.alloc (.cells zero32 32)).setRow w5.heap.size #[.slice LA ln lc, .slice NA nn nc, .int .i64 x.next] = w6 at *
      have HB6 := Lib.hid (HB5.out.trans (hb6.mono HB5.out.size))
      have K56 := Lib.hid (K55.out.below hb6 K55.out.lt)
      have K86 := Lib.hid (K85.out.below hb6 K85.out.lt)
      have HL6 := Lib.hid (HL5.out.below (hb6.mono (by omega)))
      have HP6 := Lib.hid (HP5.out.below (hb6.mono (by omega)))
      have K66 := Lib.hid k6
      have hs56 := k6.lt
      have HT6 := Lib.hid (HT5.out.keepsBox hb6)
      have HR6 := Lib.hid (HR5.out.below hb6 hbw)
      clear hb6 st5 HB5 K55 K85 HL5 HP5 HT5 HR5 k6
      obtain ⟨u, hu⟩ : ∃ u, useU T obj mo (deadP fl (ms'.map (·.l)) ge) (stP fl (ms'.map (·.l)) ti ge) = u := ⟨_, rfl⟩
      have htold := use_told HS.out (obj := obj) (mo := mo) (dead := deadP fl (ms'.map (·.l)) ge) (stf := stP fl (ms'.map (·.l)) ti ge)
      rw [hu] at htold
      have HTOLD := Lib.hid htold
      have r0 := cell_regrown (show w6.cell? ⟨W.heap.size + 1, 0, none⟩ = some (.string obj) from (K56.out.cell 0).trans rfl)
      have r1 := cell_regrown (show w6.cell? ⟨W.heap.size + 1, 1, none⟩ = some (.int .i64 ti) from (K56.out.cell 1).trans rfl)
      have r2 := cell_regrown (show w6.cell? ⟨W.heap.size + 1, 2, none⟩ = some (.int .i64 mo) from (K56.out.cell 2).trans rfl)
      have r3 := cell_regrown (show w6.cell? ⟨W.heap.size + 1, 3, none⟩ = some (.int .i64 ge) from (K56.out.cell 3).trans rfl)
      have c21 : ∀ d os, Calls Tryz.prog 21 #[.agg #[.int .i64 ti, .int .i64 mo, .int .i64 ge]] (grow (redrawn w6 d) os) fun en w'' => en = .returned (.agg #[.int .i64 ti, .int .i64 mo, .int .i64 ge]) ∧ ∃ p : Regrown, w'' = grow (redrawn w6 p.d) p.os := fun d os => Calls.regrown_of (asked_any ti mo ge _)
      have c20 : ∀ d os, Calls Tryz.prog 20 #[.pointer (some ⟨tb, 0, none⟩), .string obj, .agg #[.int .i64 ti, .int .i64 mo, .int .i64 ge], .pointer (some ⟨lb, 0, none⟩)] (grow (redrawn w6 d) os) fun en w'' => en = .returned (.tuple #[.int .i64 u.1, .int .i64 u.2]) ∧ ∃ p : Regrown, w'' = grow (redrawn w6 p.d) p.os := fun d os => by
        have hb := below_regrown w6 d os
        have := use_log (HT6.out.keepsBox hb) HS.out (by omega) hob (HL6.out.below (hb.mono (by omega))) (by have := hb.size; omega) ti mo ge
        rw [hu] at this
        exact Calls.regrown_of this
      clear hu htold
      refine wp_region_quiet_below (by kernel_rfl) (by kernel_rfl) ?_
      repeat (go_big_quiet_step (first | exact c21 _ _ | exact c20 _ _))
      refine wpQuiet_nil ?_
      intro _ hw'
      obtain ⟨⟨dq, osq⟩, hw''⟩ := hw'
      subst hw''
      have hb7 := below_regrown w6 dq osq
      generalize grow (redrawn w6 dq) osq = w7 at *
      have HB7 := Lib.hid (HB6.out.trans (hb7.mono HB6.out.size))
      have K57 := Lib.hid (K56.out.below hb7 K56.out.lt)
      have K87 := Lib.hid (K86.out.below hb7 K86.out.lt)
      have HP7 := Lib.hid (HP6.out.below (hb7.mono (by omega)))
      have HT7 := Lib.hid (HT6.out.keepsBox hb7)
      have hs67 := hb7.size
      clear hb7 r0 r1 r2 r3 c20 c21 HB6 K56 K86 K66 HP6 HT6 HR6 HL6
      obtain ⟨u1, u2⟩ := u
      rcases HTOLD.out with h04 | ⟨q, hq, hqo, hqd, hway⟩
      · injection h04 with g1 g2
        subst g1 g2
        go_wp2_with fail
        go_ret
        exact ⟨by first | rfl | simp, HB7.out⟩
      have hid : u1 = q.id := by
        rcases hway with ⟨_, hu⟩ | ⟨_, _, _, hu⟩
        · injection hu
        · injection hu
      subst hid
      have h4 : ¬ u2 = 4 := by
        rcases hway with ⟨_, hu⟩ | ⟨_, _, hs4, hu⟩
        · injection hu with _ hu
          omega
        · injection hu with _ hu
          rw [hu]
          exact hs4
      have HWAY : Hid ((mo ≤ q.mom ∧ u2 = 1) ∨ (turnedS T q = false ∧ q.kp = true ∧ (1 ≤ u2 ∧ u2 ≤ 3) ∧ stateOf q.fr q.wh q.er q.said ti ≤ u2)) := by
        rcases hway with ⟨hm, hu⟩ | ⟨ht, hk, hs4, hu⟩
        · injection hu with _ hu
          exact .inl ⟨hm, hu⟩
        · injection hu with _ hu
          obtain ⟨r, hr, g1, g2⟩ := (HS.out.ents _ _).1 hq
          have hg := (HS.out.gd r hr).1
          subst g2
          have := st_cover (e := r.ent) hg.fr hg.wh hg.er hs4
          rw [← hu] at this
          exact .inr ⟨ht, hk, this.1, this.2⟩
      have HGEN : Hid (0 ≤ q.gen) := by
        show 0 ≤ q.gen
        obtain ⟨r, hr, g1, g2⟩ := (HS.out.ents _ _).1 hq
        rw [← g2]
        exact (HS.out.gd r hr).2
      have HQ := Lib.hid hq
      have HQD := Lib.hid hqd
      have CG := Lib.hid (tab_get HT7.out (by omega) hq)
      clear hway hq hqd HTOLD
      go_wp2_with fail
      refine CG.out.mono ?_
      rintro en w8 ⟨⟨A8, n8, c8, rfl, hnc8, ho8⟩, hb8⟩
      have s8 := run_st57 w8 ⟨q, A8, n8, c8, turnedS T q⟩
      have HB8 := Lib.hid (HB7.out.trans (hb8.mono HB7.out.size))
      have K58 := Lib.hid (K57.out.below hb8 K57.out.lt)
      have K88 := Lib.hid (K87.out.below hb8 K87.out.lt)
      have HP8 := Lib.hid (HP7.out.below (hb8.mono (by omega)))
      have HO8 := Lib.hid ho8
      have hs78 := hb8.size
      have hkn8 : n8 ≤ 1000 := by
        obtain ⟨be, bo, kf, of_, rf, hTR⟩ := HT7.out
        obtain ⟨g, hg⟩ := hTR.kf_some (id := q.id) (by rw [HQ.out]; rfl)
        obtain ⟨e', he', _, hK⟩ := hTR.ents _ g hg
        obtain rfl : e' = q := Option.some.inj (he'.symm.trans HQ.out)
        have h1 := own_len ho8
        have h2 := hK.keys
        simp at h1
        omega
      clear hb8 ho8 CG HB7 K57 K87 HP7 HT7
      go_upto_region 11 with fail
      have hb9 : Below w8.heap.size w8 (w8.alloc (.cells (entC q A8 n8 c8 (turnedS T q)) 57)) := (Below.refl _ _).alloc (Nat.le_refl _) _
      have k9 : Blk (w8.alloc (.cells (entC q A8 n8 c8 (turnedS T q)) 57)) w8.heap.size 57 (entC q A8 n8 c8 (turnedS T q)) := Blk.new _ _ _
      generalize w8.alloc (.cells (entC q A8 n8 c8 (turnedS T q)) 57) = w9 at *
      have HB9 := Lib.hid (HB8.out.trans (hb9.mono HB8.out.size))
      have HB89 := Lib.hid hb9
      have K59 := Lib.hid (K58.out.below hb9 K58.out.lt)
      have K89 := Lib.hid (K88.out.below hb9 K88.out.lt)
      have HP9 := Lib.hid (HP8.out.below (hb9.mono (by omega)))
      have K9 := Lib.hid k9
      have HK9 := Lib.hid ((own_rd HO8.out).below hb9 hb9.size)
      have hs89 := k9.lt
      clear hb9 k9 s8 HB8 K58 K88 HP8
      generalize htu : turnedS T q = tu at *
      have HUN : Hid (underR fl (ms.map (·.l)) (backM ⟨q, A8, n8, c8, tu⟩).e ge true = false) := by
        show underR fl (ms.map (·.l)) (backM ⟨q, A8, n8, c8, tu⟩).e ge true = false
        have h1 := dead_is (fl := fl) HRISE.out (backM ⟨q, A8, n8, c8, tu⟩).e HGEN.out ge
        rw [← h1, ← HMM.out]
        exact HQD.out
      have e1 := cell_regrown (show w9.cell? ⟨w8.heap.size, 1, none⟩ = some (.string q.obj) from (K9.out.cell 1).trans rfl)
      have r0 := cell_regrown (show w9.cell? ⟨W.heap.size + 1, 0, none⟩ = some (.string obj) from (K59.out.cell 0).trans rfl)
      have r3 := cell_regrown (show w9.cell? ⟨W.heap.size + 1, 3, none⟩ = some (.int .i64 ge) from (K59.out.cell 3).trans rfl)
      have p0 := cell_regrown (show w9.cell? ⟨w2.heap.size, 0, none⟩ = some (.slice QA qn qc) from (K89.out.cell 0).trans rfl)
      have p1 := cell_regrown (show w9.cell? ⟨w2.heap.size, 1, none⟩ = some (.int .i64 fl) from (K89.out.cell 1).trans rfl)
      have l57 : ∀ d os, (ld57 (.pointer (some ⟨w8.heap.size, 0, none⟩))).run Tryz.prog (grow (redrawn w9 d) os) = .ok (.agg (entC q A8 n8 c8 tu)) (grow (redrawn w9 d) os) := fun d os => run_ld57b (q := ⟨q, A8, n8, c8, tu⟩) (K9.out.below (below_regrown w9 d os) K9.out.lt)
      have c24 : ∀ d os, Calls Tryz.prog 24 #[.agg (entC q A8 n8 c8 tu)] (grow (redrawn w9 d) os) fun en w'' => en = .returned (.agg (backM ⟨q, A8, n8, c8, tu⟩).row) ∧ ∃ p : Regrown, w'' = grow (redrawn w9 p.d) p.os := fun d os => Calls.regrown_of (back_any ⟨q, A8, n8, c8, tu⟩ _)
      have c23 : ∀ d os, Calls Tryz.prog 23 #[.agg #[.slice QA qn qc, .int .i64 fl], .agg (backM ⟨q, A8, n8, c8, tu⟩).row, .int .i64 ge, .bool true] (grow (redrawn w9 d) os) fun en w'' => en = .returned (.bool false) ∧ ∃ p : Regrown, w'' = grow (redrawn w9 p.d) p.os := fun d os => by
        have hb := below_regrown w9 d os
        have := runder_any QA qn qc fl ms (backM ⟨q, A8, n8, c8, tu⟩) ge true w2.heap.size (grow (redrawn w9 d) os) (HP9.out.below (hb.mono (by omega))) (by have := hb.size; omega) (HK9.out.below hb hb.size) hkn8
        rw [HUN.out] at this
        exact Calls.regrown_of this
      have hq1 : (q.obj.toList == obj.toList) = true := by rw [bytes_beq, hqo]; exact decide_eq_true rfl
      have hq2 : (q.obj.toList != obj.toList) = false := by rw [bne, hq1]; rfl
      subst hqo
      go_cut [80] (fun a wy => a = .bool false ∧ Below w9.heap.size w9 wy)
      case first =>
        refine wp_region_quiet_below (by kernel_rfl) (by kernel_rfl) ?_
        repeat (go_big_quiet_step (first | exact c24 _ _ | exact c23 _ _))
        refine wpQuiet_nil ?_
        intro _ hw'
        obtain ⟨⟨dq, osq⟩, hw''⟩ := hw'
        subst hw''
        go_wp2_with fail
        go_meet
        exact ⟨by first | rfl | simp, below_regrown w9 dq osq⟩
      case rest =>
        obtain ⟨rfl, hb10⟩ := hcut
        generalize wc = w10 at *
        have HB10 := Lib.hid (HB9.out.trans (hb10.mono HB9.out.size))
        have k910 := K9.out.below hb10 K9.out.lt
        have k510 := K59.out.below hb10 K59.out.lt
        have e14 : w10.cell? ⟨w8.heap.size, 14, none⟩ = some (.int .i64 q.mom) := (k910.cell 14).trans rfl
        have e16 : w10.cell? ⟨w8.heap.size, 16, none⟩ = some (.bool tu) := (k910.cell 16).trans rfl
        have e12 : w10.cell? ⟨w8.heap.size, 12, none⟩ = some (.bool q.kp) := (k910.cell 12).trans rfl
        have e13 : w10.cell? ⟨w8.heap.size, 13, none⟩ = some (.int .i64 q.said) := (k910.cell 13).trans rfl
        have a1 : w10.cell? ⟨W.heap.size + 1, 1, none⟩ = some (.int .i64 ti) := (k510.cell 1).trans rfl
        have a2 : w10.cell? ⟨W.heap.size + 1, 2, none⟩ = some (.int .i64 mo) := (k510.cell 2).trans rfl
        have l39 := run_ld39e (e := q) (A := A8) (n := n8) (c := c8) (tu := tu) k910
        clear hb10 k910 k510 e1 r0 r3 p0 p1 l57 c24 c23
        by_cases hm : mo ≤ q.mom ∧ u2 = 1
        · obtain ⟨hm1, hm2⟩ := hm
          subst hm2
          go_wp2_with fail
          go_ret
          exact ⟨by first | rfl | simp [hm1], HB10.out⟩
        · rcases HWAY.out with hw | ⟨hw1, hw2, hw3, hw4⟩
          · exact absurd hw hm
          have CC := Lib.hid (covers_any q.t q.wk q.mo q.le q.ha q.fr q.wh q.er A8 n8 c8 q.ten q.kp q.said ti u2 w10 hw3 hw4)
          subst hw1
          rw [hw2] at e12
          clear hw2 hw3 hw4
          by_cases hm1 : mo ≤ q.mom
          · have hm2 : ¬ u2 = 1 := fun h => hm ⟨hm1, h⟩
            go_wp2_with (go_at_call 25; refine CC.out.mono ?_; rintro en w11 ⟨rfl, hb11⟩; (have HB11 := Lib.hid (HB10.out.trans (hb11.mono HB10.out.size))); clear hb11)
            go_ret
            exact ⟨by first | rfl | simp, HB11.out⟩
          · go_wp2_with (go_at_call 25; refine CC.out.mono ?_; rintro en w11 ⟨rfl, hb11⟩; (have HB11 := Lib.hid (HB10.out.trans (hb11.mono HB10.out.size))); clear hb11)
            go_ret
            exact ⟨by first | rfl | simp, HB11.out⟩
end Go.Proofs.YtoaiamgcegnjjaaGreatDoor
