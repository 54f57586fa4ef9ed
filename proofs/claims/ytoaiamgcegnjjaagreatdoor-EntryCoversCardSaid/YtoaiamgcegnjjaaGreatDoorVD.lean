/- entry.state in general; purge.right and copied. No condition but the bounds that each names. -/
import Derived.Test.YtoaiamgcegnjjaaGreatDoorUP
namespace Go.Proofs.YtoaiamgcegnjjaaGreatDoor
open Go.RowKit Go.Maps Go.WideMaps Go.Sort
set_option maxRecDepth 100000
def st39 (p v : Value) : Sem Unit := Instr.storeAt 39 p v
theorem st39_fold (p v : Value) : Instr.storeAt 39 p v = st39 p v := rfl
attribute [local go_sem ↓] ld39_fold ld57_fold st39_fold
abbrev zero39s : Array Value := #[.string ⟨#[]⟩, .bool false, .int .i64 0, .int .i64 0, .int .i64 0, .int .i64 0, .int .i64 0, .int .i64 0, .slice none 0 0, .string ⟨#[]⟩, .bool false]
theorem run_st39 (w : World) (cs : Array Value) (h1 : cs.size = 11) (h2 : cs.all (·.oneCell') = true) : (st39 (.pointer (some ⟨w.heap.size, 0, none⟩)) (.agg cs)).run Tryz.prog (w.alloc (.cells zero39s 39)) = .ok () (w.alloc (.cells cs 39)) := by
  have := run_storeVar_row (P := Tryz.prog) (w.alloc (.cells zero39s 39)) w.heap.size 39 39 zero39s cs (Blk.new w 39 zero39s) (by rw [h1]; exact size39) (by rw [h1]; rfl) h2
  rw [World.setRow_alloc_new] at this
  simp only [st39, Instr.storeAt, Instr.sureAddr, Sem.run_bind, Sem.run_pure, Result.andThen_ok, this]
theorem run_st39d (w : World) (cs : Array Value) (h1 : cs.size = 11) (h2 : cs.all (·.oneCell') = true) : (st39 (.pointer (some ⟨w.heap.size, 0, none⟩)) (.agg cs)).run Tryz.prog (w.alloc (.cells zero39s 39)).drew = .ok () (w.alloc (.cells cs 39)).drew := by
  have h := run_st39 w.drew cs h1 h2
  exact h

set_option maxHeartbeats 1000000 in
theorem stateG_any (q : EM) (ti mo ge : Int) (lb B : Nat) (fl : Int) (ms : List LineM) (w : World) (hk : Strs w w.heap.size q.A q.n q.e.ks) (hn : q.n ≤ 1000) (hL : LogAt w B lb fl ms) (hB : B ≤ w.heap.size) (hf : 0 ≤ q.e.fr ∧ q.e.fr ≤ 1099511627776) (hw : 0 ≤ q.e.wh ∧ q.e.wh ≤ 1099511627776) (he : 0 ≤ q.e.er ∧ q.e.er ≤ 1099511627776) :
    Calls Tryz.prog 67 #[.agg (entC q.e q.A q.n q.c q.tu), .agg (askC ti mo ge), .pointer (some ⟨lb, 0, none⟩)] w fun en w' => en = .returned (.int .i64 (stP fl (ms.map (·.l)) ti ge q.e)) ∧ Below w.heap.size w w' := by
  by_cases h0 : lastP fl (ms.map (·.l)) (keysOf q.e) q.e.gen ge false = 0
  · have := stateE_any q ti mo ge lb B fl ms w hk hn hL hB h0
    unfold stP
    rw [if_pos h0]
    exact this
  have HST : Hid (stP fl (ms.map (·.l)) ti ge q.e = staleR q.e.fr q.e.wh q.e.er (ageOf q.e.said ti)) := by
    show stP fl (ms.map (·.l)) ti ge q.e = _
    unfold stP
    rw [if_neg h0]
  have hb0 : Below w.heap.size w ((w.alloc (.cells (entC q.e q.A q.n q.c q.tu) 57)).alloc (.cells (askC ti mo ge) 74)) := ((Below.refl _ _).alloc (Nat.le_refl _) _).alloc (by simp) _
  have k0 : Blk ((w.alloc (.cells (entC q.e q.A q.n q.c q.tu) 57)).alloc (.cells (askC ti mo ge) 74)) w.heap.size 57 (entC q.e q.A q.n q.c q.tu) := (Blk.new w 57 _).alloc _
  have k1 : Blk ((w.alloc (.cells (entC q.e q.A q.n q.c q.tu) 57)).alloc (.cells (askC ti mo ge) 74)) (w.heap.size + 1) 74 (askC ti mo ge) := new2 w _ 74 _
  go_enter Tryz.func67, Tryz.ntmps67
  go_upto_region 1 with fail
  generalize (w.alloc (.cells (entC q.e q.A q.n q.c q.tu) 57)).alloc (.cells (askC ti mo ge) 74) = w1 at *
  have HB0 := Lib.hid hb0
  have K0 := Lib.hid k0
  have K1 := Lib.hid k1
  have hs0 := hb0.size
  have HK := Lib.hid (hk.below hb0 hs0)
  have HLG := Lib.hid (hL.below (hb0.mono hB))
  have sk : ∀ wy, Below w1.heap.size w1 wy → (ld57 (.pointer (some ⟨w.heap.size, 0, none⟩))).run Tryz.prog wy = .ok (.agg (entC q.e q.A q.n q.c q.tu)) wy ∧ wy.cell? ⟨w.heap.size, 15, none⟩ = some (.int .i64 q.e.gen) ∧ wy.cell? ⟨w.heap.size + 1, 2, none⟩ = some (.int .i64 ge) := fun wy hb => by
    have h := K0.out.below hb K0.out.lt
    exact ⟨run_ld57b h, (h.cell 15).trans rfl, ((K1.out.below hb K1.out.lt).cell 2).trans rfl⟩
  have SK := Lib.hid sk
  have S0 := Lib.hid (SK.out _ (Below.refl _ _).drew)
  have C0 := Lib.hid (keys_any q.e q.A q.n q.c q.tu w1.drew (HK.out.below (Below.refl _ _).drew (Nat.le_refl _)) hn)
  obtain ⟨lv, hlv⟩ : ∃ lv, lastP fl (ms.map (·.l)) (keysOf q.e) q.e.gen ge false = lv := ⟨_, rfl⟩
  rw [hlv] at h0
  have cl : ∀ (wy : World) (A' : Option Addr) (c' : Nat), Below w1.heap.size w1 wy → Strs wy wy.heap.size A' (q.n + 2) (keysOf q.e) → Calls Tryz.prog 128 #[.pointer (some ⟨lb, 0, none⟩), .slice A' (q.n + 2) c', .int .i64 q.e.gen, .int .i64 ge, .bool false] wy fun e w' => e = .returned (.int .i64 lv) ∧ Below wy.heap.size wy w' := fun wy A' c' hb hs => by
    have := logLast_any lb fl ms q.e.gen ge false A' (q.n + 2) c' (keysOf q.e) B wy.heap.size wy (HLG.out.below (hb.mono (by omega))) hs (by omega) (by have := hb.size; omega) (Nat.le_refl _)
    rw [hlv] at this
    exact this
  have CL := Lib.hid cl
  clear hb0 k0 k1 hk hL sk cl hlv
  go_cut [17] (fun a wy => a = .bool false ∧ Below w1.heap.size w1 wy)
  case first =>
    go_region_held3 (fun wy => (ld57 (.pointer (some ⟨w.heap.size, 0, none⟩))).run Tryz.prog wy = .ok (.agg (entC q.e q.A q.n q.c q.tu)) wy ∧ wy.cell? ⟨w.heap.size, 15, none⟩ = some (.int .i64 q.e.gen) ∧ wy.cell? ⟨w.heap.size + 1, 2, none⟩ = some (.int .i64 ge))
      (first
        | exact SK.out _ HB3.out
        | exact SK.out _ HB2.out
        | exact S0.out)
      (first
        | (go_at_call 129; refine C0.out.mono ?_; rintro en w2 ⟨⟨A2, c2, rfl, hs2⟩, hb2⟩; (have HB2 : Hid (Below w1.heap.size w1 w2) := (Below.refl _ _).drew.trans hb2); (have HS2 := Lib.hid hs2); clear hs2 hb2)
        | (go_at_call 128; refine (CL.out w2 A2 c2 HB2.out HS2.out).mono ?_; rintro en w3 ⟨rfl, hb3⟩; (have HB3 := Lib.hid (HB2.out.trans (hb3.mono HB2.out.size))); clear hb3))
    all_goals
      go_wp2_with fail
      go_meet
    all_goals exact ⟨by first | rfl | simp [h0], HB3.out⟩
  case rest =>
    obtain ⟨rfl, hb3⟩ := hcut
    generalize wc = w2 at *
    have HB3 := Lib.hid hb3
    have HBW := Lib.hid (HB0.out.trans (hb3.mono HB0.out.size))
    have K02 := Lib.hid (K0.out.below hb3 K0.out.lt)
    have K12 := Lib.hid (K1.out.below hb3 K1.out.lt)
    have h02 := K02.out.lt
    clear hb3 C0 CL S0 SK
    have sk : ∀ wy, Below w2.heap.size w2 wy → wy.cell? ⟨w.heap.size, 13, none⟩ = some (.int .i64 q.e.said) ∧ wy.cell? ⟨w.heap.size + 1, 0, none⟩ = some (.int .i64 ti) ∧ (ld39 (.pointer (some ⟨w.heap.size, 2, none⟩))).run Tryz.prog wy = .ok (.agg (metaC q.e.t q.e.wk q.e.mo q.e.le q.e.ha q.e.fr q.e.wh q.e.er q.A q.n q.c q.e.ten q.e.kp)) wy := fun wy hb => by
      have h := K02.out.below hb K02.out.lt
      exact ⟨(h.cell 13).trans rfl, ((K12.out.below hb K12.out.lt).cell 0).trans rfl, run_ld39e h⟩
    have SK := Lib.hid sk
    clear sk
    have B0 : Hid (Below w2.heap.size w2 w2.drew) := (Below.refl _ _).drew
    have B1 : Hid (Below w2.heap.size w2 (w2.alloc (.cells zero39s 39)).drew) := ((Below.refl _ _).alloc (Nat.le_refl _) _).drew
    have B2 : Hid (Below w2.heap.size w2 (w2.alloc (.cells (metaC q.e.t q.e.wk q.e.mo q.e.le q.e.ha q.e.fr q.e.wh q.e.er q.A q.n q.c q.e.ten q.e.kp) 39)).drew) := ((Below.refl _ _).alloc (Nat.le_refl _) _).drew
    have s39 := run_st39d w2 (metaC q.e.t q.e.wk q.e.mo q.e.le q.e.ha q.e.fr q.e.wh q.e.er q.A q.n q.c q.e.ten q.e.kp) rfl (by simp [Value.oneCell'])
    go_upto_region 3 with fail
    go_cut [7, 8] (fun a b wy => a = .int .i64 (ageOf q.e.said ti) ∧ b = .pointer (some ⟨w2.heap.size, 0, none⟩) ∧ Blk wy w2.heap.size 39 (metaC q.e.t q.e.wk q.e.mo q.e.le q.e.ha q.e.fr q.e.wh q.e.er q.A q.n q.c q.e.ten q.e.kp) ∧ Below w2.heap.size w2 wy)
    case first =>
      go_region_held3 (fun wy => wy.cell? ⟨w.heap.size, 13, none⟩ = some (.int .i64 q.e.said) ∧ wy.cell? ⟨w.heap.size + 1, 0, none⟩ = some (.int .i64 ti) ∧ (ld39 (.pointer (some ⟨w.heap.size, 2, none⟩))).run Tryz.prog wy = .ok (.agg (metaC q.e.t q.e.wk q.e.mo q.e.le q.e.ha q.e.fr q.e.wh q.e.er q.A q.n q.c q.e.ten q.e.kp)) wy)
        (first
          | exact SK.out _ B0.out
          | exact SK.out _ B1.out
          | exact SK.out _ B2.out)
        (first | (go_at_call 130; refine (age_any _ _ _).mono ?_; rintro en w7 ⟨rfl, rfl⟩))
      all_goals
        go_wp2_with fail
        go_meet
      all_goals exact ⟨rfl, rfl, (Blk.new w2 39 _).drew, B2.out⟩
    case rest =>
      obtain ⟨rfl, rfl, hkg, hbx⟩ := hcut
      have HB4 := Lib.hid (HBW.out.trans (hbx.mono HBW.out.size))
      have c5 : wc.cell? ⟨w2.heap.size, 5, none⟩ = some (.int .i64 q.e.fr) := (hkg.cell 5).trans rfl
      have c6 : wc.cell? ⟨w2.heap.size, 6, none⟩ = some (.int .i64 q.e.wh) := (hkg.cell 6).trans rfl
      have c7 : wc.cell? ⟨w2.heap.size, 7, none⟩ = some (.int .i64 q.e.er) := (hkg.cell 7).trans rfl
      have ba := ageOf_bd q.e.said ti
      clear hkg hbx s39
      generalize ageOf q.e.said ti = old at *
      generalize q.e.fr = fr at *
      generalize q.e.wh = wh at *
      generalize q.e.er = er at *
      by_cases c1 : wh = 0
      · subst c1
        by_cases c3 : er = 0
        · subst c3
          go_wp2_with fail
          go_ret
          refine ⟨ret_int ?_, HB4.out⟩
          rw [HST.out]
          unfold staleR
          (repeat' split) <;> omega
        · by_cases c4 : old < fr + er
          · go_wp2_with fail
            go_ret
            refine ⟨ret_int ?_, HB4.out⟩
            rw [HST.out]
            unfold staleR
            (repeat' split) <;> omega
          · go_wp2_with fail
            go_ret
            refine ⟨ret_int ?_, HB4.out⟩
            rw [HST.out]
            unfold staleR
            (repeat' split) <;> omega
      · by_cases c2 : old < fr + wh
        · go_wp2_with fail
          go_ret
          refine ⟨ret_int ?_, HB4.out⟩
          rw [HST.out]
          unfold staleR
          (repeat' split) <;> omega
        · by_cases c3 : er = 0
          · subst c3
            go_wp2_with fail
            go_ret
            refine ⟨ret_int ?_, HB4.out⟩
            rw [HST.out]
            unfold staleR
            (repeat' split) <;> omega
          · by_cases c4 : old < fr + er
            · go_wp2_with fail
              go_ret
              refine ⟨ret_int ?_, HB4.out⟩
              rw [HST.out]
              unfold staleR
              (repeat' split) <;> omega
            · go_wp2_with fail
              go_ret
              refine ⟨ret_int ?_, HB4.out⟩
              rw [HST.out]
              unfold staleR
              (repeat' split) <;> omega

theorem pright_any (r : LineM) (B : Nat) (w : World) (hr : Strs w B r.A r.n r.l.keys) (hnc : r.n ≤ r.c) (hn : r.n ≤ 1000) (hB : B ≤ w.heap.size) :
    Calls Tryz.prog 126 #[.agg r.cs] w fun e w' => SomeBool e ∧ Below w.heap.size w w' := by
  have hb0 : Below w.heap.size w (w.alloc (.cells r.cs 144)) := (Below.refl _ _).alloc (Nat.le_refl _) _
  have kx : Blk (w.alloc (.cells r.cs 144)) w.heap.size 144 r.cs := Blk.new _ _ _
  have hs1 := hr.below (hb0.mono hB) (Nat.le_refl _)
  go_enter Tryz.func126, Tryz.ntmps126
  go_upto_region 1 with fail
  generalize w.alloc (.cells r.cs 144) = w1 at *
  have x0 : w1.cell? ⟨w.heap.size, 0, none⟩ = some (.int .i64 r.l.no) := (kx.cell 0).trans rfl
  have x1 : w1.cell? ⟨w.heap.size, 1, none⟩ = some (.slice r.A r.n r.c) := (kx.cell 1).trans rfl
  have HB0 := Lib.hid hb0
  have HS1 := Lib.hid hs1
  have hl := hs1.len
  clear hb0 kx hs1 hr
  by_cases h1 : r.l.no < 1
  · go_wp2_with fail
    go_ret
    exact ⟨SomeBool.mk _, HB0.out⟩
  by_cases h2 : (1099511627776 : Int) < r.l.no
  · go_wp2_with fail
    go_ret
    exact ⟨SomeBool.mk _, HB0.out⟩
  by_cases h3 : r.n < 1
  · go_wp2_with fail
    go_ret
    exact ⟨SomeBool.mk _, HB0.out⟩
  by_cases h4 : 34 < r.n
  · go_wp2_with fail
    go_ret
    exact ⟨SomeBool.mk _, HB0.out⟩
  obtain ⟨b, o, hA, _, hc⟩ := HS1.out.at_ (by omega)
  have HC := Lib.hid hc
  have HA := Lib.hid hA
  rw [hA] at x1
  clear hc hA
  go_wp2_with fail
  go_loop [28] (fun i => ∃ k : Nat, k ≤ r.n ∧ i = .int .i64 k) (fun i => r.n - (intOf i).toNat)
  case atStart => exact ⟨0, Nat.zero_le _, rfl⟩
  case round =>
    obtain ⟨k, hk, rfl⟩ := hrel
    by_cases hlt : k < r.n
    · have hk' : k < r.l.keys.length := by omega
      have hcell := HC.out k hk'
      generalize r.l.keys[k] = s at *
      have CC := Lib.hid (slicesContains_any (some ⟨b, o, none⟩) k r.c (r.l.keys.take k) s B w1 (by have := HS1.out.take (k := k) (by omega); rw [HA.out] at this; exact this) (by omega))
      have i1 : (0 : Int) ≤ (k : Int) := by omega
      have i2 : (k : Int) < (r.n : Int) := by omega
      have i3 : (k : Int) ≤ (r.c : Int) := by omega
      cases hkk : keyOK s with
      | false =>
        have HKK := Lib.hid hkk
        clear hkk
        go_wp2_with (go_at_call 176; refine (pkey_any _ _).mono ?_; rintro e w' ⟨rfl, rfl⟩; rw [HKK.out])
        go_ret
        exact ⟨SomeBool.mk _, HB0.out⟩
      | true =>
        have HKK := Lib.hid hkk
        clear hkk
        cases hin : inB (r.l.keys.take k) s with
        | true =>
          have HIN := Lib.hid hin
          clear hin
          go_wp2_with (first
            | (go_at_call 176; refine (pkey_any _ _).mono ?_; rintro e w' ⟨rfl, rfl⟩; rw [HKK.out])
            | (go_at_call 138; refine CC.out.mono ?_; rintro e w' ⟨rfl, rfl⟩; rw [HIN.out]))
          go_ret
          exact ⟨SomeBool.mk _, HB0.out⟩
        | false =>
          have HIN := Lib.hid hin
          clear hin
          go_wp2_with (first
            | (go_at_call 176; refine (pkey_any _ _).mono ?_; rintro e w' ⟨rfl, rfl⟩; rw [HKK.out])
            | (go_at_call 138; refine CC.out.mono ?_; rintro e w' ⟨rfl, rfl⟩; rw [HIN.out]))
          exact ⟨⟨k + 1, by omega, by go_num⟩, by simp [intOf]; omega⟩
    · go_wp2_with fail
      go_ret
      exact ⟨SomeBool.mk _, HB0.out⟩

set_option maxHeartbeats 400000 in
theorem pcopied_any (r : LineM) (w : World) (hk : Strs w w.heap.size r.A r.n r.l.keys) (hn : r.n ≤ 1000) :
    Calls Tryz.prog 127 #[.agg r.cs] w fun e w' => (∃ A' c', e = .returned (.agg #[.int .i64 r.l.no, .slice A' r.n c', .bool r.l.hard]) ∧ w'.ownsRow w.heap.size 9 1 (.slice A' r.n c') r.n (r.l.keys.map Value.string) ∧ r.n ≤ c') ∧ Below w.heap.size w w' := by
  obtain ⟨i0, hi, hz0, hz1, hz2⟩ := info_parts info9
  have hk2 := hk.below (((Below.refl w.heap.size w).alloc (Nat.le_refl _) (.cells r.cs 144)).alloc (by simp) (.cells #[.int .i64 0, .slice none 0 0, .bool false] 144)) (Nat.le_refl _)
  have HK := Lib.hid hk2
  have k0 : Blk ((w.alloc (.cells r.cs 144)).alloc (.cells #[.int .i64 0, .slice none 0 0, .bool false] 144)) w.heap.size 144 r.cs := (Blk.new w 144 _).alloc _
  have k1 : Blk ((w.alloc (.cells r.cs 144)).alloc (.cells #[.int .i64 0, .slice none 0 0, .bool false] 144)) (w.heap.size + 1) 144 #[.int .i64 0, .slice none 0 0, .bool false] := new2 w _ 144 _
  have K0 := Lib.hid k0
  have K1 := Lib.hid k1
  clear hk hk2 k0 k1
  go_enter Tryz.func127, Tryz.ntmps127
  go_wp2_with (at_builtin; refine wpList_append_rd _ rfl _ _ 37 rfl (w.heap.size + 2) 9 i0 (.string ByteArray.empty) 1 16 Tryz.underlying37 hi hz0 hz1 hz2 rfl (by decide) (.slice none 0 0) 0 [] rfl (World.ownsRow_nil _ _ _ _) r.A r.n r.c _ _ rfl HK.out (oneCell_strings r.l.keys) (by unfold maxLen; omega) (by omega) (by simp) ?_; intro A' c' w1 hown hgrow hnc hat; have bk0 := K0.out.grown hgrow (by simp [Value.ownBlock]); have bk1 := K1.out.grown hgrow (by simp [Value.ownBlock]); have a0 : w1.cell? ⟨w.heap.size, 0, none⟩ = some (.int .i64 r.l.no) := (bk0.cell 0).trans rfl; have a1 : w1.cell? ⟨w.heap.size, 1, none⟩ = some (.slice r.A r.n r.c) := (bk0.cell 1).trans rfl; have a2 : w1.cell? ⟨w.heap.size, 2, none⟩ = some (.bool r.l.hard) := (bk0.cell 2).trans rfl; have b0 : w1.cell? ⟨w.heap.size + 1, 0, none⟩ = some (.int .i64 0) := (bk1.cell 0).trans rfl; have b1 : w1.cell? ⟨w.heap.size + 1, 1, none⟩ = some (.slice none 0 0) := (bk1.cell 1).trans rfl; have b2 : w1.cell? ⟨w.heap.size + 1, 2, none⟩ = some (.bool false) := (bk1.cell 2).trans rfl; have f0 := bk0.free'; have f1 := bk1.free'; have hsz := hgrow.size; have HO := Lib.hid hown; have HG := Lib.hid hgrow; clear bk0 bk1 hown hgrow hat)
  have hown := HO.out
  simp only [Nat.zero_add, List.nil_append] at hown hnc
  have hbel : Below w.heap.size w w1 := (((Below.refl w.heap.size w).alloc (Nat.le_refl _) _).alloc (by simp) _).trans (grown_below HG.out (by simp; omega) (fun k hk => by simp [Value.ownBlock] at hk))
  refine bodyPost_ret (v := .agg #[.int .i64 r.l.no, .slice A' r.n c', .bool r.l.hard]) ?_ rfl ⟨⟨A', c', rfl, ?_, hnc⟩, ?_⟩
  · simp [results, Tryz.results127, go_sem, b0, b1, b2]
  · refine own_base (base := w.heap.size + 2) ?_ (by omega)
    iterate 4 (refine own_set ?_ (by omega) _)
    exact hown
  · iterate 4 (refine below_set ?_ (by omega) _)
    exact hbel
end Go.Proofs.YtoaiamgcegnjjaaGreatDoor
