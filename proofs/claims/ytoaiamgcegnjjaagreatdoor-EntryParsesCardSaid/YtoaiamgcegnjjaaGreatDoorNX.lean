/- The reference's Parse: what a text is read as is an entry of just that note, or none where there is none. No condition but the bounds that they name. -/
import Derived.Test.YtoaiamgcegnjjaaGreatDoorNW
import Derived.Test.YtoaiamgcegnjjaaGreatDoorNR
import Derived.Deep.RegionHeld3
import Derived.Deep.RegionLaw
import Derived.BigRegion
namespace Go.Proofs.YtoaiamgcegnjjaaGreatDoor
open Go.RowKit Go.Maps Go.WideMaps
set_option maxRecDepth 100000
attribute [local go_sem ↓] ld54_fold st54_fold ld36_fold st36_fold

/-- what the reference's parse comes to -/
def ParseOutR (s : ByteArray) (w' : World) (en : Ending) : Prop := (en = .returned (.tuple #[.agg zero54, .int .i64 2]) ∧ ParseIs s none) ∨ ∃ r : RM, en = .returned (.tuple #[.agg r.row, .int .i64 0]) ∧ ParseIs s (some r.e.ent) ∧ Strs w' w'.heap.size r.kA r.kn r.e.M.ks ∧ r.kn ≤ r.kc ∧ r.e.M.Sz ∧ r.e.mom = 0
theorem ParseOutR.none {s : ByteArray} {w' : World} (h : ParseIs s none) : ParseOutR s w' (.returned (.tuple #[.agg zero54, .int .i64 2])) := .inl ⟨rfl, h⟩
theorem run_st54z {w : World} {g : Nat} {cs v : Array Value} (hk : Blk w g 54 cs) (hs : cs.size = 18) (hv : v.size = 18) (h1 : v.all (·.oneCell') = true) : (st54 (.pointer (some ⟨g, 0, none⟩)) (.agg v)).run Tryz.prog w = .ok () (w.setRow g v) := by
  have := run_storeVar_row (P := Tryz.prog) w g 54 54 cs v hk (by rw [size54, hv]) (by rw [hs, hv]) h1
  simp only [st54, Instr.storeAt, Instr.sureAddr, Sem.run_bind, Sem.run_pure, Result.andThen_ok, this]
theorem row_one (r : RM) : r.row.all (·.oneCell') = true := by simp [Value.oneCell']

/-- the boxes -/
structure RaW (w wr : World) (B : Nat) (A : Option Addr) (nw : Nat) (ws : List ByteArray) (vs : List Int) (A5 : Option Addr) (k c5 : Nat) : Prop where
  below : Below w.heap.size w wr
  res : Blk wr w.heap.size 54 zero54
  hB : w.heap.size < B
  le : B ≤ wr.heap.size
  wds : Strs wr B A nw ws
  own : wr.ownsRow B 2 1 (.slice A5 k c5) k (vs.map (Value.int .i64))
theorem RaW.to {w wr wy : World} {B : Nat} {A A5 : Option Addr} {nw k c5 : Nat} {ws : List ByteArray} {vs : List Int} (h : RaW w wr B A nw ws vs A5 k c5) (hb : Below wr.heap.size wr wy) : RaW w wy B A nw ws vs A5 k c5 :=
  ⟨h.below.trans (hb.mono h.below.size), h.res.below hb h.res.lt, h.hB, Nat.le_trans h.le hb.size, Rd.below h.wds (hb.mono h.le) (Nat.le_refl _), own_kept h.own (gby_of_below hb) (fun _ _ e' => by cases e')⟩
theorem RaW.push {w wr wy : World} {B : Nat} {A A5 A6 : Option Addr} {nw k c5 c6 : Nat} {ws : List ByteArray} {vs : List Int} {x : Int} (h : RaW w wr B A nw ws vs A5 k c5) (hg : wr.grownBy wy (Value.slice A5 k c5).ownBlock) (ho : wy.ownsRow B 2 1 (.slice A6 (k + 1) c6) (k + 1) (vs.map (Value.int .i64) ++ [.int .i64 x])) : RaW w wy B A nw ws (vs ++ [x]) A6 (k + 1) c6 := by
  have hlo : ∀ g, (Value.slice A5 k c5).ownBlock = some g → B ≤ g := fun g hg' => (h.own.lt g hg').1
  have h1 := h.hB
  have h2 := h.le
  have hbB : Below B wr wy := grown_below hg h2 (fun g hg' => hlo g hg')
  exact ⟨h.below.trans (hbB.mono (by omega)), h.res.grown hg (fun e => by have := hlo _ e; omega), h1, Nat.le_trans h2 hg.size, Rd.below h.wds hbB (Nat.le_refl _), by rw [List.map_append]; exact ho⟩

theorem list10 : ∀ {l : List Int}, l.length = 10 → ∃ v0 v1 v2 v3 v4 v5 v6 v7 v8 v9, l = [v0, v1, v2, v3, v4, v5, v6, v7, v8, v9]
  | [v0, v1, v2, v3, v4, v5, v6, v7, v8, v9], _ => ⟨v0, v1, v2, v3, v4, v5, v6, v7, v8, v9, rfl⟩
abbrev rowP (obj t : ByteArray) (wk : Bool) (v0 v2 v3 v4 v5 v6 v7 v8 v9 : Int) (ten : ByteArray) (kp : Bool) : Array Value :=
  #[.int .i64 v0, .string obj, .string t, .bool wk, .int .i64 v4, .int .i64 v5, .int .i64 v6, .int .i64 v7, .int .i64 v8, .int .i64 v9, .slice none 0 0, .string ten, .bool kp, .int .i64 v2, .int .i64 0, .int .i64 v3, .bool false, .slice none 0 0]

set_option maxHeartbeats 8000000 in
theorem rparse_any (s : ByteArray) (w : World) (hs : s.size ≤ 100000) :
    Calls Tryz.prog 42 #[.string s] w fun e w' => ParseOutR s w' e ∧ Below w.heap.size w w' := by
  obtain ⟨i0, hi, hz0, hz1, hz2⟩ := info_parts info9
  obtain ⟨i2, hi2, hy0, hy1, hy2⟩ := info_parts info2
  have hb0 : Below w.heap.size w (w.alloc (.cells zero54 54)) := (Below.refl _ _).alloc (Nat.le_refl _) _
  have kr0 : Blk (w.alloc (.cells zero54 54)) w.heap.size 54 zero54 := Blk.new _ _ _
  have CS := Lib.hid (rwords_any s (w.alloc (.cells zero54 54)) (by omega))
  go_enter Tryz.func42, Tryz.ntmps42
  go_wp2_with fail
  refine CS.out.mono ?_
  rintro e w2 ⟨A, nw, cw, rfl, hst, hnc, hfew, hsz, hb⟩
  have hraw : RaW w w2 w2.heap.size A nw (wordsB s) [] none 0 0 := ⟨hb0.trans (hb.mono hb0.size), kr0.below hb kr0.lt, (kr0.below hb kr0.lt).lt, Nat.le_refl _, hst, by simpa using World.ownsRow_nil w2 w2.heap.size 2 1⟩
  have hlen := hst.len
  have hnone : ∀ wy, RaW w wy w2.heap.size A nw (wordsB s) [] none 0 0 → (st54 (.pointer (some ⟨w.heap.size, 0, none⟩)) (.agg zero54)).run Tryz.prog wy = .ok () (wy.setRow w.heap.size zero54) := fun wy h => run_st54z h.res rfl rfl (by simp [Value.oneCell'])
  have HNONE := Lib.hid hnone
  have HRW := Lib.hid hraw
  have HNW : Hid (∀ e, noteOK e = true → s = noteB e → wordsB s = noteWords e) := fun e h1 h2 => by rw [h2, wordsB_note h1]
  clear CS hb0 kr0 hb hst hraw
  generalize wordsB s = ws at *
  have HSZ := Lib.hid hsz
  have HLEN := Lib.hid hlen
  have HNC := Lib.hid hnc
  clear hsz hlen hnc
  obtain ⟨B, hBB⟩ : ∃ B, w2.heap.size = B := ⟨_, rfl⟩
  rw [hBB] at HRW HNONE
  clear hBB hnone
  go_upto_region 2 with fail
  go_cut [26] (fun v wx => ∃ b : Bool, v = .bool b ∧ wx = w2 ∧ (b = false → 13 ≤ nw ∧ ∃ x, ws[11]? = some x ∧ 0 < x.size) ∧ (b = true → ∀ e, noteOK e = true → s = noteB e → False))
  case first =>
    by_cases h13 : nw < 13
    · go_wp2_with fail
      go_meet
      refine ⟨true, by first | rfl | (simp; omega), rfl, (fun h => by cases h), fun _ e h1 h2 => ?_⟩
      have h3 := congrArg List.length (HNW.out e h1 h2)
      rw [noteWords_len] at h3
      have := HLEN.out
      omega
    · have hl11 : 11 < ws.length := by have := HLEN.out; omega
      obtain ⟨b, o, rfl, hbb, hat⟩ := HRW.out.wds.at_ (by omega)
      have c11 := hat 11 hl11
      have hx : ws[11]? = some ws[11] := List.getElem?_eq_getElem hl11
      have hnx : ∀ e, noteOK e = true → s = noteB e → ws[11] = eqB e.ten := fun e h1 h2 => by
        have h3 := HNW.out e h1 h2
        subst h3
        rfl
      generalize ws[11] = x at *
      have HX := Lib.hid hx
      have HNX := Lib.hid hnx
      clear hx hnx hat
      by_cases h0 : x.size = 0
      · go_wp2_with fail
        go_meet
        refine ⟨true, by first | rfl | (simp; omega), rfl, (fun h => by cases h), fun _ e h1 h2 => ?_⟩
        have h3 := HNX.out e h1 h2
        rw [h3, ← itoaB_len] at h0
        unfold eqB at h0
        rw [ba_mk] at h0
        simp at h0
      · go_wp2_with fail
        go_meet
        exact ⟨false, by simp; exact ⟨by omega, fun h => h0 (by rw [h]; rfl)⟩, rfl, (fun _ => ⟨by omega, x, HX.out, by omega⟩), (fun h => by cases h)⟩
  case rest =>
    obtain ⟨b, rfl, rfl, hb1, hb2⟩ := hcut
    generalize wc = w2 at *
    have HB1 := Lib.hid hb1
    have HB2 := Lib.hid hb2
    clear hb1 hb2
    cases b with
    | true =>
      have st := HNONE.out w2 HRW.out
      go_wp2_with fail
      refine bodyPost_ret (v := .tuple #[.agg zero54, .int .i64 2]) (results_cell_tmp Tryz.results42 _ _ w.heap.size 54 _ (0, 0) _ rfl (setRow_blk HRW.out.res _) Tryz.underlying54 rfl size54) rfl ⟨.none (.no (HB2.out (by first | rfl | trivial))), ?_⟩
      exact HRW.out.below.trans (grown_below (setRow_gby _ _ _) HRW.out.below.size (fun k hk => by injection hk with hk; omega))
    | false =>
      obtain ⟨h13, x11, hx11, hp11⟩ := HB1.out (by first | rfl | trivial)
      have HX11 := Lib.hid hx11
      clear hx11 HB1 HB2
      go_wp2_with fail
      go_loopw [5, 6] (fun s5 s6 wr => ∃ (k : Nat) (vs : List Int) (A5 : Option Addr) (c5 : Nat), k ≤ 10 ∧ s5 = .slice A5 k c5 ∧ s6 = .int .i64 k ∧ Hid (NumsAre s k vs) ∧ Hid (RaW w wr B A nw ws vs A5 k c5)) (fun _ i _ => 10 - (intOf i).toNat)
      case atStart => exact ⟨0, [], none, 0, by omega, rfl, rfl, NumsAre.zero s, HRW⟩
      case round =>
        obtain ⟨k, vs, A5, c5, hk, rfl, rfl, HN, HP⟩ := hrel
        by_cases hlt : k < 10
        · have j1 : (0 : Int) ≤ (k : Int) := by omega
          have j2 : (k : Int) < 10 := by omega
          have j3 : (k : Int) < (nw : Int) := by omega
          go_upto_if 33 with fail
          go_cut [7] (fun v wx => ∃ x : Int, v = .int .i64 x ∧ (∀ e, noteOK e = true → s = noteB e → x = (numsOf e)[k]'(by rw [numsOf_len]; exact hlt)) ∧ Below wr.heap.size wr wx)
          case first =>
            by_cases hk1 : k = 1
            · have HK1 := Lib.hid hk1
              have hki : ¬ (k : Int) ≠ 1 := by omega
              clear hk1
              go_wp2_with fail
              go_meet
              refine ⟨0, rfl, fun e _ _ => ?_, Below.refl _ _⟩
              have := HK1.out
              subst this
              rfl
            · have hki : (k : Int) ≠ 1 := by omega
              have hkl : k < ws.length := by have := HLEN.out; omega
              obtain ⟨b, o, hA, hbb, hat⟩ := HP.out.wds.at_ (by omega)
              subst hA
              have cx := hat k hkl
              have hxs := HSZ.out ws[k] (List.getElem_mem hkl)
              have hxw : ∀ e, noteOK e = true → s = noteB e → ∃ m : Int, m = (numsOf e)[k]'(by rw [numsOf_len]; exact hlt) ∧ -1 ≤ m ∧ m ≤ 1099511627776 ∧ ws[k] = itoaB m := fun e h1 h2 => by
                obtain ⟨h3, h4, h5⟩ := numsOf_word h1 k hlt hk1
                refine ⟨_, rfl, h4, h5, ?_⟩
                have h6 := HNW.out e h1 h2
                subst h6
                rw [List.getElem?_eq_getElem hkl] at h3
                exact Option.some.inj h3
              generalize ws[k] = x at *
              have HXW := Lib.hid hxw
              clear hxw hat hkl hk1
              have st := run_st54z (v := zero54) HP.out.res rfl rfl (by simp [Value.oneCell'])
              go_wp2_with (go_at_call 107; refine (rparsed_any x wr (by omega)).mono ?_; rintro en w3 ⟨⟨m, bb, rfl, hmb⟩, rfl⟩; (have HMB := Lib.hid hmb); clear hmb; cases bb)
              · refine bodyPost_ret (v := .tuple #[.agg zero54, .int .i64 2]) (results_cell_tmp Tryz.results42 _ _ w.heap.size 54 _ (0, 0) _ rfl (setRow_blk HP.out.res _) Tryz.underlying54 rfl size54) rfl ⟨.none (.no fun e h1 h2 => ?_), ?_⟩
                · obtain ⟨m2, _, h4, h5, h6⟩ := HXW.out e h1 h2
                  have := (HMB.out m2 h4 h5 h6).2
                  cases this
                · exact HP.out.below.trans (grown_below (setRow_gby _ _ _) HP.out.below.size (fun k hk => by injection hk with hk; omega))
              · go_meet
                refine ⟨m, rfl, fun e h1 h2 => ?_, Below.refl _ _⟩
                obtain ⟨m2, h3, h4, h5, h6⟩ := HXW.out e h1 h2
                rw [← h3]
                exact (HMB.out m2 h4 h5 h6).1
          case rest =>
            obtain ⟨x, rfl, hx, hb3⟩ := hcut
            have HP3 := Lib.hid (HP.out.to hb3)
            have HN3 : Hid (NumsAre s (k + 1) (vs ++ [x])) := HN.out.next hlt hx
            clear hx hb3 HP HN
            generalize wc = w3 at *
            have hs3 := HP3.out.below.size
            have hba : Below w3.heap.size w3 (w3.alloc (.cells #[.int .i64 x] 2)) := (Below.refl _ _).alloc (Nat.le_refl _) _
            have hpa := HP3.out.to hba
            have hlow := hpa.le
            have HPA := Lib.hid hpa
            clear hpa hba
            go_wp2_with (at_builtin; refine wpList_append_rd _ rfl _ _ 89 rfl B 2 i2 (.int .i64 0) 1 8 Tryz.underlying89 hi2 hy0 hy1 hy2 rfl (by decide) (.slice A5 k c5) k (vs.map (Value.int .i64)) rfl HPA.out.own (some ⟨w3.heap.size, 0, none⟩) 1 1 _ [.int .i64 x] rfl (blk_rd1 (Blk.new w3 2 #[.int .i64 x])) (by simp [Value.oneCell']) (by unfold maxLen; omega) (by omega) hlow ?_; intro A6 c6 w8 hown8 hgrow8 hnc8 hat8; have HO8 := Lib.hid hown8; have HG8 := Lib.hid hgrow8; clear hown8 hgrow8 hat8 hnc8; refine Hid.out ?_)
            refine Lib.hid ?_
            have HP8 : Hid (RaW w w8 B A nw ws (vs ++ [x]) A6 (k + 1) c6) := HPA.out.push HG8.out HO8.out
            clear HPA HO8 HG8 HP3
            go_wp2_with fail
            go_roundw
            case rel => exact ⟨k + 1, vs ++ [x], A6, c6, by omega, rfl, by go_num, HN3, HP8⟩
            case measure => simp [intOf]; omega
        · obtain rfl : k = 10 := by omega
          have hl12 : 12 < ws.length := by have := HLEN.out; omega
          obtain ⟨b, o, hA, hbb, hat⟩ := HP.out.wds.at_ (by omega)
          subst hA
          have hcs : ∀ wy, Below wr.heap.size wr wy → wy.cell? ⟨b, o + 1, none⟩ = some (.string ws[1]) ∧ wy.cell? ⟨b, o + 10, none⟩ = some (.string ws[10]) ∧ wy.cell? ⟨b, o + 11, none⟩ = some (.string ws[11]) ∧ wy.cell? ⟨b, o + 12, none⟩ = some (.string ws[12]) := fun wy hb => by
            have hlt : b < wr.heap.size := Nat.lt_of_lt_of_le hbb HP.out.le
            exact ⟨(hb.cell hlt).trans (hat 1 (by omega)), (hb.cell hlt).trans (hat 10 (by omega)), (hb.cell hlt).trans (hat 11 (by omega)), (hb.cell hlt).trans (hat 12 (by omega))⟩
          have hnt : ∀ e, noteOK e = true → s = noteB e → ws[1] = e.obj ∧ ws[10] = keepB e.kp ∧ ws[11] = eqB e.ten ∧ ws[12] = tagText e.t e.wk ∧ ws.drop 13 = e.ks := fun e h1 h2 => by
            have h3 := HNW.out e h1 h2
            subst h3
            exact ⟨rfl, rfl, rfl, rfl, rfl⟩
          have z11 := HSZ.out ws[11] (List.getElem_mem (by omega))
          have z12 := HSZ.out ws[12] (List.getElem_mem (by omega))
          have p11 : 0 < (ws[11]).size := by
            have := HX11.out
            rw [List.getElem?_eq_getElem (by omega)] at this
            injection this with this
            rw [this]; exact hp11
          generalize ws[1] = x1 at *
          generalize ws[10] = x10 at *
          generalize ws[11] = y11 at *
          generalize ws[12] = x12 at *
          have HCS := Lib.hid hcs
          have HNT := Lib.hid hnt
          have HNF := Lib.hid HN.out.full
          have hv10 := HN.out.1
          have c12 := (hcs wr (Below.refl _ _)).2.2.2
          clear hcs hnt hat
          go_wp2_with (go_at_call 108; refine (rtagParse_any x12 wr (by omega)).mono ?_; rintro en w3 ⟨⟨t, wk, er, rfl, ht1, ht2⟩, hb3⟩; refine Hid.out ?_)
          refine Lib.hid ?_
          have HTG : Hid (∀ e, noteOK e = true → s = noteB e → t = e.t ∧ wk = e.wk ∧ er = 0) := by
            show ∀ e, noteOK e = true → s = noteB e → _
            intro e h1 h2
            have h3 := noteIs h1
            have h4 := ht2 e.t h3.tag (by rw [(HNT.out e h1 h2).2.2.2.1, h3.strong, tagText_ok h3.tag])
            exact ⟨h4.1, h4.2.1.trans h3.strong.symm, h4.2.2⟩
          have HT1 := Lib.hid ht1
          have s36 := run_st36 (a := .string t) (b := .bool wk) (Blk.new w3 36 #[.string ⟨#[]⟩, .bool false]) rfl (by simp [Value.oneCell'])
          have k36 : Blk ((w3.alloc (.cells #[.string ⟨#[]⟩, .bool false] 36)).setRow w3.heap.size #[.string t, .bool wk]) w3.heap.size 36 #[.string t, .bool wk] := setRow_blk (Blk.new w3 36 #[.string ⟨#[]⟩, .bool false]) _
          have hb4 : Below wr.heap.size wr ((w3.alloc (.cells #[.string ⟨#[]⟩, .bool false] 36)).setRow w3.heap.size #[.string t, .bool wk]) := (hb3.alloc hb3.size _).trans (grown_below (setRow_gby _ _ _) (by have := hb3.size; simp; omega) (fun k hk => by injection hk with hk; have := hb3.size; omega))
          clear ht1 ht2 hb3 c12
          go_upto_region 16 with fail
          generalize ((w3.alloc (.cells #[.string ⟨#[]⟩, .bool false] 36)).setRow w3.heap.size #[.string t, .bool wk]) = w4 at *
          generalize w3.heap.size = g10 at *
          have HP4 := Lib.hid (HP.out.to hb4)
          have HC4 := Lib.hid (HCS.out w4 hb4)
          have K36 := Lib.hid k36
          clear s36 k36 hb4 HCS HP
          by_cases her : er = 0
          case neg =>
            have st := run_st54z (v := zero54) HP4.out.res rfl rfl (by simp [Value.oneCell'])
            have HER := Lib.hid her
            go_wp2_with fail
            refine bodyPost_ret (v := .tuple #[.agg zero54, .int .i64 2]) (results_cell_tmp Tryz.results42 _ _ w.heap.size 54 _ (0, 0) _ rfl (setRow_blk HP4.out.res _) Tryz.underlying54 rfl size54) rfl ⟨.none (.no fun e h1 h2 => HER.out (HTG.out e h1 h2).2.2), ?_⟩
            exact HP4.out.below.trans (grown_below (setRow_gby _ _ _) HP4.out.below.size (fun k hk => by injection hk with hk; omega))
          case pos =>
            subst her
            go_upto_region 18 with fail
            obtain ⟨v0, v1, v2, v3, v4, v5, v6, v7, v8, v9, rfl⟩ := list10 hv10
            obtain ⟨b5, o5, hA5, hb5, hat5⟩ := (own_rd HP4.out.own).2 (by omega)
            subst hA5
            have hb5' : b5 < w4.heap.size := hb5
            have hbb' : b < w4.heap.size := Nat.lt_of_lt_of_le hbb HP4.out.le
            have hall : ∀ wy, Below w4.heap.size w4 wy → wy.cell? ⟨b5, o5, none⟩ = some (.int .i64 v0) ∧ wy.cell? ⟨b5, o5 + 2, none⟩ = some (.int .i64 v2) ∧ wy.cell? ⟨b5, o5 + 3, none⟩ = some (.int .i64 v3) ∧ wy.cell? ⟨b5, o5 + 4, none⟩ = some (.int .i64 v4) ∧ wy.cell? ⟨b5, o5 + 5, none⟩ = some (.int .i64 v5) ∧ wy.cell? ⟨b5, o5 + 6, none⟩ = some (.int .i64 v6) ∧ wy.cell? ⟨b5, o5 + 7, none⟩ = some (.int .i64 v7) ∧ wy.cell? ⟨b5, o5 + 8, none⟩ = some (.int .i64 v8) ∧ wy.cell? ⟨b5, o5 + 9, none⟩ = some (.int .i64 v9) ∧ wy.cell? ⟨b, o + 1, none⟩ = some (.string x1) ∧ wy.cell? ⟨b, o + 10, none⟩ = some (.string x10) ∧ wy.cell? ⟨b, o + 11, none⟩ = some (.string y11) ∧ (ld36 (.pointer (some ⟨g10, 0, none⟩))).run Tryz.prog wy = .ok (.agg #[.string t, .bool wk]) wy := fun wy hb => by
              obtain ⟨d1, d10, d11, d12⟩ := HC4.out
              exact ⟨(hb.cell hb5').trans (hat5 0 (by simp)), (hb.cell hb5').trans (hat5 2 (by simp)), (hb.cell hb5').trans (hat5 3 (by simp)), (hb.cell hb5').trans (hat5 4 (by simp)), (hb.cell hb5').trans (hat5 5 (by simp)), (hb.cell hb5').trans (hat5 6 (by simp)), (hb.cell hb5').trans (hat5 7 (by simp)), (hb.cell hb5').trans (hat5 8 (by simp)), (hb.cell hb5').trans (hat5 9 (by simp)), (hb.cell hbb').trans d1, (hb.cell hbb').trans d10, (hb.cell hbb').trans d11, run_ld36 (K36.out.below hb K36.out.lt)⟩
            have HALL := Lib.hid hall
            have n1 : (1 : Int) < (nw : Int) := by omega
            have n10 : (10 : Int) < (nw : Int) := by omega
            have n11 : (11 : Int) < (nw : Int) := by omega
            have q11 : (1 : Int) ≤ (y11.size : Int) := by omega
            have s54a := run_st54z (w := (w4.alloc (.cells zero54 54)).drew) (v := rowP x1 t wk v0 v2 v3 v4 v5 v6 v7 v8 v9 (y11.extract 1 y11.size) (x10.toList == [107, 101, 101, 112])) (Blk.new w4 54 zero54).drew rfl rfl (by simp [Value.oneCell'])
            have hst4 : Below w4.heap.size w4 (((w4.alloc (.cells zero54 54)).drew).setRow w4.heap.size (rowP x1 t wk v0 v2 v3 v4 v5 v6 v7 v8 v9 (y11.extract 1 y11.size) (x10.toList == [107, 101, 101, 112]))) := ((Below.refl _ _).alloc (Nat.le_refl _) _).drew.trans (grown_below (setRow_gby _ _ _) (by simp) (fun k hk => by injection hk with hk; omega))
            have HST4 := Lib.hid hst4
            clear hat5 hall hst4
            go_cut [12] (fun v wx => ∃ g12, v = .pointer (some ⟨g12, 0, none⟩) ∧ Blk wx g12 54 (rowP x1 t wk v0 v2 v3 v4 v5 v6 v7 v8 v9 (y11.extract 1 y11.size) (x10.toList == [107, 101, 101, 112])) ∧ w4.heap.size ≤ g12 ∧ Below w4.heap.size w4 wx)
            case first =>
              go_region_held3 (fun wy => wy.cell? ⟨b5, o5, none⟩ = some (.int .i64 v0) ∧ wy.cell? ⟨b5, o5 + 2, none⟩ = some (.int .i64 v2) ∧ wy.cell? ⟨b5, o5 + 3, none⟩ = some (.int .i64 v3) ∧ wy.cell? ⟨b5, o5 + 4, none⟩ = some (.int .i64 v4) ∧ wy.cell? ⟨b5, o5 + 5, none⟩ = some (.int .i64 v5) ∧ wy.cell? ⟨b5, o5 + 6, none⟩ = some (.int .i64 v6) ∧ wy.cell? ⟨b5, o5 + 7, none⟩ = some (.int .i64 v7) ∧ wy.cell? ⟨b5, o5 + 8, none⟩ = some (.int .i64 v8) ∧ wy.cell? ⟨b5, o5 + 9, none⟩ = some (.int .i64 v9) ∧ wy.cell? ⟨b, o + 1, none⟩ = some (.string x1) ∧ wy.cell? ⟨b, o + 10, none⟩ = some (.string x10) ∧ wy.cell? ⟨b, o + 11, none⟩ = some (.string y11) ∧ (ld36 (.pointer (some ⟨g10, 0, none⟩))).run Tryz.prog wy = .ok (.agg #[.string t, .bool wk]) wy)
                (first
                  | exact HALL.out _ ((Below.refl _ _).alloc (Nat.le_refl _) _).drew
                  | exact HALL.out _ (Below.refl _ _).drew
                  | exact HALL.out _ HST4.out)
                (first
                  | (fail_if_success (have hZZ : True := trivial); skip))
              all_goals
                go_wp2_with fail
                go_meet
                exact ⟨_, rfl, setRow_blk (Blk.new w4 54 zero54).drew _, Nat.le_refl _, HST4.out⟩
            case rest =>
              obtain ⟨g12, rfl, k12, hg12, hb5⟩ := hcut
              generalize wc = w5 at *
              generalize hkp : (x10.toList == [107, 101, 101, 112]) = kp at *
              have HKP : Hid (∀ e, noteOK e = true → s = noteB e → kp = e.kp) := by
                show ∀ e, noteOK e = true → s = noteB e → kp = e.kp
                intro e h1 h2
                rw [← hkp, (HNT.out e h1 h2).2.1, ByteArray.toList_eq]
                cases e.kp <;> rfl
              have HTN : Hid (∀ e, noteOK e = true → s = noteB e → y11.extract 1 y11.size = e.ten) := by
                show ∀ e, noteOK e = true → s = noteB e → _
                intro e h1 h2
                rw [(HNT.out e h1 h2).2.2.1]
                refine ba_ext ?_
                rw [extract_list, ← itoaB_len]
                unfold eqB
                rw [ba_mk]
                simp
                exact List.take_of_length_le (by rw [itoaB_len]; exact Nat.le_refl _)
              have zten : (y11.extract 1 y11.size).size ≤ 100000 := by rw [ByteArray.size_extract]; omega
              clear hkp
              generalize y11.extract 1 y11.size = ten at *
              have HP5 := Lib.hid (HP4.out.to hb5)
              have K12 := Lib.hid k12
              have hg12' : w.heap.size < g12 := by have := HP4.out.res.lt; omega
              have hwB : B ≤ w5.heap.size := HP5.out.le
              have hl12' : g12 < w5.heap.size := k12.lt
              clear k12 hb5 HP4 HC4 K36 HALL HST4
              have hrd : Rd w5 w5.heap.size 1 (some ⟨b, o + 13, none⟩) (nw - 13) ((ws.drop 13).map Value.string) := by
                refine ⟨by have := HLEN.out; simp; omega, fun hn => ⟨b, o + 13, rfl, by omega, fun j hj => ?_⟩⟩
                obtain ⟨b', o', hA, hb', hat⟩ := HP5.out.wds.at_ (by omega)
                injection hA with hA
                injection hA with h1 h2
                subst h1 h2
                have hj2 : 13 + j < ws.length := by simp at hj; omega
                have := hat (13 + j) hj2
                rw [show o + 13 + j = o + (13 + j) by omega, this]
                simp
              have HRD := Lib.hid hrd
              clear hrd
              have c10 : w5.cell? ⟨g12, 10, none⟩ = some (.slice none 0 0) := (K12.out.cell 10).trans rfl
              have n13 : (13 : Int) ≤ (nw : Int) := by omega
              have hcw : nw ≤ cw := HNC.out
              have OWN0 : Hid (w5.drew.ownsRow w5.heap.size 9 1 (.slice none 0 0) 0 []) := World.ownsRow_nil _ _ _ _
              have HFIN : Hid (∀ (w10 : World) (A10 : Option Addr) (n10 c10 : Nat), n10 = nw - 13 → w10.ownsRow w5.heap.size 9 1 (.slice A10 n10 c10) n10 ((ws.drop 13).map Value.string) → w5.drew.grownBy w10 none → StrsUp (w.heap.size + 1) (w10.setCell ⟨g12, 10, none⟩ (.slice A10 n10 c10)) A10 n10 (ws.drop 13) ∧ Blk (w10.setCell ⟨g12, 10, none⟩ (.slice A10 n10 c10)) g12 54 ((rowP x1 t wk v0 v2 v3 v4 v5 v6 v7 v8 v9 ten kp).setIfInBounds 10 (.slice A10 n10 c10)) ∧ Blk (w10.setCell ⟨g12, 10, none⟩ (.slice A10 n10 c10)) w.heap.size 54 zero54 ∧ Below w.heap.size w (w10.setCell ⟨g12, 10, none⟩ (.slice A10 n10 c10)) ∧ w10.cell? ⟨g12, 10, none⟩ = some (.slice none 0 0) ∧ (∀ i, w10.frozen? ⟨g12, i, none⟩ = false)) := by
                show ∀ (w10 : World) (A10 : Option Addr) (n10 c10 : Nat), _
                intro w10 A10 n10 c10 hn10 hown hgrow
                have hbw : Below w5.heap.size w5 w10 := (Below.refl _ _).drew.trans (grown_below hgrow (Nat.le_refl _) (fun k hk => by cases hk))
                have k10 := K12.out.below hbw hl12'
                have r10 := HP5.out.res.below hbw (by omega)
                have hbl := HP5.out.below.trans (hbw.mono (by omega))
                have hown2 : (w10.setCell ⟨g12, 10, none⟩ (.slice A10 n10 c10)).ownsRow w5.heap.size 9 1 (.slice A10 n10 c10) n10 ((ws.drop 13).map Value.string) := own_kept hown (gby_set (gby_refl _ _) 10 _) (fun g' hg' e' => by
                  have h1 := (hown.lt g' hg').1
                  injection e' with e'
                  omega)
                exact ⟨⟨own_rd hown2, fun b o e => by have := own_lo hown2 b o e; omega⟩, k10.set 10 _, r10.far (by omega) _, below_set hbl (by omega) _, (k10.cell 10).trans rfl, k10.free'⟩
              go_upto_region 19 with fail
              go_cut [4] (fun _ wx => ∃ A n c, n = nw - 13 ∧ n ≤ c ∧ StrsUp (w.heap.size + 1) wx A n (ws.drop 13) ∧ Blk wx g12 54 ((rowP x1 t wk v0 v2 v3 v4 v5 v6 v7 v8 v9 ten kp).setIfInBounds 10 (.slice A n c)) ∧ Blk wx w.heap.size 54 zero54 ∧ Below w.heap.size w wx)
              case first =>
                by_cases hc13 : cw = 13
                · obtain rfl : nw = 13 := by omega
                  subst hc13
                  have hnil : ws.drop 13 = [] := List.drop_eq_nil_iff.2 (by have := HLEN.out; omega)
                  have HNIL := Lib.hid hnil
                  clear hnil
                  go_region_law ((refine step_append_rd w5.drew (by rfl) _ _ _ (by rfl) w5.heap.size 9 i0 (.string ByteArray.empty) 1 16 Tryz.underlying37 hi hz0 hz1 hz2 rfl (by decide) (.slice none 0 0) 0 [] (by rfl) OWN0.out (some ⟨b, o, none⟩) 0 0 w5.heap.size [] (by rfl) Rd.nil (by simp) (by unfold maxLen; omega) (by omega) (Nat.le_refl _) ?_); intro A10 c10' w10 hown10 hgrow10 hnc10; (simp only [Nat.zero_add, List.nil_append] at hown10 hnc10 ⊢); (have HF := Lib.hid (HFIN.out w10 A10 0 c10' rfl (by rw [HNIL.out]; exact hown10) hgrow10)); (have HNC10 := Lib.hid hnc10); (have p10 := HF.out.2.2.2.2.1); (have pf := HF.out.2.2.2.2.2); clear hown10 hgrow10 hnc10)
                  all_goals
                    go_wp2_with fail
                    go_meet
                    exact ⟨A10, 0, c10', rfl, HNC10.out, HF.out.1, HF.out.2.1, HF.out.2.2.1, HF.out.2.2.2.1⟩
                · go_region_law ((refine step_append_rd w5.drew (by rfl) _ _ _ (by rfl) w5.heap.size 9 i0 (.string ByteArray.empty) 1 16 Tryz.underlying37 hi hz0 hz1 hz2 rfl (by decide) (.slice none 0 0) 0 [] (by rfl) OWN0.out (some ⟨b, o + 13, none⟩) (nw - 13) (cw - 13) _ ((ws.drop 13).map Value.string) (by rfl) HRD.out (oneCell_strings _) (by unfold maxLen; omega) (by omega) (Nat.le_refl _) ?_); intro A10 c10' w10 hown10 hgrow10 hnc10; (simp only [Nat.zero_add, List.nil_append] at hown10 hnc10 ⊢); (have HF := Lib.hid (HFIN.out w10 A10 (nw - 13) c10' rfl hown10 hgrow10)); (have HNC10 := Lib.hid hnc10); (have p10 := HF.out.2.2.2.2.1); (have pf := HF.out.2.2.2.2.2); clear hown10 hgrow10 hnc10)
                  all_goals
                    go_wp2_with fail
                    go_meet
                    exact ⟨A10, nw - 13, c10', rfl, HNC10.out, HF.out.1, HF.out.2.1, HF.out.2.2.1, HF.out.2.2.2.1⟩
              case rest =>
                obtain ⟨A11, n11, c11, hn11, hnc, hst, hk12, hres, hbl⟩ := hcut
                generalize wc = w11 at *
                obtain ⟨r, hr⟩ : ∃ r : RM, r = (⟨⟨v0, x1, ⟨t, wk, v4, v5, v6, v7, v8, v9, ws.drop 13, ten, kp⟩, v2, 0, v3, false, []⟩, A11, n11, c11, none, 0, 0⟩ : RM) := ⟨_, rfl⟩
                have hrow : (rowP x1 t wk v0 v2 v3 v4 v5 v6 v7 v8 v9 ten kp).setIfInBounds 10 (.slice A11 n11 c11) = r.row := by rw [hr]; rfl
                have hent : r.e.ent = entOf [v0, v1, v2, v3, v4, v5, v6, v7, v8, v9] x1 t wk (ws.drop 13) ten kp := by rw [hr]; rfl
                have hkk : r.e.M.ks = ws.drop 13 := by rw [hr]
                have hkA : r.kA = A11 := by rw [hr]
                have hkn : r.kn = n11 := by rw [hr]
                have hkc : r.kc = c11 := by rw [hr]
                have hmom : r.e.mom = 0 := by rw [hr]
                have hsz : r.e.M.Sz := by
                  rw [hr]
                  refine ⟨?_, ?_, fun q hq => ?_⟩
                  · have := HT1.out; show t.size ≤ _; omega
                  · show ten.size ≤ _; omega
                  · have := HSZ.out q (List.mem_of_mem_drop hq); omega
                have HPE : Hid (∀ e, noteOK e = true → s = noteB e → r.e.ent = e.bare) := by
                  show ∀ e, noteOK e = true → s = noteB e → _
                  intro e h1 h2
                  obtain ⟨f1, _, _, _, f2⟩ := HNT.out e h1 h2
                  obtain ⟨f3, f4, _⟩ := HTG.out e h1 h2
                  rw [hent, HNF.out e h1 h2, f1, f3, f4, f2, HTN.out e h1 h2, HKP.out e h1 h2]
                  exact entOf_nums e
                have hbare : r.e.ent.bare = r.e.ent := by rw [hent]; rfl
                rw [hrow] at hk12
                rw [← hkk, ← hkA, ← hkn] at hst
                have hkn2 : r.kn ≤ 1000000 := by omega
                have hkc2 : r.kn ≤ r.kc := by omega
                have l54 := run_ld54b hk12
                have CT := Lib.hid (rtext_any r w11 hst.1 hkn2 hsz)
                have HST := Lib.hid hst
                have HBA := Lib.hid hbare
                have HK12 := Lib.hid hk12
                have HRES := Lib.hid hres
                have HBL := Lib.hid hbl
                clear hst hkk hbare hk12 hres hbl hrow hent hkA hkn hkc hr hn11 hnc HKP HTN HTG HNT HNF HN HP5 K12 HFIN OWN0 HRD c10
                go_wp2_with (go_at_call 39; refine CT.out.mono ?_; rintro en w12 ⟨rfl, hb12⟩; refine Hid.out ?_)
                refine Lib.hid ?_
                have HK := Lib.hid (HK12.out.below hb12 HK12.out.lt)
                have HR := Lib.hid (HRES.out.below hb12 HRES.out.lt)
                have HB := Lib.hid (HBL.out.trans (hb12.mono HBL.out.size))
                have HST12 := Lib.hid (HST.out.below hb12)
                clear hb12 l54 CT HK12 HRES HBL HST
                have l54 := run_ld54b HK.out
                by_cases hgood : noteOK r.e.ent = true ∧ noteB r.e.ent = s
                · obtain ⟨g1, g2⟩ := hgood
                  have PI : Hid (ParseIs s (some r.e.ent)) := ParseIs.yes g1 g2 HBA.out
                  rw [textV_ok g1, g2]
                  have st := run_st54z (v := r.row) HR.out rfl rfl (row_one r)
                  clear g1 g2
                  go_wp2_with fail
                  refine bodyPost_ret (v := .tuple #[.agg r.row, .int .i64 0]) (results_cell_tmp Tryz.results42 _ _ w.heap.size 54 _ (0, 0) _ rfl (setRow_blk HR.out _) Tryz.underlying54 rfl size54) rfl ⟨.inr ⟨r, rfl, PI.out, HST12.out.row (by omega) _, hkc2, hsz, hmom⟩, ?_⟩
                  exact HB.out.trans (grown_below (setRow_gby _ _ _) HB.out.size (fun k hk => by injection hk with hk; omega))
                · have PN : Hid (ParseIs s none) := ParseIs.diff HPE.out (by
                    by_cases h1 : noteOK r.e.ent = true
                    · exact .inr fun h2 => hgood ⟨h1, h2⟩
                    · exact .inl (by simpa using h1))
                  have st := run_st54z (v := zero54) HR.out rfl rfl (by simp [Value.oneCell'])
                  have hte : ¬ (noteE r.e.ent = 0 ∧ noteT r.e.ent = s) := by
                    rintro ⟨h1, h2⟩
                    by_cases h3 : noteOK r.e.ent = true
                    · have h4 : noteT r.e.ent = noteB r.e.ent := by unfold noteT; rw [if_pos h3]
                      exact hgood ⟨h3, by rw [← h4, h2]⟩
                    · unfold noteE at h1
                      rw [if_neg h3] at h1
                      cases h1
                  unfold textV
                  generalize noteE r.e.ent = ne at *
                  generalize noteT r.e.ent = nt at *
                  go_upto_region 21 with fail
                  go_cut [120] (fun v wx => v = .bool true ∧ wx = w12)
                  case first =>
                    by_cases h1 : ne = 0
                    · have h2 : ¬ nt = s := fun h2 => hte ⟨h1, h2⟩
                      have hne : ¬ nt.toList = s.toList := fun h => h2 (ba_ext (by rw [← ByteArray.toList_eq, ← ByteArray.toList_eq, h]))
                      subst h1
                      clear hte h2
                      go_wp2_with fail
                      go_meet
                      exact ⟨by first | rfl | (simp; assumption), rfl⟩
                    · clear hte
                      go_wp2_with fail
                      go_meet
                      exact ⟨by first | rfl | simp, rfl⟩
                  case rest =>
                    obtain ⟨rfl, rfl⟩ := hcut
                    generalize wc = w12 at *
                    go_wp2_with fail
                    refine bodyPost_ret (v := .tuple #[.agg zero54, .int .i64 2]) (results_cell_tmp Tryz.results42 _ _ w.heap.size 54 _ (0, 0) _ rfl (setRow_blk HR.out _) Tryz.underlying54 rfl size54) rfl ⟨.none PN.out, ?_⟩
                    exact HB.out.trans (grown_below (setRow_gby _ _ _) HB.out.size (fun k hk => by injection hk with hk; omega))
end Go.Proofs.YtoaiamgcegnjjaaGreatDoor
