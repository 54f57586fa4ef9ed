/- The reference's Use. No condition but that the table's versions are in their bounds. -/
import Derived.Test.YtoaiamgcegnjjaaGreatDoorVB
namespace Go.Proofs.YtoaiamgcegnjjaaGreatDoor
open Go.RowKit Go.Maps Go.WideMaps Go.Sort
set_option maxRecDepth 100000
attribute [local go_sem ↓] ld54_fold st54_fold ld39_fold

abbrev metaM (M : MetaS) (A : Option Addr) (n c : Nat) : Array Value := metaC M.t M.wk M.mo M.le M.ha M.fr M.wh M.er A n c M.ten M.kp
theorem run_ld39r {w : World} {g : Nat} {r : RM} (h : Blk w g 54 r.row) : (ld39 (.pointer (some ⟨g, 2, none⟩))).run Tryz.prog w = .ok (.agg (metaM r.e.M r.kA r.kn r.kc)) w := by
  refine run_loadAt_mid w g 2 39 (metaM r.e.M r.kA r.kn r.kc).toList _ (fun j v hj => ?_) Tryz.underlying39 rfl size39
  have : ∀ k, w.cell? ⟨g, k, none⟩ = r.row[k]? := h.cell
  rw [this]
  match j, hj with
  | 0, hj | 1, hj | 2, hj | 3, hj | 4, hj | 5, hj | 6, hj | 7, hj | 8, hj | 9, hj | 10, hj => exact hj

theorem bestR_snoc {obj : ByteArray} {mo : Int} {U : RE → Bool} {L : List RE} {k : Nat} (hk : k < L.length) : bestR obj mo U (L.take (k + 1)) = stepR obj mo U (bestR obj mo U (L.take k)) L[k] := by
  unfold bestR
  rw [List.take_succ_eq_append_getElem hk, List.foldl_append]
  rfl
theorem restR_drop {obj : ByteArray} {U : RE → Bool} {st : RE → Int} {L : List RE} {k : Nat} (hk : k < L.length) : restR obj U st (L.drop k) = if skip2R obj U L[k] = true then restR obj U st (L.drop (k + 1)) else if st L[k] < 4 then (L[k].id, st L[k]) else restR obj U st (L.drop (k + 1)) := by
  rw [List.drop_eq_getElem_cons hk]
  rfl

/-- the boxes of the reference's Use -/
structure UB3 (w wx : World) (v : Array Value) (ti mo ge : Int) (p : Array Value) : Prop where
  below : Below w.heap.size w wx
  tab : Blk wx w.heap.size 32 v
  ask : Blk wx (w.heap.size + 1) 45 #[.int .i64 ti, .int .i64 mo, .int .i64 ge]
  pur : Blk wx (w.heap.size + 1 + 1) 67 p
theorem UB3.to {w wx wy : World} {v : Array Value} {ti mo ge : Int} {p : Array Value} (h : UB3 w wx v ti mo ge p) (hb : Below wx.heap.size wx wy) : UB3 w wy v ti mo ge p :=
  ⟨h.below.trans (hb.mono h.below.size), h.tab.below hb h.tab.lt, h.ask.below hb h.ask.lt, h.pur.below hb h.pur.lt⟩

section
variable {w : World} {base m : Nat} {v : Array Value} {x : RTab} {LA NA : Option Addr} {ln lc nn nc : Nat} {rs : List RM}
set_option maxHeartbeats 8000000 in
theorem ruse_any (h : RT w base m v x LA ln lc NA nn nc rs) (hB : base ≤ w.heap.size) (hm : m ≤ 9000) (hG : ∀ e ∈ x.L, e.Gd) (obj : ByteArray) (ti mo ge : Int) (PA : Option Addr) (pn pc : Nat) (fl : Int) (ms : List LineM) (B : Nat) (hP : PurR w B PA pn ms) (hBp : B ≤ w.heap.size) :
    Calls Tryz.prog 28 #[.agg v, .string obj, .agg #[.int .i64 ti, .int .i64 mo, .int .i64 ge], .agg #[.slice PA pn pc, .int .i64 fl]] w fun e w' => e = .returned (.tuple #[.int .i64 (useR x.L obj mo (fun e => underR fl (ms.map (·.l)) e ge true) (stR fl (ms.map (·.l)) ti ge)).1, .int .i64 (useR x.L obj mo (fun e => underR fl (ms.map (·.l)) e ge true) (stR fl (ms.map (·.l)) ti ge)).2]) ∧ Below w.heap.size w w' := by
  have hlf := h.lfew
  have HL := Lib.hid h.len
  have HR := Lib.hid h
  have HG := Lib.hid hG
  have HP := Lib.hid hP
  have hv' := h.val
  subst hv'
  clear h hG hP
  generalize hU : (fun e => underR fl (ms.map (·.l)) e ge true) = U
  have HU := Lib.hid hU
  have hub : UB3 w (((w.alloc (.cells #[.slice LA ln lc, .slice NA nn nc, .int .i64 x.next] 32)).alloc (.cells #[.int .i64 ti, .int .i64 mo, .int .i64 ge] 45)).alloc (.cells #[.slice PA pn pc, .int .i64 fl] 67)) #[.slice LA ln lc, .slice NA nn nc, .int .i64 x.next] ti mo ge #[.slice PA pn pc, .int .i64 fl] := by
    refine ⟨(((Below.refl _ _).alloc (Nat.le_refl _) _).alloc (by simp) _).alloc (by simp; omega) _, ((Blk.new w 32 _).alloc _).alloc _, (new2 w _ 45 _).alloc _, ?_⟩
    have := new2 (w.alloc (.cells #[.slice LA ln lc, .slice NA nn nc, .int .i64 x.next] 32)) (.cells #[.int .i64 ti, .int .i64 mo, .int .i64 ge] 45) 67 #[.slice PA pn pc, .int .i64 fl]
    simpa using this
  go_enter Tryz.func28, Tryz.ntmps28
  go_upto_region 1 with fail
  generalize ((w.alloc (.cells #[.slice LA ln lc, .slice NA nn nc, .int .i64 x.next] 32)).alloc (.cells #[.int .i64 ti, .int .i64 mo, .int .i64 ge] 45)).alloc (.cells #[.slice PA pn pc, .int .i64 fl] 67) = w0 at *
  have HUB := Lib.hid hub
  have hs0 := hub.pur.lt
  clear hub hU
  -- Under, wherever it is called
  have CU : Hid (∀ wy, Below w.heap.size w wy → ∀ r ∈ rs, ∀ hd : Bool, Calls Tryz.prog 23 #[.agg #[.slice PA pn pc, .int .i64 fl], .agg r.row, .int .i64 ge, .bool hd] wy fun e w' => e = .returned (.bool (underR fl (ms.map (·.l)) r.e ge hd)) ∧ Below wy.heap.size wy w') := by
    show ∀ wy, Below w.heap.size w wy → _
    intro wy hb r hr hd
    have hok := (HR.out.below hb hB).ok r hr
    refine runder_any PA pn pc fl ms r ge hd B wy (HP.out.below (hb.mono hBp)) (Nat.le_trans hBp hb.size) hok.keys.rd ?_
    have h1 := hok.keys.1
    have h2 := hok.few
    rw [List.length_map] at h1
    omega
  go_wp2_with fail
  go_loopw [10, 11] (fun bi i wr => ∃ k : Nat, k ≤ ln ∧ i = .int .i64 k ∧ ∃ b : Option Nat, bi = .int .i64 (findI b) ∧ (∀ j, b = some j → j < ln) ∧ bestR obj mo U (x.L.take k) = b.bind (fun j => x.L[j]?) ∧ Below w0.heap.size w0 wr) (fun _ i _ => ln - (intOf i).toNat)
  case atStart => exact ⟨0, Nat.zero_le _, rfl, none, rfl, (fun j h => by cases h), rfl, Below.refl _ _⟩
  case round =>
    obtain ⟨k, hk, rfl, b, rfl, hbj, hbest, hbr⟩ := hrel
    have HBJ := Lib.hid hbj
    have HBEST := Lib.hid hbest
    have HBR := Lib.hid hbr
    have hubr := HUB.out.to hbr
    have HUr := Lib.hid hubr
    have hsr := hbr.size
    have c0 : wr.cell? ⟨w.heap.size, 0, none⟩ = some (.slice LA ln lc) := (hubr.tab.cell 0).trans rfl
    clear hbj hbest hbr hubr
    by_cases hlt : k < ln
    · obtain ⟨bb, o, rfl, hbl, h1, h2, he, er, hok⟩ := (HR.out.below HUr.out.below hB).at_ hlt
      have hrm := List.getElem_mem h1
      have HST : Hid (bestR obj mo U (x.L.take (k + 1)) = stepR obj mo U (b.bind (fun j => x.L[j]?)) rs[k].e) := by
        show bestR obj mo U (x.L.take (k + 1)) = _
        rw [bestR_snoc h2, HBEST.out, he]
      have HEK : Hid (x.L[k]? = some rs[k].e) := by
        show x.L[k]? = some rs[k].e
        rw [List.getElem?_eq_getElem h2, he]
      have ER := Lib.hid er
      have HRM := Lib.hid hrm
      clear he er hok hrm
      generalize rs[k] = r at *
      have l7 : (ld54 (.pointer (some ⟨bb, o + k * 18, none⟩))).run Tryz.prog wr = .ok (.agg r.row) wr := run_ld54 ER.out
      have s7 : (st54 (.pointer (some ⟨wr.heap.size, 0, none⟩)) (.agg r.row)).run Tryz.prog (wr.alloc (.cells zero54 54)) = .ok () (wr.alloc (.cells r.row 54)) := by
        rw [run_st54 (Blk.new wr 54 zero54) rfl, World.setRow_alloc_new]
      have i1 : (0 : Int) ≤ (k : Int) := by omega
      have i2 : (k : Int) < (ln : Int) := by omega
      go_upto_region 6 with fail
      clear l7 s7
      have hbx : Below wr.heap.size wr (wr.alloc (.cells r.row 54)) := (Below.refl _ _).alloc (Nat.le_refl _) _
      have hbk : Blk (wr.alloc (.cells r.row 54)) wr.heap.size 54 r.row := Blk.new _ _ _
      generalize wr.alloc (.cells r.row 54) = wx at *
      have HBX := Lib.hid hbx
      have HBK := Lib.hid hbk
      have hubx := HUr.out.to hbx
      have HUx := Lib.hid hubx
      have hsx := hbk.lt
      have e1 : wx.cell? ⟨wr.heap.size, 1, none⟩ = some (.string r.e.obj) := (hbk.cell 1).trans rfl
      have e14 : wx.cell? ⟨wr.heap.size, 14, none⟩ = some (.int .i64 r.e.mom) := (hbk.cell 14).trans rfl
      have a1 : wx.cell? ⟨w.heap.size + 1, 1, none⟩ = some (.int .i64 mo) := (hubx.ask.cell 1).trans rfl
      have a2 : wx.cell? ⟨w.heap.size + 1, 2, none⟩ = some (.int .i64 ge) := (hubx.ask.cell 2).trans rfl
      have p0 : wx.cell? ⟨w.heap.size + 1 + 1, 0, none⟩ = some (.slice PA pn pc) := (hubx.pur.cell 0).trans rfl
      have p1 : wx.cell? ⟨w.heap.size + 1 + 1, 1, none⟩ = some (.int .i64 fl) := (hubx.pur.cell 1).trans rfl
      have l6 : (ld54 (.pointer (some ⟨wr.heap.size, 0, none⟩))).run Tryz.prog wx = .ok (.agg r.row) wx := run_ld54b hbk
      clear hbx hbk hubx c0
      go_cut [45] (fun z wy => z = .bool (skipR obj mo U r.e) ∧ Below wx.heap.size wx wy)
      case first =>
        by_cases hob : (r.e.obj.toList == obj.toList) = true
        case neg =>
          have hob : (r.e.obj.toList == obj.toList) = false := by simpa using hob
          have hne : (r.e.obj.toList != obj.toList) = true := by rw [bne, hob]; rfl
          have HSK : Hid (skipR obj mo U r.e = true) := by
            show skipR obj mo U r.e = true
            unfold skipR
            rw [bytes_beq] at hob
            rw [decide_eq_true (show r.e.obj ≠ obj from of_decide_eq_false hob)]
            rfl
          go_wp2_with fail
          go_meet
          exact ⟨by rw [HSK.out], Below.refl _ _⟩
        have hne : (r.e.obj.toList != obj.toList) = false := by rw [bne, hob]; rfl
        have heq : r.e.obj.toList = obj.toList := eq_of_beq hob
        have HSK : Hid (skipR obj mo U r.e = (decide (r.e.mom < mo) || U r.e)) := by
          show skipR obj mo U r.e = _
          unfold skipR
          rw [bytes_beq] at hob
          rw [decide_eq_false (show ¬ r.e.obj ≠ obj from fun hh => hh (of_decide_eq_true hob)), Bool.false_or]
        by_cases hmo : r.e.mom < mo
        · have HSK2 : Hid (skipR obj mo U r.e = true) := by
            show skipR obj mo U r.e = true
            rw [HSK.out, decide_eq_true hmo]
            rfl
          go_wp2_with fail
          go_meet
          exact ⟨by rw [HSK2.out], Below.refl _ _⟩
        have HSK2 : Hid (skipR obj mo U r.e = underR fl (ms.map (·.l)) r.e ge true) := by
          show skipR obj mo U r.e = _
          rw [HSK.out, decide_eq_false hmo, ← HU.out]
          rfl
        have CU1 := Lib.hid (CU.out wx HUx.out.below r HRM.out true)
        go_wp2_with fail
        refine CU1.out.mono ?_
        rintro en w6 ⟨rfl, hb6⟩
        have HB6 := Lib.hid hb6
        clear hb6
        go_wp2_with fail
        go_meet
        exact ⟨by rw [HSK2.out], HB6.out⟩
      case rest =>
        obtain ⟨rfl, hb8⟩ := hcut
        generalize wc = w8 at *
        have HB08 := Lib.hid (HBR.out.trans ((HBX.out.trans (hb8.mono HBX.out.size)).mono hsr))
        have HBr8 := Lib.hid (HBX.out.trans (hb8.mono HBX.out.size))
        have HBK8 := Lib.hid (HBK.out.below hb8 HBK.out.lt)
        have HU8 := Lib.hid (HUx.out.to hb8)
        have hs8 := hb8.size
        clear hb8 e1 e14 a1 a2 p0 p1 l6
        cases hsk : skipR obj mo U r.e with
        | true =>
          have HNX : Hid (bestR obj mo U (x.L.take (k + 1)) = b.bind (fun j => x.L[j]?)) := by
            show bestR obj mo U (x.L.take (k + 1)) = _
            rw [HST.out]
            unfold stepR
            rw [hsk, if_pos rfl]
          clear hsk
          go_wp2_with fail
          go_roundw
          case rel => exact ⟨k + 1, by omega, by go_num, b, rfl, HBJ.out, HNX.out, HB08.out⟩
          case measure => simp [intOf]; omega
        | false =>
          cases b with
          | none =>
            have HNX : Hid (bestR obj mo U (x.L.take (k + 1)) = (some k).bind (fun j => x.L[j]?)) := by
              show bestR obj mo U (x.L.take (k + 1)) = x.L[k]?
              rw [HST.out, HEK.out]
              unfold stepR
              rw [hsk, if_neg (by decide)]
              rfl
            clear hsk
            have hfn : findI none = -1 := rfl
            rw [hfn]
            go_upto_region 7 with fail
            refine wp_region_quiet_below (by kernel_rfl) (by kernel_rfl) ?_
            repeat (go_big_quiet_step (fail))
            refine wpQuiet_nil ?_
            intro _ hw'
            obtain ⟨⟨dq, osq⟩, hw''⟩ := hw'
            subst hw''
            have HBq := Lib.hid (HB08.out.trans ((below_regrown w8 dq osq).mono HB08.out.size))
            go_wp2_with fail
            go_roundw
            case rel => exact ⟨k + 1, by omega, by go_num, some k, rfl, (fun j h => by injection h with h; omega), HNX.out, HBq.out⟩
            case measure => simp [intOf]; omega
          | some j =>
            have hjl := HBJ.out j rfl
            obtain ⟨bb', o', hLA, hbl', h1', h2', he', er', hok'⟩ := (HR.out.below HU8.out.below hB).at_ hjl
            injection hLA with hLA
            injection hLA with hLA1 hLA2
            subst hLA1 hLA2
            have HJ : Hid (x.L[j]? = some rs[j].e) := by
              show x.L[j]? = some rs[j].e
              rw [List.getElem?_eq_getElem h2', he']
            have y14 : w8.cell? ⟨bb, o + j * 18 + 14, none⟩ = some (.int .i64 rs[j].e.mom) := er' 14 _ rfl
            generalize rs[j] = rj at *
            have HNX : Hid (bestR obj mo U (x.L.take (k + 1)) = if rj.e.mom ≤ r.e.mom then x.L[k]? else x.L[j]?) := by
              show bestR obj mo U (x.L.take (k + 1)) = _
              rw [HST.out, HEK.out]
              show stepR obj mo U x.L[j]? r.e = _
              rw [HJ.out]
              unfold stepR
              rw [hsk, if_neg (by decide)]
            clear hsk he' er' hok'
            have hfn : findI (some j) = (j : Int) := rfl
            rw [hfn]
            have j1 : (0 : Int) ≤ (j : Int) := by omega
            have j2 : (j : Int) < (ln : Int) := by omega
            have j3 : ¬ ((j : Int) < 0) := by omega
            have r14 := cell_regrown (show w8.cell? ⟨wr.heap.size, 14, none⟩ = some (.int .i64 r.e.mom) from (HBK8.out.cell 14).trans rfl)
            have rt0 := cell_regrown (show w8.cell? ⟨w.heap.size, 0, none⟩ = some (.slice (some ⟨bb, o, none⟩) ln lc) from (HU8.out.tab.cell 0).trans rfl)
            have ry := cell_regrown y14
            clear y14
            go_upto_region 7 with fail
            refine wp_region_quiet_below (by kernel_rfl) (by kernel_rfl) ?_
            repeat (go_big_quiet_step (fail))
            refine wpQuiet_nil ?_
            intro _ hw'
            obtain ⟨⟨dq, osq⟩, hw''⟩ := hw'
            subst hw''
            have HBq := Lib.hid (HB08.out.trans ((below_regrown w8 dq osq).mono HB08.out.size))
            by_cases hge : rj.e.mom ≤ r.e.mom
            · have HNX2 : Hid (bestR obj mo U (x.L.take (k + 1)) = (some k).bind (fun j => x.L[j]?)) := by
                show bestR obj mo U (x.L.take (k + 1)) = x.L[k]?
                rw [HNX.out, if_pos hge]
              go_wp2_with fail
              go_roundw
              case rel => exact ⟨k + 1, by omega, by go_num, some k, rfl, (fun j h => by injection h with h; omega), HNX2.out, HBq.out⟩
              case measure => simp [intOf]; omega
            · have HNX2 : Hid (bestR obj mo U (x.L.take (k + 1)) = (some j).bind (fun j => x.L[j]?)) := by
                show bestR obj mo U (x.L.take (k + 1)) = x.L[j]?
                rw [HNX.out, if_neg hge]
              go_wp2_with fail
              go_roundw
              case rel => exact ⟨k + 1, by omega, by go_num, some j, rfl, HBJ.out, HNX2.out, HBq.out⟩
              case measure => simp [intOf]; omega
    · obtain rfl : k = ln := by omega
      have hta : x.L.take k = x.L := List.take_of_length_le (by have := HL.out; omega)
      have HBW := Lib.hid HUr.out.below
      cases b with
      | some j =>
        have hjl := HBJ.out j rfl
        obtain ⟨bb', o', rfl, hbl', h1', h2', he', er', hok'⟩ := (HR.out.below HUr.out.below hB).at_ hjl
        have y0 : wr.cell? ⟨bb', o' + j * 18, none⟩ = some (.int .i64 rs[j].e.id) := er' 0 _ rfl
        have HZ : Hid (useR x.L obj mo U (stR fl (ms.map (·.l)) ti ge) = (rs[j].e.id, 1)) := by
          show useR x.L obj mo U (stR fl (ms.map (·.l)) ti ge) = _
          have hb := HBEST.out
          rw [hta] at hb
          unfold useR
          rw [hb]
          show (match x.L[j]? with | some e => (e.id, (1 : Int)) | none => restR obj U (stR fl (ms.map LineM.l) ti ge) x.L) = _
          rw [List.getElem?_eq_getElem h2', he']
        generalize rs[j] = rj at *
        clear he' er' hok' hta
        have hfn : findI (some j) = (j : Int) := rfl
        rw [hfn]
        have j1 : (0 : Int) ≤ (j : Int) := by omega
        have j2 : (j : Int) < (k : Int) := by omega
        go_wp2_with fail
        go_ret2
        exact ⟨by rw [HZ.out]; rfl, HBW.out⟩
      | none =>
        have HZ : Hid (useR x.L obj mo U (stR fl (ms.map (·.l)) ti ge) = restR obj U (stR fl (ms.map (·.l)) ti ge) x.L) := by
          show useR x.L obj mo U (stR fl (ms.map (·.l)) ti ge) = _
          have hb := HBEST.out
          rw [hta] at hb
          unfold useR
          rw [hb]
          rfl
        clear hta HBEST HBJ
        have hfn : findI none = -1 := rfl
        rw [hfn]
        generalize wr = wA at *
        go_wp2_with fail
        go_loopw [13] (fun i wr => ∃ q : Nat, q ≤ k ∧ i = .int .i64 q ∧ restR obj U (stR fl (ms.map (·.l)) ti ge) x.L = restR obj U (stR fl (ms.map (·.l)) ti ge) (x.L.drop q) ∧ Below wA.heap.size wA wr) (fun i _ => k - (intOf i).toNat)
        case atStart => exact ⟨0, Nat.zero_le _, rfl, rfl, Below.refl _ _⟩
        case round =>
          obtain ⟨q, hq, rfl, hdr, hbr⟩ := hrel
          have HDR := Lib.hid hdr
          have HBQ := Lib.hid hbr
          have hubr := HUr.out.to hbr
          have HUq := Lib.hid hubr
          have hsq := hbr.size
          have c0 : wr.cell? ⟨w.heap.size, 0, none⟩ = some (.slice LA k lc) := (hubr.tab.cell 0).trans rfl
          clear hdr hbr hubr
          by_cases hlq : q < k
          · obtain ⟨bb, o, rfl, hbl, h1, h2, he, er, hok⟩ := (HR.out.below HUq.out.below hB).at_ hlq
            have hrm := List.getElem_mem h1
            have HST : Hid (restR obj U (stR fl (ms.map (·.l)) ti ge) x.L = if skip2R obj U rs[q].e = true then restR obj U (stR fl (ms.map (·.l)) ti ge) (x.L.drop (q + 1)) else if stR fl (ms.map (·.l)) ti ge rs[q].e < 4 then (rs[q].e.id, stR fl (ms.map (·.l)) ti ge rs[q].e) else restR obj U (stR fl (ms.map (·.l)) ti ge) (x.L.drop (q + 1))) := by
              show restR obj U (stR fl (ms.map (·.l)) ti ge) x.L = _
              rw [HDR.out, restR_drop h2, he]
            have HGR : Hid (rs[q].e.Gd) := by
              show rs[q].e.Gd
              rw [he]
              exact HG.out _ (List.getElem_mem h2)
            have ER := Lib.hid er
            have HRM := Lib.hid hrm
            clear he er hok hrm
            generalize rs[q] = r at *
            have l7 : (ld54 (.pointer (some ⟨bb, o + q * 18, none⟩))).run Tryz.prog wr = .ok (.agg r.row) wr := run_ld54 ER.out
            have s7 : (st54 (.pointer (some ⟨wr.heap.size, 0, none⟩)) (.agg r.row)).run Tryz.prog (wr.alloc (.cells zero54 54)) = .ok () (wr.alloc (.cells r.row 54)) := by
              rw [run_st54 (Blk.new wr 54 zero54) rfl, World.setRow_alloc_new]
            have i1 : (0 : Int) ≤ (q : Int) := by omega
            have i2 : (q : Int) < (k : Int) := by omega
            go_upto_region 15 with fail
            clear l7 s7
            have hbx : Below wr.heap.size wr (wr.alloc (.cells r.row 54)) := (Below.refl _ _).alloc (Nat.le_refl _) _
            have hbk : Blk (wr.alloc (.cells r.row 54)) wr.heap.size 54 r.row := Blk.new _ _ _
            generalize wr.alloc (.cells r.row 54) = wx at *
            have HBX := Lib.hid hbx
            have HBK := Lib.hid hbk
            have hubx := HUq.out.to hbx
            have HUx := Lib.hid hubx
            have hsx := hbk.lt
            have e1 : wx.cell? ⟨wr.heap.size, 1, none⟩ = some (.string r.e.obj) := (hbk.cell 1).trans rfl
            have e16 : wx.cell? ⟨wr.heap.size, 16, none⟩ = some (.bool r.e.last) := (hbk.cell 16).trans rfl
            have e12 : wx.cell? ⟨wr.heap.size, 12, none⟩ = some (.bool r.e.M.kp) := (hbk.cell 12).trans rfl
            have a2 : wx.cell? ⟨w.heap.size + 1, 2, none⟩ = some (.int .i64 ge) := (hubx.ask.cell 2).trans rfl
            have p0 : wx.cell? ⟨w.heap.size + 1 + 1, 0, none⟩ = some (.slice PA pn pc) := (hubx.pur.cell 0).trans rfl
            have p1 : wx.cell? ⟨w.heap.size + 1 + 1, 1, none⟩ = some (.int .i64 fl) := (hubx.pur.cell 1).trans rfl
            have l6 : (ld54 (.pointer (some ⟨wr.heap.size, 0, none⟩))).run Tryz.prog wx = .ok (.agg r.row) wx := run_ld54b hbk
            clear hbx hbk hubx c0
            go_cut [101] (fun z wy => z = .bool (skip2R obj U r.e) ∧ Below wx.heap.size wx wy)
            case first =>
              by_cases hob : (r.e.obj.toList == obj.toList) = true
              case neg =>
                have hob : (r.e.obj.toList == obj.toList) = false := by simpa using hob
                have hne : (r.e.obj.toList != obj.toList) = true := by rw [bne, hob]; rfl
                have HSK : Hid (skip2R obj U r.e = true) := by
                  show skip2R obj U r.e = true
                  unfold skip2R
                  rw [bytes_beq] at hob
                  rw [decide_eq_true (show r.e.obj ≠ obj from of_decide_eq_false hob)]
                  rfl
                go_wp2_with fail
                go_meet
                exact ⟨by rw [HSK.out], Below.refl _ _⟩
              have hne : (r.e.obj.toList != obj.toList) = false := by rw [bne, hob]; rfl
              have heq : r.e.obj.toList = obj.toList := eq_of_beq hob
              have HSK : Hid (skip2R obj U r.e = (!r.e.last || !r.e.M.kp || U r.e)) := by
                show skip2R obj U r.e = _
                unfold skip2R
                rw [bytes_beq] at hob
                rw [decide_eq_false (show ¬ r.e.obj ≠ obj from fun hh => hh (of_decide_eq_true hob)), Bool.false_or]
              have d1 : r.e.last = false ∨ r.e.last = true := by cases r.e.last <;> simp
              rcases d1 with h3 | h3
              · have HSK2 : Hid (skip2R obj U r.e = true) := by
                  show skip2R obj U r.e = true
                  rw [HSK.out, h3]
                  rfl
                rw [h3] at e16
                clear h3
                go_wp2_with fail
                go_meet
                exact ⟨by rw [HSK2.out], Below.refl _ _⟩
              rw [h3] at e16
              have d2 : r.e.M.kp = false ∨ r.e.M.kp = true := by cases r.e.M.kp <;> simp
              rcases d2 with h4 | h4
              · have HSK2 : Hid (skip2R obj U r.e = true) := by
                  show skip2R obj U r.e = true
                  rw [HSK.out, h3, h4]
                  rfl
                rw [h4] at e12
                clear h3 h4
                go_wp2_with fail
                go_meet
                exact ⟨by rw [HSK2.out], Below.refl _ _⟩
              rw [h4] at e12
              have HSK2 : Hid (skip2R obj U r.e = underR fl (ms.map (·.l)) r.e ge true) := by
                show skip2R obj U r.e = _
                rw [HSK.out, h3, h4, ← HU.out]
                rfl
              clear h3 h4
              have CU1 := Lib.hid (CU.out wx HUx.out.below r HRM.out true)
              go_wp2_with fail
              refine CU1.out.mono ?_
              rintro en w6 ⟨rfl, hb6⟩
              have HB6 := Lib.hid hb6
              clear hb6
              go_wp2_with fail
              go_meet
              exact ⟨by rw [HSK2.out], HB6.out⟩
            case rest =>
              obtain ⟨rfl, hb8⟩ := hcut
              generalize wc = w8 at *
              have HBA8 := Lib.hid (HBQ.out.trans ((HBX.out.trans (hb8.mono HBX.out.size)).mono hsq))
              have HBK8 := Lib.hid (HBK.out.below hb8 HBK.out.lt)
              have HU8 := Lib.hid (HUx.out.to hb8)
              have hs8 := hb8.size
              clear hb8 e1 e12 e16 a2 p0 p1 l6
              cases hsk : skip2R obj U r.e with
              | true =>
                have HNX : Hid (restR obj U (stR fl (ms.map (·.l)) ti ge) x.L = restR obj U (stR fl (ms.map (·.l)) ti ge) (x.L.drop (q + 1))) := by
                  show restR obj U (stR fl (ms.map (·.l)) ti ge) x.L = _
                  rw [HST.out, hsk, if_pos rfl]
                clear hsk
                go_wp2_with fail
                go_roundw
                case rel => exact ⟨q + 1, by omega, by go_num, HNX.out, HBA8.out⟩
                case measure => simp [intOf]; omega
              | false =>
                have HNX : Hid (restR obj U (stR fl (ms.map (·.l)) ti ge) x.L = if stR fl (ms.map (·.l)) ti ge r.e < 4 then (r.e.id, stR fl (ms.map (·.l)) ti ge r.e) else restR obj U (stR fl (ms.map (·.l)) ti ge) (x.L.drop (q + 1))) := by
                  show restR obj U (stR fl (ms.map (·.l)) ti ge) x.L = _
                  rw [HST.out, hsk, if_neg (by decide)]
                clear hsk
                have l39 := run_ld39r HBK8.out
                have e13 : w8.cell? ⟨wr.heap.size, 13, none⟩ = some (.int .i64 r.e.said) := (HBK8.out.cell 13).trans rfl
                have a0 : w8.cell? ⟨w.heap.size + 1, 0, none⟩ = some (.int .i64 ti) := (HU8.out.ask.cell 0).trans rfl
                have CS := Lib.hid (rstate_any r.e.M.t r.e.M.wk r.e.M.mo r.e.M.le r.e.M.ha r.e.M.fr r.e.M.wh r.e.M.er r.kA r.kn r.kc r.e.M.ten r.e.M.kp r.e.said ti w8)
                go_wp2_with fail
                refine CS.out.mono ?_
                rintro en w9 ⟨rfl, hb9⟩
                have HBA9 := Lib.hid (HBA8.out.trans (hb9.mono HBA8.out.size))
                have HBK9 := Lib.hid (HBK8.out.below hb9 HBK8.out.lt)
                have HU9 := Lib.hid (HU8.out.to hb9)
                have l6 : (ld54 (.pointer (some ⟨wr.heap.size, 0, none⟩))).run Tryz.prog w9 = .ok (.agg r.row) w9 := run_ld54b HBK9.out
                have a2 : w9.cell? ⟨w.heap.size + 1, 2, none⟩ = some (.int .i64 ge) := (HU9.out.ask.cell 2).trans rfl
                have p0 : w9.cell? ⟨w.heap.size + 1 + 1, 0, none⟩ = some (.slice PA pn pc) := (HU9.out.pur.cell 0).trans rfl
                have p1 : w9.cell? ⟨w.heap.size + 1 + 1, 1, none⟩ = some (.int .i64 fl) := (HU9.out.pur.cell 1).trans rfl
                have CU2 := Lib.hid (CU.out w9 HU9.out.below r HRM.out false)
                have hs9 := hb9.size
                clear hb9 CS l39 e13 a0
                go_wp2_with fail
                refine CU2.out.mono ?_
                rintro en w10 ⟨rfl, hb10⟩
                have HBA10 := Lib.hid (HBA9.out.trans (hb10.mono HBA9.out.size))
                have HBK10 := Lib.hid (HBK9.out.below hb10 HBK9.out.lt)
                have HU10 := Lib.hid (HU9.out.to hb10)
                have hs10 := hb10.size
                clear hb10 CU2 l6 a2 p0 p1
                cases hun : underR fl (ms.map (·.l)) r.e ge false with
                | false =>
                  have HSV : Hid (stR fl (ms.map (·.l)) ti ge r.e = stateOf r.e.M.fr r.e.M.wh r.e.M.er r.e.said ti) := by
                    show stR fl (ms.map (·.l)) ti ge r.e = _
                    unfold stR
                    rw [hun, if_neg (by decide)]
                  clear hun
                  have e0 : w10.cell? ⟨wr.heap.size, 0, none⟩ = some (.int .i64 r.e.id) := (HBK10.out.cell 0).trans rfl
                  generalize hsv : stateOf r.e.M.fr r.e.M.wh r.e.M.er r.e.said ti = sv at *
                  clear hsv
                  by_cases h4 : sv < 4
                  · go_wp2_with fail
                    go_ret2
                    refine ⟨?_, HBW.out.trans (HBA10.out.mono HBW.out.size)⟩
                    rw [HZ.out, HNX.out, HSV.out, if_pos h4]
                    rfl
                  · have HN2 : Hid (restR obj U (stR fl (ms.map (·.l)) ti ge) x.L = restR obj U (stR fl (ms.map (·.l)) ti ge) (x.L.drop (q + 1))) := by
                      show restR obj U (stR fl (ms.map (·.l)) ti ge) x.L = _
                      rw [HNX.out, HSV.out, if_neg h4]
                    go_wp2_with fail
                    go_roundw
                    case rel => exact ⟨q + 1, by omega, by go_num, HN2.out, HBA10.out⟩
                    case measure => simp [intOf]; omega
                | true =>
                  have HSV : Hid (stR fl (ms.map (·.l)) ti ge r.e = staleR r.e.M.fr r.e.M.wh r.e.M.er (ageOf r.e.said ti)) := by
                    show stR fl (ms.map (·.l)) ti ge r.e = _
                    unfold stR
                    rw [hun, if_pos rfl]
                  clear hun
                  have r13 := cell_regrown (show w10.cell? ⟨wr.heap.size, 13, none⟩ = some (.int .i64 r.e.said) from (HBK10.out.cell 13).trans rfl)
                  have ra0 := cell_regrown (show w10.cell? ⟨w.heap.size + 1, 0, none⟩ = some (.int .i64 ti) from (HU10.out.ask.cell 0).trans rfl)
                  have l39 : ∀ d os, (ld39 (.pointer (some ⟨wr.heap.size, 2, none⟩))).run Tryz.prog (grow (redrawn w10 d) os) = .ok (.agg (metaM r.e.M r.kA r.kn r.kc)) (grow (redrawn w10 d) os) := fun d os => run_ld39r (HBK10.out.below (below_regrown w10 d os) HBK10.out.lt)
                  have c78 : ∀ d os, Calls Tryz.prog 78 #[.int .i64 r.e.said, .int .i64 ti] (grow (redrawn w10 d) os) fun en w'' => en = .returned (.int .i64 (ageOf r.e.said ti)) ∧ ∃ p : Regrown, w'' = grow (redrawn w10 p.d) p.os := fun d os => Calls.regrown_of ((rage_any r.e.said ti _).mono fun e w' ⟨h, hw⟩ => ⟨h, by subst hw; exact Below.refl _ _⟩)
                  have c77 : ∀ d os, Calls Tryz.prog 77 #[.agg (metaM r.e.M r.kA r.kn r.kc), .int .i64 (ageOf r.e.said ti)] (grow (redrawn w10 d) os) fun en w'' => en = .returned (.int .i64 (staleR r.e.M.fr r.e.M.wh r.e.M.er (ageOf r.e.said ti))) ∧ ∃ p : Regrown, w'' = grow (redrawn w10 p.d) p.os := fun d os => Calls.regrown_of (rstale_any _ _ _ _ _ _ _ _ _ _ _ _ _ _ _ HGR.out.1.fr HGR.out.1.wh HGR.out.1.er)
                  go_upto_region 18 with fail
                  refine wp_region_quiet_below (by kernel_rfl) (by kernel_rfl) ?_
                  repeat (go_big_quiet_step (first | exact c78 _ _ | exact c77 _ _))
                  refine wpQuiet_nil ?_
                  intro _ hw'
                  obtain ⟨⟨dq, osq⟩, hw''⟩ := hw'
                  subst hw''
                  have HBAq := Lib.hid (HBA10.out.trans ((below_regrown w10 dq osq).mono HBA10.out.size))
                  have e0 : (grow (redrawn w10 dq) osq).cell? ⟨wr.heap.size, 0, none⟩ = some (.int .i64 r.e.id) := ((HBK10.out.below (below_regrown w10 dq osq) HBK10.out.lt).cell 0).trans rfl
                  clear r13 ra0 l39 c78 c77
                  generalize hsv : staleR r.e.M.fr r.e.M.wh r.e.M.er (ageOf r.e.said ti) = sv at *
                  clear hsv
                  generalize grow (redrawn w10 dq) osq = w11 at *
                  by_cases h4 : sv < 4
                  · go_wp2_with fail
                    go_ret2
                    refine ⟨?_, HBW.out.trans (HBAq.out.mono HBW.out.size)⟩
                    rw [HZ.out, HNX.out, HSV.out, if_pos h4]
                    rfl
                  · have HN2 : Hid (restR obj U (stR fl (ms.map (·.l)) ti ge) x.L = restR obj U (stR fl (ms.map (·.l)) ti ge) (x.L.drop (q + 1))) := by
                      show restR obj U (stR fl (ms.map (·.l)) ti ge) x.L = _
                      rw [HNX.out, HSV.out, if_neg h4]
                    go_wp2_with fail
                    go_roundw
                    case rel => exact ⟨q + 1, by omega, by go_num, HN2.out, HBAq.out⟩
                    case measure => simp [intOf]; omega
          · obtain rfl : q = k := by omega
            have HF : Hid (useR x.L obj mo U (stR fl (ms.map (·.l)) ti ge) = (0, 4)) := by
              show useR x.L obj mo U (stR fl (ms.map (·.l)) ti ge) = (0, 4)
              rw [HZ.out, HDR.out, List.drop_of_length_le (by have := HL.out; omega)]
              rfl
            go_wp2_with fail
            go_ret2
            exact ⟨by rw [HF.out]; rfl, HUq.out.below⟩
end
end Go.Proofs.YtoaiamgcegnjjaaGreatDoor
