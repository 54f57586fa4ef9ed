/- The reference's Keys and Under; purge.right and copied. No condition but the bounds that each names. -/
import Derived.Test.YtoaiamgcegnjjaaGreatDoorUP
namespace Go.Proofs.YtoaiamgcegnjjaaGreatDoor
open Go.RowKit Go.Maps Go.WideMaps Go.Sort
set_option maxRecDepth 100000
attribute [local go_sem ↓] ld54_fold st54_fold

set_option maxHeartbeats 4000000 in
theorem rkeys42_any (r : RM) (w : World) (hk : Strs w w.heap.size r.kA r.kn r.e.M.ks) (hn : r.kn ≤ 1000) :
    Calls Tryz.prog 70 #[.agg r.row] w fun en w' => (∃ A' c', en = .returned (.slice A' (r.kn + 2) c') ∧ Strs w' w'.heap.size A' (r.kn + 2) (keysR r.e)) ∧ Below w.heap.size w w' := by
  obtain ⟨i0, hi, hz0, hz1, hz2⟩ := info_parts info9
  have hb0 : Below w.heap.size w (w.alloc (.cells r.row 54)) := (Below.refl _ _).alloc (Nat.le_refl _) _
  have hkb : Blk (w.alloc (.cells r.row 54)) w.heap.size 54 r.row := Blk.new _ _ _
  go_enter Tryz.func70, Tryz.ntmps70
  go_upto_region 1 with fail
  generalize w.alloc (.cells r.row 54) = wq at *
  have HB0 := Lib.hid hb0
  have HKB := Lib.hid hkb
  have HK := Lib.hid (hk.below hb0 hb0.size)
  have sk : ∀ wy, Below wq.heap.size wq wy → wy.cell? ⟨w.heap.size, 10, none⟩ = some (.slice r.kA r.kn r.kc) ∧ wy.cell? ⟨w.heap.size, 1, none⟩ = some (.string r.e.obj) := fun wy hb => by
    have h := HKB.out.below hb HKB.out.lt
    exact ⟨(h.cell 10).trans rfl, (h.cell 1).trans rfl⟩
  have SK := Lib.hid sk
  have rk : ∀ wy, Below wq.heap.size wq wy → Rd wy wy.heap.size 1 r.kA r.kn (r.e.M.ks.map Value.string) := fun wy hb => HK.out.below hb hb.size
  have RK := Lib.hid rk
  have fin : ∀ (w5 : World) (A5 : Option Addr) (c5 b5 : Nat), w5.ownsRow b5 9 1 (.slice A5 (r.kn + 2) c5) (r.kn + 2) (r.e.M.ks.map Value.string ++ [.string ⟨#[47]⟩, .string r.e.obj]) → Below wq.heap.size wq w5 → (∃ A' c', Ending.returned (.slice A5 (r.kn + 2) c5) = .returned (.slice A' (r.kn + 2) c') ∧ Strs w5 w5.heap.size A' (r.kn + 2) (keysR r.e)) ∧ Below w.heap.size w w5 := fun w5 A5 c5 b5 ho hb => by
    refine ⟨⟨A5, c5, rfl, ?_⟩, HB0.out.trans (hb.mono HB0.out.size)⟩
    have := own_rd ho
    unfold Strs keysR
    rw [List.map_append]
    exact this
  have FIN := Lib.hid fin
  have ZQ : Hid (∀ u ∈ ([.string ⟨#[47]⟩, .string r.e.obj] : List Value), u.oneCell' = true) := by
    show ∀ u ∈ ([.string ⟨#[47]⟩, .string r.e.obj] : List Value), u.oneCell' = true
    simp [Value.oneCell']
  have rdq : ∀ (wy : World) (g : Nat), Blk wy g 9 #[.string ⟨#[47]⟩, .string r.e.obj] → Rd wy wy.heap.size 1 (some ⟨g, 0, none⟩) 2 [.string ⟨#[47]⟩, .string r.e.obj] := fun wy g h => by
    refine ⟨rfl, fun _ => ⟨g, 0, rfl, h.lt, fun j hj => ?_⟩⟩
    have := h.cell (0 + j)
    rw [this]
    match j, hj with
    | 0, _ | 1, _ => rfl
  have RDQ := Lib.hid rdq
  have B0 : Hid (Below wq.heap.size wq wq.drew) := (Below.refl _ _).drew
  have B1 : Hid (Below wq.heap.size wq (wq.alloc (.cells #[] 9)).drew) := ((Below.refl _ _).alloc (Nat.le_refl _) _).drew
  have B2 : Hid (Below wq.heap.size wq ((wq.alloc (.cells #[] 9)).alloc (.cells #[.string ⟨#[47]⟩, .string r.e.obj] 9)).drew) := (((Below.refl _ _).alloc (Nat.le_refl _) _).alloc (by simp) _).drew
  have B3 : Hid (Below wq.heap.size wq ((wq.alloc (.cells #[.string ⟨#[47]⟩, .string r.e.obj] 9)).alloc (.cells #[] 9)).drew) := (((Below.refl _ _).alloc (Nat.le_refl _) _).alloc (by simp) _).drew
  have B4 : Hid (Below wq.heap.size wq (wq.alloc (.cells #[.string ⟨#[47]⟩, .string r.e.obj] 9)).drew) := ((Below.refl _ _).alloc (Nat.le_refl _) _).drew
  have O1 : Hid ((wq.alloc (.cells #[] 9)).drew.ownsRow wq.heap.size 9 1 (.slice (some ⟨wq.heap.size, 0, none⟩) 0 0) 0 []) := by
    have := World.ownsRow_made (base := wq.heap.size) (e := 9) (size := 1) wq #[] 0 (by simp) (by unfold maxLen; omega) (by simp)
    exact (by simpa using this : (wq.alloc (.cells #[] 9)).ownsRow wq.heap.size 9 1 (.slice (some ⟨wq.heap.size, 0, none⟩) 0 0) 0 []).drew
  have O3 : Hid (((wq.alloc (.cells #[.string ⟨#[47]⟩, .string r.e.obj] 9)).alloc (.cells #[] 9)).drew.ownsRow wq.heap.size 9 1 (.slice (some ⟨wq.heap.size + 1, 0, none⟩) 0 0) 0 []) := by
    have := World.ownsRow_made (base := wq.heap.size) (e := 9) (size := 1) (wq.alloc (.cells #[.string ⟨#[47]⟩, .string r.e.obj] 9)) #[] 0 (by simp) (by unfold maxLen; omega) (by simp)
    exact (by simpa using this : ((wq.alloc (.cells #[.string ⟨#[47]⟩, .string r.e.obj] 9)).alloc (.cells #[] 9)).ownsRow wq.heap.size 9 1 (.slice (some ⟨wq.heap.size + 1, 0, none⟩) 0 0) 0 []).drew
  have O2 : Hid (((wq.alloc (.cells #[] 9)).alloc (.cells #[.string ⟨#[47]⟩, .string r.e.obj] 9)).drew.ownsRow wq.heap.size 9 1 (.slice (some ⟨wq.heap.size, 0, none⟩) 0 0) 0 []) := by
    have := World.ownsRow_made (base := wq.heap.size) (e := 9) (size := 1) wq #[] 0 (by simp) (by unfold maxLen; omega) (by simp)
    exact ((by simpa using this : (wq.alloc (.cells #[] 9)).ownsRow wq.heap.size 9 1 (.slice (some ⟨wq.heap.size, 0, none⟩) 0 0) 0 []).alloc _).drew
  clear hb0 hkb hk sk rk fin rdq
  go_region_held3 (fun wy => wy.cell? ⟨w.heap.size, 10, none⟩ = some (.slice r.kA r.kn r.kc) ∧ wy.cell? ⟨w.heap.size, 1, none⟩ = some (.string r.e.obj))
    (first
      | exact SK.out _ HB14.out
      | exact SK.out _ (HB13.out.alloc HB13.out.size _)
      | exact SK.out _ HB13.out
      | exact SK.out _ B0.out
      | exact SK.out _ B1.out
      | exact SK.out _ B4.out
      | exact SK.out _ B2.out
      | exact SK.out _ B3.out)
    (first
      | ((fail_if_success (have hZ := A1)); (refine step_append_rd _ (by rfl) _ _ _ (by rfl) wq.heap.size 9 i0 (.string ByteArray.empty) 1 16 Tryz.underlying37 hi hz0 hz1 hz2 rfl (by decide) (.slice (some ⟨wq.heap.size, 0, none⟩) 0 0) 0 [] (by rfl) O1.out r.kA r.kn r.kc _ _ (by rfl) (RK.out _ B1.out) (oneCell_strings r.e.M.ks) (by unfold maxLen; omega) (by omega) B1.out.size ?_; intro A1 c1 w13 hown1 hgrow1 hnc1; simp only [Nat.zero_add, List.nil_append] at hown1 hnc1 ⊢; have HB13 : Hid (Below wq.heap.size wq w13) := B1.out.trans (grown_below hgrow1 B1.out.size (fun k hk => (O1.out.lt k hk).1)); have HO13 := Lib.hid hown1; clear hown1 hgrow1))
      | ((fail_if_success (have hZ := A1)); (refine step_append_rd _ (by rfl) _ _ _ (by rfl) wq.heap.size 9 i0 (.string ByteArray.empty) 1 16 Tryz.underlying37 hi hz0 hz1 hz2 rfl (by decide) (.slice (some ⟨wq.heap.size, 0, none⟩) 0 0) 0 [] (by rfl) O2.out r.kA r.kn r.kc _ _ (by rfl) (RK.out _ B2.out) (oneCell_strings r.e.M.ks) (by unfold maxLen; omega) (by omega) B2.out.size ?_; intro A1 c1 w13 hown1 hgrow1 hnc1; simp only [Nat.zero_add, List.nil_append] at hown1 hnc1 ⊢; have HB13 : Hid (Below wq.heap.size wq w13) := B2.out.trans (grown_below hgrow1 B2.out.size (fun k hk => (O2.out.lt k hk).1)); have HO13 := Lib.hid hown1; have KE : Hid (Blk w13 (wq.heap.size + 1) 9 #[.string ⟨#[47]⟩, .string r.e.obj]) := (new2 wq (.cells #[] 9) 9 #[.string ⟨#[47]⟩, .string r.e.obj]).drew.grown hgrow1 (by simp [Value.ownBlock]); clear hown1 hgrow1))
      | ((fail_if_success (have hZ := A1)); (refine step_append_rd _ (by rfl) _ _ _ (by rfl) wq.heap.size 9 i0 (.string ByteArray.empty) 1 16 Tryz.underlying37 hi hz0 hz1 hz2 rfl (by decide) (.slice (some ⟨wq.heap.size + 1, 0, none⟩) 0 0) 0 [] (by rfl) O3.out r.kA r.kn r.kc _ _ (by rfl) (RK.out _ B3.out) (oneCell_strings r.e.M.ks) (by unfold maxLen; omega) (by omega) B3.out.size ?_; intro A1 c1 w13 hown1 hgrow1 hnc1; simp only [Nat.zero_add, List.nil_append] at hown1 hnc1 ⊢; have HB13 : Hid (Below wq.heap.size wq w13) := B3.out.trans (grown_below hgrow1 B3.out.size (fun k hk => (O3.out.lt k hk).1)); have HO13 := Lib.hid hown1; have KE : Hid (Blk w13 wq.heap.size 9 #[.string ⟨#[47]⟩, .string r.e.obj]) := ((Blk.new wq 9 #[.string ⟨#[47]⟩, .string r.e.obj]).alloc (.cells #[] 9)).drew.grown hgrow1 (by simp [Value.ownBlock]); clear hown1 hgrow1))
      | ((fail_if_success (have hZ := KE)); (refine step_append_rd _ (by rfl) _ _ _ (by rfl) wq.heap.size 9 i0 (.string ByteArray.empty) 1 16 Tryz.underlying37 hi hz0 hz1 hz2 rfl (by decide) (.slice A1 r.kn c1) r.kn (r.e.M.ks.map Value.string) (by rfl) (HO13.out.alloc _) (some ⟨w13.heap.size, 0, none⟩) 2 2 _ [.string ⟨#[47]⟩, .string r.e.obj] (by rfl) (RDQ.out _ _ (Blk.new w13 9 _)) ZQ.out (by unfold maxLen; omega) (by omega) (HB13.out.alloc HB13.out.size (.cells #[.string ⟨#[47]⟩, .string r.e.obj] 9)).size ?_; intro A2 c2 w14 hown2 hgrow2 hnc2; have HB14 : Hid (Below wq.heap.size wq w14) := (HB13.out.alloc HB13.out.size (.cells #[.string ⟨#[47]⟩, .string r.e.obj] 9)).trans (grown_below hgrow2 (HB13.out.alloc HB13.out.size (.cells #[.string ⟨#[47]⟩, .string r.e.obj] 9)).size (fun k hk => (HO13.out.lt k hk).1)); have HF14 := Lib.hid (FIN.out w14 A2 c2 _ hown2 HB14.out); clear hown2 hgrow2))
      | ((refine step_append_rd _ (by rfl) _ _ _ (by rfl) wq.heap.size 9 i0 (.string ByteArray.empty) 1 16 Tryz.underlying37 hi hz0 hz1 hz2 rfl (by decide) (.slice A1 r.kn c1) r.kn (r.e.M.ks.map Value.string) (by rfl) HO13.out (some ⟨wq.heap.size, 0, none⟩) 2 2 _ [.string ⟨#[47]⟩, .string r.e.obj] (by rfl) (RDQ.out _ _ KE.out) ZQ.out (by unfold maxLen; omega) (by omega) HB13.out.size ?_; intro A2 c2 w14 hown2 hgrow2 hnc2; have HB14 : Hid (Below wq.heap.size wq w14) := HB13.out.trans (grown_below hgrow2 HB13.out.size (fun k hk => (HO13.out.lt k hk).1)); have HF14 := Lib.hid (FIN.out w14 A2 c2 _ hown2 HB14.out); clear hown2 hgrow2))
      | ((refine step_append_rd _ (by rfl) _ _ _ (by rfl) wq.heap.size 9 i0 (.string ByteArray.empty) 1 16 Tryz.underlying37 hi hz0 hz1 hz2 rfl (by decide) (.slice A1 r.kn c1) r.kn (r.e.M.ks.map Value.string) (by rfl) HO13.out (some ⟨wq.heap.size + 1, 0, none⟩) 2 2 _ [.string ⟨#[47]⟩, .string r.e.obj] (by rfl) (RDQ.out _ _ KE.out) ZQ.out (by unfold maxLen; omega) (by omega) HB13.out.size ?_; intro A2 c2 w14 hown2 hgrow2 hnc2; have HB14 : Hid (Below wq.heap.size wq w14) := HB13.out.trans (grown_below hgrow2 HB13.out.size (fun k hk => (HO13.out.lt k hk).1)); have HF14 := Lib.hid (FIN.out w14 A2 c2 _ hown2 HB14.out); clear hown2 hgrow2)))
  all_goals
    go_wp2_with fail
    go_ret
    exact HF14.out

/-- the reference's purges in memory -/
structure PurR (w : World) (B : Nat) (PA : Option Addr) (pn : Nat) (ms : List LineM) : Prop where
  rows : Rd w B 3 PA pn (ms.flatMap LineM.cells)
  keys : ∀ r ∈ ms, r.n ≤ 1000 ∧ Strs w B r.A r.n r.l.keys
  few : pn ≤ 1000
theorem PurR.below {w w' : World} {B : Nat} {PA : Option Addr} {pn : Nat} {ms : List LineM} (h : PurR w B PA pn ms) (hb : Below B w w') : PurR w' B PA pn ms :=
  ⟨h.rows.below hb (Nat.le_refl _), fun r hr => ⟨(h.keys r hr).1, (h.keys r hr).2.below hb (Nat.le_refl _)⟩, h.few⟩

def skipL (e : RE) (up : Int) (hard : Bool) (l : LineS) : Bool := decide (l.no ≤ e.gen) || decide (up < l.no) || (hard && !l.hard)

set_option maxHeartbeats 4000000 in
theorem runder_any (PA : Option Addr) (pn pc : Nat) (fl : Int) (ms : List LineM) (r : RM) (up : Int) (hard : Bool) (B : Nat) (w : World) (hP : PurR w B PA pn ms) (hB : B ≤ w.heap.size) (hk : Strs w w.heap.size r.kA r.kn r.e.M.ks) (hn : r.kn ≤ 1000) :
    Calls Tryz.prog 23 #[.agg #[.slice PA pn pc, .int .i64 fl], .agg r.row, .int .i64 up, .bool hard] w fun e w' => e = .returned (.bool (underR fl (ms.map (·.l)) r.e up hard)) ∧ Below w.heap.size w w' := by
  have hb0 : Below w.heap.size w ((w.alloc (.cells #[.slice PA pn pc, .int .i64 fl] 67)).alloc (.cells r.row 54)) := ((Below.refl _ _).alloc (Nat.le_refl _) _).alloc (by simp) _
  have k4 : Blk ((w.alloc (.cells #[.slice PA pn pc, .int .i64 fl] 67)).alloc (.cells r.row 54)) w.heap.size 67 #[.slice PA pn pc, .int .i64 fl] := (Blk.new w 67 _).alloc _
  have k5 : Blk ((w.alloc (.cells #[.slice PA pn pc, .int .i64 fl] 67)).alloc (.cells r.row 54)) (w.heap.size + 1) 54 r.row := new2 w _ 54 _
  go_enter Tryz.func23, Tryz.ntmps23
  go_upto_region 1 with fail
  generalize (w.alloc (.cells #[.slice PA pn pc, .int .i64 fl] 67)).alloc (.cells r.row 54) = w1 at *
  have HB0 := Lib.hid hb0
  have K4 := Lib.hid k4
  have K5 := Lib.hid k5
  have hs1 := k5.lt
  have c0 : w1.cell? ⟨w.heap.size, 0, none⟩ = some (.slice PA pn pc) := (k4.cell 0).trans rfl
  have c1 : w1.cell? ⟨w.heap.size, 1, none⟩ = some (.int .i64 fl) := (k4.cell 1).trans rfl
  have e15 : w1.cell? ⟨w.heap.size + 1, 15, none⟩ = some (.int .i64 r.e.gen) := (k5.cell 15).trans rfl
  have hP1 := hP.below (hb0.mono hB)
  have HP1 := Lib.hid hP1
  have HK := Lib.hid (hk.below hb0 hb0.size)
  have hfew := hP.few
  have hpr : PR w1 w1.heap.size 3 PA pn (ms.flatMap LineM.cells) := PR.of_old (hP1.rows.below (Below.refl _ _) (by have := hb0.size; omega)) (Nat.le_refl _)
  obtain ⟨hl, hrow⟩ := hpr.row LineM.cells_len (by decide)
  have HLEN : Hid (ms.length = pn) := by show ms.length = pn; omega
  have HROW := Lib.hid hrow
  have EU : Hid (r.e.gen < fl → r.e.gen < up → underR fl (ms.map (·.l)) r.e up hard = true) := fun h1 h2 => by unfold underR; rw [decide_eq_true h1, decide_eq_true h2]; rfl
  have EN : Hid (¬ (r.e.gen < fl ∧ r.e.gen < up) → underR fl (ms.map (·.l)) r.e up hard = (ms.map (·.l)).any (hitR r.e up hard)) := fun h => by
    unfold underR
    by_cases h1 : r.e.gen < fl
    · rw [decide_eq_false (fun h2 => h ⟨h1, h2⟩), Bool.and_false, Bool.false_or]
    · rw [decide_eq_false h1, Bool.false_and, Bool.false_or]
  clear hb0 k4 k5 hP hP1 hk hpr hl hrow
  by_cases hu : r.e.gen < fl ∧ r.e.gen < up
  · obtain ⟨h1, h2⟩ := hu
    go_wp2_with fail
    go_ret
    exact ⟨ret_bool (EU.out h1 h2).symm, HB0.out⟩
  have HEN := Lib.hid (EN.out hu)
  have hu2 : ¬ r.e.gen < fl ∨ ¬ r.e.gen < up := by omega
  clear EU EN hu
  have START : Hid (∀ p : World → Prop, p w1 → p w1) := fun p h => h
  go_cut [23] (fun a wy => a = .bool false ∧ w1 = wy)
  case first =>
    rcases hu2 with h | h
    · go_wp2_with fail
      go_meet
      exact ⟨by first | rfl | simp, rfl⟩
    · by_cases h1 : r.e.gen < fl
      · go_wp2_with fail
        go_meet
        exact ⟨by first | rfl | (simp; done) | (simp; omega), rfl⟩
      · go_wp2_with fail
        go_meet
        exact ⟨by first | rfl | simp, rfl⟩
  case rest =>
    obtain ⟨rfl, rfl⟩ := hcut
    clear hu2 START
    go_wp2_with fail
    go_loopw [9] (fun i wr => ∃ k : Nat, k ≤ pn ∧ i = .int .i64 k ∧ ((ms.take k).map (·.l)).any (hitR r.e up hard) = false ∧ Below w1.heap.size w1 wr) (fun i _ => pn - (intOf i).toNat)
    case atStart => exact ⟨0, Nat.zero_le _, rfl, rfl, Below.refl _ _⟩
    case round =>
      obtain ⟨k, hk, rfl, hno, hbr⟩ := hrel
      have HNO := Lib.hid hno
      have HBR := Lib.hid hbr
      have hsr := hbr.size
      have HBWr := Lib.hid (HB0.out.trans (hbr.mono HB0.out.size))
      have k4r := K4.out.below hbr K4.out.lt
      have k5r := K5.out.below hbr K5.out.lt
      have c0 : wr.cell? ⟨w.heap.size, 0, none⟩ = some (.slice PA pn pc) := (k4r.cell 0).trans rfl
      have K5r := Lib.hid k5r
      clear hno hbr k4r k5r
      by_cases hlt : k < pn
      · have hkm : k < ms.length := by have := HLEN.out; omega
        obtain ⟨b, o, rfl, hbl, hra⟩ := HROW.out k hkm
        have hst : (ms.take (k + 1)).map (·.l) = (ms.take k).map (·.l) ++ [ms[k].l] := by rw [List.take_succ_eq_append_getElem hkm, List.map_append]; rfl
        have hmm := List.getElem_mem hkm
        generalize ms[k] = q at *
        have HST := Lib.hid hst
        have HMM := Lib.hid hmm
        have NEXT : Hid (hitR r.e up hard q.l = false → ((ms.take (k + 1)).map (·.l)).any (hitR r.e up hard) = false) := fun h => by
          rw [HST.out, List.any_append, HNO.out]
          simp [h]
        have YES : Hid (hitR r.e up hard q.l = true → underR fl (ms.map (·.l)) r.e up hard = true) := fun h => by
          rw [HEN.out, List.any_eq_true]
          exact ⟨q.l, List.mem_map.2 ⟨q, HMM.out, rfl⟩, h⟩
        have d0 : wr.cell? ⟨b, o + k * 3, none⟩ = some (.int .i64 q.l.no) := (HBR.out.cell (p := ⟨b, o + k * 3, none⟩) hbl).trans (hra 0 _ rfl)
        have d1 : wr.cell? ⟨b, o + k * 3 + 1, none⟩ = some (.slice q.A q.n q.c) := (HBR.out.cell (p := ⟨b, o + k * 3 + 1, none⟩) hbl).trans (hra 1 _ rfl)
        have d2 : wr.cell? ⟨b, o + k * 3 + 2, none⟩ = some (.bool q.l.hard) := (HBR.out.cell (p := ⟨b, o + k * 3 + 2, none⟩) hbl).trans (hra 2 _ rfl)
        have i1 : (0 : Int) ≤ (k : Int) := by omega
        have i2 : (k : Int) < (pn : Int) := by omega
        clear hst hmm hra
        go_upto_region 7 with fail
        have hbx : Below wr.heap.size wr (wr.alloc (.cells q.cs 145)) := (Below.refl _ _).alloc (Nat.le_refl _) _
        have kx : Blk (wr.alloc (.cells q.cs 145)) wr.heap.size 145 q.cs := Blk.new _ _ _
        generalize wr.alloc (.cells q.cs 145) = wx at *
        have HBX := Lib.hid hbx
        have HB1x := Lib.hid (HBR.out.trans (hbx.mono hsr))
        have KX := Lib.hid kx
        have k5x := K5r.out.below hbx K5r.out.lt
        have K5x := Lib.hid k5x
        have f0 : wx.cell? ⟨wr.heap.size, 0, none⟩ = some (.int .i64 q.l.no) := (kx.cell 0).trans rfl
        have f2 : wx.cell? ⟨wr.heap.size, 2, none⟩ = some (.bool q.l.hard) := (kx.cell 2).trans rfl
        have e15 : wx.cell? ⟨w.heap.size + 1, 15, none⟩ = some (.int .i64 r.e.gen) := (k5x.cell 15).trans rfl
        have hsx := kx.lt
        clear hbx kx k5x d0 d1 d2 c0
        go_cut [54] (fun a wy => a = .bool (skipL r.e up hard q.l) ∧ wx = wy)
        case first =>
          by_cases h1 : q.l.no ≤ r.e.gen
          · go_wp2_with fail
            go_meet
            exact ⟨by unfold skipL; rw [decide_eq_true h1]; rfl, rfl⟩
          by_cases h2 : up < q.l.no
          · go_wp2_with fail
            go_meet
            exact ⟨by unfold skipL; rw [decide_eq_true h2]; simp, rfl⟩
          have d1 : hard = false ∨ hard = true := by cases hard <;> simp
          have d2 : q.l.hard = false ∨ q.l.hard = true := by cases q.l.hard <;> simp
          have HSK : Hid (skipL r.e up hard q.l = (hard && !q.l.hard)) := by
            show skipL r.e up hard q.l = _
            unfold skipL
            rw [decide_eq_false h1, decide_eq_false h2]
            rfl
          rcases d1 with h3 | h3
          · subst h3
            go_wp2_with fail
            go_meet
            exact ⟨by rw [HSK.out]; first | rfl | simp, rfl⟩
          · subst h3
            go_wp2_with fail
            go_meet
            exact ⟨by rw [HSK.out]; first | rfl | simp, rfl⟩
        case rest =>
          obtain ⟨rfl, rfl⟩ := hcut
          clear f0 f2 e15
          cases hsk : skipL r.e up hard q.l with
          | true =>
            have HH : Hid (hitR r.e up hard q.l = false) := by
              show hitR r.e up hard q.l = false
              unfold hitR
              unfold skipL at hsk
              rw [hsk]
              rfl
            clear hsk
            go_wp2_with fail
            go_roundw
            case rel => exact ⟨k + 1, by omega, by go_num, NEXT.out HH.out, HB1x.out⟩
            case measure => simp [intOf]; omega
          | false =>
            have HH : Hid (hitR r.e up hard q.l = (keysR r.e).any (inB q.l.keys)) := by
              show hitR r.e up hard q.l = _
              unfold hitR
              unfold skipL at hsk
              rw [hsk]
              rfl
            clear hsk
            have l8 : (ld54 (.pointer (some ⟨w.heap.size + 1, 0, none⟩))).run Tryz.prog wx = .ok (.agg r.row) wx := run_ld54b K5x.out
            have CK := Lib.hid (rkeys42_any r wx (HK.out.below HB1x.out HB1x.out.size) hn)
            go_wp2_with fail
            refine CK.out.mono ?_
            rintro en w2 ⟨⟨A2, c2, rfl, hs2⟩, hb2⟩
            have HB12 := Lib.hid (HB1x.out.trans (hb2.mono HB1x.out.size))
            have KX2 := Lib.hid (KX.out.below hb2 KX.out.lt)
            have hs12 := hb2.size
            have hkl := hs2.len
            obtain ⟨b2, o2, rfl, hb2l, hc2⟩ := hs2.at_ (by omega)
            have HC2 := Lib.hid hc2
            generalize hge : wr.heap.size = gx at *
            clear hge
            generalize wr = wA at *
            clear hb2 hs2 hc2 l8 CK
            go_wp2_with fail
            go_loopw [12] (fun i wr => ∃ j : Nat, j ≤ r.kn + 2 ∧ i = .int .i64 j ∧ ((keysR r.e).take j).any (inB q.l.keys) = false ∧ Below w2.heap.size w2 wr) (fun i _ => r.kn + 2 - (intOf i).toNat)
            case atStart => exact ⟨0, Nat.zero_le _, rfl, rfl, Below.refl _ _⟩
            case round =>
              obtain ⟨j, hj, rfl, hnj, hbj⟩ := hrel
              have HNJ := Lib.hid hnj
              have HBJ := Lib.hid hbj
              have hsj := hbj.size
              have HB1j := Lib.hid (HB12.out.trans (hbj.mono HB12.out.size))
              have kxj := KX2.out.below hbj KX2.out.lt
              have x1 : wr.cell? ⟨gx, 1, none⟩ = some (.slice q.A q.n q.c) := (kxj.cell 1).trans rfl
              clear hnj hbj kxj
              by_cases hlj : j < r.kn + 2
              · have hjk : j < (keysR r.e).length := by omega
                have hcj := (HBJ.out.cell (p := ⟨b2, o2 + j, none⟩) hb2l).trans (HC2.out j hjk)
                have hsn : (keysR r.e).take (j + 1) = (keysR r.e).take j ++ [(keysR r.e)[j]] := by rw [List.take_succ_eq_append_getElem hjk]
                have HSN := Lib.hid hsn
                have HMJ := Lib.hid (List.getElem_mem hjk)
                generalize (keysR r.e)[j] = key at *
                have c71 : ∀ d os, Calls Tryz.prog 71 #[.slice q.A q.n q.c, .string key] (grow (redrawn wr d) os) fun en w'' => en = .returned (.bool (inB q.l.keys key)) ∧ ∃ p : Regrown, w'' = grow (redrawn wr p.d) p.os := fun d os => by
                  have h1 := HP1.out.keys q HMM.out
                  have hbw := HB1j.out.trans ((below_regrown wr d os).mono HB1j.out.size)
                  exact Calls.regrown_of ((rin42_any q.A q.n q.c q.l.keys key B _ (h1.2.below (hbw.mono (by omega)) (Nat.le_refl _)) (by omega)).mono fun e w' ⟨h, hw⟩ => ⟨h, by subst hw; exact Below.refl _ _⟩)
                have j1 : (0 : Int) ≤ (j : Int) := by omega
                have j2 : (j : Int) < ((r.kn + 2 : Nat) : Int) := by omega
                have rx1 := cell_regrown x1
                have rcj := cell_regrown hcj
                clear hsn x1 hcj
                go_upto_region 12 with fail
                refine wp_region_quiet_below (by kernel_rfl) (by kernel_rfl) ?_
                repeat (go_big_quiet_step (exact c71 _ _))
                refine wpQuiet_nil ?_
                intro _ hw'
                obtain ⟨⟨dq, osq⟩, hw''⟩ := hw'
                subst hw''
                have HBq := Lib.hid (HB1j.out.trans ((below_regrown wr dq osq).mono HB1j.out.size))
                have HBq2 := Lib.hid (HBJ.out.trans ((below_regrown wr dq osq).mono HBJ.out.size))
                cases hin : inB q.l.keys key with
                | true =>
                  have HU : Hid (underR fl (ms.map (·.l)) r.e up hard = true) := YES.out (by rw [HH.out, List.any_eq_true]; exact ⟨key, HMJ.out, hin⟩)
                  clear hin
                  go_wp2_with fail
                  go_ret
                  exact ⟨ret_bool HU.out.symm, HB0.out.trans (HBq.out.mono HB0.out.size)⟩
                | false =>
                  have HIN := Lib.hid hin
                  clear hin
                  go_wp2_with fail
                  go_roundw
                  case rel =>
                    refine ⟨j + 1, by omega, by go_num, ?_, HBq2.out⟩
                    rw [HSN.out, List.any_append, HNJ.out]
                    simp [HIN.out]
                  case measure => simp [intOf]; omega
              · obtain rfl : j = r.kn + 2 := by omega
                have HF : Hid (hitR r.e up hard q.l = false) := by
                  show hitR r.e up hard q.l = false
                  rw [HH.out]
                  have := HNJ.out
                  rw [List.take_of_length_le (by omega)] at this
                  exact this
                go_wp2_with fail
                go_roundw
                case rel => exact ⟨k + 1, by omega, by go_num, NEXT.out HF.out, HB1j.out⟩
                case measure => simp [intOf]; omega
      · obtain rfl : k = pn := by omega
        have HF : Hid (underR fl (ms.map (·.l)) r.e up hard = false) := by
          show underR fl (ms.map (·.l)) r.e up hard = false
          rw [HEN.out]
          have := HNO.out
          rw [List.take_of_length_le (by have := HLEN.out; omega)] at this
          exact this
        go_wp2_with fail
        go_ret
        exact ⟨ret_bool HF.out.symm, HBWr.out⟩
end Go.Proofs.YtoaiamgcegnjjaaGreatDoor
