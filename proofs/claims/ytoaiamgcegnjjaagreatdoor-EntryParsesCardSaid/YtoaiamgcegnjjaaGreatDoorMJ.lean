/- ranges.gather. No condition but on lengths. ranges.Of of one span; a sort of at most one. No condition. -/
import Derived.Test.YtoaiamgcegnjjaaGreatDoorMH
import Derived.Test.YtoaiamgcegnjjaaGreatDoorMI
import Derived.Laws.OwnMore
namespace Go.Proofs.YtoaiamgcegnjjaaGreatDoor
open Go.RowKit Go.Maps Go.WideMaps Go.Sort
set_option maxRecDepth 100000

theorem info41 : (Tryz.prog.info? 41).map (fun i => (i.zero, i.size, i.bytes)) = some (some (.agg #[.int .i64 0, .int .i64 0]), 2, 16) := by kernel_rfl
theorem built41 (f t : Int) : Tryz.prog.builtSlice 41 1 [(0, .agg #[.int .i64 f, .int .i64 t])] = some #[.int .i64 f, .int .i64 t] := by kernel_rfl
theorem under52 : Tryz.prog.underlying 52 = some (.slice 41) := Tryz.underlying52
def spC (p : Int × Int) : List Value := [.int .i64 p.1, .int .i64 p.2]
theorem spC_len (p : Int × Int) : (spC p).length = 2 := rfl
theorem spanCells_eq (l : List (Int × Int)) : spanCells l = l.flatMap spC := rfl
theorem spanCells_append (a b : List (Int × Int)) : spanCells (a ++ b) = spanCells a ++ spanCells b := by simp [spanCells]
theorem spanCells_len (l : List (Int × Int)) : (spanCells l).length = l.length * 2 := flat_len spC 2 spC_len l
theorem spanCells_one (l : List (Int × Int)) : ∀ u ∈ spanCells l, u.oneCell' = true := by
  intro u hu
  obtain ⟨p, _, h⟩ := List.mem_flatMap.1 hu
  simp at h
  rcases h with rfl | rfl <;> rfl

/-- a span of a slice that is read -/
theorem Rd.span {w : World} {B n : Nat} {A : Option Addr} {l : List (Int × Int)} (h : Rd w B 2 A n (spanCells l)) : l.length = n ∧ ∀ k (hk : k < l.length), ∃ b o, A = some ⟨b, o, none⟩ ∧ b < B ∧ w.cell? ⟨b, o + k * 2, none⟩ = some (.int .i64 l[k].1) ∧ w.cell? ⟨b, o + k * 2 + 1, none⟩ = some (.int .i64 l[k].2) := by
  have hl : l.length = n := by have := h.1; rw [spanCells_len] at this; omega
  refine ⟨hl, fun k hk => ?_⟩
  obtain ⟨b, o, e, hb, hc⟩ := h.2 (by omega)
  have g0 := flat_get spC 2 spC_len l k 0 hk (by decide)
  have g1 := flat_get spC 2 spC_len l k 1 hk (by decide)
  rw [← spanCells_eq] at g0 g1
  obtain ⟨h0, e0⟩ := List.getElem?_eq_some_iff.1 (g0.trans (show (spC l[k])[0]? = some (.int .i64 l[k].1) from rfl))
  obtain ⟨h1, e1⟩ := List.getElem?_eq_some_iff.1 (g1.trans (show (spC l[k])[1]? = some (.int .i64 l[k].2) from rfl))
  refine ⟨b, o, e, hb, ?_, ?_⟩
  · have := hc _ h0
    rw [e0] at this
    simpa using this
  · have := hc _ h1
    rw [e1] at this
    rw [Nat.add_assoc]
    exact this

theorem gstep_len (out : List (Int × Int)) (x : Int × Int) : (gstep out x).length ≤ out.length + 1 := by
  unfold gstep
  cases h : out.getLast? with
  | none => simp
  | some y =>
    simp only
    split
    · simp
    · simp
theorem foldl_gstep_len : ∀ (l out : List (Int × Int)), (l.foldl gstep out).length ≤ out.length + l.length
  | [], out => by simp
  | x :: r, out => by
    have := foldl_gstep_len r (gstep out x)
    have := gstep_len out x
    simp only [List.foldl_cons, List.length_cons]
    omega

def touchB (out : List (Int × Int)) (x : Int × Int) : Bool := match out.getLast? with | some y => decide (x.1 ≤ y.2) | none => false
theorem gstep_yes {out : List (Int × Int)} {x : Int × Int} (h : touchB out x = true) : ∃ y, out.getLast? = some y ∧ gstep out x = out.dropLast ++ [(y.1, max y.2 x.2)] := by
  unfold touchB at h
  cases hl : out.getLast? with
  | none => rw [hl] at h; cases h
  | some y =>
    rw [hl] at h
    refine ⟨y, rfl, ?_⟩
    unfold gstep
    rw [hl]
    simp only
    rw [if_pos (by simpa using h)]
theorem gstep_no {out : List (Int × Int)} {x : Int × Int} (h : touchB out x = false) : gstep out x = out ++ [x] := by
  unfold touchB at h
  unfold gstep
  cases hl : out.getLast? with
  | none => rfl
  | some y =>
    rw [hl] at h
    simp only
    rw [if_neg (by simpa using h)]
/-- the last one's end is written anew -/
theorem spanCells_last {out : List (Int × Int)} {y : Int × Int} {q : Nat} (h : out.getLast? = some y) (hq : out.length = q + 1) (z : Int) : (spanCells out).set (q * 2 + 1) (.int .i64 z) = spanCells (out.dropLast ++ [(y.1, z)]) ∧ (spanCells out)[q * 2 + 1]? = some (.int .i64 y.2) := by
  have hs := last_split h
  have hdl : out.dropLast.length = q := by simp; omega
  have e : spanCells out = spanCells out.dropLast ++ [.int .i64 y.1, .int .i64 y.2] := by
    conv => lhs; rw [hs]
    rw [spanCells_append]; rfl
  have hl : (spanCells out.dropLast).length = q * 2 := by rw [spanCells_len, hdl]
  constructor
  · rw [e, List.set_append_right _ _ (by omega), hl, show q * 2 + 1 - q * 2 = 1 by omega, spanCells_append]
    rfl
  · rw [e, List.getElem?_append_right (by omega), hl, show q * 2 + 1 - q * 2 = 1 by omega]
    rfl

/-- the loop's state -/
structure GaS (w wr : World) (l : List (Int × Int)) (k : Nat) (A : Option Addr) (c : Nat) : Prop where
  cap : ((l.take k).foldl gstep []).length ≤ c
  own : wr.ownsRow w.heap.size 41 2 (.slice A ((l.take k).foldl gstep []).length c) ((l.take k).foldl gstep []).length (spanCells ((l.take k).foldl gstep []))
  below : Below w.heap.size w wr

set_option maxHeartbeats 1000000 in
theorem gather_any (A : Option Addr) (n c : Nat) (l : List (Int × Int)) (w : World) (h : Rd w w.heap.size 2 A n (spanCells l)) (hn : n ≤ 10000) :
    Calls Tryz.prog 141 #[.slice A n c] w fun e w' => (∃ A' c', e = .returned (.slice A' (gatherS l).length c') ∧ w'.ownsRow w.heap.size 41 2 (.slice A' (gatherS l).length c') (gatherS l).length (spanCells (gatherS l)) ∧ (gatherS l).length ≤ c') ∧ Below w.heap.size w w' := by
  obtain ⟨i0, hi0, hz0, hz1, hz2⟩ := info_parts info41
  have hl := h.span.1
  have HL := Lib.hid hl
  have HR := Lib.hid h
  have hst : GaS w w l 0 none 0 := ⟨by simp, by simpa [spanCells] using World.ownsRow_nil w _ 41 2, Below.refl _ _⟩
  have HST := Lib.hid hst
  clear hl h hst
  go_enter Tryz.func141, Tryz.ntmps141
  go_wp2_with fail
  go_loopw [3, 9] (fun v i wr => ∃ (k : Nat) (A' : Option Addr) (c' : Nat), k ≤ n ∧ i = .int .i64 k ∧ v = .slice A' ((l.take k).foldl gstep []).length c' ∧ GaS w wr l k A' c') (fun _ i _ => n - (intOf i).toNat)
  case atStart => exact ⟨0, none, 0, Nat.zero_le _, rfl, rfl, HST.out⟩
  case round =>
    obtain ⟨k, A', c', hk, rfl, rfl, hg⟩ := hrel
    have HG := Lib.hid hg
    clear hg HST
    by_cases hlt : k < n
    · obtain ⟨b, o, rfl, hb, x0, x1⟩ := (HR.out.below HG.out.below (Nat.le_refl _)).span.2 k (by have := HL.out; omega)
      have hk' : k < l.length := by have := HL.out; omega
      have hsn : (l.take (k + 1)).foldl gstep [] = gstep ((l.take k).foldl gstep []) l[k] := by rw [List.take_succ_eq_append_getElem hk', List.foldl_append]; rfl
      have HSN := Lib.hid hsn
      clear hsn
      have hol : ((l.take k).foldl gstep []).length ≤ k := by have := foldl_gstep_len (l.take k) []; simp at this; omega
      generalize hout : (l.take k).foldl gstep [] = out at *
      have HOUT := Lib.hid hout
      clear hout
      have own1 : (wr.alloc (.cells #[.int .i64 l[k].1, .int .i64 l[k].2] 41)).ownsRow w.heap.size 41 2 (.slice A' out.length c') out.length (spanCells out) := by have := HG.out.own; rw [HOUT.out] at this; exact this.alloc _
      have hb1 : Below w.heap.size w (wr.alloc (.cells #[.int .i64 l[k].1, .int .i64 l[k].2] 41)) := HG.out.below.alloc HG.out.below.size _
      have hbk : Blk (wr.alloc (.cells #[.int .i64 l[k].1, .int .i64 l[k].2] 41)) wr.heap.size 41 #[.int .i64 l[k].1, .int .i64 l[k].2] := Blk.new _ _ _
      have hltb : ∀ g, (Value.slice A' out.length c').ownBlock = some g → w.heap.size ≤ g ∧ g < wr.heap.size := by have := HG.out.own; rw [HOUT.out] at this; exact this.lt
      have hcap : out.length ≤ c' := by have := HG.out.cap; rw [HOUT.out] at this; exact this
      have hszr : w.heap.size ≤ wr.heap.size := HG.out.below.size
      go_upto_region 5 with fail
      generalize wr.alloc (.cells #[.int .i64 l[k].1, .int .i64 l[k].2] 41) = wx at *
      obtain ⟨y0, y1⟩ : wx.cell? ⟨wr.heap.size, 0, none⟩ = some (.int .i64 l[k].1) ∧ wx.cell? ⟨wr.heap.size, 1, none⟩ = some (.int .i64 l[k].2) := ⟨(hbk.cell 0).trans rfl, (hbk.cell 1).trans rfl⟩
      have OWN1 := Lib.hid own1
      have HB1 := Lib.hid hb1
      have HBK := Lib.hid hbk
      have HLT := Lib.hid hltb
      have hszx := hbk.lt
      clear own1 hb1 hbk hltb x0 x1 HG
      generalize hLL : out.length = L at *
      have HLL := Lib.hid hLL
      clear hLL
      go_upto_region 6 with fail
      go_cut [27] (fun x wy => x = .bool (touchB out l[k]) ∧ ∃ q, wy = wx.drewN q)
      case first =>
        cases hla : out.getLast? with
        | none =>
          have : out = [] := List.getLast?_eq_none_iff.1 hla
          have hL0 : L = 0 := by rw [← HLL.out, this]; rfl
          have HT : Hid (false = touchB out l[k]) := by show false = touchB out l[k]; unfold touchB; rw [hla]
          subst hL0
          clear this hla
          go_wp2_with fail
          go_quiet (fail)
          go_wp2_with fail
          go_meet
          exact ⟨by rw [← HT.out], _, rfl⟩
        | some y =>
          have HT : Hid (decide (l[k].1 ≤ y.2) = touchB out l[k]) := by show decide (l[k].1 ≤ y.2) = touchB out l[k]; unfold touchB; rw [hla]
          obtain ⟨q, hq⟩ : ∃ q, L = q + 1 := ⟨L - 1, by have := HLL.out; have h9 : out ≠ [] := (fun e => by rw [e] at hla; cases hla); have := List.length_pos_iff.2 h9; omega⟩
          subst hq
          obtain ⟨g, rfl, _, hgl2, _⟩ := own_at OWN1.out (by omega)
          have hce : wx.cell? ⟨g, q * 2 + 1, none⟩ = some (.int .i64 y.2) := by
            rw [OWN1.out.cellAt (q * 2 + 1) (by omega)]
            exact (spanCells_last hla HLL.out 0).2
          have i1 : (0 : Int) ≤ (q : Int) := by omega
          have i2 : (q : Int) < ((q + 1 : Nat) : Int) := by omega
          have d1 : decide ((0 : Int) < ((q + 1 : Nat) : Int)) = true := decide_eq_true (by omega)
          clear hla
          go_wp2_with fail
          go_quiet (fail)
          go_wp2_with fail
          go_meet
          exact ⟨by rw [HT.out], _, rfl⟩
      case rest =>
        obtain ⟨rfl, q0, rfl⟩ := hcut
        have own2 : (wx.drewN q0).ownsRow w.heap.size 41 2 (.slice A' L c') L (spanCells out) := OWN1.out
        have hbk2 : Blk (wx.drewN q0) wr.heap.size 41 #[.int .i64 l[k].1, .int .i64 l[k].2] := HBK.out
        have hb2 : Below w.heap.size w (wx.drewN q0) := below_drewN HB1.out _
        generalize wx.drewN q0 = w2 at *
        have OWN2 := Lib.hid own2
        have HBK2 := Lib.hid hbk2
        have HB2 := Lib.hid hb2
        obtain ⟨z0, z1⟩ : w2.cell? ⟨wr.heap.size, 0, none⟩ = some (.int .i64 l[k].1) ∧ w2.cell? ⟨wr.heap.size, 1, none⟩ = some (.int .i64 l[k].2) := ⟨(hbk2.cell 0).trans rfl, (hbk2.cell 1).trans rfl⟩
        have hsz2 := hbk2.lt
        clear own2 hbk2 hb2 OWN1 HBK HB1 y0 y1
        by_cases ht : touchB out l[k] = true
        · obtain ⟨y, hla, hgs⟩ := gstep_yes ht
          have HGS := Lib.hid hgs
          rw [ht]
          obtain ⟨q, hq⟩ : ∃ q, L = q + 1 := ⟨L - 1, by have := HLL.out; have h9 : out ≠ [] := (fun e => by rw [e] at hla; cases hla); have := List.length_pos_iff.2 h9; omega⟩
          subst hq
          obtain ⟨g, rfl, hglow, hgl2, _⟩ := own_at OWN2.out (by omega)
          have hgr : g < wr.heap.size := (HLT.out g rfl).2
          have hce : w2.cell? ⟨g, q * 2 + 1, none⟩ = some (.int .i64 y.2) := by
            rw [OWN2.out.cellAt (q * 2 + 1) (by omega)]
            exact (spanCells_last hla HLL.out 0).2
          have hfz : w2.frozen? ⟨g, q * 2 + 1, none⟩ = false := OWN2.out.frozenAt _
          have hst := OWN2.out.stored (q * 2 + 1) (.int .i64 (max y.2 l[k].2))
          rw [(spanCells_last hla HLL.out (max y.2 l[k].2)).1] at hst
          have HSTO := Lib.hid hst
          have i1 : (0 : Int) ≤ (q : Int) := by omega
          have i2 : (q : Int) < ((q + 1 : Nat) : Int) := by omega
          clear hla ht hgs hst
          go_wp2_with fail
          go_region
          all_goals
            go_wp2_with fail
            go_roundw
            case rel =>
              have e : (l.take (k + 1)).foldl gstep [] = out.dropLast ++ [(y.1, max y.2 l[k].2)] := HSN.out.trans HGS.out
              have hel : (out.dropLast ++ [(y.1, max y.2 l[k].2)]).length = q + 1 := by have := HLL.out; simp; omega
              refine ⟨k + 1, some ⟨g, 0, none⟩, c', by omega, by go_num, by rw [e, hel], ⟨by rw [e, hel]; exact hcap, ?_, below_set (Below.drew HB2.out) hglow _⟩⟩
              rw [e, hel]
              exact HSTO.out.1
            case measure => simp [intOf]; omega
        · have ht : touchB out l[k] = false := by simpa using ht
          have HGS := Lib.hid (gstep_no ht)
          rw [ht]
          have own3 : (w2.alloc (.cells #[.int .i64 l[k].1, .int .i64 l[k].2] 41)).ownsRow w.heap.size 41 2 (.slice A' L c') L (spanCells out) := OWN2.out.alloc _
          have rd3 : Rd (w2.alloc (.cells #[.int .i64 l[k].1, .int .i64 l[k].2] 41)) (w2.alloc (.cells #[.int .i64 l[k].1, .int .i64 l[k].2] 41)).heap.size 2 (some ⟨w2.heap.size, 0, none⟩) 1 (spanCells [l[k]]) := (Blk.new w2 41 _).rd
          have hb3 : Below w.heap.size w (w2.alloc (.cells #[.int .i64 l[k].1, .int .i64 l[k].2] 41)) := HB2.out.alloc HB2.out.size _
          have hb2s := HB2.out.size
          have OWN3 := Lib.hid own3
          have RD3 := Lib.hid rd3
          have HB3 := Lib.hid hb3
          clear own3 rd3 hb3 ht
          go_wp2_with (first
            | (refine wpList_one rfl 52 41 _ rfl w2.heap.size rfl (some 44) rfl under52 (.agg #[.int .i64 l[k].1, .int .i64 l[k].2]) rfl #[.int .i64 l[k].1, .int .i64 l[k].2] (built41 _ _) ?_)
            | (at_builtin; refine wpList_append_rd _ rfl _ _ 52 rfl w.heap.size 41 i0 (.agg #[.int .i64 0, .int .i64 0]) 2 16 under52 hi0 hz0 hz1 hz2 rfl (by decide) (.slice A' L c') L (spanCells out) rfl OWN3.out (some ⟨w2.heap.size, 0, none⟩) 1 1 _ _ rfl RD3.out (spanCells_one [l[k]]) (by unfold maxLen; omega) (by omega) (by simp; omega) ?_; intro A2 c2 w5 hown hgrow hnc hat; have HOW := Lib.hid hown; have HGR := Lib.hid hgrow; have HNC := Lib.hid hnc; clear hown hgrow hat hnc))
          go_roundw
          case rel =>
            have e : (l.take (k + 1)).foldl gstep [] = out ++ [l[k]] := HSN.out.trans HGS.out
            have hel : (out ++ [l[k]]).length = L + 1 := by have := HLL.out; simp; omega
            refine ⟨k + 1, A2, c2, by omega, by go_num, by rw [e, hel], ⟨by rw [e, hel]; exact HNC.out, ?_, HB3.out.trans (grown_below HGR.out (by simp; omega) (fun g hg => (OWN3.out.lt g hg).1))⟩⟩
            rw [e, hel, spanCells_append]
            exact HOW.out
          case measure => simp [intOf]; omega
    · obtain rfl : k = n := by omega
      have hta : l.take k = l := List.take_of_length_le (by have := HL.out; omega)
      have HTA := Lib.hid hta
      clear hta
      go_wp2_with fail
      go_ret
      have := HG.out
      have e : (l.take k).foldl gstep [] = gatherS l := by rw [HTA.out]; rfl
      rw [e]
      exact ⟨⟨A', c', rfl, by have := HG.out.own; rw [e] at this; exact this, by have := HG.out.cap; rw [e] at this; exact this⟩, HG.out.below⟩
end Go.Proofs.YtoaiamgcegnjjaaGreatDoor
namespace Go.Proofs.YtoaiamgcegnjjaaGreatDoor
open Go.RowKit Go.Maps Go.WideMaps Go.Sort
set_option maxRecDepth 100000

theorem insert1_any (A : Option Addr) (n c : Nat) (fv : Value) (w : World) (hn : n ≤ 1) : Calls Tryz.prog 217 #[.slice A n c, .int .i64 0, .int .i64 n, fv] w fun e w' => e = .returned (.tuple #[]) ∧ w = w' := by
  go_enter Tryz.func217, Tryz.ntmps217
  go_wp2_with fail
  go_loop [8] (fun i => i = .int .i64 1) (fun _ => 0)
  case atStart => rfl
  case round =>
    subst hrel
    go_wp2_with fail
    go_end0
    exact ⟨rfl, rfl⟩
theorem pdq1_any (A : Option Addr) (n c : Nat) (lim : Int) (fv : Value) (w : World) (hn : n ≤ 1) : Calls Tryz.prog 184 #[.slice A n c, .int .i64 0, .int .i64 n, .int .i64 lim, fv] w fun e w' => e = .returned (.tuple #[]) ∧ w = w' := by
  go_enter Tryz.func184, Tryz.ntmps184
  go_wp2_with fail
  refine wp_loop_rounds 1 ?_
  rw [rounds_succ]
  go_wp2_with fail
  refine (insert1_any A n c fv _ hn).mono ?_
  rintro e w' ⟨rfl, rfl⟩
  go_wp2_with fail
  refine bodyPost_ret (results_none rfl _ _ _) rfl ⟨rfl, rfl⟩
theorem len64_any (n : Nat) (w : World) (hn : n ≤ 1) : Calls Tryz.prog 110 #[.int .u64 n] w fun e w' => (∃ k : Int, e = .returned (.int .i64 k)) ∧ w = w' := by
  have h69 : ∀ n : Nat, n ≤ 1 → Calls Tryz.prog 169 #[.int .u64 n] w fun e w' => (∃ k : Int, e = .returned (.int .i64 k)) ∧ w = w' := fun n hn => by
    rcases (show n = 0 ∨ n = 1 by omega) with rfl | rfl
    · go_enter Tryz.func169, Tryz.ntmps169
      go_wp2_with fail
      go_ret
      exact ⟨⟨_, rfl⟩, rfl⟩
    · go_enter Tryz.func169, Tryz.ntmps169
      go_wp2_with fail
      go_ret
      exact ⟨⟨_, rfl⟩, rfl⟩
  go_enter Tryz.func110, Tryz.ntmps110
  go_wp2_with fail
  refine (h69 n hn).mono ?_
  rintro e w' ⟨⟨k, rfl⟩, rfl⟩
  go_wp2_with fail
  go_ret
  exact ⟨⟨k, rfl⟩, rfl⟩

theorem sort1_any (A : Option Addr) (n c : Nat) (fv : Value) (w : World) (hn : n ≤ 1) : Calls Tryz.prog 142 #[.slice A n c, fv] w fun e w' => e = .returned (.tuple #[]) ∧ w = w' := by
  go_enter Tryz.func142, Tryz.ntmps142
  go_wp2_with fail
  refine (len64_any n _ hn).mono ?_
  rintro e w' ⟨⟨k, rfl⟩, rfl⟩
  go_wp2_with fail
  refine (pdq1_any A n c k fv _ hn).mono ?_
  rintro e w' ⟨rfl, rfl⟩
  go_wp2_with fail
  go_end0
  exact ⟨rfl, rfl⟩

structure OfW (w wr : World) (s : Int × Int) (A : Option Addr) (c : Nat) : Prop where
  cap : (ofS s).length ≤ c
  own : wr.ownsRow (w.heap.size + 1) 41 2 (.slice A (ofS s).length c) (ofS s).length (spanCells (ofS s))
  below : Below w.heap.size w wr
  res : Blk wr w.heap.size 95 #[.slice none 0 0]
theorem ofS_le (s : Int × Int) : (ofS s).length ≤ 1 := by unfold ofS; split <;> simp
theorem gather_ofS (s : Int × Int) : gatherS (ofS s) = ofS s := by unfold ofS; split <;> rfl
theorem size95 : (Tryz.prog.info? 95).map (·.size) = some 1 := by kernel_rfl

set_option maxHeartbeats 1000000 in
theorem of1_any (g : Nat) (f t : Int) (w : World) (hok : spanOK f t = true) (hb : Blk w g 41 #[.int .i64 f, .int .i64 t]) :
    Calls Tryz.prog 92 #[.slice (some ⟨g, 0, none⟩) 1 1] w fun e w' => (∃ A c, e = .returned (.agg #[.slice A (ofS (f, t)).length c]) ∧ w'.ownsRow w.heap.size 41 2 (.slice A (ofS (f, t)).length c) (ofS (f, t)).length (spanCells (ofS (f, t))) ∧ (ofS (f, t)).length ≤ c) ∧ Below w.heap.size w w' := by
  obtain ⟨i0, hi0, hz0, hz1, hz2⟩ := info_parts info41
  have hgl := hb.lt
  have HOK := Lib.hid hok
  have HBK := Lib.hid hb
  have hb0 : Below w.heap.size w (w.alloc (.cells #[.slice none 0 0] 95)) := (Below.refl _ _).alloc (Nat.le_refl _) _
  have k0 : Blk (w.alloc (.cells #[.slice none 0 0] 95)) w.heap.size 95 #[.slice none 0 0] := Blk.new _ _ _
  go_enter Tryz.func92, Tryz.ntmps92
  go_upto_region 1 with fail
  generalize w.alloc (.cells #[.slice none 0 0] 95) = w0 at *
  have HB0 := Lib.hid hb0
  have K0 := Lib.hid k0
  clear hb0 k0 hb hok
  go_wp2_with fail
  go_loopw [3, 5, 8] (fun v _ i wr => (i = .int .i64 0 ∧ v = .slice none 0 0 ∧ wr = w0) ∨ (i = .int .i64 1 ∧ ∃ A c, v = .slice A (ofS (f, t)).length c ∧ OfW w wr (f, t) A c)) (fun _ _ i _ => 1 - (intOf i).toNat)
  case atStart => exact .inl ⟨rfl, rfl, rfl⟩
  case round =>
    rcases hrel with ⟨rfl, rfl, rfl⟩ | ⟨rfl, A, c, rfl, hs⟩
    · have hbk := HBK.out.below HB0.out hgl
      obtain ⟨x0, x1⟩ : wr.cell? ⟨g, 0, none⟩ = some (.int .i64 f) ∧ wr.cell? ⟨g, 1, none⟩ = some (.int .i64 t) := ⟨(hbk.cell 0).trans rfl, (hbk.cell 1).trans rfl⟩
      have hsz0 := HB0.out.size
      have hszk := K0.out.lt
      clear hbk
      go_wp2_with fail
      refine (span_any f t _).mono ?_
      rintro en w1 ⟨rfl, hb1⟩
      have hbw := (HB0.out.alloc hsz0 (.cells #[.int .i64 f, .int .i64 t] 41)).trans (hb1.mono (by simp; omega))
      have hbk1 : Blk w1 wr.heap.size 41 #[.int .i64 f, .int .i64 t] := (Blk.new wr 41 _).below hb1 (by simp)
      have kr := (K0.out.alloc (.cells #[.int .i64 f, .int .i64 t] 41)).below hb1 (by simp; omega)
      obtain ⟨y0, y1⟩ : w1.cell? ⟨wr.heap.size, 0, none⟩ = some (.int .i64 f) ∧ w1.cell? ⟨wr.heap.size, 1, none⟩ = some (.int .i64 t) := ⟨(hbk1.cell 0).trans rfl, (hbk1.cell 1).trans rfl⟩
      have HBW := Lib.hid hbw
      have HK1 := Lib.hid kr
      have hsz1 := kr.lt
      clear hb1 hbw hbk1 kr x0 x1
      rw [HOK.out]
      by_cases hft : f < t
      · have HE : Hid (ofS (f, t) = [(f, t)]) := by show ofS (f, t) = [(f, t)]; unfold ofS; rw [if_pos hft]
        have own3 : (w1.alloc (.cells #[.int .i64 f, .int .i64 t] 41)).ownsRow (w.heap.size + 1) 41 2 (.slice none 0 0) 0 [] := World.ownsRow_nil _ _ _ _
        have rd3 : Rd (w1.alloc (.cells #[.int .i64 f, .int .i64 t] 41)) (w1.alloc (.cells #[.int .i64 f, .int .i64 t] 41)).heap.size 2 (some ⟨w1.heap.size, 0, none⟩) 1 (spanCells [(f, t)]) := (Blk.new w1 41 _).rd
        have OWN3 := Lib.hid own3
        have RD3 := Lib.hid rd3
        clear own3 rd3
        go_wp2_with (first
          | (refine wpList_one rfl 52 41 _ rfl w1.heap.size rfl (some 23) rfl under52 (.agg #[.int .i64 f, .int .i64 t]) rfl #[.int .i64 f, .int .i64 t] (built41 _ _) ?_)
          | (at_builtin; refine wpList_append_rd _ rfl _ _ 52 rfl (w.heap.size + 1) 41 i0 (.agg #[.int .i64 0, .int .i64 0]) 2 16 under52 hi0 hz0 hz1 hz2 rfl (by decide) (.slice none 0 0) 0 [] rfl OWN3.out (some ⟨w1.heap.size, 0, none⟩) 1 1 _ _ rfl RD3.out (spanCells_one [(f, t)]) (by unfold maxLen; omega) (by omega) (by simp; omega) ?_; intro A2 c2 w5 hown hgrow hnc hat; have HOW := Lib.hid hown; have HGR := Lib.hid hgrow; have HNC := Lib.hid hnc; clear hown hgrow hat hnc))
        go_roundw
        case rel =>
          refine .inr ⟨by go_num, A2, c2, by rw [HE.out]; rfl, ⟨by rw [HE.out]; exact HNC.out, by rw [HE.out]; simpa using HOW.out, ?_, ?_⟩⟩
          · exact (HBW.out.alloc HBW.out.size _).trans (grown_below HGR.out (by simp; omega) (fun k hk => by simp [Value.ownBlock] at hk))
          · exact (HK1.out.alloc _).grown HGR.out (by simp [Value.ownBlock])
        case measure => simp [intOf]
      · have HE : Hid (ofS (f, t) = []) := by show ofS (f, t) = []; unfold ofS; rw [if_neg hft]
        go_wp2_with fail
        go_roundw
        case rel => exact .inr ⟨by go_num, none, 0, by rw [HE.out]; rfl, ⟨by rw [HE.out]; simp, by rw [HE.out]; simpa [spanCells] using World.ownsRow_nil w1 _ 41 2, HBW.out, HK1.out⟩⟩
        case measure => simp [intOf]
    · have HS := Lib.hid hs
      have hle := ofS_le (f, t)
      have hkr := hs.res
      have hszr := hkr.lt
      clear hs
      go_wp2_with fail
      refine (sort1_any A _ c _ _ hle).mono ?_
      rintro en w1 ⟨rfl, rfl⟩
      go_wp2_with fail
      refine (gather_any A _ c (ofS (f, t)) _ (own_rd HS.out.own) (by omega)).mono ?_
      rintro en w2 ⟨⟨A', c', rfl, hown, hcap⟩, hb2⟩
      rw [gather_ofS] at hown hcap ⊢
      have kr2 := hkr.below hb2 hszr
      have f2 := kr2.free'
      have r0 : w2.cell? ⟨w.heap.size, 0, none⟩ = some (.slice none 0 0) := (kr2.cell 0).trans rfl
      have HOW := Lib.hid hown
      have HB2 := Lib.hid hb2
      have KR2 := Lib.hid kr2
      clear hown hb2 kr2 hkr
      go_wp2_with fail
      have kf := KR2.out.set 0 (.slice A' (ofS (f, t)).length c')
      refine bodyPost_ret (v := .agg #[.slice A' (ofS (f, t)).length c']) (results_cell_row Tryz.results92 _ _ w.heap.size 95 _ (0, 0) _ rfl kf Tryz.underlying95 rfl size95) rfl ⟨⟨A', c', rfl, ?_, hcap⟩, ?_⟩
      · exact own_base (own_set HOW.out (b := w.heap.size) (o := 0) hszr _) (by omega)
      · exact below_set (HS.out.below.trans (HB2.out.mono (by omega))) (Nat.le_refl _) _
end Go.Proofs.YtoaiamgcegnjjaaGreatDoor
