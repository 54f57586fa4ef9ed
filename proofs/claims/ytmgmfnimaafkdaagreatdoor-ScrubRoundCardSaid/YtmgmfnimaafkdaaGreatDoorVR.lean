/- The names of a store's slices, sorted. -/
import Derived.Test.YtmgmfnimaafkdaaGreatDoorVP
import Derived.Test.YtmgmfnimaafkdaaGreatDoorProg
import Derived.RangeFuncNested
import Derived.RangeFuncBound
import Derived.RangeFuncCalls
import Derived.RangeFuncLeaves
import Derived.Shelf.Abstract
import Derived.Shelf.RegionOpen
import Derived.WalkKit
import Derived.OwnWalkIn
import Derived.TacticsInMore
import Derived.LoopNIn
import Derived.LoopIn
import Derived.Sort.MapsRangeIn
import Derived.RegionIn
import Derived.Maps.AppendAt
import Derived.Shelf.SlSortCmp.NoneTotal
import Derived.Shelf.LaysC
import Derived.Shelf.SlIterI.Nil
import Derived.Shelf.SortM.Plain
import Derived.Shelf.SortM.SortNone
import Derived.Shelf.Strings.Search3
import Derived.Shelf.Strconv.ParseIntPublic10
namespace Go.Proofs.YtmgmfnimaafkdaaGreatDoor
open Go.RowKit Go.Maps Go.Shelf
set_option maxRecDepth 100000
attribute [local go_sem] Oper.semAt_some

abbrev NameW := { x : NameV // wfN x }
theorem gby_new (W : World) (o : Obj) : W.grownBy (W.alloc o) none := gby_alloc (gby_refl _ _) o
set_option maxHeartbeats 4000000 in
theorem nameKeys1_in (F : Fence) (n : Nat) (h : F.fn 147) (hro : F.round = none) (hn : 1 ≤ n) (l Bm b nn : Nat) (D0 : DataW Unit) (f : NameV → Option SlotV) (hf : SK.Says D0 f) (J Jx : List NameW → World → Prop)
  (hY : ∀ pre x W, J pre W → pre.length < Maps.size D0 → YieldAt F (n - 1) Tryz.prog l #[nameV x.1] W fun e W' =>
   (e = .returned (.bool true) ∧ J (pre ++ [x]) W' ∧ KeepsWalks W W') ∨ (e = .returned (.bool false) ∧ Jx (pre ++ [x]) W'))
  (W : World) (hJ : AbidesFrom W.heap.size J) (hm : W.cell? ⟨Bm, 0, none⟩ = some (.map (some b))) (hown : W.ownsMap Tryz.prog 73 SK.R b nn D0) (h0 : J [] W) :
  CallsIn F n Tryz.prog 147 #[.func (.yield l) #[] #[], .pointer (some ⟨Bm, 0, none⟩)] W fun e W' => (∃ v, e = .returned v) ∧
   ((∃ ss : List NameW, SK.Keys f (ss.map (·.1)) ∧ J ss W') ∨ (∃ pre : List NameW, True ∧ Jx pre W')) := by
 refine callsIn_of_wp Tryz.func147 rfl h ?_ hro
 simp only [Tryz.ntmps147, List.size_toArray, List.length_cons, List.length_nil, Nat.reduceAdd, Nat.reduceSub, Array.replicate_succ, Array.replicate_zero, List.push_toArray, List.append_toArray, List.nil_append, List.cons_append]
 gi_wp2_with (first
  | (gi_at_range; refine wpListIn_range_own _ rfl _ 125 rfl 73 142 keyed73 Tryz.underlying125 _ b nn _ rfl hown ?_; intro w0 hrg0 hg0 hs0)
  | gi_in)
 go_frame
 gi_loopw [7] (fun _ wr => ∃ (left : Lit → Bool) (cnt : Nat) (ss : List NameW), wr.ranges Tryz.prog 73 SK.R b W.heap.size nn D0 left cnt ∧ ss.length + cnt ≤ Maps.size D0 ∧ SK.Come f left (ss.map (·.1)) ∧ J ss wr)
  (fun _ wr => wr.rangeLeft b W.heap.size)
 case atStart =>
  exact ⟨_, _, [], hrg0, by simp, KV.Come.start hf, hJ [] W w0 none h0 hg0 (fun r e => by cases e)⟩
 case round =>
  obtain ⟨left, cnt, ss, hrg, hcs, hC, hJs⟩ := hrel
  gi_wp2_with (first
   | (gi_at_next; refine wpListIn_next_ranges _ rfl _ rfl 73 keyed73 SK.R nameV id (fun key kl hk => by obtain ⟨x, _, hx, _⟩ := keyOf_name_inv hk; exact ⟨x, hx⟩) (fun v _ _ => ⟨v, rfl⟩) b W.heap.size nn _ _ _ rfl hrg ?_ ?_)
   | gi_in)
  ·intro hc0 hl0
   gi_wp2
   go_end0
   exact ⟨⟨_, rfl⟩, .inl ⟨ss, hC.done hl0, hJs⟩⟩
  ·intro x1 x2 c kl yd yp w2 cnt2 hkey hlk hv hat hrg2 hlt hg2 hs2 hen
   obtain ⟨x', hx', ex, rfl⟩ := keyOf_name_inv hkey
   obtain rfl : (x1, x2) = x' := nameV_inj ex
   obtain ⟨a, ha, _⟩ := KV.Says.here hf hx' hat
   have hJ2 : J ss w2 := hJ ss wr w2 (some W.heap.size) hJs hg2 (fun r e => by cases e; exact ⟨nR0, hrg.iter_walk⟩)
   have hC2 := hC.step hx' hlk (by rw [ha]; rfl)
   clear hs2
   have hcy : SK.Come f (fun z => left z && !z.sameKey (nameL (x1, x2))) ((ss ++ [(⟨(x1, x2), hx'⟩ : NameW)]).map (fun x => x.1)) := by rw [List.map_append]; exact hC2
   have hnm : nameV (x1, x2) = .agg #[.int .i64 x1, .int .i64 x2] := rfl
   rw [hnm] at hen
   rw [hnm]
   have hg3 := gby_new w2 (.cells #[.int .i64 x1, .int .i64 x2] 73)
   have hJ3 := hJ _ _ _ _ hJ2 hg3 (fun r e => by cases e)
   obtain ⟨fn, tmps, assign, body, hy, hR⟩ := hY ss ⟨(x1, x2), hx'⟩ _ hJ3 (by omega)
   simp only [hnm] at hy
   have hk2 : KeepsWalks w2 (w2.alloc (.cells #[.int .i64 x1, .int .i64 x2] 73)) := KeepsWalks.alloc _ _
   gi_wp2
   refine hR.mono ?_
   rintro e W3 (⟨rfl, hJ4, hk4⟩ | ⟨rfl, hJx4⟩)
   ·gi_wp2
    have hrg3 := hrg2.of_walks (hk2.trans hk4)
    go_roundw
    case rel => exact ⟨_, cnt2, ss ++ [⟨(x1, x2), hx'⟩], hrg3, by simp; omega, hcy, hJ4⟩
    case measure => rw [hrg3.left_eq, hrg.left_eq]; exact hlt
   ·gi_wp2
    refine bodyPost_ret (results_none rfl _ _ _) rfl ?_
    exact ⟨⟨_, rfl⟩, .inr ⟨ss ++ [⟨(x1, x2), hx'⟩], trivial, hJx4⟩⟩
theorem nameKeys_in (F : Fence) (n : Nat) (h : F.fn 88) (hro : F.round = none) (mb : Option Nat) (w : World) :
  CallsIn F n Tryz.prog 88 #[.map mb] w fun e w' => e = .returned (.func (.func 147) #[] #[.pointer (some ⟨w.heap.size, 0, none⟩)]) ∧ w' = w.alloc (.cells #[.map mb] 125) := by
 refine callsIn_of_wp Tryz.func88 rfl h ?_ hro
 simp only [Tryz.ntmps88, List.size_toArray, List.length_cons, List.length_nil, Nat.reduceAdd, Nat.reduceSub, Array.replicate_succ, Array.replicate_zero, List.push_toArray, List.append_toArray, List.nil_append, List.cons_append]
 gi_wp2
 go_ret
 exact ⟨rfl, rfl⟩
theorem nameKeys_stops (F : Fence) (n : Nat) (h : F.fn 147) (hro : F.round = none) (hn : 1 ≤ n) (Bm b nn : Nat) (D0 : DataW Unit) (f : NameV → Option SlotV) (hf : SK.Says D0 f) (w : World) (hBm : Bm < w.heap.size)
  (hm : w.cell? ⟨Bm, 0, none⟩ = some (.map (some b))) (hown : w.ownsMap Tryz.prog 73 SK.R b nn D0) :
  SeqStopsK F n Tryz.prog 147 #[.pointer (some ⟨Bm, 0, none⟩)] (fun x : NameW => #[nameV x.1]) KeepsWalks (fun ss => SK.Keys f (ss.map (·.1))) (fun _ => True) (Maps.size D0) w := fun l J Jx W hW hJ _ hY h0 => by
 have hown' : W.ownsMap Tryz.prog 73 SK.R b nn D0 := by
  have hbl := hown.lt
  obtain ⟨es, clock, hb, Ft, hs, hD⟩ := hown
  exact ⟨es, clock, (hW.block b hbl).trans hb, Ft, hs, hD⟩
 exact nameKeys1_in F n h hro hn l Bm b nn D0 f hf J Jx hY W hJ ((hW.cell (p := ⟨Bm, 0, none⟩) hBm).trans hm) hown' h0
def nameRow (n : NameV) : List Value := [.int .i64 n.1, .int .i64 n.2]
def nameRows (l : List NameV) : List Value := l.flatMap nameRow
theorem nameRows_append (a b : List NameV) : nameRows (a ++ b) = nameRows a ++ nameRows b := by unfold nameRows; rw [List.flatMap_append]
theorem nameRows_len (l : List NameV) : (nameRows l).length = l.length * 2 := by
 induction l with
 | nil => rfl
 | cons a l ih => unfold nameRows at ih ⊢; simp [List.flatMap_cons, nameRow, ih]; omega
theorem under81 : Tryz.prog.underlying 81 = some (.slice 73) := by kernel_rfl
theorem info73 : (Tryz.prog.info? 73).map (fun i => (i.zero, i.size, i.bytes)) = some (some (.agg #[.int .i64 0, .int .i64 0]), 2, 16) := by kernel_rfl
set_option maxHeartbeats 8000000 in
theorem nameApp_in (n : Nat) (hn : 3 ≤ n) (Bm b nn : Nat) (D0 : DataW Unit) (f : NameV → Option SlotV) (hf : SK.Says D0 f) (w : World) (hBm : Bm < w.heap.size) (hm : w.cell? ⟨Bm, 0, none⟩ = some (.map (some b))) (hown : w.ownsMap Tryz.prog 73 SK.R b nn D0) (hN : Maps.size D0 ≤ 1000000) :
  CallsIn Fence.wide n Tryz.prog 179 #[.slice none 0 0, .func (.func 147) #[] #[.pointer (some ⟨Bm, 0, none⟩)]] w fun e w' => ∃ (v : Value) (ss : List NameV), e = .returned v ∧ SK.Keys f ss ∧ w'.ownsRow w.heap.size 73 2 v ss.length (nameRows ss) ∧ Below w.heap.size w w' := by
 have h1 : 1 ≤ n := by omega
 obtain ⟨i0, hi, hz0, hz1, hz2⟩ := info_parts info73
 refine callsIn_of_wp_marks Tryz.func179 rfl trivial ?_ rfl
 simp only [Tryz.ntmps179, List.size_toArray, List.length_cons, List.length_nil, Nat.reduceAdd, Nat.reduceSub, Array.replicate_succ, Array.replicate_zero, List.push_toArray, List.append_toArray, List.nil_append, List.cons_append]
 gi_wp2
 have bO := Boxed.new w 81 (.slice none 0 0)
 have hB0 : Below w.heap.size w (w.alloc (.cells #[.slice none 0 0] 81)) := (Below.refl _ w).alloc nR0 _
 have hm1 : (w.alloc (.cells #[.slice none 0 0] 81)).cell? ⟨Bm, 0, none⟩ = some (.map (some b)) := (hB0.cell (p := ⟨Bm, 0, none⟩) hBm).trans hm
 have hown1 : (w.alloc (.cells #[.slice none 0 0] 81)).ownsMap Tryz.prog 73 SK.R b nn D0 := by
  have hbl := hown.lt
  obtain ⟨es, clock, hb, Ft, hs, hD⟩ := hown
  exact ⟨es, clock, (hB0.block b hbl).trans hb, Ft, hs, hD⟩
 refine wpIn_rangeFunc_ownH rfl h1 (gf := 147) (lb := #[.pointer (some ⟨Bm, 0, none⟩)]) rfl trivial (enters_of Tryz.func147 (by kernel_rfl) rfl)
  (nameKeys_stops Fence.wide (n - 1) trivial rfl (by omega) Bm b nn D0 f hf _ (by simp; omega) hm1 hown1) walksK_t walksK_b bR0 (fun _ => rfl)
  (fun pre W => (∃ v, Boxed W w.heap.size 81 v ∧ W.ownsRow w.heap.size 73 2 v pre.length (nameRows (pre.map (·.1))) ∧ True) ∧ Below w.heap.size w W)
  (fun _ _ _ => False) ?hI (fun _ _ _ _ _ hs _ _ => hs) ⟨⟨_, bO, World.ownsRow_nil _ _ _ _, trivial⟩, hB0⟩
  (fun x a' W => ∃ Bx, w.heap.size < Bx ∧ Blk W Bx 73 #[.int .i64 x.1.1, .int .i64 x.1.2] ∧ a' = { tmps := #[.slice none 0 0, .func (.func 147) #[] #[.pointer (some ⟨Bm, 0, none⟩)], .pointer (some ⟨w.heap.size, 0, none⟩), undef, .slice none 0 0, .pointer (some ⟨Bx, 0, none⟩), .func (.func 147) #[] #[.pointer (some ⟨Bm, 0, none⟩)], nameV x.1, undef, undef, undef, undef, undef], defers := [] }) ?hAx ?assign ?body ?done ?stop
 case hI => exact OwnFrom.and (Own.from (holdsRow_own w.heap.size w.heap.size 81 73 2 (fun pre : List NameW => pre.length) (fun pre => nameRows (pre.map (·.1))) (fun _ _ => True)) _) (ownFrom_below nR0 (by simp))
 case hAx =>
  rintro x a' s A B row ⟨Bx, e1, e2, e3⟩ hg hr
  refine ⟨Bx, e1, e2.grown hg (fun e => ?_), e3⟩
  obtain ⟨_, o, ho, hc⟩ := hr _ e
  unfold Blk at e2
  rw [e2] at ho
  cases ho; cases hc
 case assign =>
  rintro l pre ⟨⟨x1, x2⟩, hx⟩ W K ⟨⟨v, hv, hrow, _⟩, hB⟩ hK
  have hnm : nameV (x1, x2) = .agg #[.int .i64 x1, .int .i64 x2] := rfl
  simp only [hnm]
  simp only [hnm] at hK
  gi_wp2
  exact hK _ _ ((KeepsOthers.alloc _ _).from _) (KeepsWalks.alloc _ _) ⟨⟨v, hv.alloc _, hrow.alloc _, trivial⟩, hB.alloc hB.size _⟩ ⟨W.heap.size, hv.lt, Blk.new _ _ _, rfl⟩
 case body =>
  rintro l pre ⟨⟨x1, x2⟩, hx⟩ a' W hl ⟨r, hr⟩ ⟨⟨v, hv, hrow, _⟩, hB⟩ ⟨Bx, hBx, bX, rfl⟩ hlt
  have hnm : nameV (x1, x2) = .agg #[.int .i64 x1, .int .i64 x2] := rfl
  simp only [hnm]
  simp only at bX
  have hc := hv.cell
  have c0 : W.cell? ⟨Bx, 0, none⟩ = some (.int .i64 x1) := bX.cell 0
  have c1 : W.cell? ⟨Bx, 1, none⟩ = some (.int .i64 x2) := bX.cell 1
  gi_wp2_with (gi_at_builtin; refine wpListIn_append_own _ rfl _ _ 81 rfl w.heap.size 73 i0 _ 2 16 under81 hi hz0 hz1 hz2 rfl (by decide) _ _ _ rfl (hrow.alloc _) ⟨W.heap.size, 0, none⟩ 1 1 [.int .i64 x1, .int .i64 x2] rfl rfl (fun j u hj => by rw [addr_add, (Blk.new W 73 #[.int .i64 x1, .int .i64 x2]).cell]; simpa using hj) (by simp [Value.oneCell']) (by unfold maxLen; omega) (by omega) (by have := hB.size; simp; omega) ?_; intro v' w1 hown' hgrow _; obtain ⟨g', cap', rfl⟩ := ownsRow_succ hown'; obtain ⟨hv1, hv2, hr2, hk2, hb2⟩ := hv.appended (by decide) hrow hB.size nR0 hown' hgrow; have hc1 := hv1.cell; have hf1 := hv1.frozen)
  refine ⟨hk2.from _, hk2.walks, ⟨⟨_, hv2, ?_, trivial⟩, hB.trans hb2⟩⟩
  have hr3 := hr2
  rw [List.map_append, nameRows_append, List.length_append]
  exact hr3
 case done =>
  rintro D ys W hD hS ⟨⟨v, hv, hrow, _⟩, hB⟩ hK
  have hc := hv.cell
  gi_wp2
  refine ⟨by simp, .inl ⟨_, _, rfl, run_takeDeferred hK, ?_⟩⟩
  exact ⟨_, results_tmp rfl _ _ _, v, ys.map (·.1), rfl, hS, by rw [List.length_map]; exact ownsRow_putObj hrow _ hK rfl, hB.trans (belowK_b (w := w) nR0 W D _ _ (by simp at hD; omega) hK rfl rfl)⟩
 case stop => rintro D c pre W _ _ h _; exact h.elim
end Go.Proofs.YtmgmfnimaafkdaaGreatDoor
namespace Go.Proofs.YtmgmfnimaafkdaaGreatDoor
open Go.RowKit Go.Maps Go.Shelf Go.Sort
set_option maxRecDepth 100000

def cmpI (a b : Int) : Int := if a < b then -1 else if b < a then 1 else 0
def orI (a b : Int) : Int := if a = 0 then b else a
def cfN (a b : NameV) : Int := orI (cmpI a.1 b.1) (cmpI a.2 b.2)
theorem cfN_lt (a b : NameV) : ltOf cfN a b = ltN a b := by
 unfold ltOf cfN orI cmpI ltN
 by_cases h1 : a.1 < b.1
 ·simp [h1]
 ·by_cases h2 : b.1 < a.1
  ·have : ¬ a.1 = b.1 := by omega
   simp [h1, h2, this]
  ·have : a.1 = b.1 := by omega
   by_cases h3 : a.2 < b.2
   ·simp [h3, this]
   ·by_cases h4 : b.2 < a.2 <;> simp [h3, h4, this]
theorem swoN : SWO (ltOf cfN) where
 irrefl x := by rw [cfN_lt]; exact Bool.eq_false_iff.2 fun h => ltN_ne h rfl
 trans x y z h1 h2 := by rw [cfN_lt] at *; exact ltN_trans h1 h2
 ntrans x y z h1 h2 := by
  rw [cfN_lt] at *
  rw [Bool.eq_false_iff] at *
  intro h
  rw [Ne, ltN_iff] at h1 h2
  rw [ltN_iff] at h
  omega
theorem totN (x y : NameV) (h1 : ltOf cfN x y = false) (h2 : ltOf cfN y x = false) : x = y := by
 rw [cfN_lt] at *
 rw [Bool.eq_false_iff, Ne, ltN_iff] at h1 h2
 exact Prod.ext (by omega) (by omega)
theorem nan_any (a : Int) (w : World) : Calls Tryz.prog 182 #[.int .i64 a] w fun e w' => e = .returned (.bool false) ∧ w = w' := by
 go_enter Tryz.func182, Tryz.ntmps182
 go_wp2
 go_ret
 exact ⟨rfl, rfl⟩
theorem compare_any (a b : Int) (w : World) : Calls Tryz.prog 149 #[.int .i64 a, .int .i64 b] w fun e w' => e = .returned (.int .i64 (cmpI a b)) ∧ w = w' := by
 go_enter Tryz.func149, Tryz.ntmps149
 go_wp2_with (go_at_call 182; refine (nan_any _ _).mono ?_; rintro e w' ⟨rfl, rfl⟩)
 all_goals
  go_ret
  exact ⟨ret_int (by unfold cmpI; (repeat' split) <;> omega), rfl⟩
theorem or2_any (g : Nat) (x y : Int) (w : World) (hk : Blk w g 3 #[.int .i64 x, .int .i64 y]) : Calls Tryz.prog 148 #[.slice (some ⟨g, 0, none⟩) 2 2] w fun e w' => e = .returned (.int .i64 (orI x y)) ∧ w = w' := by
 have c0 : w.cell? ⟨g, 0, none⟩ = some (.int .i64 x) := (hk.cell 0).trans rfl
 have c1 : w.cell? ⟨g, 1, none⟩ = some (.int .i64 y) := (hk.cell 1).trans rfl
 clear hk
 go_enter Tryz.func148, Tryz.ntmps148
 go_wp2_with fail
 go_loop [8] (fun i => i = .int .i64 0 ∨ (i = .int .i64 1 ∧ x = 0) ∨ (i = .int .i64 2 ∧ x = 0 ∧ y = 0)) (fun i => 2 - (intOf i).toNat)
 case atStart => exact .inl rfl
 case round =>
  rcases hrel with rfl | ⟨rfl, rfl⟩ | ⟨rfl, rfl, rfl⟩
  ·by_cases hx : x = 0
   ·subst hx
    go_wp2_with fail
    exact ⟨.inr (.inl ⟨by go_num, by simp⟩), by simp [intOf]⟩
   ·go_wp2_with fail
    go_ret
    exact ⟨ret_int (by unfold orI; rw [if_neg hx]), rfl⟩
  ·by_cases hy : y = 0
   ·subst hy
    go_wp2_with fail
    exact ⟨.inr (.inr ⟨by go_num, by simp⟩), by simp [intOf]⟩
   ·go_wp2_with fail
    go_ret
    exact ⟨ret_int (by unfold orI; rw [if_pos rfl]), rfl⟩
  ·go_wp2_with fail
   go_ret
   exact ⟨rfl, rfl⟩
set_option maxHeartbeats 4000000 in
theorem compareN_any (a b : NameV) (w : World) : Calls Tryz.prog 89 #[nameV a, nameV b] w fun e w' => e = .returned (.int .i64 (cfN a b)) ∧ ∃ q os, w' = grow (w.drewN q) os := by
 obtain ⟨a1, a2⟩ := a
 obtain ⟨b1, b2⟩ := b
 have h0 : Blk ((w.alloc (.cells #[.int .i64 a1, .int .i64 a2] 73)).alloc (.cells #[.int .i64 b1, .int .i64 b2] 73)) w.heap.size 73 #[.int .i64 a1, .int .i64 a2] := (Blk.new _ _ _).alloc _
 have h1 : Blk ((w.alloc (.cells #[.int .i64 a1, .int .i64 a2] 73)).alloc (.cells #[.int .i64 b1, .int .i64 b2] 73)) (w.heap.size + 1) 73 #[.int .i64 b1, .int .i64 b2] := Blk.new_eq0 (by simp)
 have HG : Hid (∀ o, ∃ q' os, (((w.alloc (.cells #[.int .i64 a1, .int .i64 a2] 73)).alloc (.cells #[.int .i64 b1, .int .i64 b2] 73)).alloc o).drew = grow (w.drewN q') os) := by
  show ∀ o, ∃ q' os, (((w.alloc (.cells #[.int .i64 a1, .int .i64 a2] 73)).alloc (.cells #[.int .i64 b1, .int .i64 b2] 73)).alloc o).drew = grow (w.drewN q') os
  intro o
  refine ⟨1, #[.cells #[.int .i64 a1, .int .i64 a2] 73] ++ #[.cells #[.int .i64 b1, .int .i64 b2] 73] ++ #[o], ?_⟩
  rw [alloc_eq_grow, alloc_eq_grow, alloc_eq_grow, grow_grow, grow_grow]
  rfl
 have HO := hZ9 (fun g x y w hk => or2_any g x y w hk)
 unfold nameV
 simp only
 go_enter Tryz.func89, Tryz.ntmps89
 go_upto_region 1 with fail
 generalize (w.alloc (.cells #[.int .i64 a1, .int .i64 a2] 73)).alloc (.cells #[.int .i64 b1, .int .i64 b2] 73) = w1 at *
 have c0 : w1.cell? ⟨w.heap.size, 0, none⟩ = some (.int .i64 a1) := (h0.cell 0).trans rfl
 have c1 : w1.cell? ⟨w.heap.size, 1, none⟩ = some (.int .i64 a2) := (h0.cell 1).trans rfl
 have d0 : w1.cell? ⟨w.heap.size + 1, 0, none⟩ = some (.int .i64 b1) := (h1.cell 0).trans rfl
 have d1 : w1.cell? ⟨w.heap.size + 1, 1, none⟩ = some (.int .i64 b2) := (h1.cell 1).trans rfl
 have l0 := h0.lt
 have l1 := h1.lt
 clear h0 h1
 go_region_law (first
  | (go_simp; go_at_call 149; refine (compare_any _ _ _).mono ?_; rintro en w' ⟨rfl, rfl⟩)
  | (go_simp; go_at_call 148; refine (HO.out _ _ _ _ (Blk.drew (Blk.new _ _ _))).mono ?_; rintro en w' ⟨rfl, rfl⟩))
 all_goals
  go_wp2_with fail
  go_ret
  exact ⟨rfl, HG.out _⟩
end Go.Proofs.YtmgmfnimaafkdaaGreatDoor
namespace Go.Proofs
open Go.Shelf
def Tryz.keysN_ren : Go.Shelf.Ren := ⟨fun | 7 => 91 | 10 => 152 | n => n, fun | 23 => 124 | 26 => 2 | 3 => 9 | 28 => 182 | 0 => 0 | 27 => 181 | 33 => 207 | 4 => 4 | n => n, fun | n => n⟩
theorem Tryz.keysN : Go.Proofs.SlLaysZI.n7 Tryz.prog Tryz.keysN_ren := {
 mixed := by kernel_rfl
 f7 := ⟨Tryz.f91.name, by decide, Tryz.func91.trans (congrArg some (by kernel_rfl))⟩
 f10 := ⟨Tryz.f152.name, by decide, Tryz.func152.trans (congrArg some (by kernel_rfl))⟩
 t0 := Tryz.underlying0
 a0 := Tryz.isAgg0
 z0 := Tryz.sizeOf0
 v0 := Tryz.zeroValue0
 t4 := Tryz.underlying4
 a4 := Tryz.isAgg4
 z4 := Tryz.sizeOf4
 v4 := Tryz.zeroValue4
 t23 := Tryz.underlying124
 a23 := Tryz.isAgg124
 z23 := Tryz.sizeOf124
 v23 := Tryz.zeroValue124
 t26 := Tryz.underlying2
 a26 := Tryz.isAgg2
 z26 := Tryz.sizeOf2
 v26 := Tryz.zeroValue2
 t27 := Tryz.underlying181
 a27 := Tryz.isAgg181
 z27 := Tryz.sizeOf181
 v27 := Tryz.zeroValue181
 t28 := Tryz.underlying182
 a28 := Tryz.isAgg182
 z28 := Tryz.sizeOf182
 v28 := Tryz.zeroValue182
 t33 := Tryz.underlying207
 a33 := Tryz.isAgg207
 z33 := Tryz.sizeOf207
 v33 := Tryz.zeroValue207 }
def Tryz.sortedN_ren : Go.Shelf.Ren := ⟨fun | 6 => 90 | 8 => 150 | 9 => 151 | 11 => 183 | 13 => 181 | 12 => 184 | 23 => 204 | 24 => 205 | 14 => 206 | 15 => 207 | 16 => 208 | 17 => 209 | 18 => 210 | 19 => 211 | 20 => 153 | 21 => 212 | 22 => 213 | 25 => 236 | 26 => 232 | 27 => 233 | 28 => 237 | 29 => 238 | 30 => 182 | 31 => 250 | n => n, fun | 26 => 2 | 28 => 182 | 24 => 83 | 0 => 0 | 3 => 3 | 37 => 244 | 48 => 264 | 50 => 263 | 4 => 4 | 40 => 304 | 39 => 303 | 45 => 190 | 5 => 5 | 9 => 9 | 51 => 329 | 55 => 333 | 57 => 345 | 58 => 49 | 33 => 207 | n => n, fun | n => n⟩
theorem Tryz.sortedN : Go.Proofs.SlLaysZI.n6 Tryz.prog Tryz.sortedN_ren := {
 mixed := by kernel_rfl
 f6 := ⟨Tryz.f90.name, by decide, Tryz.func90.trans (congrArg some (by kernel_rfl))⟩
 f8 := ⟨Tryz.f150.name, by decide, Tryz.func150.trans (congrArg some (by kernel_rfl))⟩
 f11 := ⟨Tryz.f183.name, by decide, Tryz.func183.trans (congrArg some (by kernel_rfl))⟩
 t0 := Tryz.underlying0
 a0 := Tryz.isAgg0
 z0 := Tryz.sizeOf0
 v0 := Tryz.zeroValue0
 t24 := Tryz.underlying83
 a24 := Tryz.isAgg83
 z24 := Tryz.sizeOf83
 v24 := Tryz.zeroValue83
 t26 := Tryz.underlying2
 a26 := Tryz.isAgg2
 z26 := Tryz.sizeOf2
 v26 := Tryz.zeroValue2
 t28 := Tryz.underlying182
 a28 := Tryz.isAgg182
 z28 := Tryz.sizeOf182
 v28 := Tryz.zeroValue182
 i26 := by kernel_rfl }
def Tryz.sortN_ren : Go.Shelf.Ren := ⟨fun | 5 => 151 | 8 => 181 | 7 => 184 | 19 => 204 | 20 => 205 | 10 => 206 | 11 => 207 | 12 => 208 | 13 => 209 | 14 => 210 | 15 => 211 | 16 => 153 | 17 => 212 | 18 => 213 | 30 => 236 | 31 => 232 | 32 => 233 | 33 => 237 | 34 => 238 | 35 => 182 | 40 => 250 | n => n, fun | 23 => 83 | 25 => 2 | 3 => 3 | 32 => 244 | 22 => 83 | 0 => 0 | 44 => 264 | 46 => 263 | 4 => 4 | 36 => 304 | 35 => 303 | 41 => 190 | 5 => 5 | 9 => 9 | 53 => 329 | 57 => 333 | 63 => 345 | 64 => 49 | n => n, fun | n => n⟩
theorem Tryz.sortN : Go.Proofs.SlLaysM.n5 Tryz.prog Tryz.sortN_ren := {
 mixed := by kernel_rfl
 f5 := ⟨Tryz.f151.name, by decide, Tryz.func151.trans (congrArg some (by kernel_rfl))⟩
 f7 := ⟨Tryz.f184.name, by decide, Tryz.func184.trans (congrArg some (by kernel_rfl))⟩
 f8 := Tryz.func181.trans (congrArg some (by kernel_rfl))
 f10 := ⟨Tryz.f206.name, by decide, Tryz.func206.trans (congrArg some (by kernel_rfl))⟩
 f11 := ⟨Tryz.f207.name, by decide, Tryz.func207.trans (congrArg some (by kernel_rfl))⟩
 f12 := ⟨Tryz.f208.name, by decide, Tryz.func208.trans (congrArg some (by kernel_rfl))⟩
 f13 := ⟨Tryz.f209.name, by decide, Tryz.func209.trans (congrArg some (by kernel_rfl))⟩
 f14 := ⟨Tryz.f210.name, by decide, Tryz.func210.trans (congrArg some (by kernel_rfl))⟩
 f15 := ⟨Tryz.f211.name, by decide, Tryz.func211.trans (congrArg some (by kernel_rfl))⟩
 f16 := ⟨Tryz.f153.name, by decide, Tryz.func153.trans (congrArg some (by kernel_rfl))⟩
 f17 := ⟨Tryz.f212.name, by decide, Tryz.func212.trans (congrArg some (by kernel_rfl))⟩
 f18 := ⟨Tryz.f213.name, by decide, Tryz.func213.trans (congrArg some (by kernel_rfl))⟩
 f19 := Tryz.func204.trans (congrArg some (by kernel_rfl))
 f20 := Tryz.func205.trans (congrArg some (by kernel_rfl))
 f30 := ⟨Tryz.f236.name, by decide, Tryz.func236.trans (congrArg some (by kernel_rfl))⟩
 f31 := Tryz.func232.trans (congrArg some (by kernel_rfl))
 f32 := Tryz.func233.trans (congrArg some (by kernel_rfl))
 f33 := ⟨Tryz.f237.name, by decide, Tryz.func237.trans (congrArg some (by kernel_rfl))⟩
 f34 := ⟨Tryz.f238.name, by decide, Tryz.func238.trans (congrArg some (by kernel_rfl))⟩
 f35 := ⟨Tryz.f182.name, by decide, Tryz.func182.trans (congrArg some (by kernel_rfl))⟩
 f40 := ⟨Tryz.f250.name, by decide, Tryz.func250.trans (congrArg some (by kernel_rfl))⟩
 t0 := Tryz.underlying0
 a0 := Tryz.isAgg0
 z0 := Tryz.sizeOf0
 v0 := Tryz.zeroValue0
 t3 := Tryz.underlying3
 a3 := Tryz.isAgg3
 z3 := Tryz.sizeOf3
 v3 := Tryz.zeroValue3
 t4 := Tryz.underlying4
 a4 := Tryz.isAgg4
 z4 := Tryz.sizeOf4
 v4 := Tryz.zeroValue4
 t5 := Tryz.underlying5
 a5 := Tryz.isAgg5
 z5 := Tryz.sizeOf5
 v5 := Tryz.zeroValue5
 t9 := Tryz.underlying9
 a9 := Tryz.isAgg9
 z9 := Tryz.sizeOf9
 v9 := Tryz.zeroValue9
 t22 := Tryz.underlying83
 a22 := Tryz.isAgg83
 z22 := Tryz.sizeOf83
 v22 := Tryz.zeroValue83
 t23 := Tryz.underlying83
 a23 := Tryz.isAgg83
 z23 := Tryz.sizeOf83
 v23 := Tryz.zeroValue83
 t25 := Tryz.underlying2
 a25 := Tryz.isAgg2
 z25 := Tryz.sizeOf2
 v25 := Tryz.zeroValue2
 t32 := Tryz.underlying244
 a32 := Tryz.isAgg244
 z32 := Tryz.sizeOf244
 v32 := Tryz.zeroValue244
 t35 := Tryz.underlying303
 a35 := Tryz.isAgg303
 z35 := Tryz.sizeOf303
 v35 := Tryz.zeroValue303
 t36 := Tryz.underlying304
 a36 := Tryz.isAgg304
 z36 := Tryz.sizeOf304
 v36 := Tryz.zeroValue304
 t41 := Tryz.underlying190
 a41 := Tryz.isAgg190
 z41 := Tryz.sizeOf190
 v41 := Tryz.zeroValue190
 t44 := Tryz.underlying264
 a44 := Tryz.isAgg264
 z44 := Tryz.sizeOf264
 v44 := Tryz.zeroValue264
 t46 := Tryz.underlying263
 a46 := Tryz.isAgg263
 z46 := Tryz.sizeOf263
 v46 := Tryz.zeroValue263
 t53 := Tryz.underlying329
 a53 := Tryz.isAgg329
 z53 := Tryz.sizeOf329
 v53 := Tryz.zeroValue329
 t57 := Tryz.underlying333
 a57 := Tryz.isAgg333
 z57 := Tryz.sizeOf333
 v57 := Tryz.zeroValue333
 t63 := Tryz.underlying345
 a63 := Tryz.isAgg345
 z63 := Tryz.sizeOf345
 v63 := Tryz.zeroValue345
 t64 := Tryz.underlying49
 a64 := Tryz.isAgg49
 z64 := Tryz.sizeOf49
 v64 := Tryz.zeroValue49 }
def Tryz.sortFN_ren : Go.Shelf.Ren := ⟨fun | 6 => 146 | 15 => 181 | 14 => 180 | 28 => 204 | 29 => 205 | 20 => 196 | 21 => 197 | 22 => 198 | 23 => 199 | 24 => 200 | 25 => 201 | 26 => 202 | 27 => 203 | 46 => 231 | 47 => 232 | 48 => 233 | 49 => 234 | 50 => 235 | 57 => 249 | n => n, fun | 22 => 81 | 24 => 73 | 25 => 179 | 3 => 3 | 39 => 244 | 0 => 0 | 53 => 264 | 55 => 263 | 4 => 4 | 46 => 304 | 45 => 303 | 50 => 190 | 5 => 5 | 9 => 9 | 66 => 329 | 70 => 333 | 76 => 345 | 77 => 49 | n => n, fun | n => n⟩
theorem Tryz.sortFN : Go.Proofs.SlLaysF0.n6 Tryz.prog Tryz.sortFN_ren := {
 mixed := by kernel_rfl
 f6 := ⟨Tryz.f146.name, by decide, Tryz.func146.trans (congrArg some (by kernel_rfl))⟩
 f14 := ⟨Tryz.f180.name, by decide, Tryz.func180.trans (congrArg some (by kernel_rfl))⟩
 f15 := Tryz.func181.trans (congrArg some (by kernel_rfl))
 f20 := ⟨Tryz.f196.name, by decide, Tryz.func196.trans (congrArg some (by kernel_rfl))⟩
 f21 := ⟨Tryz.f197.name, by decide, Tryz.func197.trans (congrArg some (by kernel_rfl))⟩
 f22 := ⟨Tryz.f198.name, by decide, Tryz.func198.trans (congrArg some (by kernel_rfl))⟩
 f23 := ⟨Tryz.f199.name, by decide, Tryz.func199.trans (congrArg some (by kernel_rfl))⟩
 f24 := ⟨Tryz.f200.name, by decide, Tryz.func200.trans (congrArg some (by kernel_rfl))⟩
 f25 := ⟨Tryz.f201.name, by decide, Tryz.func201.trans (congrArg some (by kernel_rfl))⟩
 f26 := ⟨Tryz.f202.name, by decide, Tryz.func202.trans (congrArg some (by kernel_rfl))⟩
 f27 := ⟨Tryz.f203.name, by decide, Tryz.func203.trans (congrArg some (by kernel_rfl))⟩
 f28 := Tryz.func204.trans (congrArg some (by kernel_rfl))
 f29 := Tryz.func205.trans (congrArg some (by kernel_rfl))
 f46 := ⟨Tryz.f231.name, by decide, Tryz.func231.trans (congrArg some (by kernel_rfl))⟩
 f47 := Tryz.func232.trans (congrArg some (by kernel_rfl))
 f48 := Tryz.func233.trans (congrArg some (by kernel_rfl))
 f49 := ⟨Tryz.f234.name, by decide, Tryz.func234.trans (congrArg some (by kernel_rfl))⟩
 f50 := ⟨Tryz.f235.name, by decide, Tryz.func235.trans (congrArg some (by kernel_rfl))⟩
 f57 := ⟨Tryz.f249.name, by decide, Tryz.func249.trans (congrArg some (by kernel_rfl))⟩
 t0 := Tryz.underlying0
 a0 := Tryz.isAgg0
 z0 := Tryz.sizeOf0
 v0 := Tryz.zeroValue0
 t3 := Tryz.underlying3
 a3 := Tryz.isAgg3
 z3 := Tryz.sizeOf3
 v3 := Tryz.zeroValue3
 t4 := Tryz.underlying4
 a4 := Tryz.isAgg4
 z4 := Tryz.sizeOf4
 v4 := Tryz.zeroValue4
 t5 := Tryz.underlying5
 a5 := Tryz.isAgg5
 z5 := Tryz.sizeOf5
 v5 := Tryz.zeroValue5
 t9 := Tryz.underlying9
 a9 := Tryz.isAgg9
 z9 := Tryz.sizeOf9
 v9 := Tryz.zeroValue9
 t22 := Tryz.underlying81
 a22 := Tryz.isAgg81
 z22 := Tryz.sizeOf81
 v22 := Tryz.zeroValue81
 t25 := Tryz.underlying179
 a25 := Tryz.isAgg179
 z25 := Tryz.sizeOf179
 v25 := Tryz.zeroValue179
 t39 := Tryz.underlying244
 a39 := Tryz.isAgg244
 z39 := Tryz.sizeOf244
 v39 := Tryz.zeroValue244
 t45 := Tryz.underlying303
 a45 := Tryz.isAgg303
 z45 := Tryz.sizeOf303
 v45 := Tryz.zeroValue303
 t46 := Tryz.underlying304
 a46 := Tryz.isAgg304
 z46 := Tryz.sizeOf304
 v46 := Tryz.zeroValue304
 t50 := Tryz.underlying190
 a50 := Tryz.isAgg190
 z50 := Tryz.sizeOf190
 v50 := Tryz.zeroValue190
 t53 := Tryz.underlying264
 a53 := Tryz.isAgg264
 z53 := Tryz.sizeOf264
 v53 := Tryz.zeroValue264
 t55 := Tryz.underlying263
 a55 := Tryz.isAgg263
 z55 := Tryz.sizeOf263
 v55 := Tryz.zeroValue263
 t66 := Tryz.underlying329
 a66 := Tryz.isAgg329
 z66 := Tryz.sizeOf329
 v66 := Tryz.zeroValue329
 t70 := Tryz.underlying333
 a70 := Tryz.isAgg333
 z70 := Tryz.sizeOf333
 v70 := Tryz.zeroValue333
 t76 := Tryz.underlying345
 a76 := Tryz.isAgg345
 z76 := Tryz.sizeOf345
 v76 := Tryz.zeroValue345
 t77 := Tryz.underlying49
 a77 := Tryz.isAgg49
 z77 := Tryz.sizeOf49
 v77 := Tryz.zeroValue49 }
def Tryz.laysC174_ren : Go.Shelf.Ren := ⟨fun | 174 => 169 | 247 => 193 | 245 => 194 | 287 => 226 | 279 => 227 | 280 => 228 | 281 => 229 | 282 => 230 | 321 => 244 | 322 => 245 | 316 => 246 | 171 => 248 | 205 => 247 | 243 => 251 | 246 => 156 | 283 => 186 | 284 => 187 | 285 => 188 | 286 => 189 | 129 => 205 | 317 => 214 | 318 => 215 | 319 => 216 | 320 => 217 | 337 => 239 | 338 => 240 | n => n, fun | 9 => 9 | 3 => 3 | 2 => 2 | 75 => 198 | 85 => 271 | 4 => 4 | 167 => 323 | 5 => 5 | 53 => 263 | 175 => 324 | 46 => 244 | 168 => 326 | 37 => 43 | 0 => 0 | 210 => 343 | 21 => 21 | 127 => 259 | 145 => 356 | 143 => 354 | 171 => 293 | 173 => 295 | 212 => 316 | 51 => 264 | 20 => 20 | 213 => 317 | 232 => 348 | 233 => 349 | 80 => 204 | n => n, fun | 15 => 3 | 16 => 4 | 17 => 0 | 18 => 5 | 19 => 6 | n => n⟩
theorem Tryz.laysC174 : Go.Proofs.LaysC.n174 Tryz.prog Tryz.laysC174_ren := {
 mixed := by kernel_rfl
 f129 := Tryz.func205.trans (congrArg some (by kernel_rfl))
 f171 := Tryz.func248.trans (congrArg some (by kernel_rfl))
 f174 := Tryz.func169.trans (congrArg some (by kernel_rfl))
 f205 := Tryz.func247.trans (congrArg some (by kernel_rfl))
 f243 := Tryz.func251.trans (congrArg some (by kernel_rfl))
 f245 := Tryz.func194.trans (congrArg some (by kernel_rfl))
 f246 := Tryz.func156.trans (congrArg some (by kernel_rfl))
 f247 := Tryz.func193.trans (congrArg some (by kernel_rfl))
 f279 := Tryz.func227.trans (congrArg some (by kernel_rfl))
 f280 := Tryz.func228.trans (congrArg some (by kernel_rfl))
 f281 := Tryz.func229.trans (congrArg some (by kernel_rfl))
 f282 := Tryz.func230.trans (congrArg some (by kernel_rfl))
 f283 := Tryz.func186.trans (congrArg some (by kernel_rfl))
 f284 := Tryz.func187.trans (congrArg some (by kernel_rfl))
 f285 := Tryz.func188.trans (congrArg some (by kernel_rfl))
 f286 := Tryz.func189.trans (congrArg some (by kernel_rfl))
 f287 := Tryz.func226.trans (congrArg some (by kernel_rfl))
 f316 := Tryz.func246.trans (congrArg some (by kernel_rfl))
 f317 := Tryz.func214.trans (congrArg some (by kernel_rfl))
 f318 := Tryz.func215.trans (congrArg some (by kernel_rfl))
 f319 := Tryz.func216.trans (congrArg some (by kernel_rfl))
 f320 := Tryz.func217.trans (congrArg some (by kernel_rfl))
 f321 := Tryz.func244.trans (congrArg some (by kernel_rfl))
 f322 := Tryz.func245.trans (congrArg some (by kernel_rfl))
 f337 := Tryz.func239.trans (congrArg some (by kernel_rfl))
 f338 := Tryz.func240.trans (congrArg some (by kernel_rfl))
 t0 := Tryz.underlying0
 a0 := Tryz.isAgg0
 z0 := Tryz.sizeOf0
 v0 := Tryz.zeroValue0
 t2 := Tryz.underlying2
 a2 := Tryz.isAgg2
 z2 := Tryz.sizeOf2
 v2 := Tryz.zeroValue2
 t3 := Tryz.underlying3
 a3 := Tryz.isAgg3
 z3 := Tryz.sizeOf3
 v3 := Tryz.zeroValue3
 t4 := Tryz.underlying4
 a4 := Tryz.isAgg4
 z4 := Tryz.sizeOf4
 v4 := Tryz.zeroValue4
 t5 := Tryz.underlying5
 a5 := Tryz.isAgg5
 z5 := Tryz.sizeOf5
 v5 := Tryz.zeroValue5
 t9 := Tryz.underlying9
 a9 := Tryz.isAgg9
 z9 := Tryz.sizeOf9
 v9 := Tryz.zeroValue9
 t20 := Tryz.underlying20
 a20 := Tryz.isAgg20
 z20 := Tryz.sizeOf20
 v20 := Tryz.zeroValue20
 t21 := Tryz.underlying21
 a21 := Tryz.isAgg21
 z21 := Tryz.sizeOf21
 v21 := Tryz.zeroValue21
 t37 := Tryz.underlying43
 a37 := Tryz.isAgg43
 z37 := Tryz.sizeOf43
 v37 := Tryz.zeroValue43
 t46 := Tryz.underlying244
 a46 := Tryz.isAgg244
 z46 := Tryz.sizeOf244
 v46 := Tryz.zeroValue244
 t51 := Tryz.underlying264
 a51 := Tryz.isAgg264
 z51 := Tryz.sizeOf264
 v51 := Tryz.zeroValue264
 t53 := Tryz.underlying263
 a53 := Tryz.isAgg263
 z53 := Tryz.sizeOf263
 v53 := Tryz.zeroValue263
 t75 := Tryz.underlying198
 a75 := Tryz.isAgg198
 z75 := Tryz.sizeOf198
 v75 := Tryz.zeroValue198
 t85 := Tryz.underlying271
 a85 := Tryz.isAgg271
 z85 := Tryz.sizeOf271
 v85 := Tryz.zeroValue271
 t127 := Tryz.underlying259
 a127 := Tryz.isAgg259
 z127 := Tryz.sizeOf259
 v127 := Tryz.zeroValue259
 t143 := Tryz.underlying354
 a143 := Tryz.isAgg354
 z143 := Tryz.sizeOf354
 v143 := Tryz.zeroValue354
 t145 := Tryz.underlying356
 a145 := Tryz.isAgg356
 z145 := Tryz.sizeOf356
 v145 := Tryz.zeroValue356
 t167 := Tryz.underlying323
 a167 := Tryz.isAgg323
 z167 := Tryz.sizeOf323
 v167 := Tryz.zeroValue323
 t168 := Tryz.underlying326
 a168 := Tryz.isAgg326
 z168 := Tryz.sizeOf326
 v168 := Tryz.zeroValue326
 t171 := Tryz.underlying293
 a171 := Tryz.isAgg293
 z171 := Tryz.sizeOf293
 v171 := Tryz.zeroValue293
 t173 := Tryz.underlying295
 a173 := Tryz.isAgg295
 z173 := Tryz.sizeOf295
 v173 := Tryz.zeroValue295
 t175 := Tryz.underlying324
 a175 := Tryz.isAgg324
 z175 := Tryz.sizeOf324
 v175 := Tryz.zeroValue324
 t210 := Tryz.underlying343
 a210 := Tryz.isAgg343
 z210 := Tryz.sizeOf343
 v210 := Tryz.zeroValue343
 t212 := Tryz.underlying316
 a212 := Tryz.isAgg316
 z212 := Tryz.sizeOf316
 v212 := Tryz.zeroValue316
 t213 := Tryz.underlying317
 a213 := Tryz.isAgg317
 z213 := Tryz.sizeOf317
 t232 := Tryz.underlying348
 a232 := Tryz.isAgg348
 z232 := Tryz.sizeOf348
 v232 := Tryz.zeroValue348
 t233 := Tryz.underlying349
 a233 := Tryz.isAgg349
 z233 := Tryz.sizeOf349
 v233 := Tryz.zeroValue349
 g15 := by kernel_rfl
 g16 := by kernel_rfl
 g17 := by kernel_rfl
 g18 := by kernel_rfl
 g19 := by kernel_rfl
 t80 := Tryz.underlying204
 a80 := Tryz.isAgg204
 z80 := Tryz.sizeOf204
 v80 := Tryz.zeroValue204
 i0 := by kernel_rfl
 i2 := by kernel_rfl
 i3 := by kernel_rfl
 i4 := by kernel_rfl
 i5 := by kernel_rfl
 i9 := by kernel_rfl
 i20 := by kernel_rfl
 i21 := by kernel_rfl
 i37 := by kernel_rfl
 i46 := by kernel_rfl
 i51 := by kernel_rfl
 i53 := by kernel_rfl
 i75 := by kernel_rfl
 i80 := by kernel_rfl
 i85 := by kernel_rfl
 i127 := by kernel_rfl
 i143 := by kernel_rfl
 i145 := by kernel_rfl
 i167 := by kernel_rfl
 i168 := by kernel_rfl
 i171 := by kernel_rfl
 i173 := by kernel_rfl
 i175 := by kernel_rfl
 i210 := by kernel_rfl
 i212 := by kernel_rfl
 i232 := by kernel_rfl
 i233 := by kernel_rfl
 m15 := by kernel_rfl
 m16 := by kernel_rfl
 m17 := by kernel_rfl
 m18 := by kernel_rfl
 m19 := by kernel_rfl
 c0 := by kernel_rfl
 c2 := by kernel_rfl
 c3 := by kernel_rfl
 c4 := by kernel_rfl
 c5 := by kernel_rfl
 c9 := by kernel_rfl
 c20 := by kernel_rfl
 c21 := by kernel_rfl
 c37 := by kernel_rfl
 c46 := by kernel_rfl
 c51 := by kernel_rfl
 c53 := by kernel_rfl
 c75 := by kernel_rfl
 c80 := by kernel_rfl
 c85 := by kernel_rfl
 c127 := by kernel_rfl
 c143 := by kernel_rfl
 c145 := by kernel_rfl
 c167 := by kernel_rfl
 c168 := by kernel_rfl
 c171 := by kernel_rfl
 c173 := by kernel_rfl
 c175 := by kernel_rfl
 c210 := by kernel_rfl
 c212 := by kernel_rfl
 c213 := by kernel_rfl
 c232 := by kernel_rfl
 c233 := by kernel_rfl }
open Go.RowKit in
theorem Tryz.strconv_ParseInt_10_at64_ok (s : ByteArray) (hmax : s.size ≤ 9223372036854775806) (v : Int) (h : Lib.parseIntB 64 s.data.toList = .ok v) (w : World) :
  Calls Tryz.prog 169 #[.string s, .int .i64 10, .int .i64 64] w fun e w' => e = .returned (.tuple #[.int .i64 v, .nilIface]) ∧ (w' = w ∨ ∃ t, w' = Lib.bytesWorld w 5 t) := Any.strconv_ParseInt_10_at64_ok Tryz.laysC174 s hmax v h w
def Tryz.lays143_ren : Go.Shelf.Ren := ⟨fun | 143 => 225 | 219 => 191 | 217 => 219 | 225 => 220 | 224 => 221 | 267 => 222 | 266 => 241 | 314 => 242 | n => n, fun | 9 => 9 | 3 => 3 | 4 => 4 | 5 => 5 | 46 => 244 | 146 => 338 | 51 => 264 | n => n, fun | 1 => 1 | n => n⟩
theorem Tryz.lays143 : Go.Proofs.Lays.n143 Tryz.prog Tryz.lays143_ren := {
 mixed := by kernel_rfl
 f143 := Tryz.func225.trans (congrArg some (by kernel_rfl))
 f217 := Tryz.func219.trans (congrArg some (by kernel_rfl))
 f219 := Tryz.func191.trans (congrArg some (by kernel_rfl))
 f224 := Tryz.func221.trans (congrArg some (by kernel_rfl))
 f225 := Tryz.func220.trans (congrArg some (by kernel_rfl))
 f266 := Tryz.func241.trans (congrArg some (by kernel_rfl))
 f267 := Tryz.func222.trans (congrArg some (by kernel_rfl))
 f314 := Tryz.func242.trans (congrArg some (by kernel_rfl))
 t3 := Tryz.underlying3
 a3 := Tryz.isAgg3
 z3 := Tryz.sizeOf3
 v3 := Tryz.zeroValue3
 t4 := Tryz.underlying4
 a4 := Tryz.isAgg4
 z4 := Tryz.sizeOf4
 v4 := Tryz.zeroValue4
 t5 := Tryz.underlying5
 a5 := Tryz.isAgg5
 z5 := Tryz.sizeOf5
 v5 := Tryz.zeroValue5
 t9 := Tryz.underlying9
 a9 := Tryz.isAgg9
 z9 := Tryz.sizeOf9
 v9 := Tryz.zeroValue9
 t46 := Tryz.underlying244
 a46 := Tryz.isAgg244
 z46 := Tryz.sizeOf244
 v46 := Tryz.zeroValue244
 t51 := Tryz.underlying264
 a51 := Tryz.isAgg264
 z51 := Tryz.sizeOf264
 v51 := Tryz.zeroValue264
 t146 := Tryz.underlying338
 a146 := Tryz.isAgg338
 z146 := Tryz.sizeOf338
 v146 := Tryz.zeroValue338
 g1 := by kernel_rfl }
open Go.RowKit Go.Lib in
theorem Tryz.strings_Index_one (s : ByteArray) (c : UInt8) (w : World) :
  Calls Tryz.prog 225 #[.string s, .string ⟨#[c]⟩] w fun e w' => e = .returned (.int .i64 (Lib.indexByte s.data.toList c)) ∧ w' = w := Any.strings_Index_one Tryz.lays143 s c w
end Go.Proofs
namespace Go.Proofs.YtmgmfnimaafkdaaGreatDoor
open Go.RowKit Go.Maps Go.Shelf Go.Sort
set_option maxRecDepth 100000

theorem nameCol_in (n : Nat) (hn : 4 ≤ n) (Bm b nn : Nat) (D0 : DataW Unit) (f : NameV → Option SlotV) (hf : SK.Says D0 f) (w : World) (hBm : Bm < w.heap.size) (hm : w.cell? ⟨Bm, 0, none⟩ = some (.map (some b))) (hown : w.ownsMap Tryz.prog 73 SK.R b nn D0) (hN : Maps.size D0 ≤ 1000000) :
  CallsIn Fence.wide n Tryz.prog 145 #[.func (.func 147) #[] #[.pointer (some ⟨Bm, 0, none⟩)]] w fun e w' => ∃ (v : Value) (ss : List NameV), e = .returned v ∧ SK.Keys f ss ∧ w'.ownsRow w.heap.size 73 2 v ss.length (nameRows ss) ∧ Below w.heap.size w w' := by
 have h1 : 1 ≤ n := by omega
 have h179 : Fence.wide.fn 179 := trivial
 refine callsIn_of_wp Tryz.func145 rfl trivial ?_ rfl
 simp only [Tryz.ntmps145, List.size_toArray, List.length_cons, List.length_nil, Nat.reduceAdd, Nat.reduceSub, Array.replicate_succ, Array.replicate_zero, List.push_toArray, List.append_toArray, List.nil_append, List.cons_append]
 gi_wp2_with (gi_at_call 179; refine (nameApp_in (n - 1) (by omega) Bm b nn D0 f hf w hBm hm hown hN).mono ?_; rintro e w' ⟨v, ss, rfl, hS, hrow, hb⟩)
 go_ret
 exact ⟨v, ss, rfl, hS, hrow, hb⟩
theorem heap_sortedK {w : World} {g n : Nat} {os : Array Obj} {cur : Array Value} {e : TypeId} {fr : Nat × Nat} (F : Array Value) (hb : w.heap[g]? = some (.cells cur e fr)) :
  (grow (putRow id (Sort.ahead w n) g 0 F) os).heap[g]? = some (.cells (putCells id 0 F cur) e fr) := by
 have hg : g < w.heap.size := (Array.getElem?_eq_some_iff.1 hb).1
 rw [heap_grow_old _ _ (by simpa using hg)]
 simp [putRow, mapBlock, Sort.ahead, Array.getElem?_modify, hb, onCells]
theorem grownBy_sortedK {w : World} {g n : Nat} {os : Array Obj} (F : Array Value) : w.grownBy (grow (putRow id (Sort.ahead w n) g 0 F) os) (some g) := by
 refine ⟨rfl, rfl, rfl, by simp, fun k hk hne => ?_⟩
 rw [heap_grow_old _ _ (by simpa using hk)]
 have : g ≠ k := fun e => hne (by rw [e])
 simp [putRow, mapBlock, Sort.ahead, Array.getElem?_modify, this]
theorem flat_names (l : List NameV) : flatK nameRow 2 l.toArray = (nameRows l).toArray := by
 refine ext_get! (by simp [nameRows_len]) fun t ht => ?_
 have ht' : t < l.length * 2 := by simpa using ht
 rw [get_flatK _ _ _ _ (by simpa using ht')]
 have hd : t / 2 < l.length := by omega
 have e1 : (nameRows l).toArray[t]! = ((nameRows l)[t]?).getD default := by simp [nameRows_len, ht']
 rw [e1]
 have : ∀ (l : List NameV) (t : Nat) (h : t / 2 < l.length), (nameRows l)[t]? = (nameRow (l[t / 2]))[t % 2]? := by
  intro l
  induction l with
  | nil => intro t h; simp at h
  | cons a l ih =>
   intro t h
   unfold nameRows at ih ⊢
   rw [List.flatMap_cons]
   by_cases h2 : t < 2
   ·rw [List.getElem?_append_left (by simpa [nameRow] using h2)]
    have e0 : t / 2 = 0 := by omega
    have e2 : t % 2 = t := by omega
    simp [e0, e2]
   ·rw [List.getElem?_append_right (by simp [nameRow]; omega)]
    have e0 : t / 2 = (t - 2) / 2 + 1 := by omega
    have e2 : t % 2 = (t - 2) % 2 := by omega
    have := ih (t - 2) (by simp only [List.length_cons] at h; omega)
    simp only [nameRow, List.length_cons, List.length_nil] at this ⊢
    rw [this]
    simp [e0, e2]
 rw [this l t hd]
 have hm : t % 2 < 2 := Nat.mod_lt _ (by decide)
 have e3 : l.toArray[t / 2]! = l[t / 2] := by simp [hd]
 rw [e3]
 simp [nameRow, List.getElem!_eq_getElem?_getD]
theorem holds_names {w : World} {g : Nat} {cur : Array Value} {e : TypeId} {ss : List NameV} (hb : w.heap[g]? = some (.cells cur e (0, 0))) (ht : cur.toList.take (ss.length * 2) = nameRows ss) : HoldsK nameRow 2 w g 0 ss.toArray := by
 unfold HoldsK
 rw [flat_names]
 intro j hj
 have hj' : j < ss.length * 2 := by simpa [nameRows_len] using hj
 refine ⟨?_, by simp [World.frozen?, hb]⟩
 have h1 : (cur.toList.take (ss.length * 2))[j]? = (nameRows ss)[j]? := by rw [ht]
 rw [List.getElem?_take_of_lt hj'] at h1
 simp only [World.cell?, hb, Nat.zero_add]
 simp only [Option.isSome_none, Bool.false_eq_true, if_false]
 rw [← Array.getElem?_toList, h1]
 simp [nameRows_len, hj']
theorem take_putK (cur : Array Value) (F : List Value) (h : F.length ≤ cur.size) : (putCells id 0 F.toArray cur).toList.take F.length = F := by
 apply List.ext_getElem?
 intro j
 by_cases hj : j < F.length
 ·rw [List.getElem?_take_of_lt hj, Array.getElem?_toList]
  simp [putCells, hj, show j < cur.size by omega]
 ·rw [List.getElem?_take_eq_none (by omega), List.getElem?_eq_none (by omega)]
def geN (x y : NameV) : Bool := !(ltOf cfN) y x
theorem sortedN_is {α : Type} {l : List (NameV × α)} (hs : SrtS l) {ss : List NameV} (hp : ss.Perm (l.map (·.1))) : ss.mergeSort geN = l.map (·.1) := by
 have hge : ∀ a b, geN a b = true ↔ ¬ ltN b a = true := fun a b => by unfold geN; rw [cfN_lt]; simp
 have tr : ∀ a b c : NameV, geN a b = true → geN b c = true → geN a c = true := fun a b c h1 h2 => by
  rw [hge, ltN_iff] at *; omega
 have ttl : ∀ a b : NameV, (geN a b || geN b a) = true := fun a b => by
  rw [Bool.or_eq_true, hge, hge, ltN_iff, ltN_iff]; omega
 refine List.Perm.eq_of_pairwise (le := fun a b => geN a b = true) (fun a b _ _ h1 h2 => ?_) (List.pairwise_mergeSort tr ttl ss) ?_ ((List.mergeSort_perm ss geN).trans hp)
 ·rw [hge, ltN_iff] at h1 h2
  exact Prod.ext (by omega) (by omega)
 ·refine List.pairwise_map.2 (hs.imp fun {a b} h => ?_)
  rw [hge]
  intro h2
  exact ltN_ne (ltN_trans h h2) rfl
set_option maxHeartbeats 8000000 in
theorem sortedN_any {α : Type} (Bm b nn : Nat) (D0 : DataW Unit) (f : NameV → Option SlotV) (hf : SK.Says D0 f) (w : World) (hBm : Bm < w.heap.size) (hm : w.cell? ⟨Bm, 0, none⟩ = some (.map (some b))) (hown : w.ownsMap Tryz.prog 73 SK.R b nn D0) (hN : Maps.size D0 ≤ 1000000)
  (l : List (NameV × α)) (hs : SrtS l) (hl : SK.Keys f (l.map (·.1))) (hl6 : l.length ≤ 1000000) :
  Calls Tryz.prog 87 #[.func (.func 147) #[] #[.pointer (some ⟨Bm, 0, none⟩)], .func (.func 89) #[] #[]] w fun e w' => ∃ A c, e = .returned (.slice A l.length c) ∧ w'.ownsRow w.heap.size 73 2 (.slice A l.length c) l.length (nameRows (l.map (·.1))) ∧ Below w.heap.size w w' := by
 have HC := hZ9 ((callsIn_wide (n := 5)).1 (nameCol_in 5 (by omega) Bm b nn D0 f hf w hBm hm hown hN))
 have HS := hZ9 (fun (blk cap : Nat) (d : Array NameV) (W : World) hH hblk hsz => AnyQ.slices_SortFunc_total (P := Tryz.prog) Tryz.sortFN 2 Tryz.isAgg73 Tryz.sizeOf73 nameRow (fun _ => rfl) (fun x v hv => by simp [nameRow] at hv; rcases hv with rfl | rfl <;> rfl) cfN swoN 89 #[] blk 0 cap d W (enters_of Tryz.func89 (by kernel_rfl) rfl) (fun _ _ _ _ x y => compareN_any x y _) hH hblk hsz totN)
 have HN := hZ9 (fun p cap W => AnyF.slices_SortFunc_none (P := Tryz.prog) (ρ := Tryz.sortFN_ren) { Tryz.sortFN with } p cap (.func (.func 89) #[] #[]) W)
 have HL := hZ9 hl
 have HSR := hZ9 hs
 have hgl : (l.map (·.1)).length = l.length := List.length_map _
 clear hf hm hown hl hs
 go_enter Tryz.func87, Tryz.ntmps87
 go_upto_region 2 with (go_at_call 145; refine HC.out.mono ?_; rintro e w1 ⟨v, ss, rfl, hS, hrow, hb⟩; (have HSS := hZ9 hS); (have HROW := hZ9 hrow); (have HB := hZ9 hb); clear hS hrow hb)
 have hp := KV.Keys.perm HSS.out HL.out
 have hlen : ss.length = l.length := by rw [hp.length_eq, hgl]
 have hso := sortedN_is HSR.out hp
 have HSO := hZ9 hso
 have HLEN := hZ9 hlen
 rcases HROW.out.2 with ⟨hv, hz⟩ | ⟨gb, cap, cur, hv, hbase, hgb, r1, r2, r3, r4⟩
 ·subst hv
  have hss : ss = [] := List.eq_nil_of_length_eq_zero hz
  subst hss
  have hl0 : l = [] := List.eq_nil_of_length_eq_zero hlen.symm
  subst hl0
  have HN0 := hZ9 (show Calls Tryz.prog 146 #[.slice none 0 0, .func (.func 89) #[] #[]] w1 fun e w' => e = .returned (.tuple #[]) ∧ w' = w1 from HN.out none 0 w1)
  clear hso hp hlen hz hgl
  go_wp2_with (go_at_call 146; refine HN0.out.mono ?_; rintro e w' ⟨rfl, rfl⟩)
  go_ret
  exact ⟨none, 0, rfl, HROW.out, HB.out⟩
 ·subst hv
  have hH := holds_names hgb r4
  have hgl2 : gb < w1.heap.size := (Array.getElem?_eq_some_iff.1 hgb).1
  have hsz : ss.toArray.size < 4611686018427387904 := by simp; omega
  have hcall := HS.out gb cap ss.toArray w1 hH hgl2 hsz
  have HCALL := hZ9 (show Calls Tryz.prog 146 #[.slice (some ⟨gb, 0, none⟩) ss.length cap, .func (.func 89) #[] #[]] w1 fun e w' => e = .returned (.tuple #[]) ∧ ∃ n os, w' = grow (putRow id (Sort.ahead w1 n) gb 0 (nameRows (l.map (·.1))).toArray) os from by
   refine hcall.mono ?_
   rintro e w' ⟨he, n, os, hw⟩
   refine ⟨he, n, os, ?_⟩
   rw [hw]
   unfold sortWorldK putRowK
   have e2 : (ss.toArray.toList.mergeSort fun x y => !(ltOf cfN) y x) = l.map (·.1) := hso
   rw [e2, flat_names])
  have R4 := hZ9 r4
  have R3 := hZ9 r3
  have R12 := hZ9 (And.intro r1 r2)
  have HGB := hZ9 hgb
  clear hso hp hH hcall r4 r3 hgb hgl r1 r2 hsz hlen
  go_wp2_with (go_at_call 146; refine HCALL.out.mono ?_; rintro e w' ⟨rfl, n, os, rfl⟩)
  go_ret
  refine ⟨some ⟨gb, 0, none⟩, cap, (by rw [HLEN.out]; rfl), ?_, HB.out.grown (grownBy_sortedK _) HB.out.size (fun j hj => by injection hj with hj; omega)⟩
  refine ⟨by rw [nameRows_len, List.length_map], .inr ⟨gb, cap, _, rfl, hbase, heap_sortedK _ HGB.out, by rw [← HLEN.out]; exact R12.out.1, R12.out.2, by rw [← R3.out]; simp [putCells], ?_⟩⟩
  have := take_putK cur (nameRows (l.map (·.1))) (by rw [nameRows_len, List.length_map, R3.out]; have := R12.out.1; have := HLEN.out; omega)
  rw [nameRows_len, List.length_map] at this
  exact this
theorem names_any {w : World} {base Sb : Nat} {s : StV} {m : StM} (h : StR w base Sb s m) (hs : SrtS s.slices) (hr : ∀ x ∈ s.slices, NumOK x ∧ x.2.len ≤ 1048576) (hl : s.slices.length ≤ 1000000) :
  Calls Tryz.prog 35 #[.pointer (some ⟨Sb, 0, none⟩)] w fun e w' => ∃ A c, e = .returned (.slice A s.slices.length c) ∧ w'.ownsRow w.heap.size 73 2 (.slice A s.slices.length c) s.slices.length (nameRows (s.slices.map (·.1))) ∧ Below w.heap.size w w' := by
 have hk := keys_of_slices hs hr
 have hb1 : Below w.heap.size w (w.alloc (.cells #[.map (some m.Pb)] 125)) := bR0.alloc nR0 _
 obtain ⟨D, hown, hf⟩ := h.pmap.below hb1
 have hsz : Maps.size D ≤ 1000000 := by rw [KV.size hown hf hk, List.length_map]; exact hl
 have HCK := hZ9 ((callsIn_wide (n := 5)).1 (nameKeys_in Fence.wide 5 trivial rfl (some m.Pb) w))
 have HC := hZ9 (sortedN_any w.heap.size m.Pb _ D (getL s.slices) hf (w.alloc (.cells #[.map (some m.Pb)] 125)) (by simp) (by simp) hown hsz s.slices hs hk hl)
 have c5 : w.cell? ⟨Sb, 5, none⟩ = some (.map (some m.Pb)) := h.blk.cell 5
 have hlt := h.blk.lt
 have HB1 := hZ9 hb1
 clear h hs hr hk hown hf hsz hb1
 go_enter Tryz.func35, Tryz.ntmps35
 go_wp2_with (first
  | (go_at_call 88; refine HCK.out.mono ?_; rintro e w' ⟨rfl, rfl⟩)
  | (go_at_call 87; refine HC.out.mono ?_; rintro e w2 ⟨A, c, rfl, ho, hb⟩; (have HO := hZ9 ho); (have HB := hZ9 hb); clear ho hb))
 go_ret
 exact ⟨A, c, rfl, own_base HO.out (by simp), HB1.out.trans (HB.out.mono (by simp))⟩
end Go.Proofs.YtmgmfnimaafkdaaGreatDoor
