/- Table.Has of an entry that there is, Set.Spans; the reference's List. No condition. Four functions of Go's library at this program: maps.Keys, slices.Sorted, slices.Sort, slices.DeleteFunc. Written by the kit's tool. No condition. The keys of a table's entries, sorted. No condition. Table.All. No condition. -/
import Derived.Test.YtoaiamgcegnjjaaGreatDoorMK
import Derived.Test.YtoaiamgcegnjjaaGreatDoorMM
import Derived.Test.YtoaiamgcegnjjaaGreatDoorProg
import Derived.Shelf.SlIterI.Nil
import Derived.Shelf.SortM.Plain
import Derived.Shelf.SortM.SortNone
import Derived.Shelf.SlicesE.DeleteFunc
namespace Go.Proofs.YtoaiamgcegnjjaaGreatDoor
open Go.RowKit Go.Maps Go.WideMaps Go.Sort
set_option maxRecDepth 100000

section
variable {w : World} {base tb m : Nat} {T : TabS} {be bo : Nat} {kf : Int → Option Nat} {of_ rf : ByteArray → Option Nat}

theorem has_some (h : TabR w base tb m T be bo kf of_ rf) {e : Ent} {g : Nat} (hid : (Lit.int .i64 e.id).wf = true) (hg : kf e.id = some g) (he : T.ents e.id = some e) :
    Calls Tryz.prog 36 #[.pointer (some ⟨tb, 0, none⟩), .int .i64 e.id] w fun en w' => (∃ A n c, en = .returned (.agg #[.slice A n c]) ∧ n ≤ c ∧ w'.ownsRow base 41 2 (.slice A n c) n (spanCells e.has)) ∧ Below w.heap.size w w' := by
  have hb0 : Below w.heap.size w (w.alloc (.cells #[.slice none 0 0] 95)) := (Below.refl _ _).alloc (Nat.le_refl _) _
  have hT := h.grow hb0
  obtain ⟨e', he', _, hK⟩ := hT.ents _ g hg
  obtain rfl : e' = e := Option.some.inj (he'.symm.trans he)
  obtain ⟨A, n, c, hA, hn, hc, hbk, h1, h2, h3, h4⟩ := hK.cells
  have hlow := h.lows
  have HT := Lib.hid hT
  have HG := Lib.hid hg
  have HB0 := Lib.hid hb0
  have HO := Lib.hid h4
  have hbx : Blk (w.alloc (.cells #[.slice none 0 0] 95)) w.heap.size 95 #[.slice none 0 0] := Blk.new _ _ _
  have k17 : (w.alloc (.cells #[.slice none 0 0] 95)).cell? ⟨g, 17, none⟩ = some (.slice hA hn hc) := (hbk.cell 17).trans rfl
  have x0 : (w.alloc (.cells #[.slice none 0 0] 95)).cell? ⟨w.heap.size, 0, none⟩ = some (.slice none 0 0) := (hbx.cell 0).trans rfl
  have xf := hbx.free'
  have HBX := Lib.hid hbx
  clear h hg he he' hT hb0 h4 h2 hK hbx hbk
  go_enter Tryz.func36, Tryz.ntmps36
  go_upto_region 1 with fail
  generalize w.alloc (.cells #[.slice none 0 0] 95) = w1 at *
  go_wp2_with fail
  refine (find_any HT.out hid).mono ?_
  rintro en w2 ⟨rfl, rfl⟩
  rw [HG.out]
  unfold ptrV
  go_wp2_with fail
  have hg9 : w1.grownBy (w1.setCell ⟨w.heap.size, 0, none⟩ (.slice hA hn hc)) (some w.heap.size) := gby_set (gby_refl _ _) _ _
  refine bodyPost_ret (v := .agg #[.slice hA hn hc]) (results_cell_row Tryz.results36 _ _ w.heap.size 95 #[.slice hA hn hc] (0, 0) _ rfl (HBX.out.set 0 _) Tryz.underlying95 rfl size95) rfl ⟨⟨hA, hn, hc, rfl, h3, ?_⟩, below_set HB0.out (Nat.le_refl _) _⟩
  refine own_kept HO.out hg9 (fun k hk hr => ?_)
  injection hr with hr
  subst hr
  have := own_ty HO.out hk
  rw [HBX.out.ty] at this
  simp at this
end

set_option maxHeartbeats 400000 in
theorem spans_any (A : Option Addr) (n c : Nat) (l : List (Int × Int)) (w : World) (h : Rd w w.heap.size 2 A n (spanCells l)) (hn : n ≤ 10000) :
    Calls Tryz.prog 62 #[.agg #[.slice A n c]] w fun e w' => (∃ A' c', e = .returned (.slice A' n c') ∧ w'.ownsRow w.heap.size 41 2 (.slice A' n c') n (spanCells l)) ∧ Below w.heap.size w w' := by
  obtain ⟨i0, hi0, hz0, hz1, hz2⟩ := info_parts info41
  have hb0 : Below w.heap.size w (w.alloc (.cells #[.slice A n c] 95)) := (Below.refl _ _).alloc (Nat.le_refl _) _
  have hbx : Blk (w.alloc (.cells #[.slice A n c] 95)) w.heap.size 95 #[.slice A n c] := Blk.new _ _ _
  have x0 : (w.alloc (.cells #[.slice A n c] 95)).cell? ⟨w.heap.size, 0, none⟩ = some (.slice A n c) := (hbx.cell 0).trans rfl
  have HRD := Lib.hid (h.below hb0 (Nat.le_refl _))
  have O0 := Lib.hid (World.ownsRow_nil (w.alloc (.cells #[.slice A n c] 95)) w.heap.size 41 2)
  have HB0 := Lib.hid hb0
  clear h hb0 hbx
  go_enter Tryz.func62, Tryz.ntmps62
  go_upto_region 1 with fail
  have hs : w.heap.size ≤ (w.alloc (.cells #[.slice A n c] 95)).heap.size := by simp
  generalize w.alloc (.cells #[.slice A n c] 95) = w1 at *
  go_wp2_with (at_builtin; refine wpList_append_rd _ rfl _ _ 52 rfl w.heap.size 41 i0 (.agg #[.int .i64 0, .int .i64 0]) 2 16 under52 hi0 hz0 hz1 hz2 rfl (by decide) (.slice none 0 0) 0 [] rfl O0.out A n c _ _ rfl HRD.out (spanCells_one l) (by unfold maxLen; omega) (by omega) hs ?_; intro A2 c2 w2 hown hgrow hnc hat; simp only [Nat.zero_add, List.nil_append] at hown hnc; have HOW := Lib.hid hown; have HGR := Lib.hid hgrow; clear hown hgrow hat)
  go_ret
  exact ⟨⟨A2, c2, by simp, HOW.out⟩, HB0.out.trans (grown_below HGR.out hs (fun k hk => by simp [Value.ownBlock] at hk))⟩

set_option maxHeartbeats 400000 in
/-- the reference's List: of one list twice -/
theorem rlist_same (A A' : Option Addr) (n c c' : Nat) (l : List (Int × Int)) (w : World) (h : Rd w w.heap.size 2 A n (spanCells l)) (h' : Rd w w.heap.size 2 A' n (spanCells l)) (hn : n ≤ 10000) :
    Calls Tryz.prog 61 #[.slice A n c, .slice A' n c'] w fun e w' => e = .returned (.bool true) ∧ Below w.heap.size w w' := by
  have HL := Lib.hid h.span.1
  have HR := Lib.hid h
  have HR' := Lib.hid h'
  clear h h'
  go_enter Tryz.func61, Tryz.ntmps61
  go_wp2_with fail
  go_loopw [5] (fun i wr => ∃ k : Nat, k ≤ n ∧ i = .int .i64 k ∧ Below w.heap.size w wr) (fun i _ => n - (intOf i).toNat)
  case atStart => exact ⟨0, Nat.zero_le _, rfl, Below.refl _ _⟩
  case round =>
    obtain ⟨k, hk, rfl, hb⟩ := hrel
    have HB := Lib.hid hb
    clear hb
    by_cases hlt : k < n
    · have hk' : k < l.length := by have := HL.out; omega
      obtain ⟨b, o, rfl, hb, x0, x1⟩ := (HR.out.below HB.out (Nat.le_refl _)).span.2 k hk'
      obtain ⟨b', o', rfl, hb', y0, y1⟩ := (HR'.out.below HB.out (Nat.le_refl _)).span.2 k hk'
      generalize l[k] = p at *
      have i1 : (0 : Int) ≤ (k : Int) := by omega
      have i2 : (k : Int) < (n : Int) := by omega
      go_wp2_with fail
      go_quiet (fail)
      go_wp2_with fail
      go_roundw
      case rel => exact ⟨k + 1, by omega, by go_num, below_drewN HB.out _⟩
      case measure => simp [intOf]; omega
    · obtain rfl : k = n := by omega
      go_wp2_with fail
      go_ret
      exact ⟨rfl, HB.out⟩

set_option maxHeartbeats 400000 in
/-- the same numbers twice -/
theorem numbers_same (A A' : Option Addr) (n c c' : Nat) (l : List Int) (w : World) (h : Rd w w.heap.size 1 A n (l.map (Value.int .i64))) (h' : Rd w w.heap.size 1 A' n (l.map (Value.int .i64))) (hn : n ≤ 10000) :
    Calls Tryz.prog 57 #[.slice A n c, .slice A' n c'] w fun e w' => e = .returned (.bool true) ∧ Below w.heap.size w w' := by
  have HL := Lib.hid h.num.1
  have HR := Lib.hid h
  have HR' := Lib.hid h'
  clear h h'
  go_enter Tryz.func57, Tryz.ntmps57
  go_wp2_with fail
  go_loopw [13] (fun i wr => ∃ k : Nat, k ≤ n ∧ i = .int .i64 k ∧ Below w.heap.size w wr) (fun i _ => n - (intOf i).toNat)
  case atStart => exact ⟨0, Nat.zero_le _, rfl, Below.refl _ _⟩
  case round =>
    obtain ⟨k, hk, rfl, hb⟩ := hrel
    have HB := Lib.hid hb
    clear hb
    by_cases hlt : k < n
    · have hk' : k < l.length := by have := HL.out; omega
      obtain ⟨b, o, rfl, hb, x0⟩ := (HR.out.below HB.out (Nat.le_refl _)).num.2 k hk'
      obtain ⟨b', o', rfl, hb', y0⟩ := (HR'.out.below HB.out (Nat.le_refl _)).num.2 k hk'
      generalize l[k] = p at *
      have i1 : (0 : Int) ≤ (k : Int) := by omega
      have i2 : (k : Int) < (n : Int) := by omega
      go_wp2_with fail
      go_quiet (fail)
      go_wp2_with fail
      go_roundw
      case rel => exact ⟨k + 1, by omega, by go_num, below_drewN HB.out _⟩
      case measure => simp [intOf]; omega
    · obtain rfl : k = n := by omega
      go_wp2_with fail
      go_ret
      exact ⟨rfl, HB.out⟩
end Go.Proofs.YtoaiamgcegnjjaaGreatDoor
namespace Go.Proofs
open Go.Shelf
def Tryz.keysA_ren : Go.Shelf.Ren := ⟨fun | 7 => 75 | 10 => 132 | n => n, fun | 23 => 111 | 26 => 2 | 3 => 115 | 28 => 159 | 0 => 0 | 27 => 158 | 33 => 93 | 4 => 4 | n => n, fun | n => n⟩
theorem Tryz.keysA : Go.Proofs.SlLaysZI.n7 Tryz.prog Tryz.keysA_ren := {
  mixed := by kernel_rfl
  f7 := ⟨Tryz.f75.name, by decide, Tryz.func75.trans (congrArg some (by kernel_rfl))⟩
  f10 := ⟨Tryz.f132.name, by decide, Tryz.func132.trans (congrArg some (by kernel_rfl))⟩
  t0 := Tryz.underlying0
  a0 := Tryz.isAgg0
  z0 := Tryz.sizeOf0
  v0 := Tryz.zeroValue0
  t4 := Tryz.underlying4
  a4 := Tryz.isAgg4
  z4 := Tryz.sizeOf4
  v4 := Tryz.zeroValue4
  t23 := Tryz.underlying111
  a23 := Tryz.isAgg111
  z23 := Tryz.sizeOf111
  v23 := Tryz.zeroValue111
  t26 := Tryz.underlying2
  a26 := Tryz.isAgg2
  z26 := Tryz.sizeOf2
  v26 := Tryz.zeroValue2
  t27 := Tryz.underlying158
  a27 := Tryz.isAgg158
  z27 := Tryz.sizeOf158
  v27 := Tryz.zeroValue158
  t28 := Tryz.underlying159
  a28 := Tryz.isAgg159
  z28 := Tryz.sizeOf159
  v28 := Tryz.zeroValue159
  t33 := Tryz.underlying93
  a33 := Tryz.isAgg93
  z33 := Tryz.sizeOf93
  v33 := Tryz.zeroValue93 }
def Tryz.sortedA_ren : Go.Shelf.Ren := ⟨fun | 6 => 74 | 8 => 131 | 9 => 47 | 11 => 181 | 13 => 110 | 12 => 109 | 23 => 168 | 24 => 169 | 14 => 159 | 15 => 160 | 16 => 161 | 17 => 162 | 18 => 163 | 19 => 164 | 20 => 165 | 21 => 166 | 22 => 167 | 25 => 208 | 26 => 209 | 27 => 210 | 28 => 211 | 29 => 212 | 30 => 111 | 31 => 243 | n => n, fun | 26 => 2 | 28 => 159 | 24 => 89 | 0 => 0 | 3 => 3 | 37 => 191 | 48 => 233 | 50 => 235 | 4 => 4 | 40 => 225 | 39 => 224 | 45 => 230 | 5 => 5 | 9 => 9 | 51 => 265 | 55 => 269 | 57 => 296 | 58 => 297 | 33 => 93 | n => n, fun | n => n⟩
theorem Tryz.sortedA : Go.Proofs.SlLaysZI.n6 Tryz.prog Tryz.sortedA_ren := {
  mixed := by kernel_rfl
  f6 := ⟨Tryz.f74.name, by decide, Tryz.func74.trans (congrArg some (by kernel_rfl))⟩
  f8 := ⟨Tryz.f131.name, by decide, Tryz.func131.trans (congrArg some (by kernel_rfl))⟩
  f11 := ⟨Tryz.f181.name, by decide, Tryz.func181.trans (congrArg some (by kernel_rfl))⟩
  t0 := Tryz.underlying0
  a0 := Tryz.isAgg0
  z0 := Tryz.sizeOf0
  v0 := Tryz.zeroValue0
  t24 := Tryz.underlying89
  a24 := Tryz.isAgg89
  z24 := Tryz.sizeOf89
  v24 := Tryz.zeroValue89
  t26 := Tryz.underlying2
  a26 := Tryz.isAgg2
  z26 := Tryz.sizeOf2
  v26 := Tryz.zeroValue2
  t28 := Tryz.underlying159
  a28 := Tryz.isAgg159
  z28 := Tryz.sizeOf159
  v28 := Tryz.zeroValue159
  i26 := by kernel_rfl }
def Tryz.sortA_ren : Go.Shelf.Ren := ⟨fun | 5 => 47 | 8 => 110 | 7 => 109 | 19 => 168 | 20 => 169 | 10 => 159 | 11 => 160 | 12 => 161 | 13 => 162 | 14 => 163 | 15 => 164 | 16 => 165 | 17 => 166 | 18 => 167 | 30 => 208 | 31 => 209 | 32 => 210 | 33 => 211 | 34 => 212 | 35 => 111 | 40 => 243 | n => n, fun | 23 => 89 | 25 => 2 | 3 => 3 | 32 => 191 | 22 => 89 | 0 => 0 | 44 => 233 | 46 => 235 | 4 => 4 | 36 => 225 | 35 => 224 | 41 => 230 | 5 => 5 | 9 => 9 | 53 => 265 | 57 => 269 | 63 => 296 | 64 => 297 | n => n, fun | n => n⟩
theorem Tryz.sortA : Go.Proofs.SlLaysM.n5 Tryz.prog Tryz.sortA_ren := {
  mixed := by kernel_rfl
  f5 := ⟨Tryz.f47.name, by decide, Tryz.func47.trans (congrArg some (by kernel_rfl))⟩
  f7 := ⟨Tryz.f109.name, by decide, Tryz.func109.trans (congrArg some (by kernel_rfl))⟩
  f8 := Tryz.func110.trans (congrArg some (by kernel_rfl))
  f10 := ⟨Tryz.f159.name, by decide, Tryz.func159.trans (congrArg some (by kernel_rfl))⟩
  f11 := ⟨Tryz.f160.name, by decide, Tryz.func160.trans (congrArg some (by kernel_rfl))⟩
  f12 := ⟨Tryz.f161.name, by decide, Tryz.func161.trans (congrArg some (by kernel_rfl))⟩
  f13 := ⟨Tryz.f162.name, by decide, Tryz.func162.trans (congrArg some (by kernel_rfl))⟩
  f14 := ⟨Tryz.f163.name, by decide, Tryz.func163.trans (congrArg some (by kernel_rfl))⟩
  f15 := ⟨Tryz.f164.name, by decide, Tryz.func164.trans (congrArg some (by kernel_rfl))⟩
  f16 := ⟨Tryz.f165.name, by decide, Tryz.func165.trans (congrArg some (by kernel_rfl))⟩
  f17 := ⟨Tryz.f166.name, by decide, Tryz.func166.trans (congrArg some (by kernel_rfl))⟩
  f18 := ⟨Tryz.f167.name, by decide, Tryz.func167.trans (congrArg some (by kernel_rfl))⟩
  f19 := Tryz.func168.trans (congrArg some (by kernel_rfl))
  f20 := Tryz.func169.trans (congrArg some (by kernel_rfl))
  f30 := ⟨Tryz.f208.name, by decide, Tryz.func208.trans (congrArg some (by kernel_rfl))⟩
  f31 := Tryz.func209.trans (congrArg some (by kernel_rfl))
  f32 := Tryz.func210.trans (congrArg some (by kernel_rfl))
  f33 := ⟨Tryz.f211.name, by decide, Tryz.func211.trans (congrArg some (by kernel_rfl))⟩
  f34 := ⟨Tryz.f212.name, by decide, Tryz.func212.trans (congrArg some (by kernel_rfl))⟩
  f35 := ⟨Tryz.f111.name, by decide, Tryz.func111.trans (congrArg some (by kernel_rfl))⟩
  f40 := ⟨Tryz.f243.name, by decide, Tryz.func243.trans (congrArg some (by kernel_rfl))⟩
  t0 := Tryz.underlying0
  a0 := Tryz.isAgg0
  z0 := Tryz.sizeOf0
  v0 := Tryz.zeroValue0
  t3 := Tryz.underlying3
  a3 := Tryz.isAgg3
  z3 := Tryz.sizeOf3
  v3 := Tryz.zeroValue3
  t4 := Tryz.underlying4
  a4 := Tryz.isAgg4
  z4 := Tryz.sizeOf4
  v4 := Tryz.zeroValue4
  t5 := Tryz.underlying5
  a5 := Tryz.isAgg5
  z5 := Tryz.sizeOf5
  v5 := Tryz.zeroValue5
  t9 := Tryz.underlying9
  a9 := Tryz.isAgg9
  z9 := Tryz.sizeOf9
  v9 := Tryz.zeroValue9
  t22 := Tryz.underlying89
  a22 := Tryz.isAgg89
  z22 := Tryz.sizeOf89
  v22 := Tryz.zeroValue89
  t23 := Tryz.underlying89
  a23 := Tryz.isAgg89
  z23 := Tryz.sizeOf89
  v23 := Tryz.zeroValue89
  t25 := Tryz.underlying2
  a25 := Tryz.isAgg2
  z25 := Tryz.sizeOf2
  v25 := Tryz.zeroValue2
  t32 := Tryz.underlying191
  a32 := Tryz.isAgg191
  z32 := Tryz.sizeOf191
  v32 := Tryz.zeroValue191
  t35 := Tryz.underlying224
  a35 := Tryz.isAgg224
  z35 := Tryz.sizeOf224
  v35 := Tryz.zeroValue224
  t36 := Tryz.underlying225
  a36 := Tryz.isAgg225
  z36 := Tryz.sizeOf225
  v36 := Tryz.zeroValue225
  t41 := Tryz.underlying230
  a41 := Tryz.isAgg230
  z41 := Tryz.sizeOf230
  v41 := Tryz.zeroValue230
  t44 := Tryz.underlying233
  a44 := Tryz.isAgg233
  z44 := Tryz.sizeOf233
  v44 := Tryz.zeroValue233
  t46 := Tryz.underlying235
  a46 := Tryz.isAgg235
  z46 := Tryz.sizeOf235
  v46 := Tryz.zeroValue235
  t53 := Tryz.underlying265
  a53 := Tryz.isAgg265
  z53 := Tryz.sizeOf265
  v53 := Tryz.zeroValue265
  t57 := Tryz.underlying269
  a57 := Tryz.isAgg269
  z57 := Tryz.sizeOf269
  v57 := Tryz.zeroValue269
  t63 := Tryz.underlying296
  a63 := Tryz.isAgg296
  z63 := Tryz.sizeOf296
  v63 := Tryz.zeroValue296
  t64 := Tryz.underlying297
  a64 := Tryz.isAgg297
  z64 := Tryz.sizeOf297
  v64 := Tryz.zeroValue297 }
def Tryz.delA_ren : Go.Shelf.Ren := ⟨fun | 10 => 94 | 6 => 144 | n => n, fun | 22 => 89 | 23 => 2 | 25 => 93 | 3 => 3 | 4 => 4 | 0 => 0 | n => n, fun | n => n⟩
theorem Tryz.delA : Go.Proofs.SlLaysH.n10 Tryz.prog Tryz.delA_ren := {
  mixed := by kernel_rfl
  f6 := ⟨Tryz.f144.name, by decide, Tryz.func144.trans (congrArg some (by kernel_rfl))⟩
  f10 := ⟨Tryz.f94.name, by decide, Tryz.func94.trans (congrArg some (by kernel_rfl))⟩
  t0 := Tryz.underlying0
  a0 := Tryz.isAgg0
  z0 := Tryz.sizeOf0
  v0 := Tryz.zeroValue0
  t3 := Tryz.underlying3
  a3 := Tryz.isAgg3
  z3 := Tryz.sizeOf3
  v3 := Tryz.zeroValue3
  t4 := Tryz.underlying4
  a4 := Tryz.isAgg4
  z4 := Tryz.sizeOf4
  v4 := Tryz.zeroValue4
  t22 := Tryz.underlying89
  a22 := Tryz.isAgg89
  z22 := Tryz.sizeOf89
  v22 := Tryz.zeroValue89
  a23 := Tryz.isAgg2
  z23 := Tryz.sizeOf2
  t25 := Tryz.underlying93
  a25 := Tryz.isAgg93
  z25 := Tryz.sizeOf93
  v25 := Tryz.zeroValue93 }
end Go.Proofs
namespace Go.Proofs.YtoaiamgcegnjjaaGreatDoor
open Go.RowKit Go.Maps Go.WideMaps Go.Sort Go.Shelf
set_option maxRecDepth 100000

theorem sortsA (m : Nat) : AnyZI.SortsIn Tryz.prog Tryz.sortedA_ren Fence.wide m :=
  ⟨fun blk off cap ss W hH hblk hsz => callsIn_wide.2 (AnyM.slices_Sort_int Tryz.sortA blk off cap ss W hH hblk hsz),
   fun p cap W => callsIn_wide.2 (AnyM.slices_Sort_int_none Tryz.sortA p cap W)⟩

theorem keys_call (mb : Option Nat) (W : World) : Calls Tryz.prog 75 #[.map mb] W fun e w' => e = .returned (.func (.func 132) #[] #[.pointer (some ⟨W.heap.size, 0, none⟩)]) ∧ w' = W.alloc (.cells #[.map mb] 111) :=
  (callsIn_wide (n := 5)).1 (AnyZI.keys_in Tryz.keysA Fence.wide 5 trivial rfl mb W)

theorem sorted_call (b nn : Nat) (D0 : DataW Unit) (w : World) (hown : w.ownsMap Tryz.prog 2 ptrElem b nn D0) (hmax : Maps.size D0 ≤ maxLen) (hbytes : Maps.size D0 * 8 ≤ 140737488355328) :
    Calls Tryz.prog 74 #[.func (.func 132) #[] #[.pointer (some ⟨w.heap.size, 0, none⟩)]] (w.alloc (.cells #[.map (some b)] 111)) fun e w' => ∃ (v : Value) (ss : List Int), e = .returned v ∧ ss.Perm (intKeys D0) ∧
      w'.ownsRow w.heap.size 2 1 v ss.length ((ss.mergeSort (fun x y => decide (x ≤ y))).map encZ) ∧ Below w.heap.size w w' := by
  have hbl := hown.lt
  have hseq : SeqGives Fence.wide 2 Tryz.prog 132 #[.pointer (some ⟨w.heap.size, 0, none⟩)] encZ (fun ss => ss.Perm (intKeys D0)) (Maps.size D0) (w.alloc (.cells #[.map (some b)] 111)) :=
    AnyZI.keys_gives (ρ := Tryz.keysA_ren) { Tryz.keysA with } Fence.wide _ trivial rfl (by omega) w.heap.size b nn D0 _ (by simp) (by simp) (by
      obtain ⟨es, clock, hb, Ft, hs, hD⟩ := hown
      exact ⟨es, clock, (Below.heap_alloc _ _ b hbl).trans hb, Ft, hs, hD⟩)
  have cS := AnyZI.sorted_in Tryz.sortedA Fence.wide 5 trivial trivial trivial trivial rfl (by omega) (sortsA _) (enters_of Tryz.func47 (by kernel_rfl) rfl) 132 #[.pointer (some ⟨w.heap.size, 0, none⟩)] trivial (enters_of Tryz.func132 (by kernel_rfl) rfl) _ _ hmax hbytes _ hseq
  change CallsIn _ _ Tryz.prog 74 _ _ _ at cS
  refine ((callsIn_wide (n := 5)).1 cS).mono ?_
  rintro e w' ⟨v, ss, rfl, hS, hrow, hnil, hb⟩
  exact ⟨v, ss, rfl, hS, own_base hrow (by simp), ((Below.refl _ w).alloc (Nat.le_refl _) _).trans (hb.mono (by simp))⟩
end Go.Proofs.YtoaiamgcegnjjaaGreatDoor
namespace Go.Proofs.YtoaiamgcegnjjaaGreatDoor
open Go.RowKit Go.Maps Go.WideMaps Go.Sort
set_option maxRecDepth 100000

/-- an entry that was told, in memory -/
structure EM where
  e : Ent
  A : Option Addr
  n : Nat
  c : Nat
  tu : Bool
def EM.cells (q : EM) : List Value := (entC q.e q.A q.n q.c q.tu).toList
theorem EM.cells_len (q : EM) : q.cells.length = 17 := rfl
theorem info57 : (Tryz.prog.info? 57).map (fun i => (i.zero, i.size, i.bytes)) = some (some (.agg zeroE), 17, 176) := by kernel_rfl
theorem under51 : Tryz.prog.underlying 51 = some (.slice 57) := Tryz.underlying51
theorem built57 (q : EM) : Tryz.prog.builtSlice 57 1 [(0, .agg (entC q.e q.A q.n q.c q.tu))] = some (entC q.e q.A q.n q.c q.tu) := by kernel_rfl
theorem oneCell_em (q : EM) : ∀ u ∈ (entC q.e q.A q.n q.c q.tu).toList, u.oneCell' = true := by simp [Value.oneCell']

theorem sorted_is {I ss : List Int} (hI : I.Pairwise (· < ·)) (hp : ss.Perm I) : ss.mergeSort (fun x y => decide (x ≤ y)) = I := by
  have tr : ∀ a b c : Int, leI a b = true → leI b c = true → leI a c = true := fun a b c h1 h2 => by simp only [leI, decide_eq_true_eq] at *; exact Int.le_trans h1 h2
  have ttl : ∀ a b : Int, (leI a b || leI b a) = true := fun a b => by simp only [leI, Bool.or_eq_true, decide_eq_true_eq]; exact Int.le_total a b
  refine List.Perm.eq_of_pairwise (le := fun a b => leI a b = true) (fun a b _ _ h1 h2 => ?_) (List.pairwise_mergeSort tr ttl ss) (hI.imp fun h => by simp only [leI, decide_eq_true_eq]; omega) ((List.mergeSort_perm ss leI).trans hp)
  simp only [leI, decide_eq_true_eq] at h1 h2
  exact Int.le_antisymm h1 h2
theorem keys_perm {w : World} {b n : Nat} {f : Int → Option Nat} {D : DataW Unit} (hown : w.ownsMap Tryz.prog 2 ptrElem b n D) (hf : ∀ x, (Lit.int .i64 x).wf = true → D.atKey (.int .i64 x) .nil = encP (f x) ∧ has D (.int .i64 x) = (f x).isSome)
    {I : List Int} (hI : I.Pairwise (· < ·)) (hwf : ∀ i ∈ I, (Lit.int .i64 i).wf = true) (hmem : ∀ i, (Lit.int .i64 i).wf = true → (i ∈ I ↔ (f i).isSome)) : I.Perm (intKeys D) := by
  have hw := intKeys_wf hown Tryz.underlying2
  obtain ⟨es, hD, hpw, _⟩ := hown.entries keyed2
  obtain ⟨es', hD', hko⟩ := hown.keysOf
  obtain rfl : es = es' := by rw [hD] at hD'; simpa using hD'
  subst hD
  have hkk : ∀ p ∈ es, ∃ x, p.1 = .int .i64 x := fun p hp => by obtain ⟨v, hv⟩ := hko p hp; obtain ⟨x, _, hx, _⟩ := Maps.keyOf_i64 Tryz.underlying2 hv; exact ⟨x, hx⟩
  refine perm_intKeys hpw hkk (hI.imp fun h e => by omega) fun x => ?_
  by_cases hx : (Lit.int .i64 x).wf = true
  · rw [hmem x hx, (hf x hx).2]
  · constructor
    · intro h
      exact absurd (hwf x h) hx
    · intro h
      rw [has_eq, List.any_eq_true] at h
      obtain ⟨p, hp, hs⟩ := h
      obtain ⟨a, ha⟩ := hkk p hp
      rw [ha] at hs
      have hax : a = x := by simpa [Lit.sameKey] using hs
      exact absurd (hw x (List.mem_map.2 ⟨p, hp, by rw [ha, ← hax]; rfl⟩)) hx

/-- the loop's state -/
structure AlW (w w1 wr : World) (out : List EM) (A : Option Addr) (c : Nat) : Prop where
  cap : out.length ≤ c
  own : wr.ownsRow w1.heap.size 57 17 (.slice A out.length c) out.length (out.flatMap EM.cells)
  keys : ∀ q ∈ out, q.n ≤ q.c ∧ wr.ownsRow w.heap.size 9 1 (.slice q.A q.n q.c) q.n (q.e.ks.map Value.string)
  below : Below w1.heap.size w1 wr

theorem AlW.push {w w1 wr w3 w4 : World} {out : List EM} {A A2 : Option Addr} {c c2 : Nat} {q : EM} (h : AlW w w1 wr out A c) (hw : w.heap.size ≤ w1.heap.size) (hb : Below wr.heap.size wr w3) (hq : q.n ≤ q.c ∧ w3.ownsRow wr.heap.size 9 1 (.slice q.A q.n q.c) q.n (q.e.ks.map Value.string))
    (ho : w4.ownsRow w1.heap.size 57 17 (.slice A2 (out.length + 1) c2) (out.length + 1) (out.flatMap EM.cells ++ (entC q.e q.A q.n q.c q.tu).toList)) (hg : w3.grownBy w4 (Value.slice A out.length c).ownBlock) (hc : out.length + 1 ≤ c2) : AlW w w1 w4 (out ++ [q]) A2 c2 := by
  have e : (out ++ [q]).length = out.length + 1 := by simp
  have hs := h.below.size
  have own3 := own_kept h.own (gby_of_below hb) (fun g hg e => by cases e)
  have ne : ∀ {n : Nat} {v : Value} {xs : List Value} {B : Nat}, w3.ownsRow B 9 1 v n xs → w4.ownsRow B 9 1 v n xs := fun hx => own_kept hx hg (fun g hg' e' => by
    have t1 := own_ty hx hg'
    have t2 := own_ty own3 e'
    rw [t1] at t2
    simp at t2)
  refine ⟨by rw [e]; exact hc, ?_, fun p hp => ?_, (h.below.trans (hb.mono hs)).trans (grown_below hg (by have := hb.size; omega) (fun g hg => (h.own.lt g hg).1))⟩
  · rw [e, List.flatMap_append]
    simpa [EM.cells] using ho
  · rw [List.mem_append, List.mem_singleton] at hp
    rcases hp with hp | rfl
    · obtain ⟨h1, h2⟩ := h.keys p hp
      exact ⟨h1, ne (own_kept h2 (gby_of_below hb) (fun g hg e => by cases e))⟩
    · exact ⟨hq.1, own_base (ne hq.2) (by omega)⟩

section
variable {w : World} {base tb m : Nat} {T : TabS}
set_option maxHeartbeats 1000000 in
theorem all_anyC (h : Tab w base tb m T) (hm : m ≤ 10000) (I : List Int) (hI : I.Pairwise (· < ·)) (hmem : ∀ i, i ∈ I ↔ (T.ents i).isSome) :
    Calls Tryz.prog 26 #[.pointer (some ⟨tb, 0, none⟩)] w fun e w' => (∃ A c, ∃ out : List EM, e = .returned (.slice A I.length c) ∧ I.length ≤ c ∧ out.length = I.length ∧ (∀ k (hk : k < I.length) (hk' : k < out.length), T.ents I[k] = some out[k].e ∧ out[k].e.id = I[k] ∧ out[k].tu = turnedS T out[k].e) ∧ Rd w' w'.heap.size 17 A I.length (out.flatMap EM.cells) ∧ ∀ q ∈ out, q.n ≤ q.c ∧ w'.ownsRow w.heap.size 9 1 (.slice q.A q.n q.c) q.n (q.e.ks.map Value.string)) ∧ Below w.heap.size w w' := by
  obtain ⟨i0, hi0, hz0, hz1, hz2⟩ := info_parts info57
  obtain ⟨be, bo, kf, of_, rf, hR⟩ := h
  obtain ⟨D, hown, hf⟩ := hR.imap
  have hnx := hR.next
  have hwf : ∀ i ∈ I, (Lit.int .i64 i).wf = true := fun i hi => by
    obtain ⟨e, he⟩ := Option.isSome_iff_exists.1 ((hmem i).1 hi)
    have := hR.idlt i e he
    exact wf_i64 (by omega) (by omega)
  have hkf : ∀ i, (kf i).isSome ↔ (T.ents i).isSome := fun i => by
    cases hk : kf i with
    | some g => obtain ⟨e, he, _⟩ := hR.ents i g hk; simp [he]
    | none => simp [hR.noent i hk]
  have hperm := keys_perm hown hf hI hwf (fun i hw => by rw [hmem i, hkf i])
  have hsz := hown.size_le
  have hlen : I.length ≤ m := by
    have h1 := hperm.length_eq
    have h2 : (intKeys D).length = Maps.size D := by
      obtain ⟨es, rfl, _⟩ := hown.keysOf
      simp [intKeys, Maps.size]
    omega
  obtain ⟨c0, c1, c2⟩ := tab_cells hR.blk
  have HC := Lib.hid (sorted_call be m D w hown (by unfold maxLen; omega) (by omega))
  have HR := Lib.hid hR
  have HPM := Lib.hid hperm
  have HI := Lib.hid hI
  have HWF := Lib.hid hwf
  have HMEM := Lib.hid hmem
  have HKF := Lib.hid hkf
  clear hR hown hf hperm hI hwf hmem hkf hsz hnx
  go_enter Tryz.func26, Tryz.ntmps26
  go_wp2_with (first
    | (go_at_call 75; refine (keys_call _ _).mono ?_; rintro e w' ⟨rfl, rfl⟩)
    | (go_at_call 74; refine HC.out.mono ?_; rintro e w1 ⟨v, ss, rfl, hp, hrow, hb⟩; (have HP := Lib.hid (sorted_is HI.out (hp.trans HPM.out.symm))); (have HLE : Hid (ss.length = I.length) := (hp.trans HPM.out.symm).length_eq); (have HROW := Lib.hid hrow); (have HB := Lib.hid hb); (obtain ⟨Av, cv, rfl, hcv⟩ := own_form hrow); clear hp hrow hb))
  have hrd1 : Rd w1 w1.heap.size 1 Av I.length (I.map (Value.int .i64)) := by
    have := own_rd HROW.out
    rw [HP.out, HLE.out] at this
    exact this
  have HRD := Lib.hid hrd1
  have hle := HLE.out
  have hw1 := HB.out.size
  rw [hle] at *
  generalize hL : I.length = L at *
  have HLL := Lib.hid hL
  have hst : AlW w w1 w1 [] none 0 := ⟨by simp, by simpa using World.ownsRow_nil w1 _ 57 17, (fun q hq => by cases hq), Below.refl _ _⟩
  have HST := Lib.hid hst
  clear hst hrd1 hL HROW c0 c1 c2 HLE hle
  go_loopw [3, 15] (fun l i wr => ∃ (k : Nat) (A : Option Addr) (c : Nat) (out : List EM), k ≤ L ∧ i = .int .i64 k ∧ l = .slice A k c ∧ out.length = k ∧ (∀ j (hj : j < I.length) (hj' : j < out.length), T.ents I[j] = some out[j].e ∧ out[j].e.id = I[j] ∧ out[j].tu = turnedS T out[j].e) ∧ AlW w w1 wr out A c) (fun _ i _ => L - (intOf i).toNat)
  case atStart => exact ⟨0, none, 0, [], Nat.zero_le _, rfl, rfl, rfl, fun j _ h => absurd h (by simp), HST.out⟩
  case round =>
    obtain ⟨k, A, c, out, hk, rfl, rfl, hol, hall, ha⟩ := hrel
    have HA := Lib.hid ha
    have HALL := Lib.hid hall
    have HOL := Lib.hid hol
    have hszr := ha.below.size
    have hbw : Below w.heap.size w wr := HB.out.trans (ha.below.mono hw1)
    have HBW := Lib.hid hbw
    have hR := HR.out.grow (hbw)
    obtain ⟨c0, c1, c2⟩ := tab_cells hR.blk
    have HRr := Lib.hid hR
    clear ha hall hbw hR HST
    by_cases hlt : k < L
    · have hk' : k < I.length := by have := HLL.out; omega
      obtain ⟨b, o, rfl, hb, x0⟩ := (HRD.out.below HA.out.below (Nat.le_refl _)).num.2 k hk'
      obtain ⟨e, he⟩ := Option.isSome_iff_exists.1 ((HMEM.out I[k]).1 (List.getElem_mem hk'))
      obtain ⟨g, hg⟩ := Option.isSome_iff_exists.1 ((HKF.out I[k]).2 (by rw [he]; rfl))
      obtain ⟨e', he', hid, _⟩ := HRr.out.ents I[k] g hg
      obtain rfl : e' = e := Option.some.inj (he'.symm.trans he)
      have hl := HRr.out.imap.look (HWF.out I[k] (List.getElem_mem hk'))
      rw [hg] at hl
      unfold ptrV at hl
      have HE := Lib.hid he
      have HG := Lib.hid hg
      have HID := Lib.hid hid
      have CE := Lib.hid (entry_any HRr.out (e := e') (g := g) (by rw [hid]; exact hg) (by rw [hid]; exact he))
      clear he he' hg hid
      generalize hIk : I[k] = ik at *
      have HIK := Lib.hid hIk
      clear hIk
      have i1 : (0 : Int) ≤ (k : Int) := by omega
      have i2 : (k : Int) < (L : Int) := by omega
      go_wp2_with fail
      refine CE.out.mono ?_
      rintro en w3 ⟨⟨Ak, nk, ck, rfl, hnk, hok⟩, hb3⟩
      have hs3 := hb3.size
      have own3 := own_kept HA.out.own (gby_of_below hb3) (fun g hg e => by cases e)
      rw [hol] at own3
      have OWN3 := Lib.hid own3
      have HOK := Lib.hid hok
      have HB3 := Lib.hid hb3
      clear own3 hok hb3
      go_wp2_with (refine wpList_push rfl rfl 51 57 _ _ 28 rfl rfl rfl w1.heap.size i0 (.agg zeroE) 17 176 under51 hi0 hz0 hz1 hz2 rfl (by decide) (.slice A k c) k (out.flatMap EM.cells) rfl rfl OWN3.out (.agg (entC e' Ak nk ck (turnedS T e'))) rfl (entC e' Ak nk ck (turnedS T e')) (built57 ⟨e', Ak, nk, ck, turnedS T e'⟩) rfl (oneCell_em ⟨e', Ak, nk, ck, turnedS T e'⟩) (by unfold maxLen; omega) (by omega) (by omega) ?_; intro A4 c4 w4 hown hgrow hnc; have HI4 : Hid (AlW w w1 w4 (out ++ [⟨e', Ak, nk, ck, turnedS T e'⟩]) A4 c4) := HA.out.push (q := ⟨e', Ak, nk, ck, turnedS T e'⟩) hw1 HB3.out ⟨hnk, HOK.out⟩ (by rw [HOL.out]; exact hown) (by rw [HOL.out]; exact hgrow) (by rw [HOL.out]; exact hnc); clear hown hgrow hnc)
      go_roundw
      case rel =>
        refine ⟨k + 1, A4, c4, out ++ [⟨e', Ak, nk, ck, turnedS T e'⟩], by omega, by go_num, rfl, by simp [HOL.out], fun j hj hj' => ?_, HI4.out⟩
        by_cases hjk : j < out.length
        · rw [List.getElem_append_left hjk]
          exact HALL.out j hj hjk
        · obtain rfl : j = k := by have := HOL.out; simp at hj'; omega
          rw [List.getElem_append_right (by omega)]
          simp only [HOL.out, Nat.sub_self, List.getElem_cons_zero]
          rw [HIK.out]
          exact ⟨HE.out, HID.out, by first | rfl | trivial⟩
      case measure => simp [intOf]; omega
    · obtain rfl : k = L := by omega
      go_wp2_with fail
      go_ret
      refine ⟨⟨A, c, out, by rw [HLL.out]; rfl, by have h1 := HA.out.cap; have h2 := HOL.out; have h3 := HLL.out; omega, HOL.out.trans HLL.out.symm, HALL.out, ?_, HA.out.keys⟩, HBW.out⟩
      have := own_rd HA.out.own
      rw [HOL.out] at this
      rw [HLL.out]
      exact this
theorem all_any (h : Tab w base tb m T) (hm : m ≤ 10000) (I : List Int) (hI : I.Pairwise (· < ·)) (hmem : ∀ i, i ∈ I ↔ (T.ents i).isSome) :
    Calls Tryz.prog 26 #[.pointer (some ⟨tb, 0, none⟩)] w fun e w' => (∃ A c, ∃ out : List EM, e = .returned (.slice A I.length c) ∧ out.length = I.length ∧ (∀ k (hk : k < I.length) (hk' : k < out.length), T.ents I[k] = some out[k].e ∧ out[k].e.id = I[k] ∧ out[k].tu = turnedS T out[k].e) ∧ Rd w' w'.heap.size 17 A I.length (out.flatMap EM.cells) ∧ ∀ q ∈ out, q.n ≤ q.c ∧ w'.ownsRow w.heap.size 9 1 (.slice q.A q.n q.c) q.n (q.e.ks.map Value.string)) ∧ Below w.heap.size w w' :=
  (all_anyC h hm I hI hmem).mono fun _ _ ⟨⟨A, c, out, h1, _, h2⟩, hb⟩ => ⟨⟨A, c, out, h1, h2⟩, hb⟩
end
end Go.Proofs.YtoaiamgcegnjjaaGreatDoor
