/- The law's small, of any acts; the reference's Load of nothing. No condition. -/
import Derived.Test.YtoaiamgcegnjjaaGreatDoorME
import Derived.Test.YtoaiamgcegnjjaaGreatDoorW3
namespace Go.Proofs.YtoaiamgcegnjjaaGreatDoor
open Go.RowKit Go.Maps Go.WideMaps Go.Sort
set_option maxRecDepth 100000

/-- an act -/
structure ActS where
  kd : Int
  obj : ByteArray
  st : Int
  M : MetaS
  A : Option Addr
  n : Nat
  c : Nat
  sf : Int
  sto : Int
  age : Int
  ti : Int
  mo : Int
  ge : Int
  id : Int
  f : Int
  t : Int
  hv : Int
  ln : Int
abbrev ActS.cs (a : ActS) : Array Value := actC a.kd a.obj a.st a.M a.A a.n a.c a.sf a.sto a.age a.ti a.mo a.ge a.id a.f a.t a.hv a.ln
def ActS.cells (a : ActS) : List Value := a.cs.toList
theorem ActS.cells_len (a : ActS) : a.cells.length = 25 := rfl
theorem ActS.one (a : ActS) : a.cs.all (·.oneCell') = true := by simp [Value.oneCell']

def FewBool (P : Prop) (e : Ending) : Prop := ∃ b, e = .returned (.bool b) ∧ (b = true → P)
theorem FewBool.mk {P : Prop} (b : Bool) (h : b = true → P) : FewBool P (.returned (.bool b)) := ⟨b, rfl, h⟩
theorem FewBool.no {P : Prop} : FewBool P (.returned (.bool false)) := ⟨false, rfl, fun h => by cases h⟩

theorem small38_few (st : Int) (M : MetaS) (A : Option Addr) (n c : Nat) (sf sto age : Int) (B : Nat) (w : World) (hk : Strs w B A n M.ks) (hB : B ≤ w.heap.size) :
    Calls Tryz.prog 44 #[.agg (replyC st M A n c sf sto age)] w fun e w' => FewBool (n ≤ 40) e ∧ Below w.heap.size w w' := by
  have hb0 : Below w.heap.size w (w.alloc (.cells (replyC st M A n c sf sto age) 43)) := (Below.refl _ _).alloc (Nat.le_refl _) _
  have HB := Lib.hid hb0
  have HK := Lib.hid (hk.below (hb0.mono hB) (Nat.le_refl _))
  clear hb0 hk
  by_cases h1 : 200 < M.t.size
  · go_enter Tryz.func44, Tryz.ntmps44
    go_wp2
    go_ret
    exact ⟨FewBool.no, HB.out⟩
  by_cases h2 : 40 < n
  · go_enter Tryz.func44, Tryz.ntmps44
    go_wp2
    go_ret
    exact ⟨FewBool.no, HB.out⟩
  by_cases h3 : 100 < M.ten.size
  · go_enter Tryz.func44, Tryz.ntmps44
    go_wp2
    go_ret
    exact ⟨FewBool.no, HB.out⟩
  go_enter Tryz.func44, Tryz.ntmps44
  go_wp2_with fail
  go_loop [29] (fun i => ∃ k : Nat, k ≤ n ∧ i = .int .i64 k) (fun i => n - (intOf i).toNat)
  case atStart => exact ⟨0, Nat.zero_le _, rfl⟩
  case round =>
    obtain ⟨k, hk, rfl⟩ := hrel
    by_cases hlt : k < n
    · obtain ⟨b, o, hA, _, hc⟩ := HK.out.at_ (by omega)
      have hcell := hc k (by have := HK.out.len; omega)
      clear hc
      subst hA
      go_wp2_with fail
      · go_ret
        exact ⟨FewBool.no, HB.out⟩
      · exact ⟨⟨k + 1, by omega, by go_num⟩, by simp [intOf]; omega⟩
    · go_wp2_with fail
      go_ret
      exact ⟨FewBool.mk true (fun _ => by omega), HB.out⟩

set_option maxHeartbeats 1000000 in
theorem small_any (A : Option Addr) (n c : Nat) (l : List ActS) (B : Nat) (w : World) (hr : Rd w B 25 A n (l.flatMap ActS.cells)) (hok : ∀ a ∈ l, Strs w B a.A a.n a.M.ks) (hB : B ≤ w.heap.size) (hn : n ≤ 9223372036854775807) :
    Calls Tryz.prog 12 #[.slice A n c] w fun e w' => FewBool (n ≤ 30 ∧ ∀ a ∈ l, a.n ≤ 40) e ∧ Below w.heap.size w w' := by
  have hpr : PR w w.heap.size 25 A n (l.flatMap ActS.cells) := PR.of_old (hr.below (Below.refl _ _) hB) (Nat.le_refl _)
  obtain ⟨hl, hrow⟩ := hpr.row ActS.cells_len (by decide)
  have HL := Lib.hid hl
  have HROW := Lib.hid hrow
  have HOK := Lib.hid hok
  clear hpr hl hrow hr hok
  go_enter Tryz.func12, Tryz.ntmps12
  go_wp2_with fail
  go_loopw [7] (fun i wr => ∃ k : Nat, k ≤ n ∧ i = .int .i64 k ∧ (∀ a ∈ l.take k, a.n ≤ 40) ∧ Below w.heap.size w wr) (fun i _ => n - (intOf i).toNat)
  case atStart => exact ⟨0, Nat.zero_le _, rfl, by simp, Below.refl _ _⟩
  case round =>
    obtain ⟨k, hk, rfl, hfew, hbr⟩ := hrel
    have HBR := Lib.hid hbr
    have HFEW := Lib.hid hfew
    clear hbr hfew
    by_cases hlt : k < n
    · have hk' : k < l.length := by have := HL.out; omega
      obtain ⟨b, o, rfl, hbl, hra⟩ := HROW.out k hk'
      have hst := HOK.out l[k] (List.getElem_mem hk')
      have htk : l.take (k + 1) = l.take k ++ [l[k]] := by rw [List.take_succ_eq_append_getElem hk']
      have HTK := Lib.hid htk
      generalize l[k] = a at *
      have HRA : Hid (wr.rangeAt b (o + k * 25) a.cells) := fun i v hv => (HBR.out.cell (p := ⟨b, o + k * 25 + i, none⟩) hbl).trans (hra i v hv)
      have HST := Lib.hid hst
      have hI : (Tryz.prog.info? 47).map (·.size) = some a.cs.size := size47
      have hS : 25 = a.cs.size := rfl
      generalize hcs : a.cs = cs at *
      have HCS := Lib.hid hcs
      have HI := Lib.hid hI
      have HS := Lib.hid hS
      have H1 : Hid (cs.all (·.oneCell') = true) := by show cs.all (·.oneCell') = true; rw [← hcs]; exact a.one
      have HRA2 : Hid (wr.rangeAt b (o + k * 25) cs.toList) := by show wr.rangeAt b (o + k * 25) cs.toList; rw [← hcs]; exact HRA.out
      have HIL : Hid ((Tryz.prog.info? 47).map (·.size) = some cs.toList.length) := by show (Tryz.prog.info? 47).map (·.size) = some cs.toList.length; rw [← hcs]; exact size47
      clear hra hst htk hcs hI hS HRA
      have i1 : (0 : Int) ≤ (k : Int) := by omega
      have i2 : (k : Int) < (n : Int) := by omega
      go_upto_region 4 with first
        | (refine wpList_load_mid rfl 47 _ rfl b (o + k * 25) rfl cs.toList _ HRA2.out Tryz.underlying47 rfl HIL.out ?_; rw [show cs.toList.toArray = cs from by simp])
        | (refine wpList_store_row rfl 47 _ _ rfl wr.heap.size cs rfl rfl 47 _ (Blk.new wr 47 _) HI.out HS.out H1.out ?_)
      have hbx : Below w.heap.size w (wr.alloc (.cells cs 47)) := HBR.out.alloc HBR.out.size _
      have hgx : Blk (wr.alloc (.cells cs 47)) wr.heap.size 47 cs := Blk.new _ _ _
      have hsx : B ≤ (wr.alloc (.cells cs 47)).heap.size := by
        have := HBR.out.size
        simp
        omega
      rw [World.setRow_alloc_new]
      generalize wr.alloc (.cells cs 47) = wx at *
      generalize wr.heap.size = gx at *
      have hcs := HCS.out
      subst hcs
      have HBX := Lib.hid hbx
      obtain ⟨_, e1, e2, e3, e4, e5, e6, e7, e8, e9, e10, e11, e12, e13, e14, e15, e16, _⟩ := act_cells hgx
      have HKX := Lib.hid (HST.out.below (HBX.out.mono hB) (Nat.le_refl _))
      clear hbx hgx HI HS H1 HCS HST HRA2 HIL
      by_cases h300 : 300 < a.obj.size
      · go_wp2_with fail
        go_ret
        exact ⟨FewBool.no, HBX.out⟩
      · go_wp2_with fail
        refine (small38_few a.st a.M a.A a.n a.c a.sf a.sto a.age B _ HKX.out hsx).mono ?_
        rintro en w2 ⟨⟨bb, rfl, hbb⟩, hb2⟩
        have HB2 := Lib.hid (HBX.out.trans (hb2.mono HBX.out.size))
        have HBB := Lib.hid hbb
        clear hb2 hbb e1 e2 e3 e4 e5 e6 e7 e8 e9 e10 e11 e12 e13 e14 e15 e16
        cases bb
        · go_wp2_with fail
          go_ret
          exact ⟨FewBool.no, HB2.out⟩
        · go_wp2_with fail
          go_roundw
          case rel =>
            refine ⟨k + 1, by omega, by go_num, fun a' ha' => ?_, HB2.out⟩
            rw [HTK.out, List.mem_append, List.mem_singleton] at ha'
            rcases ha' with ha' | rfl
            · exact HFEW.out a' ha'
            · exact HBB.out (by first | rfl | trivial)
          case measure => simp [intOf]; omega
    · obtain rfl : k = n := by omega
      have hta : l.take k = l := List.take_of_length_le (by have := HL.out; omega)
      have HF2 : Hid (∀ a ∈ l, a.n ≤ 40) := by
        have := HFEW.out
        rw [hta] at this
        exact this
      clear hta
      go_wp2_with fail
      go_ret
      exact ⟨FewBool.mk (decide ((k : Int) ≤ 30)) (fun h => ⟨by have := of_decide_eq_true h; omega, HF2.out⟩), HBR.out⟩

set_option maxHeartbeats 1000000 in
theorem rload_nil (w : World) : Calls Tryz.prog 14 #[.slice none 0 0, .int .i64 1] w fun e w' => e = .returned (.tuple #[.agg #[.slice none 0 0, .slice none 0 0, .int .i64 1], .int .i64 0]) ∧ Below w.heap.size w w' := by
  have k0 : Blk ((w.alloc (.cells zero32 32)).alloc (.cells zero32 32)) w.heap.size 32 zero32 := (Blk.new w 32 _).alloc _
  have k1 : Blk ((w.alloc (.cells zero32 32)).alloc (.cells zero32 32)) (w.heap.size + 1) 32 zero32 := new2 w _ 32 _
  have hb0 : Below w.heap.size w ((w.alloc (.cells zero32 32)).alloc (.cells zero32 32)) := ((Below.refl _ _).alloc (Nat.le_refl _) _).alloc (by simp) _
  go_enter Tryz.func14, Tryz.ntmps14
  go_upto_region 2 with fail
  generalize (w.alloc (.cells zero32 32)).alloc (.cells zero32 32) = w1 at *
  have K0 := Lib.hid k0
  have K1 := Lib.hid k1
  have HB0 := Lib.hid hb0
  have hs1 := k1.lt
  have d0 : w1.cell? ⟨w.heap.size + 1, 0, none⟩ = some (.slice none 0 0) := (k1.cell 0).trans rfl
  have d1 : w1.cell? ⟨w.heap.size + 1, 1, none⟩ = some (.slice none 0 0) := (k1.cell 1).trans rfl
  have d2 : w1.cell? ⟨w.heap.size + 1, 2, none⟩ = some (.int .i64 0) := (k1.cell 2).trans rfl
  have e0 : w1.cell? ⟨w.heap.size, 0, none⟩ = some (.slice none 0 0) := (k0.cell 0).trans rfl
  have e1 : w1.cell? ⟨w.heap.size, 1, none⟩ = some (.slice none 0 0) := (k0.cell 1).trans rfl
  have e2 : w1.cell? ⟨w.heap.size, 2, none⟩ = some (.int .i64 0) := (k0.cell 2).trans rfl
  have f0 := k0.free'
  have f1 := k1.free'
  clear k0 k1 hb0
  go_wp2_with fail
  go_loopw [7] (fun i wr => i = .int .i64 0 ∧ wr = w1) (fun i _ => 0)
  case atStart => exact ⟨rfl, rfl⟩
  case round =>
    obtain ⟨rfl, rfl⟩ := hrel
    go_wp2_with fail
    go_loopw [12] (fun i wr2 => i = .int .i64 0 ∧ wr2 = wr.setCell ⟨w.heap.size + 1, 2, none⟩ (.int .i64 1)) (fun i _ => 0)
    case atStart => exact ⟨rfl, rfl⟩
    case round =>
      obtain ⟨rfl, rfl⟩ := hrel
      have c0 : (wr.setCell ⟨w.heap.size + 1, 2, none⟩ (.int .i64 1)).cell? ⟨w.heap.size + 1, 0, none⟩ = some (.slice none 0 0) := ((K1.out.set 2 (.int .i64 1)).cell 0).trans rfl
      have HS : Hid (zero32.size = (#[.slice none 0 0, .slice none 0 0, .int .i64 1] : Array Value).size) := rfl
      have H1 : Hid ((#[.slice none 0 0, .slice none 0 0, .int .i64 1] : Array Value).all (·.oneCell') = true) := by
        show (#[.slice none 0 0, .slice none 0 0, .int .i64 1] : Array Value).all (·.oneCell') = true
        simp [Value.oneCell']
      have K1' : Hid (Blk (wr.setCell ⟨w.heap.size + 1, 2, none⟩ (.int .i64 1)) (w.heap.size + 1) 32 #[.slice none 0 0, .slice none 0 0, .int .i64 1]) := K1.out.set 2 (.int .i64 1)
      have K0' := Lib.hid (K0.out.far (b := w.heap.size + 1) (o := 2) (by omega) (.int .i64 1))
      have HB' := Lib.hid (below_set HB0.out (b := w.heap.size + 1) (o := 2) (by omega) (.int .i64 1))
      clear d0 d1 d2 e0 e1 e2 f0 f1
      generalize wr.setCell ⟨w.heap.size + 1, 2, none⟩ (.int .i64 1) = w5 at *
      go_wp2_with (first
        | (refine wpList_load_row rfl 32 _ rfl (w.heap.size + 1) rfl 32 #[.slice none 0 0, .slice none 0 0, .int .i64 1] (0, 0) _ K1'.out Tryz.underlying32 rfl size32 ?_)
        | (refine wpList_store_row rfl 32 _ _ rfl w.heap.size #[.slice none 0 0, .slice none 0 0, .int .i64 1] rfl rfl 32 _ K0'.out size32 HS.out H1.out ?_))
      refine bodyPost_ret (v := .tuple #[.agg #[.slice none 0 0, .slice none 0 0, .int .i64 1], .int .i64 0]) (results_cell_tmp Tryz.results14 _ _ w.heap.size 32 _ (0, 0) _ rfl (setRow_blk K0'.out _) Tryz.underlying32 rfl size32) rfl ⟨rfl, ?_⟩
      exact HB'.out.trans (grown_below (setRow_gby _ _ _) HB'.out.size (fun k hk => by injection hk with hk; omega))
end Go.Proofs.YtoaiamgcegnjjaaGreatDoor
