/- The law's play: a table and the reference's behind acts. No condition. -/
import Derived.Test.YtoaiamgcegnjjaaGreatDoorLL
namespace Go.Proofs.YtoaiamgcegnjjaaGreatDoor
open Go.RowKit Go.Maps Go.WideMaps Go.Sort
set_option maxRecDepth 100000
attribute [local go_sem ↓] st32_fold

theorem results_tmp_cell {P : Program} {fn : Func} {p q : Tmp} {ty : TypeId} (h : fn.results = #[.tmp q, .cell p ty]) (tmps : Array Value) (w : World) (g : Nat) (t : TypeId) (cs : Array Value) (fr : Nat × Nat) (d : TypeDesc)
    (hp : tmps.getD p undef = .pointer (some ⟨g, 0, none⟩)) (hg : w.heap[g]? = some (.cells cs t fr))
    (hu : P.underlying ty = some d) (hd : (match d with | .struct _ | .array _ _ => true | _ => false) = true) (hi : (P.info? ty).map (·.size) = some cs.size) :
    (results fn tmps).run P w = .ok (.tuple #[tmps.getD q undef, .agg cs]) w := by
  have hp' : tmps[p]?.getD undef = .pointer (some ⟨g, 0, none⟩) := by simpa using hp
  simp [results, h, hp', asAddr, run_loadVar_row w g t ty cs fr d hg hu hd hi]

/-- what play leaves -/
def PlayPost (W : World) (e : Ending) (w' : World) : Prop :=
  ∃ base tb v T x LA ln lc NA nn nc rs, e = .returned (.tuple #[.pointer (some ⟨tb, 0, none⟩), .agg v]) ∧ Below W.heap.size W w' ∧ W.heap.size ≤ base ∧ base ≤ w'.heap.size ∧ Tab w' base tb 200 T ∧ RT w' base 200 v x LA ln lc NA nn nc rs ∧ Sim 30 T x

set_option maxHeartbeats 4000000 in
theorem play_any (A : Option Addr) (n c : Nat) (l : List ActS) (B : Nat) (W : World) (hr : Rd W B 25 A n (l.flatMap ActS.cells)) (hok : ∀ a ∈ l, a.Ok W B) (hB : B ≤ W.heap.size) (hn30 : n ≤ 30) (hfew : ∀ a ∈ l, a.n ≤ 40) :
    Calls Tryz.prog 19 #[.slice A n c] W (PlayPost W) := by
  have HRD : Hid (Rd W W.heap.size 25 A n (l.flatMap ActS.cells)) := hr.below (Below.refl _ _) hB
  have HOK : Hid (∀ a ∈ l, a.Ok W W.heap.size) := fun a ha => { hok a ha with keys := (hok a ha).keys.below (Below.refl _ _) hB }
  have HFEW := Lib.hid hfew
  clear hr hok hfew
  have hb0 : Below W.heap.size W (W.alloc (.cells zero32 32)) := (Below.refl _ _).alloc (Nat.le_refl _) _
  have k3 : Blk (W.alloc (.cells zero32 32)) W.heap.size 32 zero32 := Blk.new _ _ _
  go_enter Tryz.func19, Tryz.ntmps19
  go_upto_region 1 with fail
  generalize W.alloc (.cells zero32 32) = w2 at *
  have HB2 := Lib.hid hb0
  have hs2 := k3.lt
  go_wp2_with fail
  refine (load_nil w2).mono ?_
  rintro en w3 ⟨tb, rfl, hT3, hb3⟩
  have HT3 := Lib.hid hT3
  have HB3 := Lib.hid (HB2.out.trans (hb3.mono HB2.out.size))
  have k33 := k3.below hb3 k3.lt
  have hs3 := hb3.size
  clear hT3 hb3 hb0 k3
  go_wp2_with fail
  refine (rload_nil w3).mono ?_
  rintro en w4 ⟨rfl, hb4⟩
  have HB34 := Lib.hid hb4
  have HB4 := Lib.hid (HB3.out.trans (hb4.mono HB3.out.size))
  have hs4 := hb4.size
  have k34 := k33.below hb4 k33.lt
  have st4 := run_st32 (v := #[.slice none 0 0, .slice none 0 0, .int .i64 1]) (Blk.new w4 32 zero32) rfl rfl (by simp [Value.oneCell'])
  clear hb4 k33
  go_wp2_with fail
  have hb5 : Below w4.heap.size w4 ((w4.alloc (.cells zero32 32)).setRow w4.heap.size #[.slice none 0 0, .slice none 0 0, .int .i64 1]) := ((Below.refl _ _).alloc (Nat.le_refl _) _).trans (grown_below (setRow_gby _ _ _) (by simp) (fun k hk => by injection hk with hk; omega))
  have k5 : Blk ((w4.alloc (.cells zero32 32)).setRow w4.heap.size #[.slice none 0 0, .slice none 0 0, .int .i64 1]) w4.heap.size 32 #[.slice none 0 0, .slice none 0 0, .int .i64 1] := setRow_blk (Blk.new w4 32 zero32) _
  generalize (w4.alloc (.cells zero32 32)).setRow w4.heap.size #[.slice none 0 0, .slice none 0 0, .int .i64 1] = w5 at *
  have hb35 := HB34.out.trans (hb5.mono hs4)
  have hpl : PlW W w5 w2.heap.size tb w4.heap.size 0 := by
    refine ⟨HB4.out.trans (hb5.mono HB4.out.size), by have := hb5.size; omega, emptyT 1, { L := [], N := [], next := 1 }, none, 0, 0, none, 0, 0, [], k5, HT3.out.keepsBox hb35, rt_empty w5 _, sim_empty 1 (by omega)⟩
  have HPL := Lib.hid hpl
  have K35 := Lib.hid (k34.below hb5 k34.lt)
  have hs5 := k5.lt
  have hpr : PR W W.heap.size 25 A n (l.flatMap ActS.cells) := PR.of_old HRD.out (Nat.le_refl _)
  obtain ⟨hl, hrow⟩ := hpr.row ActS.cells_len (by decide)
  have HL := Lib.hid hl
  have HROW := Lib.hid hrow
  have hWs : W.heap.size ≤ w2.heap.size := by omega
  have hgw : W.heap.size < w4.heap.size := by omega
  clear hb5 k5 hb35 hpl hpr hl hrow st4 HT3 HB34 HB3 HB4 k34
  generalize hg5 : w4.heap.size = g5 at *
  generalize hbs : w2.heap.size = base at *
  clear hg5 hbs
  go_loopw [20] (fun i wr => ∃ j : Nat, j ≤ n ∧ i = .int .i64 j ∧ PlW W wr base tb g5 j ∧ Blk wr W.heap.size 32 zero32) (fun i _ => n - (intOf i).toNat)
  case atStart => exact ⟨0, Nat.zero_le _, rfl, HPL.out, K35.out⟩
  case round =>
    obtain ⟨j, hj, rfl, hp, hk3⟩ := hrel
    obtain ⟨hbr, hlow, T, x, LA, ln, lc, NA, nn, nc, rs, hk5, hT, hR, hS⟩ := hp
    have HBR := Lib.hid hbr
    have K5 := Lib.hid hk5
    have K3 := Lib.hid hk3
    have HT := Lib.hid hT
    have HR := Lib.hid hR
    have HS := Lib.hid hS
    have hg5 := hk5.lt
    have hWr := hbr.size
    clear hbr hk5 hk3 hT hR hS HPL K35
    by_cases hlt : j < n
    · have hjl : j < l.length := by have := HL.out; omega
      obtain ⟨b, o, rfl, hbl, hra⟩ := HROW.out j hjl
      have hao := HOK.out l[j] (List.getElem_mem hjl)
      have haf := HFEW.out l[j] (List.getElem_mem hjl)
      generalize l[j] = a at *
      have HAO := Lib.hid hao
      have HRA : Hid (wr.rangeAt b (o + j * 25) a.cells) := fun i v hv => (HBR.out.cell (p := ⟨b, o + j * 25 + i, none⟩) hbl).trans (hra i v hv)
      have CD : Hid (∀ wy, Below wr.heap.size wr wy → Calls Tryz.prog 15 #[.pointer (some ⟨tb, 0, none⟩), .agg #[.slice LA ln lc, .slice NA nn nc, .int .i64 x.next], .agg a.cs] wy (DoPost base tb (4 * j) j wy)) := by
        show ∀ wy, Below wr.heap.size wr wy → _
        intro wy hb
        have hbW := HBR.out.trans (hb.mono hWr)
        refine do_any (HT.out.keepsBox hb) (HR.out.below hb hlow) HS.out (by have := hb.size; omega) (by omega) (by omega) a ⟨?_, HAO.out.nc, HAO.out.fits, HAO.out.obj, HAO.out.kd, HAO.out.id⟩ haf
        exact HAO.out.keys.below hbW hWs
      have hI : (Tryz.prog.info? 47).map (·.size) = some a.cs.size := size47
      have hS : 25 = a.cs.size := rfl
      generalize hcs : a.cs = cs at *
      have HI := Lib.hid hI
      have HSS := Lib.hid hS
      have H1 : Hid (cs.all (·.oneCell') = true) := by show cs.all (·.oneCell') = true; rw [← hcs]; exact a.one
      have HRA2 : Hid (wr.rangeAt b (o + j * 25) cs.toList) := by show wr.rangeAt b (o + j * 25) cs.toList; rw [← hcs]; exact HRA.out
      have HIL : Hid ((Tryz.prog.info? 47).map (·.size) = some cs.toList.length) := by show (Tryz.prog.info? 47).map (·.size) = some cs.toList.length; rw [← hcs]; exact size47
      clear hra hao hI hS hcs HRA
      have i1 : (0 : Int) ≤ (j : Int) := by omega
      have i2 : (j : Int) < (n : Int) := by omega
      go_upto_region 6 with first
        | (refine wpList_load_mid rfl 47 _ rfl b (o + j * 25) rfl cs.toList _ HRA2.out Tryz.underlying47 rfl HIL.out ?_; rw [show cs.toList.toArray = cs from by simp])
        | (refine wpList_store_row rfl 47 _ _ rfl wr.heap.size cs rfl rfl 47 _ (Blk.new wr 47 _) HI.out HSS.out H1.out ?_)
      rw [World.setRow_alloc_new]
      have hbx : Below wr.heap.size wr (wr.alloc (.cells cs 47)) := (Below.refl _ _).alloc (Nat.le_refl _) _
      have kx : Blk (wr.alloc (.cells cs 47)) wr.heap.size 47 cs := Blk.new _ _ _
      generalize wr.alloc (.cells cs 47) = wx at *
      have KX := Lib.hid kx
      have HBX := Lib.hid hbx
      have K5x := Lib.hid (K5.out.below hbx hg5)
      have K3x := Lib.hid (K3.out.below hbx K3.out.lt)
      have hsx := kx.lt
      have HIX := HI
      clear hbx kx HI HSS H1 HRA2 HIL
      go_wp2_with first
        | (refine wpList_load_row rfl 32 _ rfl g5 rfl 32 #[.slice LA ln lc, .slice NA nn nc, .int .i64 x.next] (0, 0) _ K5x.out Tryz.underlying32 rfl size32 ?_)
        | (refine wpList_load_row rfl 47 _ rfl wr.heap.size rfl 47 cs (0, 0) _ KX.out Tryz.underlying47 rfl HIX.out ?_)
      refine (CD.out wx HBX.out).mono ?_
      rintro en w6 ⟨v6, LA6, ln6, lc6, NA6, nn6, nc6, rs6, T6, x6, rfl, hk6, hT6, hR6, hS6⟩
      have hv6 := hR6.val
      subst hv6
      have HK6 := Lib.hid hk6
      have HT6 := Lib.hid hT6
      have HR6 := Lib.hid hR6
      have HS6 := Lib.hid hS6
      have K56 := Lib.hid (K5x.out.keeps hk6 (by decide) (by decide) (by decide) (by decide))
      have K36 := Lib.hid (K3x.out.keeps hk6 (by decide) (by decide) (by decide) (by decide))
      have hs6 := hk6.below.size
      have st6 := run_st32 K56.out rfl hR6.shape.1 hR6.shape.2
      clear hk6 hT6 hR6 hS6 CD
      go_upto_region 7 with fail
      have hg8 := setRow_gby w6 g5 #[.slice LA6 ln6 lc6, .slice NA6 nn6 nc6, .int .i64 x6.next]
      have k8 := setRow_blk K56.out #[.slice LA6 ln6 lc6, .slice NA6 nn6 nc6, .int .i64 x6.next]
      have hT8 := HT6.out.put K56.out hg8 (by decide) (by decide) (by decide) (by decide) (by decide) (by decide)
      have hR8 := HR6.out.put3b (A1 := LA) (n1 := ln) (c1 := lc) (A2 := NA) (n2 := nn) (c2 := nc) (i3 := x.next) K56.out #[.slice LA6 ln6 lc6, .slice NA6 nn6 nc6, .int .i64 x6.next]
      have hbWx := HBR.out.trans (HBX.out.mono hWr)
      have hbW6 : Below W.heap.size W w6 := hbWx.trans (HK6.out.below.mono hWs)
      have hb8 : Below W.heap.size W (w6.setRow g5 #[.slice LA6 ln6 lc6, .slice NA6 nn6 nc6, .int .i64 x6.next]) := hbW6.trans (grown_below hg8 hbW6.size (fun k hk => by injection hk with hk; omega))
      have k38 := K36.out.grown hg8 (fun e => by injection e with e; omega)
      have hs8 := hg8.size
      generalize w6.setRow g5 #[.slice LA6 ln6 lc6, .slice NA6 nn6 nc6, .int .i64 x6.next] = w8 at *
      have HPL9 : Hid (PlW W w8 base tb g5 (j + 1)) := by
        refine ⟨hb8, by omega, T6, x6, LA6, ln6, lc6, NA6, nn6, nc6, rs6, k8, ?_, ?_, HS6.out⟩
        · exact hT8.mono (by omega)
        · exact hR8.mono (by omega)
      have K38 := Lib.hid k38
      clear hg8 k8 hT8 hR8 hb8 st6 hbWx hbW6 k38
      go_wp2_with fail
      go_roundw
      case rel => exact ⟨j + 1, by omega, by go_num, HPL9.out, K38.out⟩
      case measure => simp [intOf]; omega
    · obtain rfl : j = n := by omega
      have hv := HR.out.val
      have st9 := run_st32 K3.out rfl HR.out.shape.1 HR.out.shape.2
      have st9d : (st32 (.pointer (some ⟨W.heap.size, 0, none⟩)) (.agg #[.slice LA ln lc, .slice NA nn nc, .int .i64 x.next])).run Tryz.prog wr.drew = .ok () (wr.drew.setRow W.heap.size #[.slice LA ln lc, .slice NA nn nc, .int .i64 x.next]) := run_st32 K3.out.drew rfl HR.out.shape.1 HR.out.shape.2
      have q0 : wr.cell? ⟨g5, 0, none⟩ = some (.slice LA ln lc) := (K5.out.cell 0).trans rfl
      have q1 : wr.cell? ⟨g5, 1, none⟩ = some (.slice NA nn nc) := (K5.out.cell 1).trans rfl
      have q2 : wr.cell? ⟨g5, 2, none⟩ = some (.int .i64 x.next) := (K5.out.cell 2).trans rfl
      have FIN : Hid (∀ wd, Below wr.heap.size wr wd → Blk wd W.heap.size 32 zero32 → Blk (wd.setRow W.heap.size #[.slice LA ln lc, .slice NA nn nc, .int .i64 x.next]) W.heap.size 32 #[.slice LA ln lc, .slice NA nn nc, .int .i64 x.next] ∧ PlayPost W (.returned (.tuple #[.pointer (some ⟨tb, 0, none⟩), .agg #[.slice LA ln lc, .slice NA nn nc, .int .i64 x.next]])) (wd.setRow W.heap.size #[.slice LA ln lc, .slice NA nn nc, .int .i64 x.next])) := by
        show ∀ wd, Below wr.heap.size wr wd → _
        intro wd hbd hkd
        have hg := setRow_gby wd W.heap.size #[.slice LA ln lc, .slice NA nn nc, .int .i64 x.next]
        have hbW := HBR.out.trans (hbd.mono hWr)
        have hsd := hbd.size
        have hsg := hg.size
        refine ⟨setRow_blk hkd _, base, tb, _, T, x, LA, ln, lc, NA, nn, nc, rs, rfl, hbW.trans (grown_below hg hbW.size (fun k hk => by injection hk with hk; omega)), hWs, by omega, ?_, ?_, HS.out.more (by omega)⟩
        · exact ((HT.out.keepsBox hbd).put hkd hg (by decide) (by decide) (by decide) (by decide) (by decide) (by decide)).mono (by omega)
        · exact ((HR.out.below hbd hlow).put32 hkd _).mono (by omega)
      go_upto_region 8 with fail
      have F0 := Lib.hid (FIN.out wr.drew (Below.refl _ _).drew K3.out.drew)
      go_region
      all_goals
        go_wp2_with fail
        exact bodyPost_ret (v := .tuple #[.pointer (some ⟨tb, 0, none⟩), .agg #[.slice LA ln lc, .slice NA nn nc, .int .i64 x.next]]) (results_tmp_cell Tryz.results19 _ _ W.heap.size 32 _ (0, 0) _ rfl F0.out.1 Tryz.underlying32 rfl size32) rfl F0.out.2
end Go.Proofs.YtoaiamgcegnjjaaGreatDoor
