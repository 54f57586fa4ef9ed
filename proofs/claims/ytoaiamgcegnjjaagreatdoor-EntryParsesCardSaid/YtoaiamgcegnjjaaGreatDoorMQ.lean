/- The law's 'do': Learn. No condition. The law's 'do': Drop. No condition. -/
import Derived.Test.YtoaiamgcegnjjaaGreatDoorLB
import Derived.Test.YtoaiamgcegnjjaaGreatDoorY2
import Derived.Test.YtoaiamgcegnjjaaGreatDoorY3
import Derived.Test.YtoaiamgcegnjjaaGreatDoorXE
namespace Go.Proofs.YtoaiamgcegnjjaaGreatDoor
open Go.RowKit Go.Maps Go.WideMaps Go.Sort
set_option maxRecDepth 100000
attribute [local go_sem ↓] st32_fold

section
variable {w : World} {base tb m k : Nat} {T : TabS} {v : Array Value} {x : RTab} {LA NA : Option Addr} {ln lc nn nc : Nat} {rs : List RM}
set_option maxHeartbeats 2000000 in
theorem do_learn (hT : Tab w base tb m T) (hR : RT w base m v x LA ln lc NA nn nc rs) (hS : Sim k T x) (hB : base ≤ w.heap.size) (hm : m ≤ 9000) (kd : Int) (obj : ByteArray) (st : Int) (M : MetaS) (A : Option Addr) (n c : Nat) (sf sto age ti mo ge id f t hv le' : Int) (hkd : 0 ≤ kd ∧ kd ≤ 255) (hk7 : kd % 7 = 5) (hid : (Lit.int .i64 id).wf = true) :
    Calls Tryz.prog 15 #[.pointer (some ⟨tb, 0, none⟩), .agg v, .agg (actC kd obj st M A n c sf sto age ti mo ge id f t hv le')] w (DoPost base tb m k w) := by
  have HT := Lib.hid hT
  have HR := Lib.hid hR
  have HS := Lib.hid hS
  have hval := hR.val
  subst hval
  have hdb := DB.start base w hB #[.slice LA ln lc, .slice NA nn nc, .int .i64 x.next] (actC kd obj st M A n c sf sto age ti mo ge id f t hv le')
  have hb0 : Below w.heap.size w (((w.alloc (.cells #[.slice LA ln lc, .slice NA nn nc, .int .i64 x.next] 32)).alloc (.cells (actC kd obj st M A n c sf sto age ti mo ge id f t hv le') 47)).alloc (.cells zero32 32)) := (((Below.refl _ _).alloc (Nat.le_refl _) _).alloc (by simp) _).alloc (by simp; omega) _
  clear hT hR hS
  go_enter Tryz.func15, Tryz.ntmps15
  go_upto_region 1 with fail
  generalize ((w.alloc (.cells #[.slice LA ln lc, .slice NA nn nc, .int .i64 x.next] 32)).alloc (.cells (actC kd obj st M A n c sf sto age ti mo ge id f t hv le') 47)).alloc (.cells zero32 32) = w0 at *
  have HDB := Lib.hid hdb
  have HB0 := Lib.hid hb0
  have hs0 := hdb.res.lt
  obtain ⟨a0, a1, a17, a18, a19, a20, a21, a22, a23, a24⟩ := do_cells hdb.act
  clear hdb hb0
  go_upto_region 20 with (first
    | (refine wpList_load_row rfl 32 _ rfl w.heap.size rfl 32 #[.slice LA ln lc, .slice NA nn nc, .int .i64 x.next] (0, 0) _ HDB.out.tab Tryz.underlying32 rfl size32 ?_)
    | (go_at_call 59; refine (rlearn_any (HR.out.below HB0.out hB) (by omega) (by omega) HS.out.sz id hv le').mono ?_; rintro en w4 ⟨v4, LA4, ln4, lc4, NA4, nn4, nc4, rs4, rfl, hr4, hb4⟩; (have HR4 := Lib.hid hr4); (have HB4 := Lib.hid hb4); (have st4 := run_st32 (Blk.new w4 32 zero32) rfl hr4.shape.1 hr4.shape.2); clear hr4 hb4))
  have hb5 : Below w4.heap.size w4 ((w4.alloc (.cells zero32 32)).setRow w4.heap.size v4) := ((Below.refl _ _).alloc (Nat.le_refl _) _).trans (grown_below (setRow_gby _ _ _) (by simp) (fun k hk => by injection hk with hk; omega))
  have k9 : Blk ((w4.alloc (.cells zero32 32)).setRow w4.heap.size v4) w4.heap.size 32 v4 := setRow_blk (Blk.new w4 32 zero32) _
  generalize (w4.alloc (.cells zero32 32)).setRow w4.heap.size v4 = w5 at *
  have hb15 : Below w0.heap.size w0 w5 := HB4.out.trans (hb5.mono HB4.out.size)
  have hb05 : Below w.heap.size w w5 := HB0.out.trans (hb15.mono HB0.out.size)
  have hs4 := HB4.out.size
  have hs5 := k9.lt
  have HDB5 := Lib.hid (HDB.out.to (Keeps.of_below hb15 (by omega)))
  have HR5 := Lib.hid (HR4.out.below hb5 (by omega))
  have HT5 := Lib.hid (HT.out.keepsBox hb05)
  have K9 := Lib.hid k9
  have hv4 := HR4.out.val
  subst hv4
  have HSM := Lib.hid (sim_learn HS.out id hv le')
  generalize hxx : learnR x id hv le' = X at *
  generalize hTT : learnS T id hv le' = TT at *
  have HTT := Lib.hid hTT
  clear hb5 k9 hb15 hb05 HR4 HB4 HDB st4 a0 a1 a17 a18 a19 a20 a21 a22 a23 a24 hxx hTT HB0 HT
  have sk : ∀ wy, Keeps base w5 wy → wy.cell? ⟨w4.heap.size, 0, none⟩ = some (.slice LA4 ln4 lc4) ∧ wy.cell? ⟨w4.heap.size, 1, none⟩ = some (.slice NA4 nn4 nc4) ∧ wy.cell? ⟨w4.heap.size, 2, none⟩ = some (.int .i64 X.1.next) ∧ wy.cell? ⟨w.heap.size + 1, 20, none⟩ = some (.int .i64 id) ∧ wy.cell? ⟨w.heap.size + 1, 23, none⟩ = some (.int .i64 hv) ∧ wy.cell? ⟨w.heap.size + 1, 24, none⟩ = some (.int .i64 le') := fun wy hk => by
    have h1 := K9.out.keeps hk (by decide) (by decide) (by decide) (by decide)
    obtain ⟨a0, a1, a17, a18, a19, a20, a21, a22, a23, a24⟩ := do_cells (HDB5.out.to hk).act
    exact ⟨(h1.cell 0).trans rfl, (h1.cell 1).trans rfl, (h1.cell 2).trans rfl, a20, a23, a24⟩
  have SK := Lib.hid sk
  clear sk
  have sq : ∀ wy (v : Array Value), Keeps base w5 wy → (wy.setRow (w.heap.size + 1 + 1) v).cell? ⟨w4.heap.size, 0, none⟩ = some (.slice LA4 ln4 lc4) ∧ (wy.setRow (w.heap.size + 1 + 1) v).cell? ⟨w4.heap.size, 1, none⟩ = some (.slice NA4 nn4 nc4) ∧ (wy.setRow (w.heap.size + 1 + 1) v).cell? ⟨w4.heap.size, 2, none⟩ = some (.int .i64 X.1.next) ∧ (wy.setRow (w.heap.size + 1 + 1) v).cell? ⟨w.heap.size + 1, 20, none⟩ = some (.int .i64 id) ∧ (wy.setRow (w.heap.size + 1 + 1) v).cell? ⟨w.heap.size + 1, 23, none⟩ = some (.int .i64 hv) ∧ (wy.setRow (w.heap.size + 1 + 1) v).cell? ⟨w.heap.size + 1, 24, none⟩ = some (.int .i64 le') := fun wy v hk => by
    have hg := setRow_gby wy (w.heap.size + 1 + 1) v
    have h1 := (K9.out.keeps hk (by decide) (by decide) (by decide) (by decide)).grown hg (fun e => by injection e with e; omega)
    obtain ⟨a0, a1, a17, a18, a19, a20, a21, a22, a23, a24⟩ := do_cells ((HDB5.out.to hk).act.grown hg (fun e => by injection e with e; omega))
    exact ⟨(h1.cell 0).trans rfl, (h1.cell 1).trans rfl, (h1.cell 2).trans rfl, a20, a23, a24⟩
  have SQ := Lib.hid sq
  clear sq
  have hB5 : base ≤ w5.heap.size := by omega
  have fin : ∀ (wy : World) (T' : TabS), Keeps base w5 wy → Tab wy base tb m T' → T' = TT.1 → (st32 (.pointer (some ⟨w.heap.size + 1 + 1, 0, none⟩)) (.agg #[.slice LA4 ln4 lc4, .slice NA4 nn4 nc4, .int .i64 X.1.next])).run Tryz.prog wy = .ok () (wy.setRow (w.heap.size + 1 + 1) #[.slice LA4 ln4 lc4, .slice NA4 nn4 nc4, .int .i64 X.1.next]) ∧ Blk (wy.setRow (w.heap.size + 1 + 1) #[.slice LA4 ln4 lc4, .slice NA4 nn4 nc4, .int .i64 X.1.next]) (w.heap.size + 1 + 1) 32 #[.slice LA4 ln4 lc4, .slice NA4 nn4 nc4, .int .i64 X.1.next] ∧ DoPost base tb m k w (.returned (.tuple #[.agg #[.slice LA4 ln4 lc4, .slice NA4 nn4 nc4, .int .i64 X.1.next], .bool true])) (wy.setRow (w.heap.size + 1 + 1) #[.slice LA4 ln4 lc4, .slice NA4 nn4 nc4, .int .i64 X.1.next]) := fun wy T' hk hT he => by
    subst he
    have h1 := HDB5.out.to hk
    have hr := HR5.out.keeps hk
    have hg := setRow_gby wy (w.heap.size + 1 + 1) #[.slice LA4 ln4 lc4, .slice NA4 nn4 nc4, .int .i64 X.1.next]
    refine ⟨run_st32 h1.res rfl hr.shape.1 hr.shape.2, setRow_blk h1.res _, ?_⟩
    refine ⟨_, LA4, ln4, lc4, NA4, nn4, nc4, rs4, TT.1, X.1, rfl, ?_, ?_, (hr.put32 h1.res _).mono (by omega), HSM.out.2.more (by omega)⟩
    · exact h1.keeps.put_new hB (by omega) _
    · exact (hT.put h1.res hg (by decide) (by decide) (by decide) (by decide) (by decide) (by decide)).mono (by omega)
  have FIN := Lib.hid fin
  clear fin
  have CC : Hid (∀ wy, Below w5.heap.size w5 wy → Calls Tryz.prog 34 #[.pointer (some ⟨tb, 0, none⟩), .int .i64 id, .int .i64 hv, .int .i64 le'] wy fun e w' => e = .returned (.int .i64 X.2) ∧ Keeps base w5 w' ∧ Tab w' base tb m TT.1) := by
    show ∀ wy, Below w5.heap.size w5 wy → _
    intro wy hb
    refine (learn_any (HT5.out.keepsBox hb) id hv le' hid).mono ?_
    rintro en w' ⟨rfl, hk, hT⟩
    rw [HTT.out] at hT ⊢
    exact ⟨by rw [HSM.out.1], (Keeps.of_below hb hB5).trans hk, hT⟩
  go_cut [7] (fun p wy => p = .bool true ∧ Blk wy (w.heap.size + 1 + 1) 32 #[.slice LA4 ln4 lc4, .slice NA4 nn4 nc4, .int .i64 X.1.next] ∧ DoPost base tb m k w (.returned (.tuple #[.agg #[.slice LA4 ln4 lc4, .slice NA4 nn4 nc4, .int .i64 X.1.next], .bool true])) wy)
  case first =>
    go_region_held3 (fun wy => wy.cell? ⟨w4.heap.size, 0, none⟩ = some (.slice LA4 ln4 lc4) ∧ wy.cell? ⟨w4.heap.size, 1, none⟩ = some (.slice NA4 nn4 nc4) ∧ wy.cell? ⟨w4.heap.size, 2, none⟩ = some (.int .i64 X.1.next) ∧ wy.cell? ⟨w.heap.size + 1, 20, none⟩ = some (.int .i64 id) ∧ wy.cell? ⟨w.heap.size + 1, 23, none⟩ = some (.int .i64 hv) ∧ wy.cell? ⟨w.heap.size + 1, 24, none⟩ = some (.int .i64 le'))
      (first
        | exact SQ.out _ _ HKP.out
        | exact SK.out _ HKP.out
        | exact SK.out _ (Keeps.of_below (Below.refl _ _) hB5)
        | exact SK.out _ (Keeps.of_below (Below.refl _ _).drew hB5))
      (first
        | (go_at_call 34; refine (CC.out _ (Below.refl w5.heap.size w5).drew).mono ?_; rintro en w7 ⟨rfl, hk7, hT7⟩; (have HKP := Lib.hid hk7); (have HF := Lib.hid (FIN.out w7 _ hk7 hT7 rfl)); (have st7 := HF.out.1); clear hk7 hT7))
    all_goals
      go_wp2_with fail
      go_meet
    all_goals exact ⟨by simp, HF.out.2.1, HF.out.2.2⟩
  case rest =>
    obtain ⟨rfl, hk9, hpost⟩ := hcut
    go_wp2_with fail
    exact bodyPost_ret (v := .tuple #[.agg #[.slice LA4 ln4 lc4, .slice NA4 nn4 nc4, .int .i64 X.1.next], .bool true]) (results_cell_tmp Tryz.results15 _ _ (w.heap.size + 1 + 1) 32 _ (0, 0) _ rfl hk9 Tryz.underlying32 rfl size32) rfl hpost
end
end Go.Proofs.YtoaiamgcegnjjaaGreatDoor
namespace Go.Proofs.YtoaiamgcegnjjaaGreatDoor
open Go.RowKit Go.Maps Go.WideMaps Go.Sort
set_option maxRecDepth 100000
attribute [local go_sem ↓] st32_fold

section
variable {w : World} {base tb m k : Nat} {T : TabS} {v : Array Value} {x : RTab} {LA NA : Option Addr} {ln lc nn nc : Nat} {rs : List RM}
set_option maxHeartbeats 2000000 in
theorem do_drop (hT : Tab w base tb m T) (hR : RT w base m v x LA ln lc NA nn nc rs) (hS : Sim k T x) (hB : base ≤ w.heap.size) (hm : m ≤ 9000) (kd : Int) (obj : ByteArray) (st : Int) (M : MetaS) (A : Option Addr) (n c : Nat) (sf sto age ti mo ge id f t hv le' : Int) (hkd : 0 ≤ kd ∧ kd ≤ 255) (hk7 : kd % 7 = 6) (hid : (Lit.int .i64 id).wf = true) :
    Calls Tryz.prog 15 #[.pointer (some ⟨tb, 0, none⟩), .agg v, .agg (actC kd obj st M A n c sf sto age ti mo ge id f t hv le')] w (DoPost base tb m k w) := by
  have hin : ∀ e o, T.ents id = some e → T.objs e.obj = some o → id ∈ o.ids := fun e o he ho => by
    obtain ⟨r, hr, h1, h2⟩ := (hS.ents _ _).1 he
    subst h2
    rw [hS.ids _ o ho]
    exact List.mem_map.2 ⟨r.key, List.mem_filter.2 ⟨key_mem hr, decide_eq_true rfl⟩, h1⟩
  have HIN := Lib.hid hin
  clear hin
  have HT := Lib.hid hT
  have HR := Lib.hid hR
  have HS := Lib.hid hS
  have hval := hR.val
  subst hval
  have hdb := DB.start base w hB #[.slice LA ln lc, .slice NA nn nc, .int .i64 x.next] (actC kd obj st M A n c sf sto age ti mo ge id f t hv le')
  have hb0 : Below w.heap.size w (((w.alloc (.cells #[.slice LA ln lc, .slice NA nn nc, .int .i64 x.next] 32)).alloc (.cells (actC kd obj st M A n c sf sto age ti mo ge id f t hv le') 47)).alloc (.cells zero32 32)) := (((Below.refl _ _).alloc (Nat.le_refl _) _).alloc (by simp) _).alloc (by simp; omega) _
  clear hT hR hS
  go_enter Tryz.func15, Tryz.ntmps15
  go_upto_region 1 with fail
  generalize ((w.alloc (.cells #[.slice LA ln lc, .slice NA nn nc, .int .i64 x.next] 32)).alloc (.cells (actC kd obj st M A n c sf sto age ti mo ge id f t hv le') 47)).alloc (.cells zero32 32) = w0 at *
  have HDB := Lib.hid hdb
  have HB0 := Lib.hid hb0
  have hs0 := hdb.res.lt
  obtain ⟨a0, a1, a17, a18, a19, a20, a21, a22, a23, a24⟩ := do_cells hdb.act
  clear hdb hb0
  go_upto_region 22 with (first
    | (refine wpList_load_row rfl 32 _ rfl w.heap.size rfl 32 #[.slice LA ln lc, .slice NA nn nc, .int .i64 x.next] (0, 0) _ HDB.out.tab Tryz.underlying32 rfl size32 ?_)
    | (go_at_call 60; refine (rdrop_any (HR.out.below HB0.out hB) (by omega) (by omega) id).mono ?_; rintro en w4 ⟨v4, LA4, ln4, lc4, NA4, nn4, nc4, rs4, rfl, hr4, hb4⟩; (have HR4 := Lib.hid hr4); (have HB4 := Lib.hid hb4); (have st4 := run_st32 (Blk.new w4 32 zero32) rfl hr4.shape.1 hr4.shape.2); clear hr4 hb4))
  have hb5 : Below w4.heap.size w4 ((w4.alloc (.cells zero32 32)).setRow w4.heap.size v4) := ((Below.refl _ _).alloc (Nat.le_refl _) _).trans (grown_below (setRow_gby _ _ _) (by simp) (fun k hk => by injection hk with hk; omega))
  have k9 : Blk ((w4.alloc (.cells zero32 32)).setRow w4.heap.size v4) w4.heap.size 32 v4 := setRow_blk (Blk.new w4 32 zero32) _
  generalize (w4.alloc (.cells zero32 32)).setRow w4.heap.size v4 = w5 at *
  have hb15 : Below w0.heap.size w0 w5 := HB4.out.trans (hb5.mono HB4.out.size)
  have hb05 : Below w.heap.size w w5 := HB0.out.trans (hb15.mono HB0.out.size)
  have hs4 := HB4.out.size
  have hs5 := k9.lt
  have HDB5 := Lib.hid (HDB.out.to (Keeps.of_below hb15 (by omega)))
  have HR5 := Lib.hid (HR4.out.below hb5 (by omega))
  have HT5 := Lib.hid (HT.out.keepsBox hb05)
  have K9 := Lib.hid k9
  have hv4 := HR4.out.val
  subst hv4
  have HSM := Lib.hid (sim_drop HS.out id)
  generalize hxx : dropR x id = X at *
  generalize hTT : dropS T id = TT at *
  have HTT := Lib.hid hTT
  clear hb5 k9 hb15 hb05 HR4 HB4 HDB st4 a0 a1 a17 a18 a19 a20 a21 a22 a23 a24 hxx hTT HB0 HT
  have sk : ∀ wy, Keeps base w5 wy → wy.cell? ⟨w4.heap.size, 0, none⟩ = some (.slice LA4 ln4 lc4) ∧ wy.cell? ⟨w4.heap.size, 1, none⟩ = some (.slice NA4 nn4 nc4) ∧ wy.cell? ⟨w4.heap.size, 2, none⟩ = some (.int .i64 X.1.next) ∧ wy.cell? ⟨w.heap.size + 1, 20, none⟩ = some (.int .i64 id) := fun wy hk => by
    have h1 := K9.out.keeps hk (by decide) (by decide) (by decide) (by decide)
    obtain ⟨a0, a1, a17, a18, a19, a20, a21, a22, a23, a24⟩ := do_cells (HDB5.out.to hk).act
    exact ⟨(h1.cell 0).trans rfl, (h1.cell 1).trans rfl, (h1.cell 2).trans rfl, a20⟩
  have SK := Lib.hid sk
  clear sk
  have sq : ∀ wy (v : Array Value), Keeps base w5 wy → (wy.setRow (w.heap.size + 1 + 1) v).cell? ⟨w4.heap.size, 0, none⟩ = some (.slice LA4 ln4 lc4) ∧ (wy.setRow (w.heap.size + 1 + 1) v).cell? ⟨w4.heap.size, 1, none⟩ = some (.slice NA4 nn4 nc4) ∧ (wy.setRow (w.heap.size + 1 + 1) v).cell? ⟨w4.heap.size, 2, none⟩ = some (.int .i64 X.1.next) ∧ (wy.setRow (w.heap.size + 1 + 1) v).cell? ⟨w.heap.size + 1, 20, none⟩ = some (.int .i64 id) := fun wy v hk => by
    have hg := setRow_gby wy (w.heap.size + 1 + 1) v
    have h1 := (K9.out.keeps hk (by decide) (by decide) (by decide) (by decide)).grown hg (fun e => by injection e with e; omega)
    obtain ⟨a0, a1, a17, a18, a19, a20, a21, a22, a23, a24⟩ := do_cells ((HDB5.out.to hk).act.grown hg (fun e => by injection e with e; omega))
    exact ⟨(h1.cell 0).trans rfl, (h1.cell 1).trans rfl, (h1.cell 2).trans rfl, a20⟩
  have SQ := Lib.hid sq
  clear sq
  have hB5 : base ≤ w5.heap.size := by omega
  have fin : ∀ (wy : World) (T' : TabS), Keeps base w5 wy → Tab wy base tb m T' → T' = TT.1 → (st32 (.pointer (some ⟨w.heap.size + 1 + 1, 0, none⟩)) (.agg #[.slice LA4 ln4 lc4, .slice NA4 nn4 nc4, .int .i64 X.1.next])).run Tryz.prog wy = .ok () (wy.setRow (w.heap.size + 1 + 1) #[.slice LA4 ln4 lc4, .slice NA4 nn4 nc4, .int .i64 X.1.next]) ∧ Blk (wy.setRow (w.heap.size + 1 + 1) #[.slice LA4 ln4 lc4, .slice NA4 nn4 nc4, .int .i64 X.1.next]) (w.heap.size + 1 + 1) 32 #[.slice LA4 ln4 lc4, .slice NA4 nn4 nc4, .int .i64 X.1.next] ∧ DoPost base tb m k w (.returned (.tuple #[.agg #[.slice LA4 ln4 lc4, .slice NA4 nn4 nc4, .int .i64 X.1.next], .bool true])) (wy.setRow (w.heap.size + 1 + 1) #[.slice LA4 ln4 lc4, .slice NA4 nn4 nc4, .int .i64 X.1.next]) := fun wy T' hk hT he => by
    subst he
    have h1 := HDB5.out.to hk
    have hr := HR5.out.keeps hk
    have hg := setRow_gby wy (w.heap.size + 1 + 1) #[.slice LA4 ln4 lc4, .slice NA4 nn4 nc4, .int .i64 X.1.next]
    refine ⟨run_st32 h1.res rfl hr.shape.1 hr.shape.2, setRow_blk h1.res _, ?_⟩
    refine ⟨_, LA4, ln4, lc4, NA4, nn4, nc4, rs4, TT.1, X.1, rfl, ?_, ?_, (hr.put32 h1.res _).mono (by omega), HSM.out.2.more (by omega)⟩
    · exact h1.keeps.put_new hB (by omega) _
    · exact (hT.put h1.res hg (by decide) (by decide) (by decide) (by decide) (by decide) (by decide)).mono (by omega)
  have FIN := Lib.hid fin
  clear fin
  have CC : Hid (∀ wy, Below w5.heap.size w5 wy → Calls Tryz.prog 35 #[.pointer (some ⟨tb, 0, none⟩), .int .i64 id] wy fun e w' => e = .returned (.bool X.2) ∧ Keeps base w5 w' ∧ Tab w' base tb m TT.1) := by
    show ∀ wy, Below w5.heap.size w5 wy → _
    intro wy hb
    refine (drop_any (HT5.out.keepsBox hb) (by omega) id hid HIN.out).mono ?_
    rintro en w' ⟨rfl, hk, hT⟩
    rw [HTT.out] at hT ⊢
    exact ⟨by rw [HSM.out.1], (Keeps.of_below hb hB5).trans hk, hT⟩
  go_cut [7] (fun p wy => p = .bool true ∧ Blk wy (w.heap.size + 1 + 1) 32 #[.slice LA4 ln4 lc4, .slice NA4 nn4 nc4, .int .i64 X.1.next] ∧ DoPost base tb m k w (.returned (.tuple #[.agg #[.slice LA4 ln4 lc4, .slice NA4 nn4 nc4, .int .i64 X.1.next], .bool true])) wy)
  case first =>
    go_region_held3 (fun wy => wy.cell? ⟨w4.heap.size, 0, none⟩ = some (.slice LA4 ln4 lc4) ∧ wy.cell? ⟨w4.heap.size, 1, none⟩ = some (.slice NA4 nn4 nc4) ∧ wy.cell? ⟨w4.heap.size, 2, none⟩ = some (.int .i64 X.1.next) ∧ wy.cell? ⟨w.heap.size + 1, 20, none⟩ = some (.int .i64 id))
      (first
        | exact SQ.out _ _ HKP.out
        | exact SK.out _ HKP.out
        | exact SK.out _ (Keeps.of_below (Below.refl _ _) hB5)
        | exact SK.out _ (Keeps.of_below (Below.refl _ _).drew hB5))
      (first
        | (go_at_call 35; refine (CC.out _ (Below.refl w5.heap.size w5).drew).mono ?_; rintro en w7 ⟨rfl, hk7, hT7⟩; (have HKP := Lib.hid hk7); (have HF := Lib.hid (FIN.out w7 _ hk7 hT7 rfl)); (have st7 := HF.out.1); clear hk7 hT7))
    all_goals
      go_wp2_with fail
      go_meet
    all_goals exact ⟨by simp, HF.out.2.1, HF.out.2.2⟩
  case rest =>
    obtain ⟨rfl, hk9, hpost⟩ := hcut
    go_wp2_with fail
    exact bodyPost_ret (v := .tuple #[.agg #[.slice LA4 ln4 lc4, .slice NA4 nn4 nc4, .int .i64 X.1.next], .bool true]) (results_cell_tmp Tryz.results15 _ _ (w.heap.size + 1 + 1) 32 _ (0, 0) _ rfl hk9 Tryz.underlying32 rfl size32) rfl hpost
end
end Go.Proofs.YtoaiamgcegnjjaaGreatDoor
