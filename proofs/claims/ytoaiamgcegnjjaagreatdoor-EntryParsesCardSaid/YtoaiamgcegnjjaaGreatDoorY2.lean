/- The reference's Learn. -/
import Derived.Test.YtoaiamgcegnjjaaGreatDoorML
namespace Go.Proofs.YtoaiamgcegnjjaaGreatDoor
open Go.RowKit Go.Maps Go.WideMaps Go.Sort
set_option maxRecDepth 100000
attribute [local go_sem ↓] st32_fold

abbrev RM.metaV (r : RM) : Array Value := metaC r.e.M.t r.e.M.wk r.e.M.mo r.e.M.le r.e.M.ha r.e.M.fr r.e.M.wh r.e.M.er r.kA r.kn r.kc r.e.M.ten r.e.M.kp

def setA (cs : Array Value) (o : Nat) : List Value → Array Value
  | [] => cs
  | v :: vs => setA (cs.setIfInBounds o v) (o + 1) vs
theorem Blk.sets {w : World} {g : Nat} {t : TypeId} {cs : Array Value} (h : Blk w g t cs) : ∀ (vs : List Value) (o : Nat), Blk (w.setCells g o vs) g t (setA cs o vs) := by
  intro vs
  induction vs generalizing w cs with
  | nil => intro o; exact h
  | cons v vs ih => intro o; exact ih (h.set o v) (o + 1)
theorem row_meta (r : RM) (M : MetaS) (A : Option Addr) (n c : Nat) : setA r.row 2 (metaC M.t M.wk M.mo M.le M.ha M.fr M.wh M.er A n c M.ten M.kp).toList = ({ r with e := { r.e with M := M }, kA := A, kn := n, kc := c } : RM).row := by
  simp [setA]

section
variable {w : World} {base m : Nat} {v : Array Value} {x : RTab} {LA NA : Option Addr} {ln lc nn nc : Nat} {rs : List RM}
set_option maxHeartbeats 1000000 in
theorem rlearn_any (h : RT w base m v x LA ln lc NA nn nc rs) (hB : base ≤ w.heap.size) (hm : m ≤ 10000) (hsz : ∀ e ∈ x.L, e.M.Sz) (id hv le' : Int) :
    Calls Tryz.prog 59 #[.agg v, .int .i64 id, .int .i64 hv, .int .i64 le'] w fun e w' => ∃ v' LA' ln' lc' NA' nn' nc' rs', e = .returned (.tuple #[.agg v', .int .i64 (learnR x id hv le').2]) ∧ RT w' base m v' (learnR x id hv le').1 LA' ln' lc' NA' nn' nc' rs' ∧ Below w.heap.size w w' := by
  have hlf := h.lfew
  have HL := Lib.hid h.len
  have HR := Lib.hid h
  have HZ := Lib.hid hsz
  have hv' := h.val
  subst hv'
  clear h hsz
  have hb0 : Below w.heap.size w ((w.alloc (.cells #[.slice LA ln lc, .slice NA nn nc, .int .i64 x.next] 32)).alloc (.cells zero32 32)) := ((Below.refl _ _).alloc (Nat.le_refl _) _).alloc (by simp) _
  have k0 : Blk ((w.alloc (.cells #[.slice LA ln lc, .slice NA nn nc, .int .i64 x.next] 32)).alloc (.cells zero32 32)) w.heap.size 32 #[.slice LA ln lc, .slice NA nn nc, .int .i64 x.next] := (Blk.new w 32 _).alloc _
  have k2 : Blk ((w.alloc (.cells #[.slice LA ln lc, .slice NA nn nc, .int .i64 x.next] 32)).alloc (.cells zero32 32)) (w.heap.size + 1) 32 zero32 := new2 w _ 32 _
  go_enter Tryz.func59, Tryz.ntmps59
  go_upto_region 1 with fail
  generalize (w.alloc (.cells #[.slice LA ln lc, .slice NA nn nc, .int .i64 x.next] 32)).alloc (.cells zero32 32) = w1 at *
  have HB1 := Lib.hid hb0
  have K0 := Lib.hid k0
  have K2 := Lib.hid k2
  have hsz1 := k2.lt
  clear hb0 k0 k2
  have H1 : Hid ((#[.slice LA ln lc, .slice NA nn nc, .int .i64 x.next] : Array Value).all (·.oneCell') = true) := by
    show (#[.slice LA ln lc, .slice NA nn nc, .int .i64 x.next] : Array Value).all (·.oneCell') = true
    simp [Value.oneCell']
  have HS : Hid (zero32.size = (#[.slice LA ln lc, .slice NA nn nc, .int .i64 x.next] : Array Value).size) := rfl
  have back : ∀ (wx : World) (k : Int) (R : RTab × Int), Below w.heap.size w wx → Blk wx (w.heap.size + 1) 32 zero32 → R = (x, k) →
      ∃ v' LA' ln' lc' NA' nn' nc' rs', Ending.returned (.tuple #[.agg #[.slice LA ln lc, .slice NA nn nc, .int .i64 x.next], .int .i64 k]) = .returned (.tuple #[.agg v', .int .i64 R.2]) ∧ RT (wx.setRow (w.heap.size + 1) #[.slice LA ln lc, .slice NA nn nc, .int .i64 x.next]) base m v' R.1 LA' ln' lc' NA' nn' nc' rs' ∧ Below w.heap.size w (wx.setRow (w.heap.size + 1) #[.slice LA ln lc, .slice NA nn nc, .int .i64 x.next]) := fun wx k R hbx hk2 hR => by
    subst hR
    have hb9 := hbx.trans (grown_below (setRow_gby wx (w.heap.size + 1) #[.slice LA ln lc, .slice NA nn nc, .int .i64 x.next]) (by have := hk2.lt; omega) (fun k hk => by injection hk with hk; omega))
    exact ⟨_, LA, ln, lc, NA, nn, nc, rs, rfl, HR.out.below hb9 hB, hb9⟩
  have BACK := Lib.hid back
  clear back
  go_wp2_with (refine wpList_load_row rfl 32 _ rfl w.heap.size rfl 32 #[.slice LA ln lc, .slice NA nn nc, .int .i64 x.next] (0, 0) _ K0.out Tryz.underlying32 rfl size32 ?_)
  refine (rfind_any (HR.out.below HB1.out hB) (by omega) id).mono ?_
  rintro en w2 ⟨rfl, hb⟩
  have hb2 := HB1.out.trans (hb.mono HB1.out.size)
  have k0 := K0.out.below hb K0.out.lt
  have k2 := K2.out.below hb K2.out.lt
  clear HB1 K0 K2 hb
  have HB2 := Lib.hid hb2
  have K0 := Lib.hid k0
  have K2 := Lib.hid k2
  have hsz2 := k2.lt
  clear hb2 k0 k2
  cases hf : findR x.L id with
  | none =>
    have HF := Lib.hid hf
    unfold findI
    clear hf
    go_wp2_with (first
      | (refine wpList_load_row rfl 32 _ rfl w.heap.size rfl 32 #[.slice LA ln lc, .slice NA nn nc, .int .i64 x.next] (0, 0) _ K0.out Tryz.underlying32 rfl size32 ?_)
      | (refine wpList_store_row rfl 32 _ _ rfl (w.heap.size + 1) #[.slice LA ln lc, .slice NA nn nc, .int .i64 x.next] rfl rfl 32 _ K2.out size32 HS.out H1.out ?_))
    have e : learnR x id hv le' = (x, 6) := by unfold learnR; rw [HF.out]
    exact bodyPost_ret (v := .tuple #[.agg #[.slice LA ln lc, .slice NA nn nc, .int .i64 x.next], .int .i64 6]) (results_cell_tmp Tryz.results59 _ _ (w.heap.size + 1) 32 _ (0, 0) _ rfl (setRow_blk K2.out _) Tryz.underlying32 rfl size32) rfl (BACK.out w2 6 _ HB2.out K2.out e)
  | some i =>
    have HF := Lib.hid hf
    have hil : i < ln := by
      unfold findR at hf
      obtain ⟨h1, _⟩ := List.findIdx?_eq_some_iff_getElem.1 hf
      have := HL.out
      omega
    obtain ⟨b, o, rfl, hbl, h1, h2, he, hr, hok⟩ := (HR.out.below HB2.out hB).at_ hil
    have HRA := Lib.hid hr
    have HROK := Lib.hid hok
    have HEE := Lib.hid he
    have HSZ : Hid (rs[i].e.M.Sz) := by
      show rs[i].e.M.Sz
      rw [HEE.out]
      exact HZ.out _ (List.getElem_mem _)
    have c0 : w2.cell? ⟨w.heap.size, 0, none⟩ = some (.slice (some ⟨b, o, none⟩) ln lc) := (K0.out.cell 0).trans rfl
    generalize hrr : rs[i] = r at *
    have HRR := Lib.hid hrr
    unfold findI
    clear hf hr hok he hrr
    have i1 : (0 : Int) ≤ (i : Int) := by omega
    have i2 : (i : Int) < (ln : Int) := by omega
    have HS54 : Hid (zero54.size = r.row.size) := rfl
    go_upto_region 5 with (first
      | (refine wpList_load_mid rfl 54 _ rfl b (o + i * 18) rfl r.cells _ HRA.out Tryz.underlying54 rfl size54 ?_; rw [show r.cells.toArray = r.row from rfl])
      | (refine wpList_store_row rfl 54 _ _ rfl w2.heap.size r.row rfl rfl 54 _ (Blk.new w2 54 _) size54 HS54.out r.one ?_; rw [World.setRow_alloc_new]))
    have hbx : Below w2.heap.size w2 (w2.alloc (.cells r.row 54)) := (Below.refl _ _).alloc (Nat.le_refl _) _
    have hb3 : Blk (w2.alloc (.cells r.row 54)) w2.heap.size 54 r.row := Blk.new _ _ _
    generalize w2.alloc (.cells r.row 54) = w3 at *
    have hr0 : w3.rangeAt w2.heap.size 2 r.metaV.toList := hb3.range 2 _ (fun j v hj => by
      have hlt : j < 11 := (List.getElem?_eq_some_iff.1 hj).1
      match j, hlt with
      | 0, _ => exact hj
      | 1, _ => exact hj
      | 2, _ => exact hj
      | 3, _ => exact hj
      | 4, _ => exact hj
      | 5, _ => exact hj
      | 6, _ => exact hj
      | 7, _ => exact hj
      | 8, _ => exact hj
      | 9, _ => exact hj
      | 10, _ => exact hj)
    have HR0 := Lib.hid hr0
    have HB3 := Lib.hid hb3
    have HBX := Lib.hid hbx
    have hs3 := hb3.lt
    have HS39 : Hid (zero39.size = r.metaV.size) := rfl
    have H39 : Hid (r.metaV.all (·.oneCell') = true) := metaC_one _ _ _ _ _ _ _ _ _ _ _ _ _
    clear hr0 hb3 hbx
    go_upto_region 6 with (first
      | (refine wpList_load_mid rfl 39 _ rfl w2.heap.size 2 rfl r.metaV.toList _ HR0.out Tryz.underlying39 rfl size39 ?_; rw [show r.metaV.toList.toArray = r.metaV from rfl])
      | (refine wpList_store_row rfl 39 _ _ rfl w3.heap.size r.metaV rfl rfl 39 _ (Blk.new w3 39 _) size39 HS39.out H39.out ?_; rw [World.setRow_alloc_new]))
    have hbk : Blk (w3.alloc (.cells r.metaV 39)) w3.heap.size 39 r.metaV := Blk.new _ _ _
    have hby : Below w3.heap.size w3 (w3.alloc (.cells r.metaV 39)) := (Below.refl _ _).alloc (Nat.le_refl _) _
    generalize w3.alloc (.cells r.metaV 39) = w4 at *
    have m3 : w4.cell? ⟨w3.heap.size, 3, none⟩ = some (.int .i64 r.e.M.le) := (hbk.cell 3).trans rfl
    have m4 : w4.cell? ⟨w3.heap.size, 4, none⟩ = some (.int .i64 r.e.M.ha) := (hbk.cell 4).trans rfl
    have mf := hbk.free'
    have HBK := Lib.hid hbk
    have HBY := Lib.hid hby
    clear hbk hby
    go_upto_region 7 with fail
    have hbk : Blk ((w4.setCell ⟨w3.heap.size, 4, none⟩ (.int .i64 hv)).setCell ⟨w3.heap.size, 3, none⟩ (.int .i64 le')) w3.heap.size 39 ({ r with e := { r.e with M := r.e.M.learn hv le' } } : RM).metaV := by
      have := (HBK.out.set 4 (.int .i64 hv)).set 3 (.int .i64 le')
      exact this
    have hby : Below w3.heap.size w3 ((w4.setCell ⟨w3.heap.size, 4, none⟩ (.int .i64 hv)).setCell ⟨w3.heap.size, 3, none⟩ (.int .i64 le')) := below_set (below_set HBY.out (Nat.le_refl _) _) (Nat.le_refl _) _
    generalize (w4.setCell ⟨w3.heap.size, 4, none⟩ (.int .i64 hv)).setCell ⟨w3.heap.size, 3, none⟩ (.int .i64 le') = w5 at *
    have hb25 : Below w2.heap.size w2 w5 := HBX.out.trans (hby.mono HBX.out.size)
    have HB25 := Lib.hid hb25
    have HBK5 := Lib.hid hbk
    have HB35 := Lib.hid (HB3.out.below hby HB3.out.lt)
    have K05 := Lib.hid (K0.out.below hb25 K0.out.lt)
    have K25 := Lib.hid (K2.out.below hb25 K2.out.lt)
    have hr5 : w5.rangeAt w2.heap.size 2 r.metaV.toList := fun j v hj => (hby.cell (p := ⟨w2.heap.size, 2 + j, none⟩) hs3).trans (HR0.out j v hj)
    have HR5 := Lib.hid hr5
    have hs5 := hbk.lt
    have hw5 : Below w.heap.size w w5 := HB2.out.trans (hb25.mono (by omega))
    have HW5 := Lib.hid hw5
    clear hbk hby hb25 hr5 HBK HBY m3 m4 mf HR0 hw5
    have CF : Hid (Calls Tryz.prog 120 #[.agg r.metaV, .agg ({ r with e := { r.e with M := r.e.M.learn hv le' } } : RM).metaV] w5 fun e w' => e = .returned (.bool (r.e.M.follows (r.e.M.learn hv le'))) ∧ Below w5.heap.size w5 w') := by
      have hok5 := HROK.out.keeps (Keeps.of_below HB25.out (by omega))
      have hk5 : Strs w5 w5.heap.size r.kA r.kn r.e.M.ks := hok5.keys.rd
      have hkl : r.kn ≤ 9223372036854775807 := by have h1 := hok5.keys.1; have h2 := hok5.few; rw [List.length_map] at h1; omega
      exact rfollows_any r.e.M.t r.e.M.wk r.e.M.mo r.e.M.le r.e.M.ha r.e.M.fr r.e.M.wh r.e.M.er r.kA r.kn r.kc r.e.M.ten r.e.M.kp r.e.M.ks r.e.M.t r.e.M.wk r.e.M.mo le' hv r.e.M.fr r.e.M.wh r.e.M.er r.kA r.kn r.kc r.e.M.ten r.e.M.kp r.e.M.ks w5 hk5 hk5 hkl hkl HSZ.out.ks HSZ.out.t HSZ.out.ten HSZ.out.ks HSZ.out.t HSZ.out.ten
    generalize hr2 : ({ r with e := { r.e with M := r.e.M.learn hv le' } } : RM) = r2 at *
    have HR2 := Lib.hid hr2
    generalize hfo : r.e.M.follows (r.e.M.learn hv le') = fo at *
    have HFO := Lib.hid hfo
    clear hr2 hfo
    go_wp2_with (first
      | (refine wpList_load_mid rfl 39 _ rfl w2.heap.size 2 rfl r.metaV.toList _ HR5.out Tryz.underlying39 rfl size39 ?_; rw [show r.metaV.toList.toArray = r.metaV from rfl])
      | (refine wpList_load_row rfl 39 _ rfl w3.heap.size rfl 39 r2.metaV (0, 0) _ HBK5.out Tryz.underlying39 rfl size39 ?_))
    refine CF.out.mono ?_
    rintro en w6 ⟨rfl, hb6⟩
    have HB6 := Lib.hid hb6
    have HW6 := Lib.hid (HW5.out.trans (hb6.mono HW5.out.size))
    have K06 := Lib.hid (K05.out.below hb6 K05.out.lt)
    have K26 := Lib.hid (K25.out.below hb6 K25.out.lt)
    have HBK6 := Lib.hid (HBK5.out.below hb6 HBK5.out.lt)
    have HB36 := Lib.hid (HB35.out.below hb6 HB35.out.lt)
    have HOK6 := Lib.hid (HROK.out.keeps (Keeps.of_below (HB25.out.trans (hb6.mono HB25.out.size)) (by omega)))
    have hs6 := hb6.size
    clear hb6 CF K05 K25 HB35 HR5
    cases fo with
    | false =>
      go_wp2_with (first
        | (refine wpList_load_row rfl 32 _ rfl w.heap.size rfl 32 #[.slice (some ⟨b, o, none⟩) ln lc, .slice NA nn nc, .int .i64 x.next] (0, 0) _ K06.out Tryz.underlying32 rfl size32 ?_)
        | (refine wpList_store_row rfl 32 _ _ rfl (w.heap.size + 1) #[.slice (some ⟨b, o, none⟩) ln lc, .slice NA nn nc, .int .i64 x.next] rfl rfl 32 _ K26.out size32 HS.out H1.out ?_))
      have e : learnR x id hv le' = (x, 12) := by
        unfold learnR
        rw [HF.out]
        simp only [List.getElem?_eq_getElem h2, ← HEE.out]
        rw [HFO.out]
        rfl
      exact bodyPost_ret (v := .tuple #[.agg #[.slice (some ⟨b, o, none⟩) ln lc, .slice NA nn nc, .int .i64 x.next], .int .i64 12]) (results_cell_tmp Tryz.results59 _ _ (w.heap.size + 1) 32 _ (0, 0) _ rfl (setRow_blk K26.out _) Tryz.underlying32 rfl size32) rfl (BACK.out w6 12 _ HW6.out K26.out e)
    | true =>
      have H39' : Hid (r2.metaV.all (·.oneCell') = true) := metaC_one _ _ _ _ _ _ _ _ _ _ _ _ _
      have hth : w6.there w2.heap.size 2 r2.metaV.size := HB36.out.there 2 11 (by show 2 + 11 ≤ 18; omega)
      have HTH := Lib.hid hth
      clear hth
      go_upto_region 10 with (first
        | (refine wpList_load_row rfl 39 _ rfl w3.heap.size rfl 39 r2.metaV (0, 0) _ HBK6.out Tryz.underlying39 rfl size39 ?_)
        | (refine wpList_store_mid rfl 39 _ _ rfl w2.heap.size 2 r2.metaV rfl rfl HTH.out size39 H39'.out ?_))
      have hbk9 : Blk (w6.setCells w2.heap.size 2 r2.metaV.toList) w2.heap.size 54 r2.row := by
        have h := HB36.out.sets r2.metaV.toList 2
        have e := row_meta r r2.e.M r2.kA r2.kn r2.kc
        rw [e] at h
        have e2 : ({ r with e := { r.e with M := r2.e.M }, kA := r2.kA, kn := r2.kn, kc := r2.kc } : RM) = r2 := by rw [← HR2.out]
        rw [e2] at h
        exact h
      have hgw : w6.grownBy (w6.setCells w2.heap.size 2 r2.metaV.toList) (some w2.heap.size) := gby_setCells _ _ (gby_refl _ _)
      have hb27 : Below w2.heap.size w2 (w6.setCells w2.heap.size 2 r2.metaV.toList) := (HB25.out.trans (HB6.out.mono HB25.out.size)).trans (grown_below hgw (by omega) (fun k hk => by injection hk with hk; omega))
      have k07 := K06.out.grown hgw (fun e => by injection e with e; omega)
      have k27 := K26.out.grown hgw (fun e => by injection e with e; omega)
      change Code.wp _ _ _ _ (w6.setCells w2.heap.size 2 r2.metaV.toList)
      generalize w6.setCells w2.heap.size 2 r2.metaV.toList = w7 at *
      have HW7 := Lib.hid (HB2.out.trans (hb27.mono (by omega)))
      have OK7 : Hid (r2.Ok w7 base) := by
        have h := HROK.out.keeps (Keeps.of_below hb27 (by omega))
        show r2.Ok w7 base
        rw [← HR2.out]
        exact ⟨h.keys, h.kc, h.few, h.has, h.hc, h.spans⟩
      have K07 := Lib.hid k07
      have K27 := Lib.hid k27
      have HBK9 := Lib.hid hbk9
      have hs7 := k27.lt
      clear hbk9 hgw hb27 k07 k27 K06 K26 HTH HB36 HBK6
      go_wp2_with (first
        | (refine wpList_load_row rfl 32 _ rfl w.heap.size rfl 32 #[.slice (some ⟨b, o, none⟩) ln lc, .slice NA nn nc, .int .i64 x.next] (0, 0) _ K07.out Tryz.underlying32 rfl size32 ?_)
        | (refine wpList_load_row rfl 54 _ rfl w2.heap.size rfl 54 r2.row (0, 0) _ HBK9.out Tryz.underlying54 rfl size54 ?_))
      refine (rwith_any (HR.out.below HW7.out hB) (by have := HW7.out.size; omega) (by omega) i hil r2 OK7.out).mono ?_
      rintro en w8 ⟨v8, LA8, lc8, rfl, hr8, hb8⟩
      have HR8 := Lib.hid hr8
      have K28 := Lib.hid (K27.out.below hb8 K27.out.lt)
      have HW8 := Lib.hid (HW7.out.trans (hb8.mono HW7.out.size))
      have st := run_st32 K28.out rfl hr8.shape.1 hr8.shape.2
      clear hr8 hb8
      go_wp2_with fail
      have hg9 : w8.grownBy (w8.setRow (w.heap.size + 1) v8) (some (w.heap.size + 1)) := setRow_gby _ _ _
      have hb9 := HW8.out.trans (grown_below hg9 HW8.out.size (fun k hk => by injection hk with hk; omega))
      have hr9 := HR8.out.put32 K28.out v8
      have e : learnR x id hv le' = ({ x with L := x.L.set i r2.e }, 0) := by
        unfold learnR
        rw [HF.out]
        simp only [List.getElem?_eq_getElem h2, ← HEE.out]
        rw [HFO.out, ← HR2.out]
        rfl
      rw [e]
      exact bodyPost_ret (v := .tuple #[.agg v8, .int .i64 0]) (results_cell_tmp Tryz.results59 _ _ (w.heap.size + 1) 32 _ (0, 0) _ rfl (setRow_blk K28.out _) Tryz.underlying32 rfl (by rw [HR8.out.shape.1]; exact size32)) rfl ⟨v8, LA8, ln, lc8, NA, nn, nc, _, rfl, hr9, hb9⟩
end
end Go.Proofs.YtoaiamgcegnjjaaGreatDoor
