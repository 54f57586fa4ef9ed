/- The reference's Fill (and Lose). No condition. -/
import Derived.Test.YtoaiamgcegnjjaaGreatDoorML
import Derived.Test.YtoaiamgcegnjjaaGreatDoorY8
namespace Go.Proofs.YtoaiamgcegnjjaaGreatDoor
open Go.RowKit Go.Maps Go.WideMaps Go.Sort
set_option maxRecDepth 100000
attribute [local go_sem ↓] st32_fold

theorem row_has (r : RM) (l : List (Int × Int)) (A : Option Addr) (n c : Nat) : r.row.setIfInBounds 17 (.slice A n c) = ({ r with e := { r.e with has := l }, hA := A, hn := n, hc := c } : RM).row := by simp

section
variable {w : World} {base m : Nat} {v : Array Value} {x : RTab} {LA NA : Option Addr} {ln lc nn nc : Nat} {rs : List RM}
set_option maxHeartbeats 1000000 in
theorem rfill_any (h : RT w base m v x LA ln lc NA nn nc rs) (hB : base ≤ w.heap.size) (hm : m ≤ 10000) (hsh : ∀ e ∈ x.L, Good e.has ∧ e.has.length ≤ 999) (id f t : Int) (lose : Bool) :
    Calls Tryz.prog 58 #[.agg v, .int .i64 id, .agg #[.int .i64 f, .int .i64 t], .bool lose] w fun e w' => ∃ v' LA' ln' lc' NA' nn' nc' rs', e = .returned (.tuple #[.agg v', .int .i64 (fillR x id f t lose).2]) ∧ RT w' base m v' (fillR x id f t lose).1 LA' ln' lc' NA' nn' nc' rs' ∧ Below w.heap.size w w' := by
  have hlf := h.lfew
  have HL := Lib.hid h.len
  have HR := Lib.hid h
  have HSH := Lib.hid hsh
  have hv' := h.val
  subst hv'
  clear h hsh
  have hb0 : Below w.heap.size w (((w.alloc (.cells #[.slice LA ln lc, .slice NA nn nc, .int .i64 x.next] 32)).alloc (.cells #[.int .i64 f, .int .i64 t] 41)).alloc (.cells zero32 32)) := (((Below.refl _ _).alloc (Nat.le_refl _) _).alloc (by simp) _).alloc (by simp; omega) _
  have k0 : Blk (((w.alloc (.cells #[.slice LA ln lc, .slice NA nn nc, .int .i64 x.next] 32)).alloc (.cells #[.int .i64 f, .int .i64 t] 41)).alloc (.cells zero32 32)) w.heap.size 32 #[.slice LA ln lc, .slice NA nn nc, .int .i64 x.next] := ((Blk.new w 32 _).alloc _).alloc _
  have k1 : Blk (((w.alloc (.cells #[.slice LA ln lc, .slice NA nn nc, .int .i64 x.next] 32)).alloc (.cells #[.int .i64 f, .int .i64 t] 41)).alloc (.cells zero32 32)) (w.heap.size + 1) 41 #[.int .i64 f, .int .i64 t] := (new2 w _ 41 _).alloc _
  have k2 : Blk (((w.alloc (.cells #[.slice LA ln lc, .slice NA nn nc, .int .i64 x.next] 32)).alloc (.cells #[.int .i64 f, .int .i64 t] 41)).alloc (.cells zero32 32)) (w.heap.size + 1 + 1) 32 zero32 := by
    have := new2 (w.alloc (.cells #[.slice LA ln lc, .slice NA nn nc, .int .i64 x.next] 32)) (.cells #[.int .i64 f, .int .i64 t] 41) 32 zero32
    simpa using this
  go_enter Tryz.func58, Tryz.ntmps58
  go_upto_region 1 with fail
  generalize ((w.alloc (.cells #[.slice LA ln lc, .slice NA nn nc, .int .i64 x.next] 32)).alloc (.cells #[.int .i64 f, .int .i64 t] 41)).alloc (.cells zero32 32) = w0 at *
  have HB0 := Lib.hid hb0
  have K0 := Lib.hid k0
  have K1 := Lib.hid k1
  have K2 := Lib.hid k2
  clear hb0 k0 k1 k2
  have H1 : Hid ((#[.slice LA ln lc, .slice NA nn nc, .int .i64 x.next] : Array Value).all (·.oneCell') = true) := by
    show (#[.slice LA ln lc, .slice NA nn nc, .int .i64 x.next] : Array Value).all (·.oneCell') = true
    simp [Value.oneCell']
  have HS : Hid (zero32.size = (#[.slice LA ln lc, .slice NA nn nc, .int .i64 x.next] : Array Value).size) := rfl
  have back : ∀ (wx : World) (k : Int) (R : RTab × Int), Below w.heap.size w wx → Blk wx (w.heap.size + 1 + 1) 32 zero32 → R = (x, k) →
      ∃ v' LA' ln' lc' NA' nn' nc' rs', Ending.returned (.tuple #[.agg #[.slice LA ln lc, .slice NA nn nc, .int .i64 x.next], .int .i64 k]) = .returned (.tuple #[.agg v', .int .i64 R.2]) ∧ RT (wx.setRow (w.heap.size + 1 + 1) #[.slice LA ln lc, .slice NA nn nc, .int .i64 x.next]) base m v' R.1 LA' ln' lc' NA' nn' nc' rs' ∧ Below w.heap.size w (wx.setRow (w.heap.size + 1 + 1) #[.slice LA ln lc, .slice NA nn nc, .int .i64 x.next]) := fun wx k R hbx hk2 hR => by
    subst hR
    have hb9 := hbx.trans (grown_below (setRow_gby wx (w.heap.size + 1 + 1) #[.slice LA ln lc, .slice NA nn nc, .int .i64 x.next]) (by have := hk2.lt; omega) (fun k hk => by injection hk with hk; omega))
    exact ⟨_, LA, ln, lc, NA, nn, nc, rs, rfl, HR.out.below hb9 hB, hb9⟩
  have BACK := Lib.hid back
  clear back
  go_wp2_with (refine wpList_load_row rfl 41 _ rfl (w.heap.size + 1) rfl 41 #[.int .i64 f, .int .i64 t] (0, 0) _ K1.out Tryz.underlying41 rfl size41 ?_)
  refine (rspan_any f t w0).mono ?_
  rintro en w1 ⟨rfl, hb⟩
  have hb1 := HB0.out.trans (hb.mono HB0.out.size)
  have k0 := K0.out.below hb K0.out.lt
  have k1 := K1.out.below hb K1.out.lt
  have k2 := K2.out.below hb K2.out.lt
  clear HB0 K0 K1 K2 hb
  have HB1 := Lib.hid hb1
  have K0 := Lib.hid k0
  have K1 := Lib.hid k1
  have K2 := Lib.hid k2
  have hsz1 := k2.lt
  clear hb1 k0 k1 k2
  cases hok : spanOK f t
  · have HOK := Lib.hid hok
    clear hok
    go_wp2_with (first
      | (refine wpList_load_row rfl 32 _ rfl w.heap.size rfl 32 #[.slice LA ln lc, .slice NA nn nc, .int .i64 x.next] (0, 0) _ K0.out Tryz.underlying32 rfl size32 ?_)
      | (refine wpList_store_row rfl 32 _ _ rfl (w.heap.size + 1 + 1) #[.slice LA ln lc, .slice NA nn nc, .int .i64 x.next] rfl rfl 32 _ K2.out size32 HS.out H1.out ?_))
    have e : fillR x id f t lose = (x, 1) := by unfold fillR; rw [HOK.out]; rfl
    exact bodyPost_ret (v := .tuple #[.agg #[.slice LA ln lc, .slice NA nn nc, .int .i64 x.next], .int .i64 1]) (results_cell_tmp Tryz.results58 _ _ (w.heap.size + 1 + 1) 32 _ (0, 0) _ rfl (setRow_blk K2.out _) Tryz.underlying32 rfl size32) rfl (BACK.out w1 1 _ HB1.out K2.out e)
  · have HOK := Lib.hid hok
    clear hok
    go_wp2_with (refine wpList_load_row rfl 32 _ rfl w.heap.size rfl 32 #[.slice LA ln lc, .slice NA nn nc, .int .i64 x.next] (0, 0) _ K0.out Tryz.underlying32 rfl size32 ?_)
    refine (rfind_any (HR.out.below HB1.out hB) (by omega) id).mono ?_
    rintro en w2 ⟨rfl, hb⟩
    have hb2 := HB1.out.trans (hb.mono HB1.out.size)
    have k0 := K0.out.below hb K0.out.lt
    have k1 := K1.out.below hb K1.out.lt
    have k2 := K2.out.below hb K2.out.lt
    clear HB1 K0 K1 K2 hb
    have HB2 := Lib.hid hb2
    have K0 := Lib.hid k0
    have K1 := Lib.hid k1
    have K2 := Lib.hid k2
    have hsz2 := k2.lt
    clear hb2 k0 k1 k2
    cases hf : findR x.L id with
    | none =>
      have HF := Lib.hid hf
      unfold findI
      clear hf
      go_wp2_with (first
        | (refine wpList_load_row rfl 32 _ rfl w.heap.size rfl 32 #[.slice LA ln lc, .slice NA nn nc, .int .i64 x.next] (0, 0) _ K0.out Tryz.underlying32 rfl size32 ?_)
        | (refine wpList_store_row rfl 32 _ _ rfl (w.heap.size + 1 + 1) #[.slice LA ln lc, .slice NA nn nc, .int .i64 x.next] rfl rfl 32 _ K2.out size32 HS.out H1.out ?_))
      have e : fillR x id f t lose = (x, 6) := by unfold fillR; rw [HOK.out, HF.out]; rfl
      exact bodyPost_ret (v := .tuple #[.agg #[.slice LA ln lc, .slice NA nn nc, .int .i64 x.next], .int .i64 6]) (results_cell_tmp Tryz.results58 _ _ (w.heap.size + 1 + 1) 32 _ (0, 0) _ rfl (setRow_blk K2.out _) Tryz.underlying32 rfl size32) rfl (BACK.out w2 6 _ HB2.out K2.out e)
    | some i =>
      have HF := Lib.hid hf
      have hil : i < ln := by
        unfold findR at hf
        obtain ⟨h1, _⟩ := List.findIdx?_eq_some_iff_getElem.1 hf
        have := HL.out
        omega
      obtain ⟨b, o, rfl, hbl, h1, h2, he, hr, hok⟩ := (HR.out.below HB2.out hB).at_ hil
      have HRA := Lib.hid hr
      have HROK := Lib.hid hok
      have HEE := Lib.hid he
      have HSZ : Hid (Good rs[i].e.has ∧ rs[i].e.has.length ≤ 999) := by
        show Good rs[i].e.has ∧ rs[i].e.has.length ≤ 999
        rw [HEE.out]
        exact HSH.out _ (List.getElem_mem _)
      have c0 : w2.cell? ⟨w.heap.size, 0, none⟩ = some (.slice (some ⟨b, o, none⟩) ln lc) := (K0.out.cell 0).trans rfl
      generalize hrr : rs[i] = r at *
      have HRR := Lib.hid hrr
      unfold findI
      clear hf hr hok he hrr
      have i1 : (0 : Int) ≤ (i : Int) := by omega
      have i2 : (i : Int) < (ln : Int) := by omega
      have HS54 : Hid (zero54.size = r.row.size) := rfl
      go_upto_region 7 with (first
        | (refine wpList_load_mid rfl 54 _ rfl b (o + i * 18) rfl r.cells _ HRA.out Tryz.underlying54 rfl size54 ?_; rw [show r.cells.toArray = r.row from rfl])
        | (refine wpList_store_row rfl 54 _ _ rfl w2.heap.size r.row rfl rfl 54 _ (Blk.new w2 54 _) size54 HS54.out r.one ?_; rw [World.setRow_alloc_new]))
      have hbx : Below w2.heap.size w2 (w2.alloc (.cells r.row 54)) := (Below.refl _ _).alloc (Nat.le_refl _) _
      have hb3 : Blk (w2.alloc (.cells r.row 54)) w2.heap.size 54 r.row := Blk.new _ _ _
      generalize w2.alloc (.cells r.row 54) = w3 at *
      have HB3 := Lib.hid hb3
      have HBX := Lib.hid hbx
      have hs3 := hb3.lt
      have K03 := Lib.hid (K0.out.below hbx K0.out.lt)
      have K13 := Lib.hid (K1.out.below hbx K1.out.lt)
      have K23 := Lib.hid (K2.out.below hbx K2.out.lt)
      have h17 : w3.cell? ⟨w2.heap.size, 17, none⟩ = some (.slice r.hA r.hn r.hc) := (hb3.cell 17).trans rfl
      have hfr := hb3.free'
      have HOK3 := Lib.hid (HROK.out.keeps (Keeps.of_below hbx (by omega)))
      have rd4 : Rd (w3.alloc (.cells #[.int .i64 f, .int .i64 t] 41)) (w3.alloc (.cells #[.int .i64 f, .int .i64 t] 41)).heap.size 2 r.hA r.hn (spanCells r.e.has) := HOK3.out.has.rd.below ((Below.refl _ _).alloc (Nat.le_refl _) _) (by simp)
      have rd5 : Rd (w3.alloc (.cells #[.int .i64 f, .int .i64 t] 41)) (w3.alloc (.cells #[.int .i64 f, .int .i64 t] 41)).heap.size 2 (some ⟨w3.heap.size, 0, none⟩) 1 (spanCells [(f, t)]) := (Blk.new w3 41 #[.int .i64 f, .int .i64 t]).rd
      have hhn : r.hn ≤ 1000 := by have h1 := HOK3.out.has.1; have h2 := HSZ.out.2; rw [spanCells_len] at h1; omega
      have CL := Lib.hid (rless_any r.hA r.hn r.hc r.e.has (some ⟨w3.heap.size, 0, none⟩) 1 1 [(f, t)] (w3.alloc (.cells #[.int .i64 f, .int .i64 t] 41)) rd4 rd5 (by omega) (by omega))
      have CO := Lib.hid (ror_any r.hA r.hn r.hc r.e.has (some ⟨w3.heap.size, 0, none⟩) 1 1 [(f, t)] (w3.alloc (.cells #[.int .i64 f, .int .i64 t] 41)) rd4 rd5 (by omega) (by omega))
      clear hb3 hbx rd4 rd5
      have s0 : w3.cell? ⟨w.heap.size + 1, 0, none⟩ = some (.int .i64 f) := (K13.out.cell 0).trans rfl
      have s1 : w3.cell? ⟨w.heap.size + 1, 1, none⟩ = some (.int .i64 t) := (K13.out.cell 1).trans rfl
      go_upto_if 27 with fail
      generalize hRR : ofR r.e.has [(f, t)] (if lose then 3 else 1) = R
      have HRR2 := Lib.hid hRR
      go_cut [] (fun wy => ∃ B d, Blk wy w2.heap.size 54 ({ r with e := { r.e with has := R }, hA := B, hn := R.length, hc := d } : RM).row ∧ wy.ownsRow w3.heap.size 41 2 (.slice B R.length d) R.length (spanCells R) ∧ R.length ≤ d ∧ Below w2.heap.size w2 wy)
      case first =>
        have hfin : Hid (∀ (w5 : World) (B : Option Addr) (d : Nat), w5.ownsRow (w3.alloc (.cells #[.int .i64 f, .int .i64 t] 41)).heap.size 41 2 (.slice B R.length d) R.length (spanCells R) → Below (w3.alloc (.cells #[.int .i64 f, .int .i64 t] 41)).heap.size (w3.alloc (.cells #[.int .i64 f, .int .i64 t] 41)) w5 →
            (∀ j, w5.frozen? ⟨w2.heap.size, j, none⟩ = false) ∧ w5.cell? ⟨w2.heap.size, 17, none⟩ = some (.slice r.hA r.hn r.hc) ∧ (R.length ≤ d → ∃ B' d', Blk (w5.setCell ⟨w2.heap.size, 17, none⟩ (.slice B R.length d)) w2.heap.size 54 ({ r with e := { r.e with has := R }, hA := B', hn := R.length, hc := d' } : RM).row ∧ (w5.setCell ⟨w2.heap.size, 17, none⟩ (.slice B R.length d)).ownsRow w3.heap.size 41 2 (.slice B' R.length d') R.length (spanCells R) ∧ R.length ≤ d' ∧ Below w2.heap.size w2 (w5.setCell ⟨w2.heap.size, 17, none⟩ (.slice B R.length d)))) := by
          show ∀ (w5 : World) (B : Option Addr) (d : Nat), _ → _ → _
          intro w5 B d ho hb5
          have hb35 : Below w3.heap.size w3 w5 := ((Below.refl _ _).alloc (Nat.le_refl _) _).trans (hb5.mono (by simp))
          have g3 := HB3.out.below hb35 HB3.out.lt
          refine ⟨g3.free', (g3.cell 17).trans rfl, fun hc => ⟨B, d, ?_, ?_, hc, below_set (HBX.out.trans (hb35.mono HBX.out.size)) (Nat.le_refl _) _⟩⟩
          · have := g3.set 17 (.slice B R.length d)
            rw [row_has r R B R.length d] at this
            exact this
          · exact own_set (own_base ho (by simp)) (by omega) _
        cases lose with
        | true =>
          have hR : ofR r.e.has [(f, t)] 3 = R := HRR2.out
          rw [hR] at CL
          clear hR hRR
          go_wp2_with fail
          refine CL.out.mono ?_
          rintro en w5 ⟨⟨B, d, rfl, ho, hc⟩, hb5⟩
          obtain ⟨f5, c5, fin⟩ := hfin.out w5 B d ho hb5
          have FIN := Lib.hid (fin hc)
          clear fin ho hb5
          go_wp2_with fail
          go_meet
          exact FIN.out
        | false =>
          have hR : ofR r.e.has [(f, t)] 1 = R := HRR2.out
          rw [hR] at CO
          clear hR hRR
          go_wp2_with fail
          refine CO.out.mono ?_
          rintro en w5 ⟨⟨B, d, rfl, ho, hc⟩, hb5⟩
          obtain ⟨f5, c5, fin⟩ := hfin.out w5 B d ho hb5
          have FIN := Lib.hid (fin hc)
          clear fin ho hb5
          go_wp2_with fail
          go_meet
          exact FIN.out
      case rest =>
        obtain ⟨B, d, hbk, hown, hcap, hb27⟩ := hcut
        clear hRR CL CO
        have hRg : R.length ≤ 1000 := by
          have hr : rightS (f, t) = true := HOK.out
          have hl := HSZ.out.2
          rw [← HRR2.out]
          cases lose with
          | true =>
            show (ofR r.e.has [(f, t)] 3).length ≤ 1000
            rw [← (lessS_eq HSZ.out.1 hr).1]
            have := lessS_len HSZ.out.1.1 (f, t)
            omega
          | false =>
            show (ofR r.e.has [(f, t)] 1).length ≤ 1000
            rw [← (orS_eq HSZ.out.1 hr).1]
            have := orS_len r.e.has (f, t)
            omega
        have OK7 : Hid (({ r with e := { r.e with has := R }, hA := B, hn := R.length, hc := d } : RM).Ok wc base) := by
          have h := HROK.out.keeps (Keeps.of_below hb27 (by omega))
          exact ⟨h.keys, h.kc, h.few, PR.of_own hown (by decide) (by decide) (by decide) (by decide), hcap, hRg⟩
        have HW7 := Lib.hid (HB2.out.trans (hb27.mono (by omega)))
        have K07 : Hid (Blk wc w.heap.size 32 #[.slice (some ⟨b, o, none⟩) ln lc, .slice NA nn nc, .int .i64 x.next]) := K0.out.below hb27 K0.out.lt
        have K27 : Hid (Blk wc (w.heap.size + 1 + 1) 32 zero32) := K2.out.below hb27 K2.out.lt
        have HEQ : Hid (({ r with e := { r.e with has := R }, hA := B, hn := R.length, hc := d } : RM).e = { r.e with has := R }) := rfl
        generalize ({ r with e := { r.e with has := R }, hA := B, hn := R.length, hc := d } : RM) = r2 at *
        have HBK9 := Lib.hid hbk
        clear hbk hown hb27
        go_wp2_with (first
          | (refine wpList_load_row rfl 32 _ rfl w.heap.size rfl 32 #[.slice (some ⟨b, o, none⟩) ln lc, .slice NA nn nc, .int .i64 x.next] (0, 0) _ K07.out Tryz.underlying32 rfl size32 ?_)
          | (refine wpList_load_row rfl 54 _ rfl w2.heap.size rfl 54 r2.row (0, 0) _ HBK9.out Tryz.underlying54 rfl size54 ?_))
        refine (rwith_any (HR.out.below HW7.out hB) (by have := HW7.out.size; omega) (by omega) i hil r2 OK7.out).mono ?_
        rintro en w8 ⟨v8, LA8, lc8, rfl, hr8, hb8⟩
        have HR8 := Lib.hid hr8
        have K28 := Lib.hid (K27.out.below hb8 K27.out.lt)
        have HW8 := Lib.hid (HW7.out.trans (hb8.mono HW7.out.size))
        have st := run_st32 K28.out rfl hr8.shape.1 hr8.shape.2
        clear hr8 hb8
        go_wp2_with fail
        have hg9 : w8.grownBy (w8.setRow (w.heap.size + 1 + 1) v8) (some (w.heap.size + 1 + 1)) := setRow_gby _ _ _
        have hb9 := HW8.out.trans (grown_below hg9 HW8.out.size (fun k hk => by injection hk with hk; omega))
        have hr9 := HR8.out.put32 K28.out v8
        have e : fillR x id f t lose = ({ x with L := x.L.set i r2.e }, 0) := by
          unfold fillR
          rw [HOK.out, HF.out]
          simp only [List.getElem?_eq_getElem h2, ← HEE.out, if_true]
          rw [HRR2.out, HEQ.out]
        rw [e]
        exact bodyPost_ret (v := .tuple #[.agg v8, .int .i64 0]) (results_cell_tmp Tryz.results58 _ _ (w.heap.size + 1 + 1) 32 _ (0, 0) _ rfl (setRow_blk K28.out _) Tryz.underlying32 rfl (by rw [HR8.out.shape.1]; exact size32)) rfl ⟨v8, LA8, ln, lc8, NA, nn, nc, _, rfl, hr9, hb9⟩
end
end Go.Proofs.YtoaiamgcegnjjaaGreatDoor
