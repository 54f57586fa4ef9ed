/- The law's 'do': Gone. No condition. The law's 'do': Land. No condition. -/
import Derived.Test.YtoaiamgcegnjjaaGreatDoorLB
import Derived.Test.YtoaiamgcegnjjaaGreatDoorY4
import Derived.Test.YtoaiamgcegnjjaaGreatDoorMN
import Derived.Test.YtoaiamgcegnjjaaGreatDoorYA
namespace Go.Proofs.YtoaiamgcegnjjaaGreatDoor
open Go.RowKit Go.Maps Go.WideMaps Go.Sort
set_option maxRecDepth 100000
attribute [local go_sem ↓] st32_fold

theorem own_keep2 {w w' : World} {base B e n : Nat} {v : Value} {xs : List Value} (h : w.ownsRow B 2 e v n xs) (hk : Keep2 base w w') : w'.ownsRow B 2 e v n xs := by
  refine ⟨h.1, ?_⟩
  rcases h.2 with h2 | ⟨g, cap, cur, hv, hg, hb, r⟩
  · exact .inl h2
  · exact .inr ⟨g, cap, cur, hv, hg, (hk.2 g (by unfold tyOf; rw [hb])).trans hb, r⟩

section
variable {w : World} {base tb m k : Nat} {T : TabS} {v : Array Value} {x : RTab} {LA NA : Option Addr} {ln lc nn nc : Nat} {rs : List RM}
set_option maxHeartbeats 2000000 in
theorem do_gone (hT : Tab w base tb m T) (hR : RT w base m v x LA ln lc NA nn nc rs) (hS : Sim k T x) (hB : base ≤ w.heap.size) (hm : m ≤ 9000) (kd : Int) (obj : ByteArray) (st : Int) (M : MetaS) (A : Option Addr) (n c : Nat) (sf sto age ti mo ge id f t hv le' : Int) (hkd : 0 ≤ kd ∧ kd ≤ 255) (hk7 : kd % 7 = 2) (hob : obj.size ≤ maxLen) :
    Calls Tryz.prog 15 #[.pointer (some ⟨tb, 0, none⟩), .agg v, .agg (actC kd obj st M A n c sf sto age ti mo ge id f t hv le')] w (DoPost base tb m k w) := by
  have HT := Lib.hid hT
  have HR := Lib.hid hR
  have HS := Lib.hid hS
  have hval := hR.val
  subst hval
  have hdb := DB.start base w hB #[.slice LA ln lc, .slice NA nn nc, .int .i64 x.next] (actC kd obj st M A n c sf sto age ti mo ge id f t hv le')
  have hb0 : Below w.heap.size w (((w.alloc (.cells #[.slice LA ln lc, .slice NA nn nc, .int .i64 x.next] 32)).alloc (.cells (actC kd obj st M A n c sf sto age ti mo ge id f t hv le') 47)).alloc (.cells zero32 32)) := (((Below.refl _ _).alloc (Nat.le_refl _) _).alloc (by simp) _).alloc (by simp; omega) _
  clear hT hR hS
  go_enter Tryz.func15, Tryz.ntmps15
  go_upto_region 1 with fail
  generalize ((w.alloc (.cells #[.slice LA ln lc, .slice NA nn nc, .int .i64 x.next] 32)).alloc (.cells (actC kd obj st M A n c sf sto age ti mo ge id f t hv le') 47)).alloc (.cells zero32 32) = w0 at *
  have HDB := Lib.hid hdb
  have HB0 := Lib.hid hb0
  have hs0 := hdb.res.lt
  obtain ⟨a0, a1, a17, a18, a19, a20, a21, a22, a23, a24⟩ := do_cells hdb.act
  clear hdb hb0
  go_upto_region 11 with (first
    | (refine wpList_load_row rfl 32 _ rfl w.heap.size rfl 32 #[.slice LA ln lc, .slice NA nn nc, .int .i64 x.next] (0, 0) _ HDB.out.tab Tryz.underlying32 rfl size32 ?_)
    | (go_at_call 56; refine (rgone_any (HR.out.below HB0.out hB) (by omega) (by omega) obj ti mo ge).mono ?_; rintro en w4 ⟨v4, LA4, ln4, lc4, NA4, nn4, nc4, rs4, Ag, cg, rfl, hr4, hog, hcg, hb4⟩; (have HOG := Lib.hid hog); clear hog; (have HR4 := Lib.hid hr4); (have HB4 := Lib.hid hb4); (have st4 := run_st32 (Blk.new w4 32 zero32) rfl hr4.shape.1 hr4.shape.2); clear hr4 hb4))
  have hb5 : Below w4.heap.size w4 ((w4.alloc (.cells zero32 32)).setRow w4.heap.size v4) := ((Below.refl _ _).alloc (Nat.le_refl _) _).trans (grown_below (setRow_gby _ _ _) (by simp) (fun k hk => by injection hk with hk; omega))
  have k9 : Blk ((w4.alloc (.cells zero32 32)).setRow w4.heap.size v4) w4.heap.size 32 v4 := setRow_blk (Blk.new w4 32 zero32) _
  generalize (w4.alloc (.cells zero32 32)).setRow w4.heap.size v4 = w5 at *
  have hb15 : Below w0.heap.size w0 w5 := HB4.out.trans (hb5.mono HB4.out.size)
  have hb05 : Below w.heap.size w w5 := HB0.out.trans (hb15.mono HB0.out.size)
  have hs4 := HB4.out.size
  have hs5 := k9.lt
  have HDB5 := Lib.hid (HDB.out.to (Keeps.of_below hb15 (by omega)))
  have HR5 := Lib.hid (HR4.out.below hb5 (by omega))
  have HT5 := Lib.hid (HT.out.keepsBox hb05)
  have K9 := Lib.hid k9
  have hv4 := HR4.out.val
  subst hv4
  have HOG5 := Lib.hid (own_kept HOG.out (gby_of_below hb5) (fun g hg e => by cases e))
  have hgl : (goneR x obj ti mo ge).2.length ≤ 10000 := by
    unfold goneR
    split
    · have := turned_len x.L (takenR x obj 0 mo).L
      have h1 := HR.out.len
      have h2 := HR.out.lfew
      show (turnedL x.L (takenR x obj 0 mo).L).length ≤ 10000
      omega
    · exact Nat.zero_le _
  have HSM := Lib.hid (sim_gone HS.out obj ti mo ge)
  generalize hxx : goneR x obj ti mo ge = X at *
  generalize hTT : goneS T obj ti mo ge = TT at *
  have HTT := Lib.hid hTT
  clear hb5 k9 hb15 hb05 HR4 HB4 HDB st4 a0 a1 a17 a18 a19 a20 a21 a22 a23 a24 hxx hTT HB0 HT
  have sk : ∀ wy, Keeps base w5 wy → wy.cell? ⟨w4.heap.size, 0, none⟩ = some (.slice LA4 ln4 lc4) ∧ wy.cell? ⟨w4.heap.size, 1, none⟩ = some (.slice NA4 nn4 nc4) ∧ wy.cell? ⟨w4.heap.size, 2, none⟩ = some (.int .i64 X.1.next) ∧ wy.cell? ⟨w.heap.size + 1, 1, none⟩ = some (.string obj) ∧ wy.cell? ⟨w.heap.size + 1, 17, none⟩ = some (.int .i64 ti) ∧ wy.cell? ⟨w.heap.size + 1, 18, none⟩ = some (.int .i64 mo) ∧ wy.cell? ⟨w.heap.size + 1, 19, none⟩ = some (.int .i64 ge) := fun wy hk => by
    have h1 := K9.out.keeps hk (by decide) (by decide) (by decide) (by decide)
    obtain ⟨a0, a1, a17, a18, a19, a20, a21, a22, a23, a24⟩ := do_cells (HDB5.out.to hk).act
    exact ⟨(h1.cell 0).trans rfl, (h1.cell 1).trans rfl, (h1.cell 2).trans rfl, a1, a17, a18, a19⟩
  have SK := Lib.hid sk
  clear sk
  have sq : ∀ wy (v : Array Value), Keeps base w5 wy → (wy.setRow (w.heap.size + 1 + 1) v).cell? ⟨w4.heap.size, 0, none⟩ = some (.slice LA4 ln4 lc4) ∧ (wy.setRow (w.heap.size + 1 + 1) v).cell? ⟨w4.heap.size, 1, none⟩ = some (.slice NA4 nn4 nc4) ∧ (wy.setRow (w.heap.size + 1 + 1) v).cell? ⟨w4.heap.size, 2, none⟩ = some (.int .i64 X.1.next) ∧ (wy.setRow (w.heap.size + 1 + 1) v).cell? ⟨w.heap.size + 1, 1, none⟩ = some (.string obj) ∧ (wy.setRow (w.heap.size + 1 + 1) v).cell? ⟨w.heap.size + 1, 17, none⟩ = some (.int .i64 ti) ∧ (wy.setRow (w.heap.size + 1 + 1) v).cell? ⟨w.heap.size + 1, 18, none⟩ = some (.int .i64 mo) ∧ (wy.setRow (w.heap.size + 1 + 1) v).cell? ⟨w.heap.size + 1, 19, none⟩ = some (.int .i64 ge) := fun wy v hk => by
    have hg := setRow_gby wy (w.heap.size + 1 + 1) v
    have h1 := (K9.out.keeps hk (by decide) (by decide) (by decide) (by decide)).grown hg (fun e => by injection e with e; omega)
    obtain ⟨a0, a1, a17, a18, a19, a20, a21, a22, a23, a24⟩ := do_cells ((HDB5.out.to hk).act.grown hg (fun e => by injection e with e; omega))
    exact ⟨(h1.cell 0).trans rfl, (h1.cell 1).trans rfl, (h1.cell 2).trans rfl, a1, a17, a18, a19⟩
  have SQ := Lib.hid sq
  clear sq
  have hB5 : base ≤ w5.heap.size := by omega
  have fin : ∀ (wy : World) (T' : TabS), Keeps base w5 wy → Tab wy base tb (m + 1) T' → T' = TT.1 → (st32 (.pointer (some ⟨w.heap.size + 1 + 1, 0, none⟩)) (.agg #[.slice LA4 ln4 lc4, .slice NA4 nn4 nc4, .int .i64 X.1.next])).run Tryz.prog wy = .ok () (wy.setRow (w.heap.size + 1 + 1) #[.slice LA4 ln4 lc4, .slice NA4 nn4 nc4, .int .i64 X.1.next]) ∧ Blk (wy.setRow (w.heap.size + 1 + 1) #[.slice LA4 ln4 lc4, .slice NA4 nn4 nc4, .int .i64 X.1.next]) (w.heap.size + 1 + 1) 32 #[.slice LA4 ln4 lc4, .slice NA4 nn4 nc4, .int .i64 X.1.next] ∧ DoPost base tb m k w (.returned (.tuple #[.agg #[.slice LA4 ln4 lc4, .slice NA4 nn4 nc4, .int .i64 X.1.next], .bool true])) (wy.setRow (w.heap.size + 1 + 1) #[.slice LA4 ln4 lc4, .slice NA4 nn4 nc4, .int .i64 X.1.next]) := fun wy T' hk hT he => by
    subst he
    have h1 := HDB5.out.to hk
    have hr := HR5.out.keeps hk
    have hg := setRow_gby wy (w.heap.size + 1 + 1) #[.slice LA4 ln4 lc4, .slice NA4 nn4 nc4, .int .i64 X.1.next]
    refine ⟨run_st32 h1.res rfl hr.shape.1 hr.shape.2, setRow_blk h1.res _, ?_⟩
    refine ⟨_, LA4, ln4, lc4, NA4, nn4, nc4, rs4, TT.1, X.1, rfl, ?_, ?_, (hr.put32 h1.res _).mono (by omega), HSM.out.2.more (by omega)⟩
    · exact h1.keeps.put_new hB (by omega) _
    · exact (hT.put h1.res hg (by decide) (by decide) (by decide) (by decide) (by decide) (by decide)).mono (by omega)
  have FIN := Lib.hid fin
  clear fin
  have CC : Hid (∀ wy, Below w5.heap.size w5 wy → Calls Tryz.prog 31 #[.pointer (some ⟨tb, 0, none⟩), .string obj, .agg #[.int .i64 ti, .int .i64 mo, .int .i64 ge]] wy fun e w' => (∃ A n c, e = .returned (.slice A n c) ∧ Rd w' w'.heap.size 1 A n (X.2.map (Value.int .i64)) ∧ w'.ownsRow w0.heap.size 2 1 (.slice Ag X.2.length cg) X.2.length (X.2.map (Value.int .i64))) ∧ Keeps base w5 w' ∧ Tab w' base tb (m + 1) TT.1) := by
    show ∀ wy, Below w5.heap.size w5 wy → _
    intro wy hb
    refine (gone_any (HT5.out.keepsBox hb) (by omega) obj hob ti mo ge).mono ?_
    rintro en w' ⟨⟨A, n, c, rfl, hrd⟩, hk, hT⟩
    rw [HTT.out] at hT hrd
    rw [HSM.out.1] at hrd
    refine ⟨⟨A, n, c, rfl, hrd, ?_⟩, (Keeps.of_below hb hB5).trans hk.1, hT⟩
    exact own_keep2 (own_kept HOG5.out (gby_of_below hb) (fun g hg e => by cases e)) hk
  go_cut [7] (fun p wy => p = .bool true ∧ Blk wy (w.heap.size + 1 + 1) 32 #[.slice LA4 ln4 lc4, .slice NA4 nn4 nc4, .int .i64 X.1.next] ∧ DoPost base tb m k w (.returned (.tuple #[.agg #[.slice LA4 ln4 lc4, .slice NA4 nn4 nc4, .int .i64 X.1.next], .bool true])) wy)
  case first =>
    go_region_held3 (fun wy => wy.cell? ⟨w4.heap.size, 0, none⟩ = some (.slice LA4 ln4 lc4) ∧ wy.cell? ⟨w4.heap.size, 1, none⟩ = some (.slice NA4 nn4 nc4) ∧ wy.cell? ⟨w4.heap.size, 2, none⟩ = some (.int .i64 X.1.next) ∧ wy.cell? ⟨w.heap.size + 1, 1, none⟩ = some (.string obj) ∧ wy.cell? ⟨w.heap.size + 1, 17, none⟩ = some (.int .i64 ti) ∧ wy.cell? ⟨w.heap.size + 1, 18, none⟩ = some (.int .i64 mo) ∧ wy.cell? ⟨w.heap.size + 1, 19, none⟩ = some (.int .i64 ge))
      (first
        | exact SQ.out _ _ HKP8.out
        | exact SK.out _ HKP8.out
        | exact SK.out _ HKP.out
        | exact SK.out _ (Keeps.of_below HB6.out hB5)
        | exact SK.out _ (Keeps.of_below (Below.refl _ _) hB5)
        | exact SK.out _ (Keeps.of_below (Below.refl _ _).drew hB5))
      (first
        | (go_at_call 21; refine (asked_any _ _ _ _).mono ?_; rintro en w6 ⟨rfl, hb6⟩; (have HB6 : Hid (Below w5.heap.size w5 w6) := (Below.refl w5.heap.size w5).drew.trans hb6); clear hb6)
        | (go_at_call 31; refine (CC.out _ HB6.out).mono ?_; rintro en w7 ⟨⟨Ap, np, cp, rfl, hrd7, hog7⟩, hk7, hT7⟩; (have hnp : X.2.length = np := hrd7.num.1); subst hnp; (have HKP := Lib.hid hk7); (have HRD7 := Lib.hid hrd7); (have HOG7 := Lib.hid (own_rd hog7)); (have HT7 := Lib.hid hT7); clear hk7 hT7 hrd7 hog7)
        | (go_at_call 57; refine (numbers_same Ap Ag X.2.length cp cg X.2 w7 HRD7.out HOG7.out hgl).mono ?_; rintro en w8 ⟨rfl, hb8⟩; (have HKP8 : Hid (Keeps base w5 w8) := HKP.out.trans (Keeps.of_below hb8 (by have := HKP.out.below.size; omega))); (have HF := Lib.hid (FIN.out w8 _ HKP8.out (HT7.out.keepsBox hb8) rfl)); (have st7 := HF.out.1); clear hb8))
    all_goals
      go_wp2_with fail
      go_meet
    all_goals exact ⟨by simp, HF.out.2.1, HF.out.2.2⟩
  case rest =>
    obtain ⟨rfl, hk9, hpost⟩ := hcut
    go_wp2_with fail
    exact bodyPost_ret (v := .tuple #[.agg #[.slice LA4 ln4 lc4, .slice NA4 nn4 nc4, .int .i64 X.1.next], .bool true]) (results_cell_tmp Tryz.results15 _ _ (w.heap.size + 1 + 1) 32 _ (0, 0) _ rfl hk9 Tryz.underlying32 rfl size32) rfl hpost
end
end Go.Proofs.YtoaiamgcegnjjaaGreatDoor
namespace Go.Proofs.YtoaiamgcegnjjaaGreatDoor
open Go.RowKit Go.Maps Go.WideMaps Go.Sort
set_option maxRecDepth 100000
attribute [local go_sem ↓] st32_fold

def landAS (T : TabS) (obj : ByteArray) (M : MetaS) (age ti mo ge : Int) : TabS × Int × Bool := if landOK obj M age ti mo ge then landS T obj M age ti mo ge else (T, 0, false)
theorem land_any {w : World} {base tb m : Nat} {T : TabS} (h : Tab w base tb m T) (hm : m < 40000) (obj : ByteArray) (st : Int) (M : MetaS) (A : Option Addr) (n c : Nat) (sf sto age ti mo ge : Int) (hk : Strs w base A n M.ks) (hn : n ≤ 9223372036854775807) (hnc : n ≤ c) :
    Calls Tryz.prog 29 #[.pointer (some ⟨tb, 0, none⟩), .string obj, .agg (replyC st M A n c sf sto age), .agg #[.int .i64 ti, .int .i64 mo, .int .i64 ge]] w fun en w' => en = .returned (.tuple #[.int .i64 (landAS T obj M age ti mo ge).2.1, .bool (landAS T obj M age ti mo ge).2.2]) ∧ Keeps base w w' ∧ Tab w' base tb (m + 4) (landAS T obj M age ti mo ge).1 := by
  obtain ⟨be, bo, kf, of_, rf, hR⟩ := h
  refine land_guard hR hm obj st M A n c sf sto age ti mo ge hk hn hnc _ (fun h w' hb => ?_) (fun hok w' T' id' b' he hkp ht => ?_)
  · have e : landAS T obj M age ti mo ge = (T, 0, false) := by unfold landAS; rw [h]; rfl
    rw [e]
    exact ⟨rfl, Keeps.of_below hb hR.lows, ⟨be, bo, kf, of_, rf, (hR.grow hb).mono (by omega)⟩⟩
  · have e : landAS T obj M age ti mo ge = (T', id', b') := by unfold landAS; rw [hok]; exact he
    rw [e]
    exact ⟨rfl, hkp, ht⟩
theorem sim_landA {k : Nat} {T : TabS} {x : RTab} (h : Sim k T x) (obj : ByteArray) (M : MetaS) (age ti mo ge : Int) (hs : M.Sz) : (landAS T obj M age ti mo ge).2 = (landA x obj M age ti mo ge).2 ∧ Sim k (landAS T obj M age ti mo ge).1 (landA x obj M age ti mo ge).1 := by
  unfold landAS landA
  by_cases hok : landOK obj M age ti mo ge = true
  · rw [if_pos hok, if_pos hok]
    unfold landOK at hok
    simp only [Bool.and_eq_true] at hok
    exact sim_land h obj M age ti mo ge (ask_mo hok.2) (ask_ge hok.2) (MetaS.gd_of_ok hs hok.1.1.2)
  · rw [if_neg hok, if_neg hok]
    exact ⟨rfl, h⟩
theorem rep_cells {w : World} {g : Nat} {kd : Int} {obj : ByteArray} {st : Int} {M : MetaS} {A : Option Addr} {n c : Nat} {sf sto age ti mo ge id f t hv ln : Int} (h : Blk w g 47 (actC kd obj st M A n c sf sto age ti mo ge id f t hv ln)) :
    w.cell? ⟨g, 1, none⟩ = some (.string obj) ∧ w.cell? ⟨g, 2, none⟩ = some (.int .i64 st) ∧ w.cell? ⟨g, 3, none⟩ = some (.string M.t) ∧ w.cell? ⟨g, 4, none⟩ = some (.bool M.wk) ∧ w.cell? ⟨g, 5, none⟩ = some (.int .i64 M.mo) ∧ w.cell? ⟨g, 6, none⟩ = some (.int .i64 M.le) ∧ w.cell? ⟨g, 7, none⟩ = some (.int .i64 M.ha) ∧ w.cell? ⟨g, 8, none⟩ = some (.int .i64 M.fr) ∧ w.cell? ⟨g, 9, none⟩ = some (.int .i64 M.wh) ∧ w.cell? ⟨g, 10, none⟩ = some (.int .i64 M.er) ∧ w.cell? ⟨g, 11, none⟩ = some (.slice A n c) ∧ w.cell? ⟨g, 12, none⟩ = some (.string M.ten) ∧ w.cell? ⟨g, 13, none⟩ = some (.bool M.kp) ∧ w.cell? ⟨g, 14, none⟩ = some (.int .i64 sf) ∧ w.cell? ⟨g, 15, none⟩ = some (.int .i64 sto) ∧ w.cell? ⟨g, 16, none⟩ = some (.int .i64 age) ∧ w.cell? ⟨g, 17, none⟩ = some (.int .i64 ti) ∧ w.cell? ⟨g, 18, none⟩ = some (.int .i64 mo) ∧ w.cell? ⟨g, 19, none⟩ = some (.int .i64 ge) := by
  refine ⟨?_, ?_, ?_, ?_, ?_, ?_, ?_, ?_, ?_, ?_, ?_, ?_, ?_, ?_, ?_, ?_, ?_, ?_, ?_⟩ <;> rw [h.cell] <;> rfl

section
variable {w : World} {base tb m k : Nat} {T : TabS} {v : Array Value} {x : RTab} {LA NA : Option Addr} {ln lc nn nc : Nat} {rs : List RM}
set_option maxHeartbeats 2000000 in
theorem do_land (hT : Tab w base tb m T) (hR : RT w base m v x LA ln lc NA nn nc rs) (hS : Sim k T x) (hB : base ≤ w.heap.size) (hm : m ≤ 8000) (kd : Int) (obj : ByteArray) (st : Int) (M : MetaS) (A : Option Addr) (n c : Nat) (sf sto age ti mo ge id f t hv le' : Int) (hkd : 0 ≤ kd ∧ kd ≤ 255) (hk7 : kd % 7 = 0) (hk : Strs w base A n M.ks) (hn : n ≤ 1000) (hnc : n ≤ c) (hM : M.Sz) :
    Calls Tryz.prog 15 #[.pointer (some ⟨tb, 0, none⟩), .agg v, .agg (actC kd obj st M A n c sf sto age ti mo ge id f t hv le')] w (DoPost base tb m k w) := by
  have hnx : 0 ≤ x.next ∧ x.next ≤ 2199023255552 := by
    obtain ⟨be, bo, kf, of_, rf, h⟩ := hT
    have := h.next
    have := hS.next
    omega
  have hkl : M.ks.length = n := hk.len
  have HT := Lib.hid hT
  have HR := Lib.hid hR
  have HS := Lib.hid hS
  have HK := Lib.hid hk
  have HM := Lib.hid hM
  have hval := hR.val
  subst hval
  have hdb := DB.start base w hB #[.slice LA ln lc, .slice NA nn nc, .int .i64 x.next] (actC kd obj st M A n c sf sto age ti mo ge id f t hv le')
  have hb0 : Below w.heap.size w (((w.alloc (.cells #[.slice LA ln lc, .slice NA nn nc, .int .i64 x.next] 32)).alloc (.cells (actC kd obj st M A n c sf sto age ti mo ge id f t hv le') 47)).alloc (.cells zero32 32)) := (((Below.refl _ _).alloc (Nat.le_refl _) _).alloc (by simp) _).alloc (by simp; omega) _
  clear hT hR hS hk hM
  go_enter Tryz.func15, Tryz.ntmps15
  go_upto_region 1 with fail
  generalize ((w.alloc (.cells #[.slice LA ln lc, .slice NA nn nc, .int .i64 x.next] 32)).alloc (.cells (actC kd obj st M A n c sf sto age ti mo ge id f t hv le') 47)).alloc (.cells zero32 32) = w0 at *
  have HDB := Lib.hid hdb
  have HB0 := Lib.hid hb0
  have hs0 := hdb.res.lt
  have hB0 : base ≤ w0.heap.size := by omega
  obtain ⟨a0, -⟩ := do_cells hdb.act
  have HSM := Lib.hid (sim_landA HS.out obj M age ti mo ge HM.out)
  generalize hxx : landA x obj M age ti mo ge = X at *
  have HXX := Lib.hid hxx
  generalize hTT : landAS T obj M age ti mo ge = TT at *
  have HTT := Lib.hid hTT
  clear hdb hb0 hxx hTT
  go_upto_region 3 with fail
  clear a0
  have sk : ∀ wy, Keeps base w0 wy → wy.cell? ⟨w.heap.size + 1, 1, none⟩ = some (.string obj) ∧ wy.cell? ⟨w.heap.size + 1, 2, none⟩ = some (.int .i64 st) ∧ wy.cell? ⟨w.heap.size + 1, 3, none⟩ = some (.string M.t) ∧ wy.cell? ⟨w.heap.size + 1, 4, none⟩ = some (.bool M.wk) ∧ wy.cell? ⟨w.heap.size + 1, 5, none⟩ = some (.int .i64 M.mo) ∧ wy.cell? ⟨w.heap.size + 1, 6, none⟩ = some (.int .i64 M.le) ∧ wy.cell? ⟨w.heap.size + 1, 7, none⟩ = some (.int .i64 M.ha) ∧ wy.cell? ⟨w.heap.size + 1, 8, none⟩ = some (.int .i64 M.fr) ∧ wy.cell? ⟨w.heap.size + 1, 9, none⟩ = some (.int .i64 M.wh) ∧ wy.cell? ⟨w.heap.size + 1, 10, none⟩ = some (.int .i64 M.er) ∧ wy.cell? ⟨w.heap.size + 1, 11, none⟩ = some (.slice A n c) ∧ wy.cell? ⟨w.heap.size + 1, 12, none⟩ = some (.string M.ten) ∧ wy.cell? ⟨w.heap.size + 1, 13, none⟩ = some (.bool M.kp) ∧ wy.cell? ⟨w.heap.size + 1, 14, none⟩ = some (.int .i64 sf) ∧ wy.cell? ⟨w.heap.size + 1, 15, none⟩ = some (.int .i64 sto) ∧ wy.cell? ⟨w.heap.size + 1, 16, none⟩ = some (.int .i64 age) ∧ wy.cell? ⟨w.heap.size + 1, 17, none⟩ = some (.int .i64 ti) ∧ wy.cell? ⟨w.heap.size + 1, 18, none⟩ = some (.int .i64 mo) ∧ wy.cell? ⟨w.heap.size + 1, 19, none⟩ = some (.int .i64 ge) := fun wy hk => rep_cells (HDB.out.to hk).act
  have SK := Lib.hid sk
  clear sk
  have CC : Hid (∀ wy, Below w0.heap.size w0 wy → Calls Tryz.prog 29 #[.pointer (some ⟨tb, 0, none⟩), .string obj, .agg (replyC st M A n c sf sto age), .agg #[.int .i64 ti, .int .i64 mo, .int .i64 ge]] wy fun e w' => e = .returned (.tuple #[.int .i64 X.2.1, .bool X.2.2]) ∧ Keeps base w0 w' ∧ Tab w' base tb (m + 4) TT.1) := by
    show ∀ wy, Below w0.heap.size w0 wy → _
    intro wy hb
    have hbw := HB0.out.trans (hb.mono HB0.out.size)
    refine (land_any (HT.out.keepsBox hbw) (by omega) obj st M A n c sf sto age ti mo ge (HK.out.below (hbw.mono hB) (Nat.le_refl _)) (by omega) hnc).mono ?_
    rintro en w' ⟨rfl, hk, hT⟩
    rw [HTT.out] at hT ⊢
    rw [HSM.out.1]
    exact ⟨rfl, (Keeps.of_below hb hB0).trans hk, hT⟩
  go_cut [8, 9, 27, 28, 29] (fun p q r1 r2 r3 wy => p = .int .i64 X.2.1 ∧ q = .bool X.2.2 ∧ r1 = .int .u8 0 ∧ r2 = .bool true ∧ r3 = .bool true ∧ Keeps base w0 wy ∧ Tab wy base tb (m + 4) TT.1)
  case first =>
    go_region_held3 (fun wy => wy.cell? ⟨w.heap.size + 1, 1, none⟩ = some (.string obj) ∧ wy.cell? ⟨w.heap.size + 1, 2, none⟩ = some (.int .i64 st) ∧ wy.cell? ⟨w.heap.size + 1, 3, none⟩ = some (.string M.t) ∧ wy.cell? ⟨w.heap.size + 1, 4, none⟩ = some (.bool M.wk) ∧ wy.cell? ⟨w.heap.size + 1, 5, none⟩ = some (.int .i64 M.mo) ∧ wy.cell? ⟨w.heap.size + 1, 6, none⟩ = some (.int .i64 M.le) ∧ wy.cell? ⟨w.heap.size + 1, 7, none⟩ = some (.int .i64 M.ha) ∧ wy.cell? ⟨w.heap.size + 1, 8, none⟩ = some (.int .i64 M.fr) ∧ wy.cell? ⟨w.heap.size + 1, 9, none⟩ = some (.int .i64 M.wh) ∧ wy.cell? ⟨w.heap.size + 1, 10, none⟩ = some (.int .i64 M.er) ∧ wy.cell? ⟨w.heap.size + 1, 11, none⟩ = some (.slice A n c) ∧ wy.cell? ⟨w.heap.size + 1, 12, none⟩ = some (.string M.ten) ∧ wy.cell? ⟨w.heap.size + 1, 13, none⟩ = some (.bool M.kp) ∧ wy.cell? ⟨w.heap.size + 1, 14, none⟩ = some (.int .i64 sf) ∧ wy.cell? ⟨w.heap.size + 1, 15, none⟩ = some (.int .i64 sto) ∧ wy.cell? ⟨w.heap.size + 1, 16, none⟩ = some (.int .i64 age) ∧ wy.cell? ⟨w.heap.size + 1, 17, none⟩ = some (.int .i64 ti) ∧ wy.cell? ⟨w.heap.size + 1, 18, none⟩ = some (.int .i64 mo) ∧ wy.cell? ⟨w.heap.size + 1, 19, none⟩ = some (.int .i64 ge))
      (first
        | exact SK.out _ HKP.out
        | exact SK.out _ (Keeps.of_below HB6.out hB0)
        | exact SK.out _ (Keeps.of_below (Below.refl _ _) hB0)
        | exact SK.out _ (Keeps.of_below (Below.refl _ _).drew hB0))
      (first
        | (go_at_call 21; refine (asked_any _ _ _ _).mono ?_; rintro en w6 ⟨rfl, hb6⟩; (have HB6 : Hid (Below w0.heap.size w0 w6) := (Below.refl w0.heap.size w0).drew.trans hb6); clear hb6)
        | (go_at_call 29; refine (CC.out _ HB6.out).mono ?_; rintro en w7 ⟨rfl, hk7', hT7⟩; (have HKP := Lib.hid hk7'); (have HT7 := Lib.hid hT7); clear hk7' hT7))
    all_goals
      go_wp2_with fail
      go_meet
    all_goals exact ⟨rfl, rfl, rfl, rfl, rfl, HKP.out, HT7.out⟩
  case rest =>
    obtain ⟨rfl, rfl, rfl, rfl, rfl, hk1, hT1⟩ := hcut
    have HK1 := Lib.hid hk1
    have HT1 := Lib.hid hT1
    have HDB1 := Lib.hid (HDB.out.to hk1)
    obtain ⟨b1, b2, b3, b4, b5, b6, b7, b8, b9, b10, b11, b12, b13, b14, b15, b16, b17, b18, b19⟩ := SK.out wc hk1
    have hs1 := hk1.below.size
    have HR1 := Lib.hid ((HR.out.below HB0.out hB).keeps hk1)
    have HPR : Hid (PR wc base 1 A n (M.ks.map Value.string)) := (PR.of_old (HK.out.below (HB0.out.mono hB) (Nat.le_refl _)) (by omega)).keeps hk1
    have hw1 := HDB1.out.res.lt
    clear hk1 hT1 CC
    go_upto_region 5 with (first
      | (refine wpList_load_row rfl 32 _ rfl w.heap.size rfl 32 #[.slice LA ln lc, .slice NA nn nc, .int .i64 x.next] (0, 0) _ HDB1.out.tab Tryz.underlying32 rfl size32 ?_)
      | (go_at_call 54; refine (rland_any HR1.out (by omega) (by omega) hnx HS.out.sz obj st M A n c sf sto age ti mo ge HPR.out (by omega) hnc HM.out).mono ?_; rintro en w4 ⟨v4, LA4, ln4, lc4, NA4, nn4, nc4, rs4, rfl, hr4, hb4⟩; (rw [HXX.out] at hr4 ⊢); (have HR4 := Lib.hid hr4); (have HB4 := Lib.hid hb4); (have st4 := run_st32 (Blk.new w4 32 zero32) rfl hr4.shape.1 hr4.shape.2); clear hr4 hb4))
    have hb5 : Below w4.heap.size w4 ((w4.alloc (.cells zero32 32)).setRow w4.heap.size v4) := ((Below.refl _ _).alloc (Nat.le_refl _) _).trans (grown_below (setRow_gby _ _ _) (by simp) (fun k hk => by injection hk with hk; omega))
    have k9 : Blk ((w4.alloc (.cells zero32 32)).setRow w4.heap.size v4) w4.heap.size 32 v4 := setRow_blk (Blk.new w4 32 zero32) _
    generalize (w4.alloc (.cells zero32 32)).setRow w4.heap.size v4 = w5 at *
    have hb15 : Below wc.heap.size wc w5 := HB4.out.trans (hb5.mono HB4.out.size)
    have hs4 := HB4.out.size
    have HDB5 := Lib.hid (HDB1.out.to (Keeps.of_below hb15 (by omega)))
    have HR5 := Lib.hid (HR4.out.below hb5 (by omega))
    have HT5 := Lib.hid (HT1.out.keepsBox hb15)
    have K9 := Lib.hid k9
    have hsh := HR4.out.shape
    have H1 := Lib.hid hsh.2
    have HSZ : Hid (zero32.size = v4.size) := by show zero32.size = v4.size; rw [hsh.1]; rfl
    have HI4 : Hid ((Tryz.prog.info? 32).map (·.size) = some v4.size) := by show (Tryz.prog.info? 32).map (·.size) = some v4.size; rw [hsh.1]; exact size32
    clear hb5 k9 hb15 st4 hsh b1 b2 b3 b4 b5 b6 b7 b8 b9 b10 b11 b12 b13 b14 b15 b16 b17 b18 b19
    go_wp2_with (first
      | (refine wpList_load_row rfl 32 _ rfl w4.heap.size rfl 32 v4 (0, 0) _ K9.out Tryz.underlying32 rfl HI4.out ?_)
      | (refine wpList_store_row rfl 32 _ _ rfl (w.heap.size + 1 + 1) v4 rfl rfl 32 _ HDB5.out.res HI4.out HSZ.out H1.out ?_))
    have hg := setRow_gby w5 (w.heap.size + 1 + 1) v4
    refine bodyPost_ret (v := .tuple #[.agg v4, .bool true]) (results_cell_tmp Tryz.results15 _ _ (w.heap.size + 1 + 1) 32 _ (0, 0) _ rfl (setRow_blk HDB5.out.res _) Tryz.underlying32 rfl HI4.out) rfl ⟨v4, LA4, ln4, lc4, NA4, nn4, nc4, rs4, TT.1, X.1, rfl, HDB5.out.keeps.put_new hB (by omega) _, (HT5.out.put HDB5.out.res hg (by decide) (by decide) (by decide) (by decide) (by decide) (by decide)), (HR5.out.put32 HDB5.out.res _).mono (by omega), HSM.out.2.more (by omega)⟩
end
end Go.Proofs.YtoaiamgcegnjjaaGreatDoor
