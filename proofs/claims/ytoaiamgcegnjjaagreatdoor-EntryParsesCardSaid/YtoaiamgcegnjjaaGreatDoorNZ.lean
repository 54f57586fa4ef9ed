/- EntryTexts and EntryParses: the walks. No condition but the bounds that they name. -/
import Derived.Test.YtoaiamgcegnjjaaGreatDoorNX
namespace Go.Proofs.YtoaiamgcegnjjaaGreatDoor
open Go.RowKit Go.Maps Go.WideMaps Go.Sort
set_option maxRecDepth 100000
attribute [local go_sem ↓] ld54_fold st54_fold ld57p_fold st57p_fold ld39m_fold

theorem small14_few2 (t : ByteArray) (wk : Bool) (mo le ha fr wh er : Int) (A : Option Addr) (n c : Nat) (ten : ByteArray) (kp : Bool) (ks : List ByteArray) (B : Nat) (w : World) (hk : Strs w B A n ks) (hB : B ≤ w.heap.size) :
    Calls Tryz.prog 17 #[.agg (metaC t wk mo le ha fr wh er A n c ten kp)] w fun e w' => FewBool (n ≤ 40) e ∧ Below w.heap.size w w' := by
  have hb0 : Below w.heap.size w (w.alloc (.cells (metaC t wk mo le ha fr wh er A n c ten kp) 39)) := (Below.refl _ _).alloc (Nat.le_refl _) _
  have HB := Lib.hid hb0
  have HK := Lib.hid (hk.below (hb0.mono hB) (Nat.le_refl _))
  clear hb0 hk
  by_cases h1 : 200 < t.size
  · go_enter Tryz.func17, Tryz.ntmps17
    go_wp2
    go_ret
    exact ⟨FewBool.no, HB.out⟩
  by_cases h2 : 40 < n
  · go_enter Tryz.func17, Tryz.ntmps17
    go_wp2
    go_ret
    exact ⟨FewBool.no, HB.out⟩
  by_cases h3 : 100 < ten.size
  · go_enter Tryz.func17, Tryz.ntmps17
    go_wp2
    go_ret
    exact ⟨FewBool.no, HB.out⟩
  go_enter Tryz.func17, Tryz.ntmps17
  go_wp2_with fail
  go_loop [3] (fun i => ∃ k : Nat, k ≤ n ∧ i = .int .i64 k) (fun i => n - (intOf i).toNat)
  case atStart => exact ⟨0, Nat.zero_le _, rfl⟩
  case round =>
    obtain ⟨k, hk, rfl⟩ := hrel
    by_cases hlt : k < n
    · obtain ⟨b, o, hA, _, hc⟩ := HK.out.at_ (by omega)
      have hcell := hc k (by have := HK.out.len; omega)
      clear hc
      subst hA
      go_wp2_with fail
      · go_ret
        exact ⟨FewBool.no, HB.out⟩
      · exact ⟨⟨k + 1, by omega, by go_num⟩, by simp [intOf]; omega⟩
    · go_wp2_with fail
      go_ret
      exact ⟨FewBool.mk true (fun _ => by omega), HB.out⟩

theorem told_of {x : Ent} {A : Option Addr} {n c : Nat} {r : RM} (h : x = r.e.ent) (hm : r.e.mom = 0) : (backM ⟨x, A, n, c, false⟩).e.told { r.e with last := true } := by
  subst h
  obtain ⟨⟨id, obj, M, said, mom, gen, last, has⟩, kA, kn, kc, hA, hn, hc⟩ := r
  exact ⟨rfl, rfl, rfl, rfl, rfl, rfl, rfl⟩

set_option maxHeartbeats 8000000 in
theorem entryParses_any (s : ByteArray) (W : World) (hv : Gv W) (hs : s.size ≤ 9223372036854775807) :
    Calls Tryz.prog 10 #[.string s] W fun e w' => e = .returned (.bool true) ∧ Below W.heap.size W w' := by
  have GV := Lib.hid hv
  clear hv
  go_enter Tryz.func10, Tryz.ntmps10
  go_wp2_with fail
  refine (wakes_any W).mono ?_
  rintro en w1 ⟨rfl, hb1⟩
  have HB1 := Lib.hid hb1
  clear hb1
  by_cases h2000 : 2000 < s.size
  · go_wp2_with fail
    go_ret
    exact ⟨rfl, HB1.out⟩
  have CP := Lib.hid (parse_any s w1 (by omega) (GV.out.below HB1.out))
  have CR : Hid (∀ wy, Calls Tryz.prog 42 #[.string s] wy fun e w' => ParseOutR s w' e ∧ Below wy.heap.size wy w') := fun wy => rparse_any s wy (by omega)
  go_wp2_with (go_at_call 40; refine CP.out.mono ?_; rintro en w2 ⟨⟨rfl, hpi⟩ | ⟨x, A, n, c, rfl, hpi, hst, hnc⟩, hb2⟩ <;> refine Hid.out ?_)
  · refine Lib.hid ?_
    have HB2 := Lib.hid (HB1.out.trans (hb2.mono HB1.out.size))
    clear hb2 CP
    have HPI := Lib.hid hpi
    have s57 := run_st57p (v := zero57p) (Blk.new w2 57 zero57p) rfl rfl (by simp [Value.oneCell'])
    have k57 : Blk ((w2.alloc (.cells zero57p 57)).setRow w2.heap.size zero57p) w2.heap.size 57 zero57p := setRow_blk (Blk.new w2 57 zero57p) _
    have hb3 : Below w2.heap.size w2 ((w2.alloc (.cells zero57p 57)).setRow w2.heap.size zero57p) := ((Below.refl _ _).alloc (Nat.le_refl _) _).trans (grown_below (setRow_gby _ _ _) (by simp) (fun k hk => by injection hk with hk; omega))
    clear hpi
    go_upto_region 6 with fail
    generalize (w2.alloc (.cells zero57p 57)).setRow w2.heap.size zero57p = w3 at *
    generalize hg3 : w2.heap.size = g3 at *
    have HB3 := Lib.hid (HB2.out.trans (hb3.mono (by have := HB2.out.size; omega)))
    have K57 := Lib.hid k57
    clear s57 k57 hb3
    go_wp2_with (go_at_call 42; refine (CR.out w3).mono ?_; rintro en w4 ⟨⟨rfl, hpi2⟩ | ⟨r, rfl, hpi2, _⟩, hb4⟩ <;> refine Hid.out ?_)
    · refine Lib.hid ?_
      have HB4 := Lib.hid (HB3.out.trans (hb4.mono HB3.out.size))
      have K574 := Lib.hid (K57.out.below hb4 K57.out.lt)
      clear hb4 K57
      have s54 := run_st54z (v := zero54) (Blk.new w4 54 zero54) rfl rfl (by simp [Value.oneCell'])
      have hb5 : Below w4.heap.size w4 ((w4.alloc (.cells zero54 54)).setRow w4.heap.size zero54) := ((Below.refl _ _).alloc (Nat.le_refl _) _).trans (grown_below (setRow_gby _ _ _) (by simp) (fun k hk => by injection hk with hk; omega))
      go_upto_region 7 with fail
      generalize (w4.alloc (.cells zero54 54)).setRow w4.heap.size zero54 = w5 at *
      have HB5 := Lib.hid (HB4.out.trans (hb5.mono HB4.out.size))
      have c0 : w5.cell? ⟨g3, 0, none⟩ = some (.int .i64 0) := ((K574.out.below hb5 K574.out.lt).cell 0).trans rfl
      clear hb5 s54
      go_wp2_with fail
      go_ret
      exact ⟨by first | rfl | simp, HB5.out⟩
    · exact absurd (HPI.out.uniq hpi2) (by simp)
  · refine Lib.hid ?_
    have HB2 := Lib.hid (HB1.out.trans (hb2.mono HB1.out.size))
    clear hb2 CP
    have HPI := Lib.hid hpi
    have s57 := run_st57p (v := entC x A n c false) (Blk.new w2 57 zero57p) rfl rfl (by simp [Value.oneCell'])
    have k57 : Blk ((w2.alloc (.cells zero57p 57)).setRow w2.heap.size (entC x A n c false)) w2.heap.size 57 (entC x A n c false) := setRow_blk (Blk.new w2 57 zero57p) _
    have hb3 : Below w2.heap.size w2 ((w2.alloc (.cells zero57p 57)).setRow w2.heap.size (entC x A n c false)) := ((Below.refl _ _).alloc (Nat.le_refl _) _).trans (grown_below (setRow_gby _ _ _) (by simp) (fun k hk => by injection hk with hk; omega))
    have hkn : n ≤ 32 := by
      obtain ⟨h1, _, _⟩ := hpi.1 x rfl
      have h2 := (noteIs h1).few
      have h3 := hst.len
      omega
    clear hpi
    go_upto_region 6 with fail
    generalize (w2.alloc (.cells zero57p 57)).setRow w2.heap.size (entC x A n c false) = w3 at *
    have HST := Lib.hid (hst.below hb3 hb3.size)
    have HB3 := Lib.hid (HB2.out.trans (hb3.mono (by have := HB2.out.size; omega)))
    generalize hg3 : w2.heap.size = g3 at *
    have K57 := Lib.hid k57
    clear s57 k57 hb3 hst
    go_wp2_with (go_at_call 42; refine (CR.out w3).mono ?_; rintro en w4 ⟨⟨rfl, hpi2⟩ | ⟨r, rfl, hpi2, hst2, hrc, hsz, hmom⟩, hb4⟩ <;> refine Hid.out ?_)
    · exact absurd (HPI.out.uniq hpi2) (by simp)
    · refine Lib.hid ?_
      have HB4 := Lib.hid (HB3.out.trans (hb4.mono HB3.out.size))
      have K574 := Lib.hid (K57.out.below hb4 K57.out.lt)
      have HST4 := Lib.hid (HST.out.below hb4 hb4.size)
      clear hb4 K57 HST
      have hxr : x = r.e.ent := by
        have := HPI.out.uniq hpi2
        injection this
      have hnote : noteOK x = true ∧ noteB x = s := by
        obtain ⟨h1, h2, _⟩ := HPI.out.1 x rfl
        exact ⟨h1, h2⟩
      have HNT := Lib.hid hnote
      have HTOLD := Lib.hid (told_of (A := A) (n := n) (c := c) hxr hmom)
      have s54 := run_st54z (v := r.row) (Blk.new w4 54 zero54) rfl rfl (row_one r)
      have k54 : Blk ((w4.alloc (.cells zero54 54)).setRow w4.heap.size r.row) w4.heap.size 54 r.row := setRow_blk (Blk.new w4 54 zero54) _
      have hb5 : Below w4.heap.size w4 ((w4.alloc (.cells zero54 54)).setRow w4.heap.size r.row) := ((Below.refl _ _).alloc (Nat.le_refl _) _).trans (grown_below (setRow_gby _ _ _) (by simp) (fun k hk => by injection hk with hk; omega))
      have hs4 := HB4.out.size
      have hg34 : g3 < w4.heap.size := K574.out.lt
      clear hnote hxr hpi2
      go_upto_region 7 with fail
      generalize (w4.alloc (.cells zero54 54)).setRow w4.heap.size r.row = w5 at *
      have HB5 := Lib.hid (HB4.out.trans (hb5.mono hs4))
      have K575 := Lib.hid (K574.out.below hb5 K574.out.lt)
      have HST5 := Lib.hid (HST4.out.below hb5 (Nat.le_refl _))
      have HSR5 := Lib.hid (hst2.below hb5 (Nat.le_refl _))
      generalize w4.heap.size = g5 at *
      have K54 := Lib.hid k54
      clear s54 k54 hb5 hst2 K574 HST4
      have e16 : w5.cell? ⟨g5, 16, none⟩ = some (.bool r.e.last) := (K54.out.cell 16).trans rfl
      have f16 := K54.out.free' 16
      go_upto_region 10 with fail
      obtain ⟨r2, hr2⟩ : ∃ r2 : RM, r2 = { r with e := { r.e with last := true } } := ⟨_, rfl⟩
      have k546 : Blk (w5.setCell ⟨g5, 16, none⟩ (.bool true)) g5 54 r2.row := by rw [hr2]; exact K54.out.set 16 (.bool true)
      have k576 : Blk (w5.setCell ⟨g5, 16, none⟩ (.bool true)) g3 57 (entC x A n c false) := K575.out.far (by omega) (.bool true)
      have hb6 : Below W.heap.size W (w5.setCell ⟨g5, 16, none⟩ (.bool true)) := below_set HB5.out (by have := HB2.out.size; omega) _
      have hbs : Below g5 w5 (w5.setCell ⟨g5, 16, none⟩ (.bool true)) := below_set (Below.refl g5 w5) (Nat.le_refl _) _
      have hs56 : g5 ≤ (w5.setCell ⟨g5, 16, none⟩ (.bool true)).heap.size := Nat.le_of_lt k546.lt
      have hst6 : Strs (w5.setCell ⟨g5, 16, none⟩ (.bool true)) (w5.setCell ⟨g5, 16, none⟩ (.bool true)).heap.size A n x.ks := Rd.below HST5.out hbs hs56
      have hsr6 : Strs (w5.setCell ⟨g5, 16, none⟩ (.bool true)) (w5.setCell ⟨g5, 16, none⟩ (.bool true)).heap.size r2.kA r2.kn r2.e.M.ks := by rw [hr2]; exact Rd.below HSR5.out hbs hs56
      have HTOLD2 : Hid ((backM ⟨x, A, n, c, false⟩).e.told r2.e) := by rw [hr2]; exact HTOLD.out
      generalize w5.setCell ⟨g5, 16, none⟩ (.bool true) = w6 at *
      clear hbs hs56 hr2 e16 f16 K575 K54 HST5 HSR5 HB5
      have l57 := run_ld57p k576 rfl
      have CT := Lib.hid (text_any x A n c false w6 hst6 (by omega) hnc (GV.out.tb.below hb6))
      have HB6 := Lib.hid hb6
      have K57 := Lib.hid k576
      have K54 := Lib.hid k546
      have HST6 := Lib.hid hst6
      have HSR6 := Lib.hid hsr6
      clear hb6 k576 k546 hst6 hsr6
      go_wp2_with (go_at_call 38; refine CT.out.mono ?_; rintro en w7 ⟨rfl, hb7⟩; rw [textV_ok HNT.out.1, HNT.out.2]; refine Hid.out ?_)
      refine Lib.hid ?_
      go_upto_region 11 with fail
      have HB7 := Lib.hid (HB6.out.trans (hb7.mono HB6.out.size))
      have k57 := K57.out.below hb7 K57.out.lt
      have k54 := K54.out.below hb7 K54.out.lt
      have hst7 := HST6.out.below hb7 hb7.size
      have hsr7 := HSR6.out.below hb7 hb7.size
      have l57 : ∀ d os, (ld57p (.pointer (some ⟨g3, 0, none⟩))).run Tryz.prog (grow (redrawn w7 d) os) = .ok (.agg (entC x A n c false)) (grow (redrawn w7 d) os) := fun d os => run_ld57p (k57.below (below_regrown w7 d os) k57.lt) rfl
      have l54 : ∀ d os, (ld54 (.pointer (some ⟨g5, 0, none⟩))).run Tryz.prog (grow (redrawn w7 d) os) = .ok (.agg r2.row) (grow (redrawn w7 d) os) := fun d os => run_ld54b (k54.below (below_regrown w7 d os) k54.lt)
      have c24 : ∀ d os, Calls Tryz.prog 24 #[.agg (entC x A n c false)] (grow (redrawn w7 d) os) fun en w'' => en = .returned (.agg (backM ⟨x, A, n, c, false⟩).row) ∧ ∃ p : Regrown, w'' = grow (redrawn w7 p.d) p.os := fun d os => Calls.regrown_of (back_any ⟨x, A, n, c, false⟩ _)
      have c41 : ∀ d os, Calls Tryz.prog 41 #[.agg (backM ⟨x, A, n, c, false⟩).row, .agg r2.row] (grow (redrawn w7 d) os) fun en w'' => en = .returned (.bool true) ∧ ∃ p : Regrown, w'' = grow (redrawn w7 p.d) p.os := fun d os => by
        have hb := below_regrown w7 d os
        exact Calls.regrown_of (rsame_any (backM ⟨x, A, n, c, false⟩) r2 _ HTOLD2.out (Rd.below hst7 hb hb.size) (Rd.below hsr7 hb hb.size) (by show n ≤ 10000; omega))
      clear hb7 k57 k54 hst7 hsr7 CT
      refine wp_region_quiet_below (by kernel_rfl) (by kernel_rfl) ?_
      repeat (go_big_quiet_step (first | exact c24 _ _ | exact c41 _ _))
      refine wpQuiet_nil ?_
      intro _ hw'
      obtain ⟨⟨dq, osq⟩, hw''⟩ := hw'
      subst hw''
      have HBQ := Lib.hid (HB7.out.trans ((below_regrown w7 dq osq).mono HB7.out.size))
      go_wp2_with fail
      go_ret
      exact ⟨by first | rfl | simp, HBQ.out⟩

theorem note_size2 {e : Ent} (h : noteOK e = true) : (noteB e).size ≤ 100000 := by
  have n := noteIs h
  have hl : (noteWords e).length = 13 + e.ks.length := by simp [noteWords]; omega
  have hsz : ∀ s ∈ noteWords e, s.data.toList.length ≤ 1000 := fun s hs => by
    have osz : ∀ x : ByteArray, x.data.toList.length = x.size := fun x => by simp
    have it : ∀ v : Int, -9223372036854775808 ≤ v → v ≤ 9223372036854775807 → (itoaB v).data.toList.length ≤ 1000 := fun v a b => by
      have := Lib.itoa_length_le v a b
      simp only [itoaB]
      omega
    have n0 := n.id; have n1 := n.said; have n2 := n.gen; have n3 := n.mo; have n4 := n.le; have n5 := n.ha; have n6 := n.fr; have n7 := n.wh; have n8 := n.er
    unfold noteWords at hs
    rw [List.mem_append] at hs
    rcases hs with hs | hs
    · simp only [List.mem_cons, List.not_mem_nil, or_false] at hs
      rcases hs with rfl | rfl | rfl | rfl | rfl | rfl | rfl | rfl | rfl | rfl | rfl | rfl | rfl
      · exact it _ (by omega) (by omega)
      · have := n.obj
        unfold objOK at this
        simp only [Bool.and_eq_true, decide_eq_true_eq] at this
        rw [osz]; omega
      · exact it _ (by omega) (by omega)
      · exact it _ (by omega) (by omega)
      · exact it _ (by omega) (by omega)
      · exact it _ (by omega) (by omega)
      · exact it _ (by omega) (by omega)
      · exact it _ (by omega) (by omega)
      · exact it _ (by omega) (by omega)
      · exact it _ (by omega) (by omega)
      · cases e.kp <;> decide
      · have := n.ten
        unfold tenOK at this
        simp only [Bool.and_eq_true, decide_eq_true_eq] at this
        have h2 := osz e.ten
        simp only [eqB, List.length_cons]; omega
      · rw [n.strong, tagText_ok n.tag]
        have := n.tag
        unfold tagOK at this
        simp only [Bool.and_eq_true, decide_eq_true_eq] at this
        have h2 := osz e.t
        simp only [quoted, List.length_cons, List.length_append, List.length_nil]; omega
    · obtain ⟨k, hk, rfl⟩ := List.mem_iff_getElem.1 hs
      have := keysUp_at _ n.keys k hk hk
      unfold keyOK at this
      simp only [Bool.and_eq_true, decide_eq_true_eq] at this
      rw [osz]; omega
  have hk := n.few
  have hc : (noteWords e).map (·.data.toList) = (itoaB e.id).data.toList :: ((noteWords e).tail).map (·.data.toList) := by simp [noteWords]
  have hlens := lens_le (M := 1000) ((noteWords e).map (·.data.toList)) (fun x hx => by
    obtain ⟨s, hs, rfl⟩ := List.mem_map.1 hx
    exact hsz s hs)
  rw [List.length_map] at hlens
  rw [← itoaB_len]
  have hd : (noteB e).data.toList = Lib.join ((noteWords e).map (·.data.toList)) [32] := by simp [noteB]
  rw [hd]
  rw [hc] at hlens ⊢
  rw [Lib.join_length]
  simp only [List.length_map, List.length_tail, List.length_cons, List.length_nil]
  omega

theorem strs_set {w : World} {B n : Nat} {A : Option Addr} {ks : List ByteArray} (h : Strs w B A n ks) {p : Addr} {v : Value} (hp : w.cell? p = some v) (hv : ∀ s, v ≠ .string s) (u : Value) : Strs (w.setCell p u) B A n ks := by
  refine ⟨h.1, fun hn => ?_⟩
  obtain ⟨b, o, hA, hb, hc⟩ := h.2 hn
  refine ⟨b, o, hA, hb, fun j hj => ?_⟩
  refine (World.cell?_setCell_other (w := w) (a := p) (b := ⟨b, o + j, none⟩) (v := u) ?_).trans (hc j hj)
  · rintro rfl
    rw [hc j hj] at hp
    injection hp with hp
    simp at hp
    exact hv _ hp.symm
theorem told_bare (r : RM) (A : Option Addr) (n c : Nat) : (backM ⟨r.e.ent.bare, A, n, c, false⟩).e.told { r.e with mom := 0, last := true } := by
  obtain ⟨⟨id, obj, M, said, mom, gen, last, has⟩, kA, kn, kc, hA, hn, hc⟩ := r
  exact ⟨rfl, rfl, rfl, rfl, rfl, rfl, rfl⟩
set_option maxHeartbeats 8000000 in
theorem entryTexts_any (r : RM) (W : World) (hk : Strs W W.heap.size r.kA r.kn r.e.M.ks) (hnc : r.kn ≤ r.kc) (hsz : r.e.M.Sz) (hv : Gv W) :
    Calls Tryz.prog 9 #[.agg r.row] W fun e w' => e = .returned (.bool true) ∧ Below W.heap.size W w' := by
  have hb0 : Below W.heap.size W (W.alloc (.cells r.row 54)) := (Below.refl _ _).alloc (Nat.le_refl _) _
  have k0 : Blk (W.alloc (.cells r.row 54)) W.heap.size 54 r.row := Blk.new _ _ _
  have GV := Lib.hid hv
  have HK := Lib.hid hk
  have HSZ := Lib.hid hsz
  have HB0 := Lib.hid hb0
  have K0 := Lib.hid k0
  clear hv hk hsz hb0 k0
  go_enter Tryz.func9, Tryz.ntmps9
  go_upto_region 1 with fail
  generalize W.alloc (.cells r.row 54) = w1 at *
  go_wp2_with fail
  refine (wakes_any w1).mono ?_
  rintro en w2 ⟨rfl, hb2⟩
  have HB2 := Lib.hid (HB0.out.trans (hb2.mono HB0.out.size))
  have k2 := K0.out.below hb2 K0.out.lt
  have K2 := Lib.hid k2
  clear hb2 HB0 K0
  have c1 : w2.cell? ⟨W.heap.size, 1, none⟩ = some (.string r.e.obj) := (k2.cell 1).trans rfl
  have l39 := run_ld39m k2
  have CS := Lib.hid (small14_few2 r.e.M.t r.e.M.wk r.e.M.mo r.e.M.le r.e.M.ha r.e.M.fr r.e.M.wh r.e.M.er r.kA r.kn r.kc r.e.M.ten r.e.M.kp r.e.M.ks W.heap.size w2 (HK.out.below HB2.out (Nat.le_refl _)) HB2.out.size)
  clear k2
  by_cases h300 : 300 < r.e.obj.size
  · go_wp2_with fail
    go_ret
    exact ⟨by first | rfl | simp, HB2.out⟩
  go_wp2_with (go_at_call 17; refine CS.out.mono ?_; rintro en w3 ⟨⟨b, rfl, hbb⟩, hb3⟩; refine Hid.out ?_)
  refine Lib.hid ?_
  have HB3 := Lib.hid (HB2.out.trans (hb3.mono HB2.out.size))
  have HBB := Lib.hid hbb
  have k3 := K2.out.below hb3 K2.out.lt
  have K3 := Lib.hid k3
  clear hbb hb3 CS K2
  cases b with
  | false =>
    go_wp2_with fail
    go_ret
    exact ⟨by first | rfl | simp, HB3.out⟩
  | true =>
    have hkn := HBB.out (by first | rfl | trivial)
    clear HBB c1 l39
    have c0 : w3.cell? ⟨W.heap.size, 0, none⟩ = some (.int .i64 r.e.id) := (k3.cell 0).trans rfl
    have c1 : w3.cell? ⟨W.heap.size, 1, none⟩ = some (.string r.e.obj) := (k3.cell 1).trans rfl
    have c13 : w3.cell? ⟨W.heap.size, 13, none⟩ = some (.int .i64 r.e.said) := (k3.cell 13).trans rfl
    have c14 : w3.cell? ⟨W.heap.size, 14, none⟩ = some (.int .i64 r.e.mom) := (k3.cell 14).trans rfl
    have c15 : w3.cell? ⟨W.heap.size, 15, none⟩ = some (.int .i64 r.e.gen) := (k3.cell 15).trans rfl
    have c16 : w3.cell? ⟨W.heap.size, 16, none⟩ = some (.bool r.e.last) := (k3.cell 16).trans rfl
    have l39 := run_ld39m k3
    have CT := Lib.hid (text_any r.e.ent r.kA r.kn r.kc r.e.last w3 (HK.out.below HB3.out HB3.out.size) (by omega) hnc (GV.out.tb.below HB3.out))
    have CR : Hid (∀ wy, Below w3.heap.size w3 wy → Calls Tryz.prog 39 #[.agg r.row] wy fun en w' => en = .returned (textV r.e.ent) ∧ Below wy.heap.size wy w') := by
      show ∀ wy, _
      intro wy hb
      have hbw := HB3.out.trans (hb.mono HB3.out.size)
      exact rtext_any r wy (HK.out.below hbw hbw.size) (by omega) HSZ.out
    clear k3
    by_cases hok : noteOK r.e.ent = true
    case neg =>
      have htv := textV_no (e := r.e.ent) (by simpa using hok)
      rw [htv] at CT CR
      clear hok htv
      go_wp2_with (go_at_call 38; refine CT.out.mono ?_; rintro en w4 ⟨rfl, hb4⟩; refine Hid.out ?_)
      refine Lib.hid ?_
      have HB34 := Lib.hid hb4
      have HB4 := Lib.hid (HB3.out.trans (hb4.mono HB3.out.size))
      have l54 := run_ld54b (K3.out.below hb4 K3.out.lt)
      have CR4 := Lib.hid (CR.out w4 hb4)
      clear hb4 CT CR c0 c1 c13 c14 c15 c16 l39
      go_wp2_with (go_at_call 39; refine CR4.out.mono ?_; rintro en w5 ⟨rfl, hb5⟩; refine Hid.out ?_)
      refine Lib.hid ?_
      have HB5 := Lib.hid (HB4.out.trans (hb5.mono HB4.out.size))
      clear hb5 l54
      go_wp2_with fail
      go_ret
      exact ⟨by first | rfl | simp, HB5.out⟩
    case pos =>
      have HOK := Lib.hid hok
      have htv := textV_ok (e := r.e.ent) hok
      have hns := note_size2 hok
      rw [htv] at CT CR
      have CP : Hid (∀ wy, Below W.heap.size W wy → Calls Tryz.prog 40 #[.string (noteB r.e.ent)] wy fun e w' => ParseOut (noteB r.e.ent) w' e ∧ Below wy.heap.size wy w') := by
        show ∀ wy, _
        intro wy hb
        exact parse_any _ wy hns (GV.out.below hb)
      have HPU : Hid (∀ q, ParseIs (noteB r.e.ent) q → q = some r.e.ent.bare) := by
        show ∀ q, _
        intro q hq
        exact hq.of_note HOK.out
      clear hok htv
      generalize noteB r.e.ent = s at *
      go_wp2_with (go_at_call 38; refine CT.out.mono ?_; rintro en w4 ⟨rfl, hb4⟩; refine Hid.out ?_)
      refine Lib.hid ?_
      have HB4 := Lib.hid (HB3.out.trans (hb4.mono HB3.out.size))
      have K4 := Lib.hid (K3.out.below hb4 K3.out.lt)
      have l54 := run_ld54b K4.out
      have CR4 := Lib.hid (CR.out w4 hb4)
      clear hb4 CT CR c0 c1 c13 c14 c15 c16 l39 K3
      go_wp2_with (go_at_call 39; refine CR4.out.mono ?_; rintro en w5 ⟨rfl, hb5⟩; refine Hid.out ?_)
      refine Lib.hid ?_
      have HB5 := Lib.hid (HB4.out.trans (hb5.mono HB4.out.size))
      have K5 := Lib.hid (K4.out.below hb5 K4.out.lt)
      have CP5 := Lib.hid (CP.out w5 HB5.out)
      clear hb5 l54 CR4 K4 CP
      go_wp2_with (go_at_call 40; refine CP5.out.mono ?_; rintro en w6 ⟨⟨rfl, hpi⟩ | ⟨x, A, n, c, rfl, hpi, hst, hnc2⟩, hb6⟩ <;> refine Hid.out ?_)
      · exact absurd (HPU.out _ hpi) (by simp)
      · refine Lib.hid ?_
        obtain rfl : x = r.e.ent.bare := by
          have := HPU.out _ hpi
          injection this
        have hkn2 : n ≤ 32 := by
          have h2 := (noteIs (HOK.out)).few
          have h3 := hst.len
          have h4 : r.e.ent.bare.ks = r.e.ent.ks := rfl
          rw [h4] at h3
          omega
        have HTOLD := Lib.hid (told_bare r A n c)
        generalize r.e.ent.bare = x at *
        have HB6 := Lib.hid (HB5.out.trans (hb6.mono HB5.out.size))
        have K6 := Lib.hid (K5.out.below hb6 K5.out.lt)
        have hwl : W.heap.size < w6.heap.size := K6.out.lt
        have s57 := run_st57p (v := entC x A n c false) (Blk.new w6 57 zero57p) rfl rfl (by simp [Value.oneCell'])
        have k57 : Blk ((w6.alloc (.cells zero57p 57)).setRow w6.heap.size (entC x A n c false)) w6.heap.size 57 (entC x A n c false) := setRow_blk (Blk.new w6 57 zero57p) _
        have hb7 : Below w6.heap.size w6 ((w6.alloc (.cells zero57p 57)).setRow w6.heap.size (entC x A n c false)) := ((Below.refl _ _).alloc (Nat.le_refl _) _).trans (grown_below (setRow_gby _ _ _) (by simp) (fun k hk => by injection hk with hk; omega))
        clear hpi hb6 K5
        go_upto_region 10 with fail
        generalize (w6.alloc (.cells zero57p 57)).setRow w6.heap.size (entC x A n c false) = w7 at *
        have HB7 := Lib.hid (HB6.out.trans (hb7.mono HB6.out.size))
        have K7 := Lib.hid (K6.out.below hb7 K6.out.lt)
        have hst7 := hst.below hb7 hb7.size
        generalize w6.heap.size = g7 at *
        have K57 := Lib.hid k57
        clear s57 k57 hb7 hst K6
        have c14 : w7.cell? ⟨W.heap.size, 14, none⟩ = some (.int .i64 r.e.mom) := (K7.out.cell 14).trans rfl
        have c16 : w7.cell? ⟨W.heap.size, 16, none⟩ = some (.bool r.e.last) := (K7.out.cell 16).trans rfl
        have f7 := K7.out.free'
        go_upto_region 11 with fail
        obtain ⟨r2, hr2⟩ : ∃ r2 : RM, r2 = { r with e := { r.e with mom := 0, last := true } } := ⟨_, rfl⟩
        have hst8 := strs_set hst7 c14 (fun s e => by cases e) (.int .i64 0)
        have k78 := K7.out.set 14 (.int .i64 0)
        have c16' : (w7.setCell ⟨W.heap.size, 14, none⟩ (.int .i64 0)).cell? ⟨W.heap.size, 16, none⟩ = some (.bool r.e.last) := (k78.cell 16).trans rfl
        have hst9 := strs_set hst8 c16' (fun s e => by cases e) (.bool true)
        have k79 := k78.set 16 (.bool true)
        have k579 := (K57.out.far (b := W.heap.size) (o := 14) (by omega) (.int .i64 0)).far (b := W.heap.size) (o := 16) (by omega) (.bool true)
        have hb9 := below_set (below_set HB7.out (b := W.heap.size) (o := 14) (Nat.le_refl _) (.int .i64 0)) (b := W.heap.size) (o := 16) (Nat.le_refl _) (.bool true)
        have hsz9 : ((w7.setCell ⟨W.heap.size, 14, none⟩ (.int .i64 0)).setCell ⟨W.heap.size, 16, none⟩ (.bool true)).heap.size = w7.heap.size := by simp [World.setCell]
        generalize (w7.setCell ⟨W.heap.size, 14, none⟩ (.int .i64 0)).setCell ⟨W.heap.size, 16, none⟩ (.bool true) = w9 at *
        have k799 : Blk w9 W.heap.size 54 r2.row := by rw [hr2]; exact k79
        have HTOLD2 : Hid ((backM ⟨x, A, n, c, false⟩).e.told r2.e) := by rw [hr2]; exact HTOLD.out
        have hsr9 : Strs w9 w9.heap.size r2.kA r2.kn r2.e.M.ks := by rw [hr2]; exact HK.out.below hb9 hb9.size
        rw [← hsz9] at hst9
        have HB9 := Lib.hid hb9
        clear c14 c16 c16' f7 hst8 hst7 k78 k79 hsz9 hb9 hr2 HTOLD K7 K57
        have l57 : ∀ d os, (ld57p (.pointer (some ⟨g7, 0, none⟩))).run Tryz.prog (grow (redrawn w9 d) os) = .ok (.agg (entC x A n c false)) (grow (redrawn w9 d) os) := fun d os => run_ld57p (k579.below (below_regrown w9 d os) k579.lt) rfl
        have l54 : ∀ d os, (ld54 (.pointer (some ⟨W.heap.size, 0, none⟩))).run Tryz.prog (grow (redrawn w9 d) os) = .ok (.agg r2.row) (grow (redrawn w9 d) os) := fun d os => run_ld54b (k799.below (below_regrown w9 d os) k799.lt)
        have c24 : ∀ d os, Calls Tryz.prog 24 #[.agg (entC x A n c false)] (grow (redrawn w9 d) os) fun en w'' => en = .returned (.agg (backM ⟨x, A, n, c, false⟩).row) ∧ ∃ p : Regrown, w'' = grow (redrawn w9 p.d) p.os := fun d os => Calls.regrown_of (back_any ⟨x, A, n, c, false⟩ _)
        have c41 : ∀ d os, Calls Tryz.prog 41 #[.agg (backM ⟨x, A, n, c, false⟩).row, .agg r2.row] (grow (redrawn w9 d) os) fun en w'' => en = .returned (.bool true) ∧ ∃ p : Regrown, w'' = grow (redrawn w9 p.d) p.os := fun d os => by
          have hb := below_regrown w9 d os
          exact Calls.regrown_of (rsame_any (backM ⟨x, A, n, c, false⟩) r2 _ HTOLD2.out (Rd.below hst9 hb hb.size) (Rd.below hsr9 hb hb.size) (by show n ≤ 10000; omega))
        clear k579 k799 hst9 hsr9
        refine wp_region_quiet_below (by kernel_rfl) (by kernel_rfl) ?_
        repeat (go_big_quiet_step (first | exact c24 _ _ | exact c41 _ _))
        refine wpQuiet_nil ?_
        intro _ hw'
        obtain ⟨⟨dq, osq⟩, hw''⟩ := hw'
        subst hw''
        have HBQ := Lib.hid (HB9.out.trans ((below_regrown w9 dq osq).mono HB9.out.size))
        go_wp2_with fail
        go_ret
        exact ⟨by first | rfl | simp, HBQ.out⟩
end Go.Proofs.YtoaiamgcegnjjaaGreatDoor
