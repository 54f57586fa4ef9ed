/- EntryLoads: the walk. No condition but the bounds that it names. -/
import Derived.Test.YtoaiamgcegnjjaaGreatDoorNL
namespace Go.Proofs.YtoaiamgcegnjjaaGreatDoor
open Go.RowKit Go.Maps Go.WideMaps Go.Sort
set_option maxRecDepth 100000
attribute [local go_sem ↓] ld54_fold st54_fold ld39m_fold st32_fold

/-- the first loop's state: the entries as the program takes them in -/
structure OwW (W wr : World) (rs : List RM) (k : Nat) (A : Option Addr) (c : Nat) : Prop where
  below : Below W.heap.size W wr
  own : wr.ownsRow W.heap.size 57 17 (.slice A k c) k (((rs.take k).map RM.em).flatMap EM.cells)
  few : ∀ r ∈ rs.take k, r.kn ≤ 40

set_option maxHeartbeats 8000000 in
theorem entryLoads_any (A : Option Addr) (n c : Nat) (rs : List RM) (nx : Int) (A2 : Option Addr) (n2 c2 : Nat) (l : List ActS) (W : World)
    (hr : Rd W W.heap.size 18 A n (rs.flatMap RM.cells)) (hin : ∀ r ∈ rs, Strs W W.heap.size r.kA r.kn r.e.M.ks ∧ r.kn ≤ r.kc ∧ r.e.M.Sz) (hn : n ≤ 9223372036854775807)
    (hr2 : Rd W W.heap.size 25 A2 n2 (l.flatMap ActS.cells)) (hok : ∀ a ∈ l, a.Ok W W.heap.size) (hn2 : n2 ≤ 9223372036854775807) (ht : Tb W) :
    Calls Tryz.prog 4 #[.slice A n c, .int .i64 nx, .slice A2 n2 c2] W fun e w' => e = .returned (.bool true) ∧ Below W.heap.size W w' := by
  obtain ⟨i0, hi0, hz0, hz1, hz2⟩ := info_parts info57
  have HRD := Lib.hid hr
  have HIN := Lib.hid hin
  have HRD2 := Lib.hid hr2
  have HOK := Lib.hid hok
  have HT := Lib.hid ht
  clear hr hin hr2 hok ht
  go_enter Tryz.func4, Tryz.ntmps4
  go_wp2_with fail
  refine (wakes_any W).mono ?_
  rintro en w1 ⟨rfl, hb1⟩
  have HB1 := Lib.hid hb1
  have CS := Lib.hid (small_any A2 n2 c2 l W.heap.size w1 (HRD2.out.below hb1 (Nat.le_refl _)) (fun a ha => (HOK.out a ha).keys.below hb1 (Nat.le_refl _)) hb1.size hn2)
  clear hb1
  by_cases h12 : 12 < n
  · go_wp2_with fail
    go_ret
    exact ⟨rfl, HB1.out⟩
  go_wp2_with fail
  refine CS.out.mono ?_
  rintro en w2 ⟨⟨b, rfl, hbb⟩, hb2⟩
  have HB2 := Lib.hid (HB1.out.trans (hb2.mono HB1.out.size))
  have HBB := Lib.hid hbb
  clear hb2 hbb CS HB1
  cases b with
  | false =>
    go_wp2_with fail
    go_ret
    exact ⟨rfl, HB2.out⟩
  | true =>
    have hfew := HBB.out (by first | rfl | trivial)
    have hn30 := hfew.1
    have HFEW := Lib.hid hfew.2
    clear hfew HBB
    have hpr : PR W W.heap.size 18 A n (rs.flatMap RM.cells) := PR.of_old HRD.out (Nat.le_refl _)
    obtain ⟨hl, hrow⟩ := hpr.row RM.cells_len (by decide)
    have HL := Lib.hid hl
    have HROW := Lib.hid hrow
    have hst : OwW W w2 rs 0 none 0 := ⟨HB2.out, by simpa using World.ownsRow_nil w2 _ 57 17, fun r hr => by simp at hr⟩
    have HST := Lib.hid hst
    clear hpr hl hrow hst
    go_wp2_with fail
    go_loopw [7, 30] (fun s7 s30 wr => ∃ (k : Nat) (A3 : Option Addr) (c3 : Nat), k ≤ n ∧ s30 = .int .i64 k ∧ s7 = .slice A3 k c3 ∧ Hid (OwW W wr rs k A3 c3)) (fun _ i _ => n - (intOf i).toNat)
    case atStart => exact ⟨0, none, 0, Nat.zero_le _, rfl, rfl, HST⟩
    case round =>
      obtain ⟨k, A3, c3, hk, rfl, rfl, HOW⟩ := hrel
      by_cases hlt : k < n
      · have hkl : k < rs.length := by have := HL.out; omega
        obtain ⟨b, o, rfl, hbl, hra⟩ := HROW.out k hkl
        obtain ⟨q1, q2, q3⟩ := HIN.out rs[k] (List.getElem_mem hkl)
        have htk : rs.take (k + 1) = rs.take k ++ [rs[k]] := List.take_succ_eq_append_getElem hkl
        generalize rs[k] = r at *
        have HTK := Lib.hid htk
        have Q1 := Lib.hid q1
        have hwr := HOW.out.below.size
        have l54 := run_ld54 (w := wr) (b := b) (o := o + k * 18) (r := r) (fun j v hv => (HOW.out.below.cell (p := ⟨b, o + k * 18 + j, none⟩) hbl).trans (hra j v hv))
        have s54 := run_st54n wr r
        have hk9 : Blk (wr.alloc (.cells r.row 54)) wr.heap.size 54 r.row := Blk.new _ _ _
        have hbx : Below wr.heap.size wr (wr.alloc (.cells r.row 54)) := (Below.refl _ _).alloc (Nat.le_refl _) _
        have hbw := HOW.out.below.trans (hbx.mono hwr)
        have howx := own_kept HOW.out.own (gby_of_below hbx) (fun _ _ e => by cases e)
        have HK9 := Lib.hid hk9
        have HBW := Lib.hid hbw
        have HOWX := Lib.hid howx
        have i1 : (0 : Int) ≤ (k : Int) := by omega
        have i2 : (k : Int) < (n : Int) := by omega
        clear hra htk q1 hk9 hbx hbw howx
        go_upto_region 9 with fail
        generalize wr.alloc (.cells r.row 54) = wx at *
        generalize wr.heap.size = g9 at *
        clear l54 s54
        have d0 : wx.cell? ⟨g9, 0, none⟩ = some (.int .i64 r.e.id) := (HK9.out.cell 0).trans rfl
        have d1 : wx.cell? ⟨g9, 1, none⟩ = some (.string r.e.obj) := (HK9.out.cell 1).trans rfl
        have l39 := run_ld39m HK9.out
        have CS := Lib.hid (small14_few r.e.M.t r.e.M.wk r.e.M.mo r.e.M.le r.e.M.ha r.e.M.fr r.e.M.wh r.e.M.er r.kA r.kn r.kc r.e.M.ten r.e.M.kp r.e.M.ks W.heap.size wx (Q1.out.below HBW.out (Nat.le_refl _)) HBW.out.size)
        by_cases h300 : 300 < r.e.obj.size
        · go_wp2_with fail
          go_ret
          exact ⟨rfl, HBW.out⟩
        go_wp2_with fail
        refine CS.out.mono ?_
        rintro en w4 ⟨⟨b4, rfl, hb4⟩, hbl4⟩
        have HB4 := Lib.hid (HBW.out.trans (hbl4.mono HBW.out.size))
        have HF4 := Lib.hid hb4
        have hk94 := HK9.out.below hbl4 HK9.out.lt
        have ho4 := own_kept HOWX.out (gby_of_below hbl4) (fun _ _ e => by cases e)
        have e0 : w4.cell? ⟨g9, 0, none⟩ = some (.int .i64 r.e.id) := (hk94.cell 0).trans rfl
        have e1 : w4.cell? ⟨g9, 1, none⟩ = some (.string r.e.obj) := (hk94.cell 1).trans rfl
        have e13 : w4.cell? ⟨g9, 13, none⟩ = some (.int .i64 r.e.said) := (hk94.cell 13).trans rfl
        have e14 : w4.cell? ⟨g9, 14, none⟩ = some (.int .i64 r.e.mom) := (hk94.cell 14).trans rfl
        have e15 : w4.cell? ⟨g9, 15, none⟩ = some (.int .i64 r.e.gen) := (hk94.cell 15).trans rfl
        have l394 := run_ld39m hk94
        have HO4 := Lib.hid ho4
        clear hb4 hbl4 hk94 ho4 CS d0 d1 l39
        cases b4 with
        | false =>
          go_wp2_with fail
          go_ret
          exact ⟨rfl, HB4.out⟩
        | true =>
          have hkn := HF4.out (by first | rfl | trivial)
          have hs4 := HB4.out.size
          have own1 : (w4.alloc (.cells (entC r.em.e r.em.A r.em.n r.em.c r.em.tu) 57)).ownsRow W.heap.size 57 17 (.slice A3 k c3) k (((rs.take k).map RM.em).flatMap EM.cells) := HO4.out.alloc _
          have rd1 : Rd (w4.alloc (.cells (entC r.em.e r.em.A r.em.n r.em.c r.em.tu) 57)) (w4.alloc (.cells (entC r.em.e r.em.A r.em.n r.em.c r.em.tu) 57)).heap.size 17 (some ⟨w4.heap.size, 0, none⟩) 1 (entC r.em.e r.em.A r.em.n r.em.c r.em.tu).toList := (Blk.new w4 57 _).rd
          have OWN1 := Lib.hid own1
          have RD1 := Lib.hid rd1
          clear own1 rd1
          have e2 : (rs.take (k + 1)).map RM.em = (rs.take k).map RM.em ++ [r.em] := by rw [HTK.out, List.map_append]; rfl
          have E2 := Lib.hid e2
          have HKN := Lib.hid hkn
          have hfk : ∀ q ∈ rs.take (k + 1), q.kn ≤ 40 := fun q hq => by
            rw [HTK.out, List.mem_append, List.mem_singleton] at hq
            rcases hq with hq | rfl
            · exact HOW.out.few q hq
            · exact HKN.out
          have HFK := Lib.hid hfk
          have hb41 : Below W.heap.size W (w4.alloc (.cells (entC r.em.e r.em.A r.em.n r.em.c r.em.tu) 57)) := HB4.out.alloc hs4 _
          have HB41 := Lib.hid hb41
          clear e2 hkn hfk hb41
          go_wp2_with (at_builtin; refine wpList_append_rd _ rfl _ _ 51 rfl W.heap.size 57 i0 (.agg zeroE) 17 176 under51 hi0 hz0 hz1 hz2 rfl (by decide) (.slice A3 k c3) k (((rs.take k).map RM.em).flatMap EM.cells) rfl OWN1.out (some ⟨w4.heap.size, 0, none⟩) 1 1 _ _ rfl RD1.out (oneCell_em r.em) (by unfold maxLen; omega) (by omega) (by simp; omega) ?_; intro A5 c5 w5 hown5 hgrow5 hnc5 hat5; refine Hid.out ?_)
          refine Lib.hid ?_
          have how5 : OwW W w5 rs (k + 1) A5 c5 := by
            refine ⟨HB41.out.trans (grown_below hgrow5 HB41.out.size (fun g hg => (OWN1.out.lt g hg).1)), ?_, HFK.out⟩
            rw [E2.out, List.flatMap_append]
            have := hown5
            simpa [EM.cells] using this
          have HOW5 := Lib.hid how5
          clear hown5 hgrow5 hnc5 hat5 how5 e0 e1 e13 e14 e15 l394
          go_wp2_with fail
          go_roundw
          case rel =>
            first
              | exact ⟨k + 1, A5, c5, by omega, by go_num, rfl, HOW5⟩
              | ((repeat apply Exists.intro); exact ⟨⟨k + 1, A5, c5, by omega, by go_num, rfl, HOW5⟩, rfl⟩)
          case measure => simp [intOf]; omega
      · obtain rfl : k = n := by omega
        have htake : rs.take k = rs := List.take_of_length_le (by have := HL.out; omega)
        have how := HOW.out
        have hfewk := how.few
        have howo := how.own
        rw [htake] at hfewk howo
        have hwr := how.below.size
        have CL := Lib.hid (load_any A3 k c3 (rs.map RM.em) (rs.map RM.e) nx wr (own_rd howo) (fun q hq => by
          obtain ⟨r, hr, rfl⟩ := List.mem_map.1 hq
          obtain ⟨h1, h2, _⟩ := HIN.out r hr
          exact ⟨h2, by have := hfewk r hr; show r.kn ≤ 1000; omega, h1.below how.below hwr⟩) (by omega) (by rw [List.map_map, List.map_map]; rfl) (HT.out.below how.below))
        have HRIN : Hid (∀ wy, Below wr.heap.size wr wy → Rd wy wy.heap.size 18 A k (rs.flatMap RM.cells) ∧ ∀ r ∈ rs, r.In wy wr.heap.size) := by
          show ∀ wy, _
          intro wy hb
          have hbW := how.below.trans (hb.mono hwr)
          refine ⟨Rd.below HRD.out hbW hbW.size, fun r hr => ?_⟩
          obtain ⟨h1, h2, h3⟩ := HIN.out r hr
          exact ⟨h1.below hbW hwr, h2, by have := hfewk r hr; omega, h3⟩
        have HBW := Lib.hid how.below
        clear htake how hfewk howo HOW HROW
        have hlen : (rs.map RM.e).length = k := by rw [List.length_map]; exact HL.out
        by_cases hgood : LoadGood nx (rs.map RM.e)
        case neg =>
          have CL1 : Hid (Calls Tryz.prog 13 #[.slice A3 k c3, .int .i64 nx] wr fun e w' => e = .returned (.tuple #[.pointer none, .int .i64 1]) ∧ Below wr.heap.size wr w') :=
            CL.out.mono fun _ _ h => by
              rcases h with ⟨_, h1, h2⟩ | ⟨h, _⟩
              · exact ⟨h1, h2⟩
              · exact absurd h hgood
          have CR1 : Hid (∀ wy, Below wr.heap.size wr wy → Calls Tryz.prog 14 #[.slice A k c, .int .i64 nx] wy fun e w' => e = .returned (.tuple #[.agg zero32, .int .i64 1]) ∧ Below wy.heap.size wy w') := by
            show ∀ wy, _
            intro wy hb
            obtain ⟨h1, h2⟩ := HRIN.out wy hb
            exact (rload_any A k c rs nx wr.heap.size wy hb.size h1 h2 (by omega)).mono fun _ _ h => by
              rcases h with ⟨_, h1, h2⟩ | ⟨h, _⟩
              · exact ⟨h1, h2⟩
              · exact absurd h hgood
          clear hgood hlen CL
          go_wp2_with (go_at_call 13; refine CL1.out.mono ?_; rintro en w3 ⟨rfl, hb3⟩; refine Hid.out ?_)
          refine Lib.hid ?_
          have HB3 := Lib.hid hb3
          have CR2 := Lib.hid (CR1.out w3 hb3)
          clear hb3 CR1 CL1
          go_wp2_with (go_at_call 14; refine CR2.out.mono ?_; rintro en w4 ⟨rfl, hb4⟩; refine Hid.out ?_)
          refine Lib.hid ?_
          have HB4 := Lib.hid (HBW.out.trans ((HB3.out.trans (hb4.mono HB3.out.size)).mono HBW.out.size))
          have s32 := run_st32 (v := zero32) (Blk.new w4 32 zero32) rfl rfl (by simp [Value.oneCell'])
          have hb5 : Below w4.heap.size w4 ((w4.alloc (.cells zero32 32)).setRow w4.heap.size zero32) := ((Below.refl _ _).alloc (Nat.le_refl _) _).trans (grown_below (setRow_gby _ _ _) (by simp) (fun k hk => by injection hk with hk; omega))
          have HB5 := Lib.hid (HB4.out.trans (hb5.mono HB4.out.size))
          clear hb4 hb5
          go_wp2_with fail
          go_ret
          exact ⟨rfl, HB5.out⟩
        case pos =>
          have CL1 : Hid (Calls Tryz.prog 13 #[.slice A3 k c3, .int .i64 nx] wr fun e w' => ∃ tb, e = .returned (.tuple #[.pointer (some ⟨tb, 0, none⟩), .int .i64 0]) ∧ Tab w' wr.heap.size tb (2 * k) (loadT nx ((rs.map RM.e).map RE.norm)) ∧ Below wr.heap.size wr w') :=
            CL.out.mono fun _ _ h => by
              rcases h with ⟨h, _⟩ | ⟨_, h⟩
              · exact absurd hgood h
              · rw [hlen] at h; exact h
          have CR1 : Hid (∀ wy, Below wr.heap.size wr wy → Calls Tryz.prog 14 #[.slice A k c, .int .i64 nx] wy fun e w' => ∃ v' LA ln lc NA nn nc rs', e = .returned (.tuple #[.agg v', .int .i64 0]) ∧ RT w' wr.heap.size (2 * k) v' (loadX nx (sortR (rs.map RM.e))) LA ln lc NA nn nc rs' ∧ Below wy.heap.size wy w') := by
            show ∀ wy, _
            intro wy hb
            obtain ⟨h1, h2⟩ := HRIN.out wy hb
            exact (rload_any A k c rs nx wr.heap.size wy hb.size h1 h2 (by omega)).mono fun _ _ h => by
              rcases h with ⟨h, _⟩ | ⟨_, h⟩
              · exact absurd hgood h
              · rw [hlen] at h; exact h
          have hsim := sim_load hgood (fun e he => by
            obtain ⟨r, hr, rfl⟩ := List.mem_map.1 he
            exact (HIN.out r hr).2.2)
          have HSIM := Lib.hid hsim
          clear hgood hlen CL hsim
          generalize loadT nx ((rs.map RM.e).map RE.norm) = T0 at *
          generalize loadX nx (sortR (rs.map RM.e)) = x0 at *
          go_wp2_with (go_at_call 13; refine CL1.out.mono ?_; rintro en w3 ⟨tb, rfl, hT3, hb3⟩; refine Hid.out ?_)
          refine Lib.hid ?_
          have HB3 := Lib.hid hb3
          have HT3 := Lib.hid hT3
          have CR2 := Lib.hid (CR1.out w3 hb3)
          clear hb3 hT3 CR1 CL1
          go_wp2_with (go_at_call 14; refine CR2.out.mono ?_; rintro en w4 ⟨v4, LA, ln, lc, NA, nn, nc, rs4, rfl, hR4, hb4⟩; refine Hid.out ?_)
          refine Lib.hid ?_
          have hv4 := hR4.val
          subst hv4
          have hs4 := hb4.size
          have HB4 := Lib.hid (HBW.out.trans ((HB3.out.trans (hb4.mono HB3.out.size)).mono HBW.out.size))
          have hs3 := HB3.out.size
          have st4 := run_st32 (Blk.new w4 32 zero32) rfl hR4.shape.1 hR4.shape.2
          have hb5 : Below w4.heap.size w4 ((w4.alloc (.cells zero32 32)).setRow w4.heap.size #[.slice LA ln lc, .slice NA nn nc, .int .i64 x0.next]) := ((Below.refl _ _).alloc (Nat.le_refl _) _).trans (grown_below (setRow_gby _ _ _) (by simp) (fun k hk => by injection hk with hk; omega))
          have k5 : Blk ((w4.alloc (.cells zero32 32)).setRow w4.heap.size #[.slice LA ln lc, .slice NA nn nc, .int .i64 x0.next]) w4.heap.size 32 #[.slice LA ln lc, .slice NA nn nc, .int .i64 x0.next] := setRow_blk (Blk.new w4 32 zero32) _
          have HR5 := Lib.hid (hR4.below hb5 (by omega))
          have HT5 := Lib.hid (HT3.out.keepsBox (hb4.trans (hb5.mono hs4)))
          have HB5 := Lib.hid (HB4.out.trans (hb5.mono HB4.out.size))
          have K5 := Lib.hid k5
          have hs5 := hb5.size
          clear hb4 hR4 hb5 k5 HT3
          go_upto_region 15 with fail
          generalize (w4.alloc (.cells zero32 32)).setRow w4.heap.size #[.slice LA ln lc, .slice NA nn nc, .int .i64 x0.next] = w5 at *
          have hlow5 : wr.heap.size ≤ w5.heap.size := by omega
          have CSM := Lib.hid (same_any HT5.out HR5.out HSIM.out hlow5 (by omega) (by omega))
          have q0 : w5.cell? ⟨w4.heap.size, 0, none⟩ = some (.slice LA ln lc) := (K5.out.cell 0).trans rfl
          have q1 : w5.cell? ⟨w4.heap.size, 1, none⟩ = some (.slice NA nn nc) := (K5.out.cell 1).trans rfl
          have q2 : w5.cell? ⟨w4.heap.size, 2, none⟩ = some (.int .i64 x0.next) := (K5.out.cell 2).trans rfl
          clear st4
          go_wp2_with (go_at_call 16; refine CSM.out.mono ?_; rintro en w6 ⟨rfl, hb6⟩; refine Hid.out ?_)
          refine Lib.hid ?_
          have hs6 := hb6.size
          have hpl : PlW W w6 wr.heap.size tb w4.heap.size 6 := by
            refine ⟨HB5.out.trans (hb6.mono HB5.out.size), by omega, T0, x0, LA, ln, lc, NA, nn, nc, rs4, K5.out.below hb6 K5.out.lt, ?_, ?_, HSIM.out.more (by omega)⟩
            · exact (HT5.out.keepsBox hb6).mono (by omega)
            · exact (HR5.out.below hb6 hlow5).mono (by omega)
          have HPL := Lib.hid hpl
          have hpr2 : PR W W.heap.size 25 A2 n2 (l.flatMap ActS.cells) := PR.of_old HRD2.out (Nat.le_refl _)
          obtain ⟨hl2, hrow2⟩ := hpr2.row ActS.cells_len (by decide)
          have HL2 := Lib.hid hl2
          have HROW2 := Lib.hid hrow2
          have hWs : W.heap.size ≤ wr.heap.size := hwr
          have hWg : W.heap.size ≤ w4.heap.size := by omega
          clear hpl hb6 hpr2 hl2 hrow2 q0 q1 q2 CSM K5 HB5 HR5 HT5 HB4 HB3 hs3 hs4 hs5 hlow5 hs6 HSIM CR2 HRIN
          generalize hg5 : w4.heap.size = g5 at *
          generalize hbs : wr.heap.size = base at *
          clear hg5 hbs
          go_wp2_with fail
          go_loopw [93] (fun i wr2 => ∃ j : Nat, j ≤ n2 ∧ i = .int .i64 j ∧ PlW W wr2 base tb g5 (j + 6)) (fun i _ => n2 - (intOf i).toNat)
          case atStart => exact ⟨0, Nat.zero_le _, rfl, HPL.out⟩
          case round =>
            obtain ⟨j, hj, rfl, hp⟩ := hrel
            obtain ⟨hbr, hlow, T, x, LA, ln, lc, NA, nn, nc, rs, hk5, hT, hR, hS⟩ := hp
            have HBR := Lib.hid hbr
            have K5 := Lib.hid hk5
            have HT := Lib.hid hT
            have HR := Lib.hid hR
            have HS := Lib.hid hS
            have hg5 := hk5.lt
            have hWr := hbr.size
            clear hbr hk5 hT hR hS
            by_cases hlt : j < n2
            · have hjl : j < l.length := by have := HL2.out; omega
              obtain ⟨b, o, rfl, hbl, hra⟩ := HROW2.out j hjl
              have hao := HOK.out l[j] (List.getElem_mem hjl)
              have haf := HFEW.out l[j] (List.getElem_mem hjl)
              generalize l[j] = a at *
              have HAO := Lib.hid hao
              have HRA : Hid (wr.rangeAt b (o + j * 25) a.cells) := fun i v hv => (HBR.out.cell (p := ⟨b, o + j * 25 + i, none⟩) hbl).trans (hra i v hv)
              have CD : Hid (∀ wy, Below wr.heap.size wr wy → Calls Tryz.prog 15 #[.pointer (some ⟨tb, 0, none⟩), .agg #[.slice LA ln lc, .slice NA nn nc, .int .i64 x.next], .agg a.cs] wy (DoPost base tb (4 * (j + 6)) (j + 6) wy)) := by
                show ∀ wy, Below wr.heap.size wr wy → _
                intro wy hb
                have hbW := HBR.out.trans (hb.mono hWr)
                refine do_any (HT.out.keepsBox hb) (HR.out.below hb hlow) HS.out (by have := hb.size; omega) (by omega) (by omega) a ⟨?_, HAO.out.nc, HAO.out.fits, HAO.out.obj, HAO.out.kd, HAO.out.id⟩ haf
                exact HAO.out.keys.below hbW hWs
              have hI : (Tryz.prog.info? 47).map (·.size) = some a.cs.size := size47
              have hS : 25 = a.cs.size := rfl
              generalize hcs : a.cs = cs at *
              have HI := Lib.hid hI
              have HSS := Lib.hid hS
              have H1 : Hid (cs.all (·.oneCell') = true) := by show cs.all (·.oneCell') = true; rw [← hcs]; exact a.one
              have HRA2 : Hid (wr.rangeAt b (o + j * 25) cs.toList) := by show wr.rangeAt b (o + j * 25) cs.toList; rw [← hcs]; exact HRA.out
              have HIL : Hid ((Tryz.prog.info? 47).map (·.size) = some cs.toList.length) := by show (Tryz.prog.info? 47).map (·.size) = some cs.toList.length; rw [← hcs]; exact size47
              clear hra hao hI hS hcs HRA
              have i1 : (0 : Int) ≤ (j : Int) := by omega
              have i2 : (j : Int) < (n2 : Int) := by omega
              go_upto_region 22 with first
                | (refine wpList_load_mid rfl 47 _ rfl b (o + j * 25) rfl cs.toList _ HRA2.out Tryz.underlying47 rfl HIL.out ?_; rw [show cs.toList.toArray = cs from by simp])
                | (refine wpList_store_row rfl 47 _ _ rfl wr.heap.size cs rfl rfl 47 _ (Blk.new wr 47 _) HI.out HSS.out H1.out ?_)
              rw [World.setRow_alloc_new]
              have hbx : Below wr.heap.size wr (wr.alloc (.cells cs 47)) := (Below.refl _ _).alloc (Nat.le_refl _) _
              have kx : Blk (wr.alloc (.cells cs 47)) wr.heap.size 47 cs := Blk.new _ _ _
              generalize wr.alloc (.cells cs 47) = wx at *
              have KX := Lib.hid kx
              have HBX := Lib.hid hbx
              have K5x := Lib.hid (K5.out.below hbx hg5)
              have hsx := kx.lt
              have HIX := HI
              clear hbx kx HI HSS H1 HRA2 HIL
              go_wp2_with first
                | (refine wpList_load_row rfl 32 _ rfl g5 rfl 32 #[.slice LA ln lc, .slice NA nn nc, .int .i64 x.next] (0, 0) _ K5x.out Tryz.underlying32 rfl size32 ?_)
                | (refine wpList_load_row rfl 47 _ rfl wr.heap.size rfl 47 cs (0, 0) _ KX.out Tryz.underlying47 rfl HIX.out ?_)
              refine (CD.out wx HBX.out).mono ?_
              rintro en w6 ⟨v6, LA6, ln6, lc6, NA6, nn6, nc6, rs6, T6, x6, rfl, hk6, hT6, hR6, hS6⟩
              have hv6 := hR6.val
              subst hv6
              have HK6 := Lib.hid hk6
              have HT6 := Lib.hid hT6
              have HR6 := Lib.hid hR6
              have HS6 := Lib.hid hS6
              have K56 := Lib.hid (K5x.out.keeps hk6 (by decide) (by decide) (by decide) (by decide))
              have hs6 := hk6.below.size
              have st6 := run_st32 (Blk.new w6 32 zero32) rfl hR6.shape.1 hR6.shape.2
              clear hk6 hT6 hR6 hS6 CD
              go_upto_region 23 with fail
              have hb7 : Below w6.heap.size w6 ((w6.alloc (.cells zero32 32)).setRow w6.heap.size #[.slice LA6 ln6 lc6, .slice NA6 nn6 nc6, .int .i64 x6.next]) := ((Below.refl _ _).alloc (Nat.le_refl _) _).trans (grown_below (setRow_gby _ _ _) (by simp) (fun k hk => by injection hk with hk; omega))
              have k7 : Blk ((w6.alloc (.cells zero32 32)).setRow w6.heap.size #[.slice LA6 ln6 lc6, .slice NA6 nn6 nc6, .int .i64 x6.next]) w6.heap.size 32 #[.slice LA6 ln6 lc6, .slice NA6 nn6 nc6, .int .i64 x6.next] := setRow_blk (Blk.new w6 32 zero32) _
              generalize (w6.alloc (.cells zero32 32)).setRow w6.heap.size #[.slice LA6 ln6 lc6, .slice NA6 nn6 nc6, .int .i64 x6.next] = w7 at *
              have K7 := Lib.hid k7
              have K57 := Lib.hid (K56.out.below hb7 K56.out.lt)
              have hlow6 : base ≤ w6.heap.size := by omega
              have HT7 := Lib.hid (HT6.out.keepsBox hb7)
              have HR7 := Lib.hid (HR6.out.below hb7 hlow6)
              have hbWx := HBR.out.trans (HBX.out.mono hWr)
              have hbW6 : Below W.heap.size W w6 := hbWx.trans (HK6.out.below.mono hWs)
              have HBW7 := Lib.hid (hbW6.trans (hb7.mono hbW6.size))
              have hs7 := k7.lt
              have st7 := run_st32 K57.out rfl HR6.out.shape.1 HR6.out.shape.2
              clear hb7 k7 st6 hbWx hbW6
              go_upto_region 24 with (refine wpList_load_row rfl 32 _ rfl w6.heap.size rfl 32 #[.slice LA6 ln6 lc6, .slice NA6 nn6 nc6, .int .i64 x6.next] (0, 0) _ K7.out Tryz.underlying32 rfl size32 ?_)
              have hg8 := setRow_gby w7 g5 #[.slice LA6 ln6 lc6, .slice NA6 nn6 nc6, .int .i64 x6.next]
              have k8 := setRow_blk K57.out #[.slice LA6 ln6 lc6, .slice NA6 nn6 nc6, .int .i64 x6.next]
              have hT8 := HT7.out.put K57.out hg8 (by decide) (by decide) (by decide) (by decide) (by decide) (by decide)
              have hR8 := HR7.out.put3b (A1 := LA) (n1 := ln) (c1 := lc) (A2 := NA) (n2 := nn) (c2 := nc) (i3 := x.next) K57.out #[.slice LA6 ln6 lc6, .slice NA6 nn6 nc6, .int .i64 x6.next]
              have hb8 : Below W.heap.size W (w7.setRow g5 #[.slice LA6 ln6 lc6, .slice NA6 nn6 nc6, .int .i64 x6.next]) := HBW7.out.trans (grown_below hg8 HBW7.out.size (fun k hk => by injection hk with hk; omega))
              have hs8 := hg8.size
              generalize w7.setRow g5 #[.slice LA6 ln6 lc6, .slice NA6 nn6 nc6, .int .i64 x6.next] = w8 at *
              have K8 := Lib.hid k8
              have HT8 := Lib.hid hT8
              have HR8 := Lib.hid hR8
              have HB8 := Lib.hid hb8
              have hlow8 : base ≤ w8.heap.size := by omega
              have CSM := Lib.hid (same_any hT8 hR8 HS6.out hlow8 (by omega) (by omega))
              have q0 : w8.cell? ⟨g5, 0, none⟩ = some (.slice LA6 ln6 lc6) := (k8.cell 0).trans rfl
              have q1 : w8.cell? ⟨g5, 1, none⟩ = some (.slice NA6 nn6 nc6) := (k8.cell 1).trans rfl
              have q2 : w8.cell? ⟨g5, 2, none⟩ = some (.int .i64 x6.next) := (k8.cell 2).trans rfl
              clear hg8 k8 hT8 hR8 hb8 st7
              go_wp2_with fail
              refine CSM.out.mono ?_
              rintro en w9 ⟨rfl, hb9⟩
              have HB9 := Lib.hid (HB8.out.trans (hb9.mono HB8.out.size))
              have HPL9 : Hid (PlW W w9 base tb g5 (j + 1 + 6)) := by
                refine ⟨HB9.out, by have := hb9.size; omega, T6, x6, LA6, ln6, lc6, NA6, nn6, nc6, rs6, K8.out.below hb9 K8.out.lt, ?_, ?_, HS6.out⟩
                · have := HT8.out.keepsBox hb9
                  exact this.mono (by omega)
                · exact (HR8.out.below hb9 hlow8).mono (by omega)
              clear hb9 q0 q1 q2 CSM
              go_wp2_with fail
              go_roundw
              case rel => exact ⟨j + 1, by omega, by go_num, HPL9.out⟩
              case measure => simp [intOf]; omega
            · obtain rfl : j = n2 := by omega
              go_wp2_with fail
              go_ret
              exact ⟨rfl, HBR.out⟩
end Go.Proofs.YtoaiamgcegnjjaaGreatDoor
