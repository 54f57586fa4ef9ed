/- Set.Less, the other set empty or one span. No condition but on lengths. -/
import Derived.Test.YtoaiamgcegnjjaaGreatDoorMJ
import Derived.Deep.CutBlock
namespace Go.Proofs.YtoaiamgcegnjjaaGreatDoor
open Go.RowKit Go.Maps Go.WideMaps Go.Sort
set_option maxRecDepth 100000

structure LsW (w wr : World) (l : List (Int × Int)) (s : Int × Int) (v1 v2 : Value) (k j : Nat) (A : Option Addr) (c : Nat) : Prop where
  cap : ((l.take k).flatMap (cutS s)).length ≤ c
  own : wr.ownsRow (w.heap.size + 3) 41 2 (.slice A ((l.take k).flatMap (cutS s)).length c) ((l.take k).flatMap (cutS s)).length (spanCells ((l.take k).flatMap (cutS s)))
  below : Below w.heap.size w wr
  b0 : Blk wr w.heap.size 95 #[v1]
  b1 : Blk wr (w.heap.size + 1) 95 #[v2]
  b2 : Blk wr (w.heap.size + 1 + 1) 95 #[.slice none 0 0]
  jj : j = 0 ∨ (j = 1 ∧ ∀ q (hq : q < l.length), k ≤ q → s.2 ≤ l[q].1)

theorem cut_len (s x : Int × Int) : (cutS s x).length ≤ 2 := by unfold cutS; split <;> (try split) <;> (try split) <;> simp
theorem cuts_len (s : Int × Int) : ∀ l : List (Int × Int), (l.flatMap (cutS s)).length ≤ 2 * l.length
  | [] => by simp
  | x :: r => by
    have := cuts_len s r
    have := cut_len s x
    simp only [List.flatMap_cons, List.length_append, List.length_cons]
    omega

structure MidW (w wy : World) (out pre : List (Int × Int)) (x s : Int × Int) (a : Int) (v1 v2 : Value) (gx : Nat) (B : Option Addr) (d : Nat) : Prop where
  cap : (out ++ pre).length ≤ d
  own : wy.ownsRow (w.heap.size + 3) 41 2 (.slice B (out ++ pre).length d) (out ++ pre).length (spanCells (out ++ pre))
  below : Below w.heap.size w wy
  b0 : Blk wy w.heap.size 95 #[v1]
  b1 : Blk wy (w.heap.size + 1) 95 #[v2]
  b2 : Blk wy (w.heap.size + 1 + 1) 95 #[.slice none 0 0]
  box : Blk wy gx 41 #[.int .i64 x.1, .int .i64 x.2]
  few : pre.length ≤ 1
  cut : pre ++ (if a < x.2 then [(a, x.2)] else []) = cutS s x
theorem cut_pass {s x : Int × Int} (hx : x.1 < x.2) (h : s.2 ≤ x.1 ∨ x.2 ≤ s.1) : [] ++ (if x.1 < x.2 then [(x.1, x.2)] else []) = cutS s x := by
  unfold cutS
  rw [if_pos hx, if_pos h]
  rfl
theorem cut_mid {s x : Int × Int} (h1 : ¬ s.2 ≤ x.1) (h2 : s.1 < x.2) : (if x.1 < s.1 then [(x.1, s.1)] else []) ++ (if max x.1 s.2 < x.2 then [(max x.1 s.2, x.2)] else []) = cutS s x := by
  unfold cutS
  have hc : ¬ (s.2 ≤ x.1 ∨ x.2 ≤ s.1) := by omega
  simp only [if_neg hc]
  rw [show max x.1 s.2 = s.2 by omega]

set_option maxHeartbeats 2000000 in
theorem less_one (A : Option Addr) (n c : Nat) (l : List (Int × Int)) (A2 : Option Addr) (c2 : Nat) (s : Int × Int) (w : World) (h : Rd w w.heap.size 2 A n (spanCells l)) (h2 : Rd w w.heap.size 2 A2 1 (spanCells [s])) (hn : n ≤ 2000) (hs : s.1 < s.2) (hnorm : Norm l) :
    Calls Tryz.prog 93 #[.agg #[.slice A n c], .agg #[.slice A2 1 c2]] w fun e w' => (∃ A' c', e = .returned (.agg #[.slice A' (lessS l s).length c']) ∧ w'.ownsRow w.heap.size 41 2 (.slice A' (lessS l s).length c') (lessS l s).length (spanCells (lessS l s)) ∧ (lessS l s).length ≤ c') ∧ Below w.heap.size w w' := by
  obtain ⟨i0, hi0, hz0, hz1, hz2⟩ := info_parts info41
  have HL1 := Lib.hid h.span.1
  have HR1 := Lib.hid h
  have HR2 := Lib.hid h2
  have HNM := Lib.hid hnorm
  clear h h2 hnorm
  have hb0 : Below w.heap.size w (((w.alloc (.cells #[.slice A n c] 95)).alloc (.cells #[.slice A2 1 c2] 95)).alloc (.cells #[.slice none 0 0] 95)) := (((Below.refl _ _).alloc (Nat.le_refl _) _).alloc (by simp) _).alloc (by simp; omega) _
  have k0 : Blk (((w.alloc (.cells #[.slice A n c] 95)).alloc (.cells #[.slice A2 1 c2] 95)).alloc (.cells #[.slice none 0 0] 95)) w.heap.size 95 #[.slice A n c] := ((Blk.new w 95 _).alloc _).alloc _
  have k1 : Blk (((w.alloc (.cells #[.slice A n c] 95)).alloc (.cells #[.slice A2 1 c2] 95)).alloc (.cells #[.slice none 0 0] 95)) (w.heap.size + 1) 95 #[.slice A2 1 c2] := (new2 w _ 95 _).alloc _
  have k2 : Blk (((w.alloc (.cells #[.slice A n c] 95)).alloc (.cells #[.slice A2 1 c2] 95)).alloc (.cells #[.slice none 0 0] 95)) (w.heap.size + 1 + 1) 95 #[.slice none 0 0] := by
    have := new2 (w.alloc (.cells #[.slice A n c] 95)) (.cells #[.slice A2 1 c2] 95) 95 #[.slice none 0 0]
    simpa using this
  go_enter Tryz.func93, Tryz.ntmps93
  go_upto_region 1 with fail
  generalize ((w.alloc (.cells #[.slice A n c] 95)).alloc (.cells #[.slice A2 1 c2] 95)).alloc (.cells #[.slice none 0 0] 95) = w0 at *
  have hst : LsW w w0 l s (.slice A n c) (.slice A2 1 c2) 0 0 none 0 := ⟨by simp, by simpa [spanCells] using World.ownsRow_nil w0 _ 41 2, hb0, k0, k1, k2, .inl rfl⟩
  have HST := Lib.hid hst
  have c0 : w0.cell? ⟨w.heap.size, 0, none⟩ = some (.slice A n c) := (k0.cell 0).trans rfl
  have c1 : w0.cell? ⟨w.heap.size + 1, 0, none⟩ = some (.slice A2 1 c2) := (k1.cell 0).trans rfl
  clear hst hb0 k0 k1 k2
  go_wp2_with fail
  go_loopw [5, 6, 14] (fun v j i wr => ∃ (k q : Nat) (B : Option Addr) (d : Nat), k ≤ n ∧ i = .int .i64 k ∧ j = .int .i64 q ∧ v = .slice B ((l.take k).flatMap (cutS s)).length d ∧ LsW w wr l s (.slice A n c) (.slice A2 1 c2) k q B d) (fun _ _ i _ => n - (intOf i).toNat)
  case atStart => exact ⟨0, 0, none, 0, Nat.zero_le _, rfl, rfl, rfl, HST.out⟩
  case round =>
    obtain ⟨k, q, B, d, hk, rfl, rfl, rfl, hls⟩ := hrel
    have e1 : wr.cell? ⟨w.heap.size + 1, 0, none⟩ = some (.slice A2 1 c2) := (hls.b1.cell 0).trans rfl
    have hszr := hls.b2.lt
    have HO := Lib.hid hls
    clear hls HST c0 c1
    by_cases hlt : k < n
    · have hk' : k < l.length := by have := HL1.out; omega
      obtain ⟨b1, o1, rfl, hb1, x0, x1⟩ := (HR1.out.below HO.out.below (Nat.le_refl _)).span.2 k hk'
      have hxn : (l[k]).1 < (l[k]).2 := (NormAt.above HNM.out _ (List.getElem_mem hk')).2
      have hsn : (l.take (k + 1)).flatMap (cutS s) = (l.take k).flatMap (cutS s) ++ cutS s l[k] := by rw [List.take_succ_eq_append_getElem hk', List.flatMap_append]; simp
      have hol : ((l.take k).flatMap (cutS s)).length ≤ 2 * k := by have h1 := cuts_len s (l.take k); have h2 : (l.take k).length ≤ k := List.length_take_le _ _; omega
      have hrest : s.2 ≤ (l[k]).1 → ∀ q (hq : q < l.length), k + 1 ≤ q → s.2 ≤ l[q].1 := fun h q hq hkq => by
        have := List.pairwise_iff_getElem.1 (norm_sorted HNM.out) k q hk' hq (by omega)
        omega
      have hjj : (q = 0) ∨ (q = 1 ∧ s.2 ≤ (l[k]).1) := by
        rcases HO.out.jj with h | ⟨h, h'⟩
        · exact .inl h
        · exact .inr ⟨h, h' k hk' (Nat.le_refl _)⟩
      have own1 := HO.out.own.alloc (.cells #[.int .i64 (l[k]).1, .int .i64 (l[k]).2] 41)
      have hb2 : Below w.heap.size w (wr.alloc (.cells #[.int .i64 (l[k]).1, .int .i64 (l[k]).2] 41)) := HO.out.below.alloc HO.out.below.size _
      have hbk : Blk (wr.alloc (.cells #[.int .i64 (l[k]).1, .int .i64 (l[k]).2] 41)) wr.heap.size 41 #[.int .i64 (l[k]).1, .int .i64 (l[k]).2] := Blk.new _ _ _
      have kk0 := HO.out.b0.alloc (.cells #[.int .i64 (l[k]).1, .int .i64 (l[k]).2] 41)
      have kk1 := HO.out.b1.alloc (.cells #[.int .i64 (l[k]).1, .int .i64 (l[k]).2] 41)
      have kk2 := HO.out.b2.alloc (.cells #[.int .i64 (l[k]).1, .int .i64 (l[k]).2] 41)
      have hcap := HO.out.cap
      have hltb := HO.out.own.lt
      have HSN := Lib.hid hsn
      have HREST := Lib.hid hrest
      have HJJ := Lib.hid hjj
      have HLTB := Lib.hid hltb
      clear hsn hrest hjj hltb HO
      generalize hout : (l.take k).flatMap (cutS s) = out at *
      have HOUT := Lib.hid hout
      clear hout
      generalize hx : l[k] = x at *
      have HX := Lib.hid hx
      clear hx
      go_upto_region 6 with fail
      generalize wr.alloc (.cells #[.int .i64 x.1, .int .i64 x.2] 41) = wx at *
      obtain ⟨b2, o2, rfl, hb22, s0, s1⟩ := (HR2.out.below hb2 (Nat.le_refl _)).span.2 0 (by simp)
      have s0 : wx.cell? ⟨b2, o2, none⟩ = some (.int .i64 s.1) := s0
      have s1 : wx.cell? ⟨b2, o2 + 1, none⟩ = some (.int .i64 s.2) := s1
      have y0 : wx.cell? ⟨wr.heap.size, 0, none⟩ = some (.int .i64 x.1) := (hbk.cell 0).trans rfl
      have y1 : wx.cell? ⟨wr.heap.size, 1, none⟩ = some (.int .i64 x.2) := (hbk.cell 1).trans rfl
      have t1 : wx.cell? ⟨w.heap.size + 1, 0, none⟩ = some (.slice (some ⟨b2, o2, none⟩) 1 c2) := (kk1.cell 0).trans rfl
      have OWN1 := Lib.hid own1
      have HB2 := Lib.hid hb2
      have HBK := Lib.hid hbk
      have KK0 := Lib.hid kk0
      have KK1 := Lib.hid kk1
      have KK2 := Lib.hid kk2
      have hszx := hbk.lt
      clear own1 hb2 hbk kk0 kk1 kk2 x0 x1 e1
      go_upto_block 2 with fail
      go_cut [6] (fun j wy => wy = wx ∧ ((j = .int .i64 1 ∧ s.2 ≤ x.1) ∨ (j = .int .i64 0 ∧ ¬ s.2 ≤ x.1)))
      case first =>
        rcases HJJ.out with rfl | ⟨rfl, hjs⟩
        · by_cases hjs : s.2 ≤ x.1
          · go_wp2_with fail
            refine wp_loop_rounds 2 ?_
            rw [rounds_succ]
            go_wp2_with fail
            rw [rounds_succ]
            go_wp2_with fail
            go_meet
            exact ⟨rfl, .inl ⟨rfl, hjs⟩⟩
          · go_wp2_with fail
            refine wp_loop_rounds 1 ?_
            rw [rounds_succ]
            go_wp2_with fail
            go_meet
            exact ⟨rfl, .inr ⟨rfl, hjs⟩⟩
        · go_wp2_with fail
          refine wp_loop_rounds 1 ?_
          rw [rounds_succ]
          go_wp2_with fail
          go_meet
          exact ⟨rfl, .inl ⟨rfl, hjs⟩⟩
      case rest =>
        obtain ⟨rfl, hj⟩ := hcut
        generalize wc = wv at *
        have HJ := Lib.hid hj
        clear hj HJJ
        go_upto_block 4 with fail
        go_cut [5, 9, 10] (fun v at_ _ wy => ∃ (pre : List (Int × Int)) (a : Int) (B' : Option Addr) (d' : Nat), v = .slice B' (out ++ pre).length d' ∧ at_ = .int .i64 a ∧ MidW w wy out pre x s a (.slice (some ⟨b1, o1, none⟩) n c) (.slice (some ⟨b2, o2, none⟩) 1 c2) wr.heap.size B' d')
        case first =>
          have same : ∀ q0, (s.2 ≤ x.1 ∨ x.2 ≤ s.1) → MidW w (wv.drewN q0) out [] x s x.1 (.slice (some ⟨b1, o1, none⟩) n c) (.slice (some ⟨b2, o2, none⟩) 1 c2) wr.heap.size B d := fun q0 h =>
            ⟨by simpa using hcap, by rw [List.append_nil]; exact OWN1.out, below_drewN HB2.out _, KK0.out, KK1.out, KK2.out, HBK.out, by simp, cut_pass hxn h⟩
          have SAME := Lib.hid same
          clear same
          rcases HJ.out with ⟨rfl, hjs⟩ | ⟨rfl, hjs⟩
          · go_wp2_with fail
            refine wp_loop_rounds 1 ?_
            rw [rounds_succ]
            go_wp2_with fail
            go_quiet (fail)
            go_wp2_with fail
            go_meet
            exact ⟨[], x.1, B, d, by simp, rfl, SAME.out _ (.inl hjs)⟩
          · by_cases hsx : s.1 < x.2
            · have d1 : decide (s.1 < x.2) = true := decide_eq_true hsx
              have CUT := Lib.hid (cut_mid hjs hsx)
              go_wp2_with fail
              refine wp_loop_rounds 2 ?_
              rw [rounds_succ]
              go_wp2_with fail
              go_quiet (fail)
              have own2 : (wv.drewN nq).ownsRow (w.heap.size + 3) 41 2 (.slice B out.length d) out.length (spanCells out) := OWN1.out
              have hbel : Below w.heap.size w (wv.drewN nq) := below_drewN HB2.out _
              have bb0 : Blk (wv.drewN nq) w.heap.size 95 #[.slice (some ⟨b1, o1, none⟩) n c] := KK0.out
              have bb1 : Blk (wv.drewN nq) (w.heap.size + 1) 95 #[.slice (some ⟨b2, o2, none⟩) 1 c2] := KK1.out
              have bb2 : Blk (wv.drewN nq) (w.heap.size + 1 + 1) 95 #[.slice none 0 0] := KK2.out
              have bbx : Blk (wv.drewN nq) wr.heap.size 41 #[.int .i64 x.1, .int .i64 x.2] := HBK.out
              have ss0 : (wv.drewN nq).cell? ⟨b2, o2, none⟩ = some (.int .i64 s.1) := s0
              have ss1 : (wv.drewN nq).cell? ⟨b2, o2 + 1, none⟩ = some (.int .i64 s.2) := s1
              generalize wv.drewN nq = w2 at *
              have tt1 : w2.cell? ⟨w.heap.size + 1, 0, none⟩ = some (.slice (some ⟨b2, o2, none⟩) 1 c2) := (bb1.cell 0).trans rfl
              have hsz2 := bbx.lt
              have HBE := Lib.hid hbel
              have BB0 := Lib.hid bb0
              have BB1 := Lib.hid bb1
              have BB2 := Lib.hid bb2
              have BBX := Lib.hid bbx
              have OWN2 := Lib.hid own2
              clear own2 hbel bb0 bb1 bb2 bbx s0 s1 y0 y1 t1 d1
              by_cases hxs : x.1 < s.1
              · have own3 : (w2.alloc (.cells #[.int .i64 x.1, .int .i64 s.1] 41)).ownsRow (w.heap.size + 3) 41 2 (.slice B out.length d) out.length (spanCells out) := OWN2.out.alloc _
                have rd3 : Rd (w2.alloc (.cells #[.int .i64 x.1, .int .i64 s.1] 41)) (w2.alloc (.cells #[.int .i64 x.1, .int .i64 s.1] 41)).heap.size 2 (some ⟨w2.heap.size, 0, none⟩) 1 (spanCells [(x.1, s.1)]) := (Blk.new w2 41 _).rd
                have OWN3 := Lib.hid own3
                have RD3 := Lib.hid rd3
                clear own3 rd3
                go_wp2_with (first
                  | (refine wpList_one rfl 52 41 _ rfl w2.heap.size rfl (some 73) rfl under52 (.agg #[.int .i64 x.1, .int .i64 s.1]) rfl #[.int .i64 x.1, .int .i64 s.1] (built41 _ _) ?_)
                  | (at_builtin; refine wpList_append_rd _ rfl _ _ 52 rfl (w.heap.size + 3) 41 i0 (.agg #[.int .i64 0, .int .i64 0]) 2 16 under52 hi0 hz0 hz1 hz2 rfl (by decide) (.slice B out.length d) out.length (spanCells out) rfl OWN3.out (some ⟨w2.heap.size, 0, none⟩) 1 1 _ _ rfl RD3.out (spanCells_one [(x.1, s.1)]) (by unfold maxLen; omega) (by omega) (by simp; omega) ?_; intro A9 c9 w5 hown hgrow hnc hat; have hlow := (fun g (hg : (Value.slice B out.length d).ownBlock = some g) => (OWN3.out.lt g hg).1); have bw5 := (HBE.out.alloc HBE.out.size _).trans (grown_below hgrow (by simp; omega) (fun g hg => by have := hlow g hg; omega)); have p0 := (BB0.out.alloc _).grown hgrow (fun e => by have := hlow _ e; omega); have p1 := (BB1.out.alloc _).grown hgrow (fun e => by have := hlow _ e; omega); have p2 := (BB2.out.alloc _).grown hgrow (fun e => by have := hlow _ e; omega); have px := (BBX.out.alloc _).grown hgrow (fun e => by have := (HLTB.out _ e).2; omega); obtain ⟨z2, zo2, ze, zb, z0, z1⟩ := (HR2.out.below bw5 (Nat.le_refl _)).span.2 0 (by simp); (injection ze with ze; injection ze with ze1 ze2; subst ze1 ze2); have zz0 : w5.cell? ⟨b2, o2, none⟩ = some (.int .i64 s.1) := z0; have zz1 : w5.cell? ⟨b2, o2 + 1, none⟩ = some (.int .i64 s.2) := z1; have zt : w5.cell? ⟨w.heap.size + 1, 0, none⟩ = some (.slice (some ⟨b2, o2, none⟩) 1 c2) := (p1.cell 0).trans rfl; have BW5 := Lib.hid bw5; have P0 := Lib.hid p0; have P1 := Lib.hid p1; have P2 := Lib.hid p2; have PX := Lib.hid px; clear hlow bw5 p0 p1 p2 px z0 z1 zb; have HOW := Lib.hid hown; have HGR := Lib.hid hgrow; have HNC := Lib.hid hnc; clear hown hgrow hat hnc))
                rw [rounds_succ]
                go_wp2_with fail
                go_quiet (fail)
                go_wp2_with fail
                go_meet
                have e : (out ++ [(x.1, s.1)]).length = out.length + 1 := by simp
                refine ⟨[(x.1, s.1)], max x.1 s.2, A9, c9, by rw [e], rfl, ⟨by rw [e]; exact HNC.out, ?_, below_drewN BW5.out _, P0.out, P1.out, P2.out, PX.out, by simp, ?_⟩⟩
                · rw [e, spanCells_append]
                  exact HOW.out
                · rw [← CUT.out, if_pos hxs]
              · go_wp2_with fail
                rw [rounds_succ]
                go_wp2_with fail
                go_quiet (fail)
                go_wp2_with fail
                go_meet
                refine ⟨[], max x.1 s.2, B, d, by simp, rfl, ⟨by simpa using hcap, by rw [List.append_nil]; exact OWN2.out, below_drewN HBE.out _, BB0.out, BB1.out, BB2.out, BBX.out, by simp, ?_⟩⟩
                have h9 : ¬ x.1 < s.1 := by omega
                rw [← CUT.out]
                simp only [if_neg h9]
            · have d1 : decide (s.1 < x.2) = false := decide_eq_false hsx
              go_wp2_with fail
              refine wp_loop_rounds 1 ?_
              rw [rounds_succ]
              go_wp2_with fail
              go_quiet (fail)
              go_wp2_with fail
              go_meet
              exact ⟨[], x.1, B, d, by simp, rfl, SAME.out _ (.inr (by omega))⟩
        case rest =>
          obtain ⟨pre, a, B', d', rfl, rfl, hm⟩ := hcut
          have v1 : wc.cell? ⟨wr.heap.size, 1, none⟩ = some (.int .i64 x.2) := (hm.box.cell 1).trans rfl
          have hszc := hm.box.lt
          have hfew := hm.few
          have hopl : (out ++ pre).length ≤ 2 * k + 1 := by simp; omega
          have HM := Lib.hid hm
          have JN : Hid (∃ q : Nat, ((u6 = .int .i64 q) ∧ (q = 0 ∨ (q = 1 ∧ ∀ q (hq : q < l.length), k + 1 ≤ q → s.2 ≤ l[q].1)))) := by
            show ∃ q : Nat, ((u6 = .int .i64 q) ∧ (q = 0 ∨ (q = 1 ∧ ∀ q (hq : q < l.length), k + 1 ≤ q → s.2 ≤ l[q].1)))
            rcases HJ.out with ⟨h, h'⟩ | ⟨h, h'⟩
            · exact ⟨1, h, .inr ⟨rfl, HREST.out h'⟩⟩
            · exact ⟨0, h, .inl rfl⟩
          obtain ⟨qn, hqn, hjn⟩ := JN.out
          subst hqn
          have HJN := Lib.hid hjn
          clear hm hjn JN HJ
          generalize wc = w2 at *
          by_cases hax : a < x.2
          · have own3 : (w2.alloc (.cells #[.int .i64 a, .int .i64 x.2] 41)).ownsRow (w.heap.size + 3) 41 2 (.slice B' (out ++ pre).length d') (out ++ pre).length (spanCells (out ++ pre)) := HM.out.own.alloc _
            have rd3 : Rd (w2.alloc (.cells #[.int .i64 a, .int .i64 x.2] 41)) (w2.alloc (.cells #[.int .i64 a, .int .i64 x.2] 41)).heap.size 2 (some ⟨w2.heap.size, 0, none⟩) 1 (spanCells [(a, x.2)]) := (Blk.new w2 41 _).rd
            have OWN3 := Lib.hid own3
            have RD3 := Lib.hid rd3
            clear own3 rd3
            go_wp2_with (first
            | (refine wpList_one rfl 52 41 _ rfl w2.heap.size rfl (some 92) rfl under52 (.agg #[.int .i64 a, .int .i64 x.2]) rfl #[.int .i64 a, .int .i64 x.2] (built41 _ _) ?_)
            | (at_builtin; refine wpList_append_rd _ rfl _ _ 52 rfl (w.heap.size + 3) 41 i0 (.agg #[.int .i64 0, .int .i64 0]) 2 16 under52 hi0 hz0 hz1 hz2 rfl (by decide) (.slice B' (out ++ pre).length d') (out ++ pre).length (spanCells (out ++ pre)) rfl OWN3.out (some ⟨w2.heap.size, 0, none⟩) 1 1 _ _ rfl RD3.out (spanCells_one [(a, x.2)]) (by unfold maxLen; omega) (by omega) (by simp; omega) ?_; intro A9 c9 w5 hown hgrow hnc hat; have HOW := Lib.hid hown; have HGR := Lib.hid hgrow; have HNC := Lib.hid hnc; clear hown hgrow hat hnc))
            go_roundw
            case rel =>
              have hlow := fun g (hg : (Value.slice B' (out ++ pre).length d').ownBlock = some g) => (OWN3.out.lt g hg).1
              have hcut := HM.out.cut
              rw [if_pos hax] at hcut
              have e : (l.take (k + 1)).flatMap (cutS s) = (out ++ pre) ++ [(a, x.2)] := by rw [HSN.out, ← hcut, List.append_assoc]
              have el : ((out ++ pre) ++ [(a, x.2)]).length = (out ++ pre).length + 1 := by rw [List.length_append]; rfl
              refine ⟨k + 1, qn, A9, c9, by omega, by go_num, rfl, by rw [e, el, List.length_append], ⟨by rw [e, el]; exact HNC.out, by rw [e, el, spanCells_append]; exact HOW.out, ?_, ?_, ?_, ?_, HJN.out⟩⟩
              · exact (HM.out.below.alloc HM.out.below.size _).trans (grown_below HGR.out (by simp; omega) (fun g hg => by have := hlow g hg; omega))
              · exact (HM.out.b0.alloc _).grown HGR.out (fun e => by have := hlow _ e; omega)
              · exact (HM.out.b1.alloc _).grown HGR.out (fun e => by have := hlow _ e; omega)
              · exact (HM.out.b2.alloc _).grown HGR.out (fun e => by have := hlow _ e; omega)
            case measure => simp [intOf]; omega
          · go_wp2_with fail
            go_roundw
            case rel =>
              have hcut := HM.out.cut
              rw [if_neg hax, List.append_nil] at hcut
              have e : (l.take (k + 1)).flatMap (cutS s) = out ++ pre := by rw [HSN.out, ← hcut]
              exact ⟨k + 1, qn, B', d', by omega, by go_num, rfl, by rw [e], ⟨by rw [e]; exact HM.out.cap, by rw [e]; exact HM.out.own, HM.out.below, HM.out.b0, HM.out.b1, HM.out.b2, HJN.out⟩⟩
            case measure => simp [intOf]; omega
    · obtain rfl : k = n := by omega
      have e : (l.take k).flatMap (cutS s) = lessS l s := by
        rw [List.take_of_length_le (by have := HL1.out; omega)]
        unfold lessS
        rw [if_pos hs]
      have kr2 := HO.out.b2
      have hown := HO.out.own
      have hcap := HO.out.cap
      rw [e] at hown hcap ⊢
      have f2 := kr2.free'
      have r0 : wr.cell? ⟨w.heap.size + 1 + 1, 0, none⟩ = some (.slice none 0 0) := (kr2.cell 0).trans rfl
      have HOW := Lib.hid hown
      have KR2 := Lib.hid kr2
      clear hown kr2 e1 hlt e
      go_wp2_with fail
      have kf := KR2.out.set 0 (.slice B (lessS l s).length d)
      refine bodyPost_ret (v := .agg #[.slice B (lessS l s).length d]) (results_cell_row Tryz.results93 _ _ (w.heap.size + 1 + 1) 95 _ (0, 0) _ rfl kf Tryz.underlying95 rfl size95) rfl ⟨⟨B, d, rfl, ?_, hcap⟩, ?_⟩
      · exact own_base (own_set HOW.out (b := w.heap.size + 1 + 1) (o := 0) (by omega) _) (by omega)
      · exact below_set HO.out.below (by omega) _
end Go.Proofs.YtoaiamgcegnjjaaGreatDoor
