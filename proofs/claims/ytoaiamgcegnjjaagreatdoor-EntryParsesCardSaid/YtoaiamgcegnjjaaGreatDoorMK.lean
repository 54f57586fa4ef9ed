/- Set.Less with no span. No condition but on lengths. Table.Fill and Lose. No condition. -/
import Derived.Test.YtoaiamgcegnjjaaGreatDoorMJ
import Derived.Test.YtoaiamgcegnjjaaGreatDoorX5
import Derived.Test.YtoaiamgcegnjjaaGreatDoorX6
import Derived.Deep.RegionLaw
namespace Go.Proofs.YtoaiamgcegnjjaaGreatDoor
open Go.RowKit Go.Maps Go.WideMaps Go.Sort
set_option maxRecDepth 100000
structure LnW (w wr : World) (l : List (Int × Int)) (v1 v2 : Value) (k : Nat) (A : Option Addr) (c : Nat) : Prop where
  cap : (l.take k).length ≤ c
  own : wr.ownsRow (w.heap.size + 3) 41 2 (.slice A (l.take k).length c) (l.take k).length (spanCells (l.take k))
  below : Below w.heap.size w wr
  b0 : Blk wr w.heap.size 95 #[v1]
  b1 : Blk wr (w.heap.size + 1) 95 #[v2]
  b2 : Blk wr (w.heap.size + 1 + 1) 95 #[.slice none 0 0]

set_option maxHeartbeats 2000000 in
theorem less_nil (A : Option Addr) (n c : Nat) (l : List (Int × Int)) (A2 : Option Addr) (c2 : Nat) (w : World) (h : Rd w w.heap.size 2 A n (spanCells l)) (hn : n ≤ 2000) (hnorm : Norm l) :
    Calls Tryz.prog 93 #[.agg #[.slice A n c], .agg #[.slice A2 0 c2]] w fun e w' => (∃ A' c', e = .returned (.agg #[.slice A' (l).length c']) ∧ w'.ownsRow w.heap.size 41 2 (.slice A' (l).length c') (l).length (spanCells (l)) ∧ (l).length ≤ c') ∧ Below w.heap.size w w' := by
  obtain ⟨i0, hi0, hz0, hz1, hz2⟩ := info_parts info41
  have HL1 := Lib.hid h.span.1
  have HR1 := Lib.hid h
  have HNM := Lib.hid hnorm
  clear h hnorm
  have hb0 : Below w.heap.size w (((w.alloc (.cells #[.slice A n c] 95)).alloc (.cells #[.slice A2 0 c2] 95)).alloc (.cells #[.slice none 0 0] 95)) := (((Below.refl _ _).alloc (Nat.le_refl _) _).alloc (by simp) _).alloc (by simp; omega) _
  have k0 : Blk (((w.alloc (.cells #[.slice A n c] 95)).alloc (.cells #[.slice A2 0 c2] 95)).alloc (.cells #[.slice none 0 0] 95)) w.heap.size 95 #[.slice A n c] := ((Blk.new w 95 _).alloc _).alloc _
  have k1 : Blk (((w.alloc (.cells #[.slice A n c] 95)).alloc (.cells #[.slice A2 0 c2] 95)).alloc (.cells #[.slice none 0 0] 95)) (w.heap.size + 1) 95 #[.slice A2 0 c2] := (new2 w _ 95 _).alloc _
  have k2 : Blk (((w.alloc (.cells #[.slice A n c] 95)).alloc (.cells #[.slice A2 0 c2] 95)).alloc (.cells #[.slice none 0 0] 95)) (w.heap.size + 1 + 1) 95 #[.slice none 0 0] := by
    have := new2 (w.alloc (.cells #[.slice A n c] 95)) (.cells #[.slice A2 0 c2] 95) 95 #[.slice none 0 0]
    simpa using this
  go_enter Tryz.func93, Tryz.ntmps93
  go_upto_region 1 with fail
  generalize ((w.alloc (.cells #[.slice A n c] 95)).alloc (.cells #[.slice A2 0 c2] 95)).alloc (.cells #[.slice none 0 0] 95) = w0 at *
  have hst : LnW w w0 l (.slice A n c) (.slice A2 0 c2) 0 none 0 := ⟨by simp, by simpa [spanCells] using World.ownsRow_nil w0 _ 41 2, hb0, k0, k1, k2⟩
  have HST := Lib.hid hst
  have c0 : w0.cell? ⟨w.heap.size, 0, none⟩ = some (.slice A n c) := (k0.cell 0).trans rfl
  have c1 : w0.cell? ⟨w.heap.size + 1, 0, none⟩ = some (.slice A2 0 c2) := (k1.cell 0).trans rfl
  clear hst hb0 k0 k1 k2
  go_wp2_with fail
  go_loopw [5, 6, 14] (fun v j i wr => ∃ (k : Nat) (B : Option Addr) (d : Nat), k ≤ n ∧ i = .int .i64 k ∧ j = .int .i64 0 ∧ v = .slice B (l.take k).length d ∧ LnW w wr l (.slice A n c) (.slice A2 0 c2) k B d) (fun _ _ i _ => n - (intOf i).toNat)
  case atStart => exact ⟨0, none, 0, Nat.zero_le _, rfl, rfl, rfl, HST.out⟩
  case round =>
    obtain ⟨k, B, d, hk, rfl, rfl, rfl, hls⟩ := hrel
    have e1 : wr.cell? ⟨w.heap.size + 1, 0, none⟩ = some (.slice A2 0 c2) := (hls.b1.cell 0).trans rfl
    have hszr := hls.b2.lt
    have HO := Lib.hid hls
    clear hls HST c0 c1
    by_cases hlt : k < n
    · have hk' : k < l.length := by have := HL1.out; omega
      obtain ⟨b1, o1, rfl, hb1, x0, x1⟩ := (HR1.out.below HO.out.below (Nat.le_refl _)).span.2 k hk'
      have hxn : (l[k]).1 < (l[k]).2 := (NormAt.above HNM.out _ (List.getElem_mem hk')).2
      have hsn : l.take (k + 1) = l.take k ++ [l[k]] := by rw [List.take_succ_eq_append_getElem hk']
      have hol : (l.take k).length = k := by simp; omega
      have own1 := HO.out.own.alloc (.cells #[.int .i64 (l[k]).1, .int .i64 (l[k]).2] 41)
      have hb2 : Below w.heap.size w (wr.alloc (.cells #[.int .i64 (l[k]).1, .int .i64 (l[k]).2] 41)) := HO.out.below.alloc HO.out.below.size _
      have hbk : Blk (wr.alloc (.cells #[.int .i64 (l[k]).1, .int .i64 (l[k]).2] 41)) wr.heap.size 41 #[.int .i64 (l[k]).1, .int .i64 (l[k]).2] := Blk.new _ _ _
      have kk0 := HO.out.b0.alloc (.cells #[.int .i64 (l[k]).1, .int .i64 (l[k]).2] 41)
      have kk1 := HO.out.b1.alloc (.cells #[.int .i64 (l[k]).1, .int .i64 (l[k]).2] 41)
      have kk2 := HO.out.b2.alloc (.cells #[.int .i64 (l[k]).1, .int .i64 (l[k]).2] 41)
      have HSN := Lib.hid hsn
      clear hsn HO
      rw [hol] at own1 ⊢
      have HOL := Lib.hid hol
      clear hol
      generalize hx : l[k] = x at *
      have HX := Lib.hid hx
      clear hx
      go_upto_region 6 with fail
      generalize wr.alloc (.cells #[.int .i64 x.1, .int .i64 x.2] 41) = wx at *
      have y0 : wx.cell? ⟨wr.heap.size, 0, none⟩ = some (.int .i64 x.1) := (hbk.cell 0).trans rfl
      have y1 : wx.cell? ⟨wr.heap.size, 1, none⟩ = some (.int .i64 x.2) := (hbk.cell 1).trans rfl
      have t1 : wx.cell? ⟨w.heap.size + 1, 0, none⟩ = some (.slice A2 0 c2) := (kk1.cell 0).trans rfl
      have OWN1 := Lib.hid own1
      have HB2 := Lib.hid hb2
      have HBK := Lib.hid hbk
      have KK0 := Lib.hid kk0
      have KK1 := Lib.hid kk1
      have KK2 := Lib.hid kk2
      have hszx := hbk.lt
      clear own1 hb2 hbk kk0 kk1 kk2 x0 x1 e1
      go_wp2_with fail
      refine wp_loop_rounds 1 ?_
      rw [rounds_succ]
      go_wp2_with fail
      refine wp_loop_rounds 1 ?_
      rw [rounds_succ]
      go_wp2_with fail
      go_quiet (fail)
      have own2 : (wx.drewN nq).ownsRow (w.heap.size + 3) 41 2 (.slice B k d) k (spanCells (l.take k)) := OWN1.out
      have hbel : Below w.heap.size w (wx.drewN nq) := below_drewN HB2.out _
      have bb0 : Blk (wx.drewN nq) w.heap.size 95 #[.slice (some ⟨b1, o1, none⟩) n c] := KK0.out
      have bb1 : Blk (wx.drewN nq) (w.heap.size + 1) 95 #[.slice A2 0 c2] := KK1.out
      have bb2 : Blk (wx.drewN nq) (w.heap.size + 1 + 1) 95 #[.slice none 0 0] := KK2.out
      have bbx : Blk (wx.drewN nq) wr.heap.size 41 #[.int .i64 x.1, .int .i64 x.2] := HBK.out
      generalize wx.drewN nq = w2 at *
      have yy1 : w2.cell? ⟨wr.heap.size, 1, none⟩ = some (.int .i64 x.2) := (bbx.cell 1).trans rfl
      have hsz2 := bbx.lt
      have own3 : (w2.alloc (.cells #[.int .i64 x.1, .int .i64 x.2] 41)).ownsRow (w.heap.size + 3) 41 2 (.slice B k d) k (spanCells (l.take k)) := own2.alloc _
      have rd3 : Rd (w2.alloc (.cells #[.int .i64 x.1, .int .i64 x.2] 41)) (w2.alloc (.cells #[.int .i64 x.1, .int .i64 x.2] 41)).heap.size 2 (some ⟨w2.heap.size, 0, none⟩) 1 (spanCells [(x.1, x.2)]) := (Blk.new w2 41 _).rd
      have OWN3 := Lib.hid own3
      have RD3 := Lib.hid rd3
      have HBE := Lib.hid hbel
      have BB0 := Lib.hid bb0
      have BB1 := Lib.hid bb1
      have BB2 := Lib.hid bb2
      clear own2 own3 rd3 hbel bb0 bb1 bb2 bbx y0 y1 t1
      go_wp2_with (first
        | (refine wpList_one rfl 52 41 _ rfl w2.heap.size rfl (some 92) rfl under52 (.agg #[.int .i64 x.1, .int .i64 x.2]) rfl #[.int .i64 x.1, .int .i64 x.2] (built41 _ _) ?_)
        | (at_builtin; refine wpList_append_rd _ rfl _ _ 52 rfl (w.heap.size + 3) 41 i0 (.agg #[.int .i64 0, .int .i64 0]) 2 16 under52 hi0 hz0 hz1 hz2 rfl (by decide) (.slice B k d) k (spanCells (l.take k)) rfl OWN3.out (some ⟨w2.heap.size, 0, none⟩) 1 1 _ _ rfl RD3.out (spanCells_one [(x.1, x.2)]) (by unfold maxLen; omega) (by omega) (by simp; omega) ?_; intro A9 c9 w5 hown hgrow hnc hat; have HOW := Lib.hid hown; have HGR := Lib.hid hgrow; have HNC := Lib.hid hnc; clear hown hgrow hat hnc))
      go_roundw
      case rel =>
        have hlow := fun g (hg : (Value.slice B k d).ownBlock = some g) => (OWN3.out.lt g hg).1
        have e : l.take (k + 1) = l.take k ++ [(x.1, x.2)] := HSN.out
        have el : (l.take k ++ [(x.1, x.2)]).length = k + 1 := by rw [List.length_append, HOL.out]; rfl
        refine ⟨k + 1, A9, c9, by omega, by go_num, rfl, by rw [e, el], ⟨by rw [e, el]; exact HNC.out, by rw [e, el, spanCells_append]; exact HOW.out, ?_, ?_, ?_, ?_⟩⟩
        · exact (HBE.out.alloc HBE.out.size _).trans (grown_below HGR.out (by simp; omega) (fun g hg => by have := hlow g hg; omega))
        · exact (BB0.out.alloc _).grown HGR.out (fun e => by have := hlow _ e; omega)
        · exact (BB1.out.alloc _).grown HGR.out (fun e => by have := hlow _ e; omega)
        · exact (BB2.out.alloc _).grown HGR.out (fun e => by have := hlow _ e; omega)
      case measure => simp [intOf]; omega
    · obtain rfl : k = n := by omega
      have e : l.take k = l := List.take_of_length_le (by have := HL1.out; omega)
      have kr2 := HO.out.b2
      have hown := HO.out.own
      have hcap := HO.out.cap
      rw [e] at hown hcap ⊢
      have f2 := kr2.free'
      have r0 : wr.cell? ⟨w.heap.size + 1 + 1, 0, none⟩ = some (.slice none 0 0) := (kr2.cell 0).trans rfl
      have HOW := Lib.hid hown
      have KR2 := Lib.hid kr2
      clear hown kr2 e1 hlt e
      go_wp2_with fail
      have kf := KR2.out.set 0 (.slice B l.length d)
      refine bodyPost_ret (v := .agg #[.slice B l.length d]) (results_cell_row Tryz.results93 _ _ (w.heap.size + 1 + 1) 95 _ (0, 0) _ rfl kf Tryz.underlying95 rfl size95) rfl ⟨⟨B, d, rfl, ?_, hcap⟩, ?_⟩
      · exact own_base (own_set HOW.out (b := w.heap.size + 1 + 1) (o := 0) (by omega) _) (by omega)
      · exact below_set HO.out.below (by omega) _
end Go.Proofs.YtoaiamgcegnjjaaGreatDoor
namespace Go.Proofs.YtoaiamgcegnjjaaGreatDoor
open Go.RowKit Go.Maps Go.WideMaps Go.Sort
set_option maxRecDepth 100000

def bytesV (kf : Int → Option Nat) (id f t : Int) : Value := if spanOK f t then (match kf id with
  | some g => .tuple #[.pointer (some ⟨g, 0, none⟩), .int .i64 0]
  | none => .tuple #[.pointer none, .int .i64 6]) else .tuple #[.pointer none, .int .i64 1]

section
variable {w : World} {base tb m : Nat} {T : TabS} {be bo : Nat} {kf : Int → Option Nat} {of_ rf : ByteArray → Option Nat}
theorem bytes_any (h : TabR w base tb m T be bo kf of_ rf) (id f t : Int) (hid : (Lit.int .i64 id).wf = true) :
    Calls Tryz.prog 90 #[.pointer (some ⟨tb, 0, none⟩), .int .i64 id, .agg #[.int .i64 f, .int .i64 t]] w fun e w' => e = .returned (bytesV kf id f t) ∧ Below w.heap.size w w' := by
  have hb0 : Below w.heap.size w (w.alloc (.cells #[.int .i64 f, .int .i64 t] 41)) := (Below.refl _ _).alloc (Nat.le_refl _) _
  have HB0 := Lib.hid hb0
  have HR := Lib.hid h
  clear hb0 h
  go_enter Tryz.func90, Tryz.ntmps90
  go_wp2_with fail
  refine (span_any _ _ _).mono ?_
  rintro en w1 ⟨rfl, hb⟩
  have hb1 := HB0.out.trans (hb.mono (by simp))
  have HB1 := Lib.hid hb1
  have HR1 := Lib.hid (HR.out.grow hb1)
  clear hb hb1 HB0
  cases hok : spanOK f t
  · have HOK := Lib.hid hok
    clear hok
    go_wp2_with fail
    go_ret2
    exact ⟨by unfold bytesV; rw [HOK.out]; rfl, HB1.out⟩
  · have HOK := Lib.hid hok
    clear hok
    go_wp2_with fail
    refine (find_any HR1.out hid).mono ?_
    rintro en w2 ⟨rfl, rfl⟩
    cases hk : kf id with
    | none =>
      have HK := Lib.hid hk
      unfold ptrV
      clear hk
      go_wp2_with fail
      go_ret2
      exact ⟨by unfold bytesV; rw [HOK.out, HK.out]; rfl, HB1.out⟩
    | some g =>
      have HK := Lib.hid hk
      unfold ptrV
      clear hk
      go_wp2_with fail
      go_ret2
      exact ⟨by unfold bytesV; rw [HOK.out, HK.out]; rfl, HB1.out⟩
end

def Ent.withHas (e : Ent) (l : List (Int × Int)) : Ent := { e with has := l }
def fillS (T : TabS) (id f t : Int) (lose : Bool) : TabS × Int :=
  if spanOK f t then (match T.ents id with
    | some e => (T.setEnt (e.withHas (if lose then lessS e.has (f, t) else orS e.has (f, t))), 0)
    | none => (T, 6)) else (T, 1)

/-- the bytes of a version are written -/
theorem known_has {w W : World} {base g : Nat} {e : Ent} {A : Option Addr} {n c : Nat} {hv : Value} (h : Known w base g e) (hb : Blk W g 125 (kCells e A n c hv)) (hnc : n ≤ c)
    (ho : W.ownsRow base 9 1 (.slice A n c) n (e.ks.map Value.string)) (l : List (Int × Int)) (B : Option Addr) (d : Nat) (hB : W.ownsRow base 41 2 (.slice B l.length d) l.length (spanCells l)) (hd : l.length ≤ d) :
    Known (W.setCell ⟨g, 17, none⟩ (.slice B l.length d)) base g (e.withHas l) ∧ W.grownBy (W.setCell ⟨g, 17, none⟩ (.slice B l.length d)) (some g) := by
  have hgw : W.grownBy (W.setCell ⟨g, 17, none⟩ (.slice B l.length d)) (some g) := gby_set (gby_refl _ _) _ _
  have own : ∀ e', e' = 9 ∨ e' = 41 → ∀ {size n : Nat} {v : Value} {xs : List Value}, W.ownsRow base e' size v n xs → (W.setCell ⟨g, 17, none⟩ (.slice B l.length d)).ownsRow base e' size v n xs := fun e' he size n v xs hx =>
    own_kept hx hgw (fun k hk hr => by
      injection hr with hr
      subst hr
      have := own_ty hx hk
      rw [hb.ty] at this
      injection this with this
      rcases he with rfl | rfl <;> simp at this)
  refine ⟨⟨h.low, h.keys, h.name, A, n, c, B, l.length, d, ?_, hnc, own 9 (.inl rfl) ho, hd, own 41 (.inr rfl) hB⟩, hgw⟩
  have := hb.set 17 (.slice B l.length d)
  simpa [Ent.withHas] using this

theorem less_any (A : Option Addr) (n c : Nat) (l : List (Int × Int)) (A2 : Option Addr) (c2 : Nat) (s : Int × Int) (w : World) (h : Rd w w.heap.size 2 A n (spanCells l)) (h2 : Rd w w.heap.size 2 A2 (ofS s).length (spanCells (ofS s))) (hn : n ≤ 2000) (hnorm : Norm l) :
    Calls Tryz.prog 93 #[.agg #[.slice A n c], .agg #[.slice A2 (ofS s).length c2]] w fun e w' => (∃ A' c', e = .returned (.agg #[.slice A' (lessS l s).length c']) ∧ w'.ownsRow w.heap.size 41 2 (.slice A' (lessS l s).length c') (lessS l s).length (spanCells (lessS l s)) ∧ (lessS l s).length ≤ c') ∧ Below w.heap.size w w' := by
  by_cases hs : s.1 < s.2
  · have e : ofS s = [s] := by unfold ofS; rw [if_pos hs]
    rw [e] at h2 ⊢
    exact less_one A n c l A2 c2 s w h h2 hn hs hnorm
  · have e : ofS s = [] := by unfold ofS; rw [if_neg hs]
    have e2 : lessS l s = l := by unfold lessS; rw [if_neg hs]
    rw [e, e2]
    exact less_nil A n c l A2 c2 w h hn hnorm
section
variable {w : World} {base tb m : Nat} {T : TabS}
set_option maxHeartbeats 1000000 in
theorem fill_any (h : Tab w base tb m T) (id f t : Int) (hid : (Lit.int .i64 id).wf = true) (hgood : ∀ e, T.ents id = some e → e.has.length ≤ 1000) :
    Calls Tryz.prog 32 #[.pointer (some ⟨tb, 0, none⟩), .int .i64 id, .agg #[.int .i64 f, .int .i64 t]] w fun e w' => e = .returned (.int .i64 (fillS T id f t false).2) ∧ Keeps base w w' ∧ Tab w' base tb m (fillS T id f t false).1 := by
  obtain ⟨be, bo, kf, of_, rf, hR⟩ := h
  have hlow := hR.lows
  have hb0 : Below w.heap.size w (w.alloc (.cells #[.int .i64 f, .int .i64 t] 41)) := (Below.refl _ _).alloc (Nat.le_refl _) _
  have k0 : Blk (w.alloc (.cells #[.int .i64 f, .int .i64 t] 41)) w.heap.size 41 #[.int .i64 f, .int .i64 t] := Blk.new _ _ _
  have HB0 := Lib.hid hb0
  have K0 := Lib.hid k0
  have HR := Lib.hid hR
  have HGD := Lib.hid hgood
  clear hb0 k0 hR hgood
  go_enter Tryz.func32, Tryz.ntmps32
  go_wp2_with fail
  refine (bytes_any (HR.out.grow HB0.out) id f t hid).mono ?_
  rintro en w1 ⟨rfl, hb⟩
  have hb1 := HB0.out.trans (hb.mono (by simp))
  have k1 := K0.out.below hb (by simp)
  have HB1 := Lib.hid hb1
  have K1 := Lib.hid k1
  have HR1 := Lib.hid (HR.out.grow hb1)
  clear hb hb1 k1 HB0 K0
  cases hok : spanOK f t
  · have HOK := Lib.hid hok
    have hv : bytesV kf id f t = .tuple #[.pointer none, .int .i64 1] := by unfold bytesV; rw [hok]; rfl
    rw [hv]
    clear hok hv
    go_wp2_with fail
    go_ret
    have e : fillS T id f t false = (T, 1) := by unfold fillS; rw [HOK.out]; rfl
    rw [e]
    exact ⟨rfl, Keeps.of_below HB1.out hlow, _, _, _, _, _, HR1.out⟩
  · have HOK := Lib.hid hok
    cases hk : kf id with
    | none =>
      have HN : Hid (T.ents id = none) := HR1.out.noent id hk
      have hv : bytesV kf id f t = .tuple #[.pointer none, .int .i64 6] := by unfold bytesV; rw [hok, hk]; rfl
      rw [hv]
      clear hok hv hk
      go_wp2_with fail
      go_ret
      have e : fillS T id f t false = (T, 6) := by unfold fillS; rw [HOK.out, HN.out]; rfl
      rw [e]
      exact ⟨rfl, Keeps.of_below HB1.out hlow, _, _, _, _, _, HR1.out⟩
    | some g =>
      have hv : bytesV kf id f t = .tuple #[.pointer (some ⟨g, 0, none⟩), .int .i64 0] := by unfold bytesV; rw [hok, hk]; rfl
      rw [hv]
      obtain ⟨e, he, hid', hK⟩ := HR1.out.ents id g hk
      subst hid'
      obtain ⟨A, n, c, hA, hn, hc, hbk, x1, x2, x3, x4⟩ := hK.cells
      have hlen : e.has.length = hn := by have := x4.1; rw [spanCells_len] at this; omega
      have h1000 := HGD.out e he
      have HE := Lib.hid he
      have HG := Lib.hid hk
      have HKN := Lib.hid hK
      have HBK := Lib.hid hbk
      have HX2 := Lib.hid x2
      have HX4 := Lib.hid x4
      have q17 : w1.cell? ⟨g, 17, none⟩ = some (.slice hA hn hc) := (hbk.cell 17).trans rfl
      have fz := hbk.free'
      have hgl := hbk.lt
      obtain ⟨s0, s1⟩ : w1.cell? ⟨w.heap.size, 0, none⟩ = some (.int .i64 f) ∧ w1.cell? ⟨w.heap.size, 1, none⟩ = some (.int .i64 t) := ⟨(K1.out.cell 0).trans rfl, (K1.out.cell 1).trans rfl⟩
      have hsz1 := K1.out.lt
      have HEQ : Hid (fillS T e.id f t false = (T.setEnt (e.withHas (orS e.has (f, t))), 0)) := by
        show fillS T e.id f t false = _
        unfold fillS
        rw [HOK.out, HE.out]
        rfl
      clear he hk hK hbk x2 x4 hok hv
      have hbA : Below w1.heap.size w1 (w1.alloc (.cells #[.int .i64 f, .int .i64 t] 41)) := (Below.refl _ _).alloc (Nat.le_refl _) _
      have knew : Blk (w1.alloc (.cells #[.int .i64 f, .int .i64 t] 41)) w1.heap.size 41 #[.int .i64 f, .int .i64 t] := Blk.new _ _ _
      have hszA : (w1.alloc (.cells #[.int .i64 f, .int .i64 t] 41)).heap.size = w1.heap.size + 1 := by simp
      have r17 : (w1.alloc (.cells #[.int .i64 f, .int .i64 t] 41)).cell? ⟨g, 17, none⟩ = some (.slice hA hn hc) := (hbA.cell (p := ⟨g, 17, none⟩) hgl).trans q17
      have r0 : (w1.alloc (.cells #[.int .i64 f, .int .i64 t] 41)).cell? ⟨w.heap.size, 0, none⟩ = some (.int .i64 f) := (hbA.cell (p := ⟨w.heap.size, 0, none⟩) hsz1).trans s0
      have r1 : (w1.alloc (.cells #[.int .i64 f, .int .i64 t] 41)).cell? ⟨w.heap.size, 1, none⟩ = some (.int .i64 t) := (hbA.cell (p := ⟨w.heap.size, 1, none⟩) hsz1).trans s1
      have HBA := Lib.hid hbA
      have KNEW := Lib.hid knew
      have HSZA := Lib.hid hszA
      have RHAS : Hid (Rd w1 w1.heap.size 2 hA hn (spanCells e.has)) := own_rd HX4.out
      clear hbA knew hszA
      have f9 : ∀ w9, Below w1.heap.size w1 w9 → (w9.cell? ⟨g, 17, none⟩ = some (.slice hA hn hc) ∧ w9.cell? ⟨w.heap.size, 0, none⟩ = some (.int .i64 f) ∧ w9.cell? ⟨w.heap.size, 1, none⟩ = some (.int .i64 t)) := fun w9 hb9 =>
        ⟨(hb9.cell (p := ⟨g, 17, none⟩) hgl).trans q17, (hb9.cell (p := ⟨w.heap.size, 0, none⟩) hsz1).trans s0, (hb9.cell (p := ⟨w.heap.size, 1, none⟩) hsz1).trans s1⟩
      have f4 : ∀ w4, Below (w1.alloc (.cells #[.int .i64 f, .int .i64 t] 41)).drew.heap.size (w1.alloc (.cells #[.int .i64 f, .int .i64 t] 41)).drew w4 → Below w1.heap.size w1 w4 := fun w4 hb4 =>
        (Below.drew HBA.out).trans (hb4.mono (by have := HSZA.out; show w1.heap.size ≤ (w1.alloc (.cells #[.int .i64 f, .int .i64 t] 41)).heap.size; omega))
      have F9 := Lib.hid f9
      have F4 := Lib.hid f4
      clear f9 f4
      go_wp2_with fail
      go_region_law (first
        | (go_simp; go_at_call 92; refine (of1_any w1.heap.size f t _ HOK.out (by exact KNEW.out)).mono ?_; rintro en w4 ⟨⟨B4, d4, rfl, hown4, hcap4⟩, hb4⟩; (have HB4 := Lib.hid (F4.out w4 hb4)); (obtain ⟨u17, u0, u1⟩ := F9.out w4 HB4.out); (have HOW4 := Lib.hid hown4); clear hb4 hown4)
        | (go_simp; go_at_call 91; refine (or_any hA hn hc e.has B4 _ d4 (ofS (f, t)) _ (by exact RHAS.out.below HB4.out HB4.out.size) (by exact own_rd HOW4.out) (by omega) (by have := ofS_le (f, t); omega)).mono ?_; rintro en w5 ⟨⟨B5, d5, rfl, hown5, hcap5⟩, hb5⟩; (have HB5 := Lib.hid (HB4.out.trans (hb5.mono HB4.out.size))); (obtain ⟨v17, v0, v1⟩ := F9.out w5 HB5.out); (have BK5 := Lib.hid (HBK.out.below HB5.out hgl)); (have fz5 := BK5.out.free'); (have HOW5 := Lib.hid hown5); clear hb5 hown5))
      all_goals
        go_wp2_with fail
        go_ret
        rw [HEQ.out]
        have hl4 := HB4.out.size
        obtain ⟨hKn, hgw⟩ := known_has HKN.out BK5.out x1 (own_kept HX2.out (gby_of_below HB5.out) (by simp)) (orS e.has (f, t)) B5 d5 (own_base HOW5.out (by omega)) hcap5
        have hR5 := (HR1.out.grow HB5.out).updEnt (e := e.withHas (orS e.has (f, t))) HG.out (fun e0 h0 => by rw [Option.some.inj (h0.symm.trans HE.out)]; rfl) hgw hKn
        have hk5 : Keeps base w (w5.setCell ⟨g, 17, none⟩ (.slice B5 (orS e.has (f, t)).length d5)) := (Keeps.of_below (HB1.out.trans (HB5.out.mono HB1.out.size)) hlow).trans (Keeps.of_grown hgw (HR1.out.grow HB5.out).lows HKN.out.low (fun t ht => by rw [BK5.out.ty] at ht; injection ht with ht; exact .inr (.inl ht.symm)))
        first
          | exact ⟨rfl, hk5.trans keeps_drew, _, _, _, _, _, hR5.drew⟩
          | exact ⟨rfl, hk5, _, _, _, _, _, hR5⟩

set_option maxHeartbeats 1000000 in
theorem lose_any (h : Tab w base tb m T) (id f t : Int) (hid : (Lit.int .i64 id).wf = true) (hgood : ∀ e, T.ents id = some e → e.has.length ≤ 1000 ∧ Norm e.has) :
    Calls Tryz.prog 33 #[.pointer (some ⟨tb, 0, none⟩), .int .i64 id, .agg #[.int .i64 f, .int .i64 t]] w fun e w' => e = .returned (.int .i64 (fillS T id f t true).2) ∧ Keeps base w w' ∧ Tab w' base tb m (fillS T id f t true).1 := by
  obtain ⟨be, bo, kf, of_, rf, hR⟩ := h
  have hlow := hR.lows
  have hb0 : Below w.heap.size w (w.alloc (.cells #[.int .i64 f, .int .i64 t] 41)) := (Below.refl _ _).alloc (Nat.le_refl _) _
  have k0 : Blk (w.alloc (.cells #[.int .i64 f, .int .i64 t] 41)) w.heap.size 41 #[.int .i64 f, .int .i64 t] := Blk.new _ _ _
  have HB0 := Lib.hid hb0
  have K0 := Lib.hid k0
  have HR := Lib.hid hR
  have HGD := Lib.hid hgood
  clear hb0 k0 hR hgood
  go_enter Tryz.func33, Tryz.ntmps33
  go_wp2_with fail
  refine (bytes_any (HR.out.grow HB0.out) id f t hid).mono ?_
  rintro en w1 ⟨rfl, hb⟩
  have hb1 := HB0.out.trans (hb.mono (by simp))
  have k1 := K0.out.below hb (by simp)
  have HB1 := Lib.hid hb1
  have K1 := Lib.hid k1
  have HR1 := Lib.hid (HR.out.grow hb1)
  clear hb hb1 k1 HB0 K0
  cases hok : spanOK f t
  · have HOK := Lib.hid hok
    have hv : bytesV kf id f t = .tuple #[.pointer none, .int .i64 1] := by unfold bytesV; rw [hok]; rfl
    rw [hv]
    clear hok hv
    go_wp2_with fail
    go_ret
    have e : fillS T id f t true = (T, 1) := by unfold fillS; rw [HOK.out]; rfl
    rw [e]
    exact ⟨rfl, Keeps.of_below HB1.out hlow, _, _, _, _, _, HR1.out⟩
  · have HOK := Lib.hid hok
    cases hk : kf id with
    | none =>
      have HN : Hid (T.ents id = none) := HR1.out.noent id hk
      have hv : bytesV kf id f t = .tuple #[.pointer none, .int .i64 6] := by unfold bytesV; rw [hok, hk]; rfl
      rw [hv]
      clear hok hv hk
      go_wp2_with fail
      go_ret
      have e : fillS T id f t true = (T, 6) := by unfold fillS; rw [HOK.out, HN.out]; rfl
      rw [e]
      exact ⟨rfl, Keeps.of_below HB1.out hlow, _, _, _, _, _, HR1.out⟩
    | some g =>
      have hv : bytesV kf id f t = .tuple #[.pointer (some ⟨g, 0, none⟩), .int .i64 0] := by unfold bytesV; rw [hok, hk]; rfl
      rw [hv]
      obtain ⟨e, he, hid', hK⟩ := HR1.out.ents id g hk
      subst hid'
      obtain ⟨A, n, c, hA, hn, hc, hbk, x1, x2, x3, x4⟩ := hK.cells
      have hlen : e.has.length = hn := by have := x4.1; rw [spanCells_len] at this; omega
      obtain ⟨h1000, hnrm⟩ := HGD.out e he
      have HNRM := Lib.hid hnrm
      clear hnrm
      have HE := Lib.hid he
      have HG := Lib.hid hk
      have HKN := Lib.hid hK
      have HBK := Lib.hid hbk
      have HX2 := Lib.hid x2
      have HX4 := Lib.hid x4
      have q17 : w1.cell? ⟨g, 17, none⟩ = some (.slice hA hn hc) := (hbk.cell 17).trans rfl
      have fz := hbk.free'
      have hgl := hbk.lt
      obtain ⟨s0, s1⟩ : w1.cell? ⟨w.heap.size, 0, none⟩ = some (.int .i64 f) ∧ w1.cell? ⟨w.heap.size, 1, none⟩ = some (.int .i64 t) := ⟨(K1.out.cell 0).trans rfl, (K1.out.cell 1).trans rfl⟩
      have hsz1 := K1.out.lt
      have HEQ : Hid (fillS T e.id f t true = (T.setEnt (e.withHas (lessS e.has (f, t))), 0)) := by
        show fillS T e.id f t true = _
        unfold fillS
        rw [HOK.out, HE.out]
        rfl
      clear he hk hK hbk x2 x4 hok hv
      have hbA : Below w1.heap.size w1 (w1.alloc (.cells #[.int .i64 f, .int .i64 t] 41)) := (Below.refl _ _).alloc (Nat.le_refl _) _
      have knew : Blk (w1.alloc (.cells #[.int .i64 f, .int .i64 t] 41)) w1.heap.size 41 #[.int .i64 f, .int .i64 t] := Blk.new _ _ _
      have hszA : (w1.alloc (.cells #[.int .i64 f, .int .i64 t] 41)).heap.size = w1.heap.size + 1 := by simp
      have r17 : (w1.alloc (.cells #[.int .i64 f, .int .i64 t] 41)).cell? ⟨g, 17, none⟩ = some (.slice hA hn hc) := (hbA.cell (p := ⟨g, 17, none⟩) hgl).trans q17
      have r0 : (w1.alloc (.cells #[.int .i64 f, .int .i64 t] 41)).cell? ⟨w.heap.size, 0, none⟩ = some (.int .i64 f) := (hbA.cell (p := ⟨w.heap.size, 0, none⟩) hsz1).trans s0
      have r1 : (w1.alloc (.cells #[.int .i64 f, .int .i64 t] 41)).cell? ⟨w.heap.size, 1, none⟩ = some (.int .i64 t) := (hbA.cell (p := ⟨w.heap.size, 1, none⟩) hsz1).trans s1
      have HBA := Lib.hid hbA
      have KNEW := Lib.hid knew
      have HSZA := Lib.hid hszA
      have RHAS : Hid (Rd w1 w1.heap.size 2 hA hn (spanCells e.has)) := own_rd HX4.out
      clear hbA knew hszA
      have f9 : ∀ w9, Below w1.heap.size w1 w9 → (w9.cell? ⟨g, 17, none⟩ = some (.slice hA hn hc) ∧ w9.cell? ⟨w.heap.size, 0, none⟩ = some (.int .i64 f) ∧ w9.cell? ⟨w.heap.size, 1, none⟩ = some (.int .i64 t)) := fun w9 hb9 =>
        ⟨(hb9.cell (p := ⟨g, 17, none⟩) hgl).trans q17, (hb9.cell (p := ⟨w.heap.size, 0, none⟩) hsz1).trans s0, (hb9.cell (p := ⟨w.heap.size, 1, none⟩) hsz1).trans s1⟩
      have f4 : ∀ w4, Below (w1.alloc (.cells #[.int .i64 f, .int .i64 t] 41)).drew.heap.size (w1.alloc (.cells #[.int .i64 f, .int .i64 t] 41)).drew w4 → Below w1.heap.size w1 w4 := fun w4 hb4 =>
        (Below.drew HBA.out).trans (hb4.mono (by have := HSZA.out; show w1.heap.size ≤ (w1.alloc (.cells #[.int .i64 f, .int .i64 t] 41)).heap.size; omega))
      have F9 := Lib.hid f9
      have F4 := Lib.hid f4
      clear f9 f4
      go_wp2_with fail
      go_region_law (first
        | (go_simp; go_at_call 92; refine (of1_any w1.heap.size f t _ HOK.out (by exact KNEW.out)).mono ?_; rintro en w4 ⟨⟨B4, d4, rfl, hown4, hcap4⟩, hb4⟩; (have HB4 := Lib.hid (F4.out w4 hb4)); (obtain ⟨u17, u0, u1⟩ := F9.out w4 HB4.out); (have HOW4 := Lib.hid hown4); clear hb4 hown4)
        | (go_simp; go_at_call 93; refine (less_any hA hn hc e.has B4 d4 (f, t) _ (by exact RHAS.out.below HB4.out HB4.out.size) (by exact own_rd HOW4.out) (by omega) HNRM.out).mono ?_; rintro en w5 ⟨⟨B5, d5, rfl, hown5, hcap5⟩, hb5⟩; (have HB5 := Lib.hid (HB4.out.trans (hb5.mono HB4.out.size))); (obtain ⟨v17, v0, v1⟩ := F9.out w5 HB5.out); (have BK5 := Lib.hid (HBK.out.below HB5.out hgl)); (have fz5 := BK5.out.free'); (have HOW5 := Lib.hid hown5); clear hb5 hown5))
      all_goals
        go_wp2_with fail
        go_ret
        rw [HEQ.out]
        have hl4 := HB4.out.size
        obtain ⟨hKn, hgw⟩ := known_has HKN.out BK5.out x1 (own_kept HX2.out (gby_of_below HB5.out) (by simp)) (lessS e.has (f, t)) B5 d5 (own_base HOW5.out (by omega)) hcap5
        have hR5 := (HR1.out.grow HB5.out).updEnt (e := e.withHas (lessS e.has (f, t))) HG.out (fun e0 h0 => by rw [Option.some.inj (h0.symm.trans HE.out)]; rfl) hgw hKn
        have hk5 : Keeps base w (w5.setCell ⟨g, 17, none⟩ (.slice B5 (lessS e.has (f, t)).length d5)) := (Keeps.of_below (HB1.out.trans (HB5.out.mono HB1.out.size)) hlow).trans (Keeps.of_grown hgw (HR1.out.grow HB5.out).lows HKN.out.low (fun t ht => by rw [BK5.out.ty] at ht; injection ht with ht; exact .inr (.inl ht.symm)))
        first
          | exact ⟨rfl, hk5.trans keeps_drew, _, _, _, _, _, hR5.drew⟩
          | exact ⟨rfl, hk5, _, _, _, _, _, hR5⟩
end
end Go.Proofs.YtoaiamgcegnjjaaGreatDoor
