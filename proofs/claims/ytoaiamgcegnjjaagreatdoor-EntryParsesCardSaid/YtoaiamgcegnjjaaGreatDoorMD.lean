/- Table.Last, find, entry and Get. No condition. Table.Get and Load of no entries. No condition. The law's example: wakes returns true. No condition. -/
import Derived.Test.YtoaiamgcegnjjaaGreatDoorL
import Derived.Maps.Range
namespace Go.Proofs.YtoaiamgcegnjjaaGreatDoor
open Go.RowKit Go.Maps Go.WideMaps Go.Sort
set_option maxRecDepth 100000

/-- an object's last entry -/
def lastS (T : TabS) (s : ByteArray) : Option Int := match T.objs s with
  | some o => if (T.ents o.told).isSome then some o.told else none
  | none => none
abbrev lastV (x : Option Int) : Value := .tuple #[.int .i64 (x.getD 0), .bool x.isSome]

theorem below_drewN {B : Nat} {a w : World} (h : Below B a w) (n : Nat) : Below B a (w.drewN n) := ⟨h.os, h.tape, h.output, h.size, h.block⟩

section
variable {w : World} {base tb m : Nat} {T : TabS} {be bo : Nat} {kf : Int → Option Nat} {of_ rf : ByteArray → Option Nat}

theorem TabR.kf_some (h : TabR w base tb m T be bo kf of_ rf) {id : Int} (he : (T.ents id).isSome) : ∃ g, kf id = some g := by
  cases hk : kf id with
  | some g => exact ⟨g, rfl⟩
  | none => rw [h.noent _ hk] at he; cases he

theorem last_any (h : TabR w base tb m T be bo kf of_ rf) {s : ByteArray} (hs : s.size ≤ maxLen) :
    Calls Tryz.prog 27 #[.pointer (some ⟨tb, 0, none⟩), .string s] w fun e w' => e = .returned (lastV (lastS T s)) ∧ Below w.heap.size w w' := by
  obtain ⟨c0, c1, c2⟩ := tab_cells h.blk
  have hl := h.smap.look hs
  cases hg : of_ s with
  | none =>
    rw [hg] at hl
    unfold ptrV at hl
    have hn := h.noobj s hg
    have HN : Hid (lastS T s = none) := by show lastS T s = none; unfold lastS; rw [hn]
    clear h hg hn
    go_enter Tryz.func27, Tryz.ntmps27
    go_wp2_with fail
    go_quiet (fail)
    go_wp2_with fail
    go_ret2
    exact ⟨by rw [HN.out]; rfl, below_drewN (Below.refl _ _) _⟩
  | some g =>
    rw [hg] at hl
    unfold ptrV at hl
    obtain ⟨o, ho, hO⟩ := h.objs s g hg
    obtain ⟨A1, n1, c3, hb1, _⟩ := hO.cells
    have q1 : w.cell? ⟨g, 1, none⟩ = some (.int .i64 o.told) := (hb1.cell 1).trans rfl
    have hl2 : ∀ n, (Instr.lookup 111 (.map (some be)) (.int .i64 o.told) false).run Tryz.prog (w.drewN n) = .ok (ptrV (kf o.told)) (w.drewN n) := fun n => (h.imap.kept (gby_drewN (gby_refl _ none) n) (by simp)).look (h.told s o ho)
    cases hk : kf o.told with
    | none =>
      rw [hk] at hl2
      unfold ptrV at hl2
      have HN : Hid (lastS T s = none) := by show lastS T s = none; unfold lastS; rw [ho]; simp [h.noent _ hk]
      clear h hg ho hO hb1 hk
      go_enter Tryz.func27, Tryz.ntmps27
      go_wp2_with fail
      go_quiet (fail)
      go_wp2_with fail
      go_ret2
      exact ⟨by rw [HN.out]; rfl, below_drewN (Below.refl _ _) _⟩
    | some kb =>
      rw [hk] at hl2
      unfold ptrV at hl2
      obtain ⟨e, he, _⟩ := h.ents _ _ hk
      have HN : Hid (lastS T s = some o.told) := by show lastS T s = some o.told; unfold lastS; rw [ho]; simp [he]
      clear h hg ho hO hb1 hk he
      go_enter Tryz.func27, Tryz.ntmps27
      go_wp2_with fail
      go_quiet (fail)
      go_wp2_with fail
      go_ret2
      exact ⟨by rw [HN.out]; rfl, below_drewN (Below.refl _ _) _⟩

theorem find_any (h : TabR w base tb m T be bo kf of_ rf) {id : Int} (hid : (Lit.int .i64 id).wf = true) :
    Calls Tryz.prog 68 #[.pointer (some ⟨tb, 0, none⟩), .int .i64 id] w fun e w' => e = .returned (ptrV (kf id)) ∧ w = w' := by
  obtain ⟨c0, c1, c2⟩ := tab_cells h.blk
  have hl := h.imap.look hid
  clear h
  cases hk : kf id with
  | none =>
    rw [hk] at hl
    unfold ptrV at hl ⊢
    go_enter Tryz.func68, Tryz.ntmps68
    go_wp2
    go_ret
    exact ⟨rfl, rfl⟩
  | some g =>
    rw [hk] at hl
    unfold ptrV at hl ⊢
    go_enter Tryz.func68, Tryz.ntmps68
    go_wp2
    go_ret
    exact ⟨rfl, rfl⟩

/-- an entry, as it is told -/
def turnedS (T : TabS) (e : Ent) : Bool := !(lastS T e.obj == some e.id)

theorem new2 (w : World) (o : Obj) (t : TypeId) (cs : Array Value) : Blk ((w.alloc o).alloc (.cells cs t)) (w.heap.size + 1) t cs := by
  have := Blk.new (w.alloc o) t cs
  simpa using this
theorem setRow_blk {w : World} {g : Nat} {t : TypeId} {old : Array Value} (h : Blk w g t old) (cs : Array Value) : Blk (w.setRow g cs) g t cs := setRow_heap w g old cs t (0, 0) h
theorem setRow_gby (w : World) (g : Nat) (cs : Array Value) : w.grownBy (w.setRow g cs) (some g) := ⟨rfl, rfl, rfl, by simp, fun k _ hk => setRow_other w g k _ (fun e => hk (by rw [e]))⟩

theorem size57 : (Tryz.prog.info? 57).map (·.size) = some 17 := by kernel_rfl
theorem entC_meta (e : Ent) (A A' : Option Addr) (n c c' : Nat) (tu : Bool) :
    (((((((((((entC e A n c tu).setIfInBounds 2 (.string e.t)).setIfInBounds 3 (.bool e.wk)).setIfInBounds 4 (.int .i64 e.mo)).setIfInBounds 5 (.int .i64 e.le)).setIfInBounds 6 (.int .i64 e.ha)).setIfInBounds 7 (.int .i64 e.fr)).setIfInBounds 8 (.int .i64 e.wh)).setIfInBounds 9 (.int .i64 e.er)).setIfInBounds 10 (.slice A' n c')).setIfInBounds 11 (.string e.ten)).setIfInBounds 12 (.bool e.kp) = entC e A' n c' tu := by
  simp

abbrev zeroE : Array Value := #[.int .i64 0, .string ByteArray.empty, .string ByteArray.empty, .bool false, .int .i64 0, .int .i64 0, .int .i64 0, .int .i64 0, .int .i64 0, .int .i64 0, .slice none 0 0, .string ByteArray.empty, .bool false, .int .i64 0, .int .i64 0, .int .i64 0, .bool false]

set_option maxHeartbeats 1000000 in
theorem entry_any (h : TabR w base tb m T be bo kf of_ rf) {e : Ent} {g : Nat} (hg : kf e.id = some g) (he : T.ents e.id = some e) :
    Calls Tryz.prog 69 #[.pointer (some ⟨tb, 0, none⟩), .pointer (some ⟨g, 0, none⟩)] w fun en w' => (∃ A' n c', en = .returned (.agg (entC e A' n c' (turnedS T e))) ∧ n ≤ c' ∧ w'.ownsRow w.heap.size 9 1 (.slice A' n c') n (e.ks.map Value.string)) ∧ Below w.heap.size w w' := by
  obtain ⟨e', he', _, hK⟩ := h.ents e.id g hg
  obtain rfl : e' = e := Option.some.inj (he'.symm.trans he)
  obtain ⟨A, n, c, hA, hn, hc, hb, x1, x2, x3, x4⟩ := hK.cells
  obtain ⟨k0, k1, k2, k3, k4, k5, k6, k7, k8, k9, k10, k11, k12, k13, k14, k15, k16, k17⟩ := known_cells hb
  have hgl := hb.lt
  have hn1 : n ≤ 1000 := by have := own_len x2; have := hK.keys; simp at *; omega
  have HT := Lib.hid h
  have HX := Lib.hid x2
  have HKN := Lib.hid hK
  clear h hg he he' hK hb x2 x4
  go_enter Tryz.func69, Tryz.ntmps69
  go_wp2_with fail
  refine (copied_any e'.t e'.wk e'.mo e'.le e'.ha e'.fr e'.wh e'.er A n c e'.ten e'.kp e'.ks _ (by exact Rd.below (own_rd HX.out) (((Below.refl _ _).alloc (Nat.le_refl _) _).alloc (by simp) _) (by simp; omega)) hn1).mono ?_
  rintro en w1 ⟨⟨A', c', rfl, hown', hnc'⟩, hb1⟩
  have hbw : Below w.heap.size w w1 := (((Below.refl _ _).alloc (Nat.le_refl _) _).alloc (by simp) _).trans (hb1.mono (by simp; omega))
  have bk0 := ((Blk.new w 57 _).alloc _).below hb1 (by simp; omega)
  have bk1 : Blk w1 (w.heap.size + 1) 57 (entC e' A n c false) := by
    exact Blk.below (new2 w _ 57 (entC e' A n c false)) hb1 (by simp)
  have hs1 : w.heap.size + 1 + 1 ≤ w1.heap.size := by simpa using hb1.size
  obtain ⟨d0, d1, d2, d3, d4, d5, d6, d7, d8, d9, d10, d11, d12, d13, d14, d15, d16⟩ := ent_cells bk1
  have hfr := bk1.free'
  have HBW := Lib.hid hbw
  have HB0 := Lib.hid bk0
  have HB1 := Lib.hid bk1
  have HOW := Lib.hid (own_base hown' (show w.heap.size ≤ _ by simp; omega))
  clear hb1 hbw bk0 bk1 hown' k0 k1 k2 k3 k4 k5 k6 k7 k8 k9 k10 k11 k12 k13 k14 k15 k16 k17
  go_upto_region 3 with fail
  obtain ⟨w2, hw2⟩ : ∃ x : World, x = ((((((((((w1.setCell ⟨w.heap.size + 1, 2, none⟩ (.string e'.t)).setCell ⟨w.heap.size + 1, 3, none⟩ (.bool e'.wk)).setCell ⟨w.heap.size + 1, 4, none⟩ (.int .i64 e'.mo)).setCell ⟨w.heap.size + 1, 5, none⟩ (.int .i64 e'.le)).setCell ⟨w.heap.size + 1, 6, none⟩ (.int .i64 e'.ha)).setCell ⟨w.heap.size + 1, 7, none⟩ (.int .i64 e'.fr)).setCell ⟨w.heap.size + 1, 8, none⟩ (.int .i64 e'.wh)).setCell ⟨w.heap.size + 1, 9, none⟩ (.int .i64 e'.er)).setCell ⟨w.heap.size + 1, 10, none⟩ (.slice A' n c')).setCell ⟨w.heap.size + 1, 11, none⟩ (.string e'.ten)).setCell ⟨w.heap.size + 1, 12, none⟩ (.bool e'.kp) := ⟨_, rfl⟩
  rw [← hw2]
  have hg2 : w1.grownBy w2 (some (w.heap.size + 1)) := by
    rw [hw2]
    exact gby_set (gby_set (gby_set (gby_set (gby_set (gby_set (gby_set (gby_set (gby_set (gby_set (gby_set (gby_refl _ _) _ _) _ _) _ _) _ _) _ _) _ _) _ _) _ _) _ _) _ _) _ _
  have bk1 : Blk w2 (w.heap.size + 1) 57 (entC e' A' n c' false) := by
    rw [hw2, ← entC_meta e' A A' n c c' false]
    exact ((((((((((HB1.out.set 2 _).set 3 _).set 4 _).set 5 _).set 6 _).set 7 _).set 8 _).set 9 _).set 10 _).set 11 _).set 12 _
  have bk0 := HB0.out.grown hg2 (by simp)
  have hbw : Below w.heap.size w w2 := HBW.out.trans (grown_below hg2 (by omega) (fun k hk => by injection hk with hk; omega))
  have how := own_kept HOW.out hg2 (fun k hk hr => by
    injection hr with hr
    subst hr
    have := own_ty HOW.out hk
    rw [HB1.out.ty] at this
    simp at this)
  clear hw2 hg2 HBW HB0 HB1 HOW d0 d1 d2 d3 d4 d5 d6 d7 d8 d9 d10 d11 d12 d13 d14 d15 d16 hfr
  have HBW := Lib.hid hbw
  have HB0 := Lib.hid bk0
  have HB1 := Lib.hid bk1
  have HOW := Lib.hid how
  obtain ⟨d0, d1, d2, d3, d4, d5, d6, d7, d8, d9, d10, d11, d12, d13, d14, d15, d16⟩ := ent_cells bk1
  clear hbw bk0 bk1 how
  go_wp2_with fail
  refine (last_any (HT.out.grow HBW.out) HKN.out.name).mono ?_
  rintro en w3 ⟨rfl, hb3⟩
  have hb4 := HBW.out.trans (hb3.mono HBW.out.size)
  have bk0 := HB0.out.below hb3 HB0.out.lt
  have bk1 := HB1.out.below hb3 HB1.out.lt
  have how := own_kept HOW.out (gby_of_below hb3) (by simp)
  clear HBW HB0 HB1 HOW d0 d1 d2 d3 d4 d5 d6 d7 d8 d9 d10 d11 d12 d13 d14 d15 d16 hb3
  have HBW := Lib.hid hb4
  have HB0 := Lib.hid bk0
  have HB1 := Lib.hid bk1
  have HOW := Lib.hid how
  have d0 : w3.cell? ⟨w.heap.size + 1, 0, none⟩ = some (.int .i64 e'.id) := (bk1.cell 0).trans rfl
  have d16 : w3.cell? ⟨w.heap.size + 1, 16, none⟩ = some (.bool false) := (bk1.cell 16).trans rfl
  have hfr := bk1.free'
  clear hb4 bk0 bk1 how
  have fin : ∀ (tu : Bool), tu = turnedS T e' → ∀ w4 : World, w3.grownBy w4 (some (w.heap.size + 1)) → Blk w4 (w.heap.size + 1) 57 (entC e' A' n c' tu) →
      Below w.heap.size w w4 ∧ (∃ cs0, cs0.size = 17 ∧ Blk w4 w.heap.size 57 cs0) ∧ w4.ownsRow w.heap.size 9 1 (.slice A' n c') n (e'.ks.map Value.string) := fun tu _ w4 hg hB =>
    ⟨HBW.out.trans (grown_below hg (by have := HB1.out.lt; omega) (fun k hk => by injection hk with hk; omega)), ⟨_, rfl, HB0.out.grown hg (by simp)⟩, own_kept HOW.out hg (fun k hk hr => by
      injection hr with hr
      subst hr
      have := own_ty HOW.out hk
      rw [HB1.out.ty] at this
      simp at this)⟩
  have FIN := Lib.hid fin
  clear fin
  go_upto_region 4 with fail
  go_cut [6, 7] (fun _ _ wx => Blk wx (w.heap.size + 1) 57 (entC e' A' n c' (turnedS T e')) ∧ w3.grownBy wx (some (w.heap.size + 1)))
  case first =>
    rcases hls : lastS T e'.obj with _ | x
    · have HTU : Hid (true = turnedS T e') := by show true = turnedS T e'; unfold turnedS; rw [hls]; rfl
      clear hls
      go_wp2_with fail
      go_meet
      exact ⟨by rw [← HTU.out]; exact HB1.out.set 16 _, gby_set (gby_refl _ _) _ _⟩
    · by_cases hx : x = e'.id
      · have HTU : Hid (false = turnedS T e') := by show false = turnedS T e'; unfold turnedS; rw [hls, hx]; simp
        have hne : (e'.id != e'.id) = false := by simp
        subst hx
        clear hls
        go_wp2_with fail
        go_meet
        exact ⟨by rw [← HTU.out]; exact HB1.out.set 16 _, gby_set (gby_refl _ _) _ _⟩
      · have HTU : Hid (true = turnedS T e') := by show true = turnedS T e'; unfold turnedS; rw [hls]; simp [hx]
        have hne : (x != e'.id) = true := by simpa using hx
        clear hls hx
        go_wp2_with fail
        go_meet
        exact ⟨by rw [← HTU.out]; exact HB1.out.set 16 _, gby_set (gby_refl _ _) _ _⟩
  case rest =>
    obtain ⟨hB4, hg4⟩ := hcut
    obtain ⟨hbw, ⟨cs0, hcs0, hB0⟩, how⟩ := FIN.out _ rfl wc hg4 hB4
    have HBW4 := Lib.hid hbw
    have HOW4 := Lib.hid how
    have HB4 := Lib.hid hB4
    have HB04 := Lib.hid hB0
    have HCS := Lib.hid hcs0
    clear hbw how hB4 hB0 hg4 FIN HBW HB0 HB1 HOW d0 d16 hfr hcs0
    have HI : Hid ((Tryz.prog.info? 57).map (·.size) = some (entC e' A' n c' (turnedS T e')).size) := size57
    have HS : Hid (cs0.size = (entC e' A' n c' (turnedS T e')).size) := HCS.out
    have H1 : Hid ((entC e' A' n c' (turnedS T e')).all (·.oneCell') = true) := by
      show (entC e' A' n c' (turnedS T e')).all (·.oneCell') = true
      simp [Value.oneCell']
    go_wp2_with (first
      | (refine wpList_load_row rfl 57 _ rfl (w.heap.size + 1) rfl 57 (entC e' A' n c' (turnedS T e')) (0, 0) _ HB4.out Tryz.underlying57 rfl HI.out ?_)
      | (refine wpList_store_row rfl 57 _ _ rfl w.heap.size (entC e' A' n c' (turnedS T e')) rfl rfl 57 cs0 HB04.out HI.out HS.out H1.out ?_))
    refine bodyPost_ret (v := .agg (entC e' A' n c' (turnedS T e'))) (results_cell_row Tryz.results69 _ _ w.heap.size 57 _ (0, 0) _ rfl (setRow_blk HB04.out _) Tryz.underlying57 rfl HI.out) rfl ⟨⟨A', n, c', rfl, hnc', ?_⟩, ?_⟩
    · refine own_kept HOW4.out (setRow_gby _ _ _) (fun k hk hr => ?_)
      injection hr with hr
      subst hr
      have := own_ty HOW4.out hk
      rw [HB04.out.ty] at this
      simp at this
    · exact HBW4.out.trans (grown_below (setRow_gby _ _ _) (by have := HB04.out.lt; omega) (fun k hk => by injection hk with hk; omega))
end

end Go.Proofs.YtoaiamgcegnjjaaGreatDoor
namespace Go.Proofs.YtoaiamgcegnjjaaGreatDoor
open Go.RowKit Go.Maps Go.WideMaps Go.Sort
set_option maxRecDepth 100000

theorem results_cell_tmp {P : Program} {fn : Func} {p q : Tmp} {ty : TypeId} (h : fn.results = #[.cell p ty, .tmp q]) (tmps : Array Value) (w : World) (g : Nat) (t : TypeId) (cs : Array Value) (fr : Nat × Nat) (d : TypeDesc)
    (hp : tmps.getD p undef = .pointer (some ⟨g, 0, none⟩)) (hg : w.heap[g]? = some (.cells cs t fr))
    (hu : P.underlying ty = some d) (hd : (match d with | .struct _ | .array _ _ => true | _ => false) = true) (hi : (P.info? ty).map (·.size) = some cs.size) :
    (results fn tmps).run P w = .ok (.tuple #[.agg cs, tmps.getD q undef]) w := by
  have hp' : tmps[p]?.getD undef = .pointer (some ⟨g, 0, none⟩) := by simpa using hp
  simp [results, h, hp', asAddr, run_loadVar_row w g t ty cs fr d hg hu hd hi]

section
variable {w : World} {base tb m : Nat} {T : TabS} {be bo : Nat} {kf : Int → Option Nat} {of_ rf : ByteArray → Option Nat}

theorem get_some (h : TabR w base tb m T be bo kf of_ rf) {e : Ent} {g : Nat} (hid : (Lit.int .i64 e.id).wf = true) (hg : kf e.id = some g) (he : T.ents e.id = some e) :
    Calls Tryz.prog 22 #[.pointer (some ⟨tb, 0, none⟩), .int .i64 e.id] w fun en w' => (∃ A' n c', en = .returned (.tuple #[.agg (entC e A' n c' (turnedS T e)), .bool true]) ∧ n ≤ c' ∧ w'.ownsRow w.heap.size 9 1 (.slice A' n c') n (e.ks.map Value.string)) ∧ Below w.heap.size w w' := by
  have hb0 : Below w.heap.size w (w.alloc (.cells zeroE 57)) := (Below.refl _ _).alloc (Nat.le_refl _) _
  have HT := Lib.hid (h.grow hb0)
  have HG := Lib.hid hg
  have HE := Lib.hid he
  have HB0 := Lib.hid hb0
  have HBK := Lib.hid (Blk.new w 57 zeroE)
  clear h hg he hb0
  go_enter Tryz.func22, Tryz.ntmps22
  go_wp2_with fail
  refine (find_any HT.out hid).mono ?_
  rintro en w1 ⟨rfl, rfl⟩
  rw [HG.out]
  unfold ptrV
  go_wp2_with fail
  refine (entry_any HT.out HG.out HE.out).mono ?_
  rintro en w1 ⟨⟨A', n, c', rfl, hnc, hown⟩, hb1⟩
  have HBK1 := Lib.hid (HBK.out.below hb1 (by simp))
  have HBW := Lib.hid (HB0.out.trans (hb1.mono (by simp)))
  have HOW := Lib.hid (own_base hown (show w.heap.size ≤ _ by simp))
  have HI : Hid ((Tryz.prog.info? 57).map (·.size) = some (entC e A' n c' (turnedS T e)).size) := size57
  have HS : Hid (zeroE.size = (entC e A' n c' (turnedS T e)).size) := by show zeroE.size = _; rfl
  have H1 : Hid ((entC e A' n c' (turnedS T e)).all (·.oneCell') = true) := by
    show (entC e A' n c' (turnedS T e)).all (·.oneCell') = true
    simp [Value.oneCell']
  clear hb1 hown HBK HB0
  go_wp2_with (refine wpList_store_row rfl 57 _ _ rfl w.heap.size (entC e A' n c' (turnedS T e)) rfl rfl 57 zeroE HBK1.out HI.out HS.out H1.out ?_)
  refine bodyPost_ret (v := .tuple #[.agg (entC e A' n c' (turnedS T e)), .bool true]) (results_cell_tmp Tryz.results22 _ _ w.heap.size 57 _ (0, 0) _ rfl (setRow_blk HBK1.out _) Tryz.underlying57 rfl HI.out) rfl ⟨⟨A', n, c', rfl, hnc, ?_⟩, ?_⟩
  · refine own_kept HOW.out (setRow_gby _ _ _) (fun k hk hr => ?_)
    injection hr with hr
    subst hr
    have := own_ty HOW.out hk
    rw [HBK1.out.ty] at this
    simp at this
  · exact HBW.out.trans (grown_below (setRow_gby _ _ _) (by have := HBK1.out.lt; omega) (fun k hk => by injection hk with hk; omega))
end

def emptyT (n : Int) : TabS := { next := n, ents := fun _ => none, objs := fun _ => none }

theorem load_nil (w : World) : Calls Tryz.prog 13 #[.slice none 0 0, .int .i64 1] w fun e w' => ∃ tb, e = .returned (.tuple #[.pointer (some ⟨tb, 0, none⟩), .int .i64 0]) ∧ Tab w' w.heap.size tb 0 (emptyT 1) ∧ Below w.heap.size w w' := by
  have hmm := @run_makeMap Tryz.prog
  have hb0 : Below w.heap.size w (((w.alloc (.map #[] 0)).alloc (.map #[] 0)).alloc (.cells #[.int .i64 1, .map (some w.heap.size), .map (some (w.heap.size + 1))] 114)) := (((Below.refl _ _).alloc (Nat.le_refl _) _).alloc (by simp) _).alloc (by simp; omega) _
  have hi : IMap (((w.alloc (.map #[] 0)).alloc (.map #[] 0)).alloc (.cells #[.int .i64 1, .map (some w.heap.size), .map (some (w.heap.size + 1))] 114)) w.heap.size 0 (fun _ => none) :=
    (IMap.made w).kept (gby_alloc (gby_alloc (gby_refl _ none) _) _) (by simp)
  have hs : SMap (((w.alloc (.map #[] 0)).alloc (.map #[] 0)).alloc (.cells #[.int .i64 1, .map (some w.heap.size), .map (some (w.heap.size + 1))] 114)) (w.heap.size + 1) 0 (fun _ => none) := by
    have := (SMap.made (w.alloc (.map #[] 0))).kept (gby_alloc (gby_refl _ none) (.cells #[.int .i64 1, .map (some w.heap.size), .map (some (w.heap.size + 1))] 114)) (by simp)
    simpa using this
  have hb : Blk (((w.alloc (.map #[] 0)).alloc (.map #[] 0)).alloc (.cells #[.int .i64 1, .map (some w.heap.size), .map (some (w.heap.size + 1))] 114)) (w.heap.size + 1 + 1) 114 #[.int .i64 1, .map (some w.heap.size), .map (some (w.heap.size + 1))] := by
    have := new2 (w.alloc (.map #[] 0)) (.map #[] 0) 114 #[.int .i64 1, .map (some w.heap.size), .map (some (w.heap.size + 1))]
    simpa using this
  have hown : (((w.alloc (.map #[] 0)).alloc (.map #[] 0)).alloc (.cells #[.int .i64 1, .map (some w.heap.size), .map (some (w.heap.size + 1))] 114)).ownsMap Tryz.prog 9 ptrElem (w.heap.size + 1) 0 (.map []) := by
    have := (World.ownsMap_made (w.alloc (.map #[] 0)) Tryz.prog 9 ptrElem).kept (gby_alloc (gby_refl _ none) (.cells #[.int .i64 1, .map (some w.heap.size), .map (some (w.heap.size + 1))] 114)) (by simp)
    simpa using this
  have hT : TabR (((w.alloc (.map #[] 0)).alloc (.map #[] 0)).alloc (.cells #[.int .i64 1, .map (some w.heap.size), .map (some (w.heap.size + 1))] 114)) w.heap.size (w.heap.size + 1 + 1) 0 (emptyT 1) w.heap.size (w.heap.size + 1) (fun _ => none) (fun _ => none) (fun _ => none) :=
    { blk := hb, low := ⟨by omega, by omega, by omega⟩, ne := by omega, imap := hi, smap := hs, ents := (fun _ _ h => by cases h), noent := (fun _ _ => rfl), objs := (fun _ _ h => by cases h), noobj := (fun _ _ => rfl), kinj := (fun _ _ _ h => by cases h), oinj := (fun _ _ _ h => by cases h), rinj := (fun _ _ _ h => by cases h), ids := (fun _ _ h => by cases h), eobj := (fun _ _ h => by cases h), told := (fun _ _ h => by cases h), idlt := (fun _ _ h => by cases h), next := ⟨by simp [emptyT], by simp [emptyT]⟩ }
  obtain ⟨w4, hrun, hrg, hgr, hsz⟩ := hown.range keyed9 Tryz.underlying112
  have hb4 : Below (((w.alloc (.map #[] 0)).alloc (.map #[] 0)).alloc (.cells #[.int .i64 1, .map (some w.heap.size), .map (some (w.heap.size + 1))] 114)).heap.size (((w.alloc (.map #[] 0)).alloc (.map #[] 0)).alloc (.cells #[.int .i64 1, .map (some w.heap.size), .map (some (w.heap.size + 1))] 114)) w4 := ⟨hgr.os, hgr.tape, hgr.output, hgr.size, fun k hk => hgr.block k hk (by simp)⟩
  have hT4 := hT.grow hb4
  have HB := Lib.hid (hb0.trans (hb4.mono (by simp; omega)))
  have HT := Lib.hid hT4
  have hrun' : (Instr.range 112 (.map (some (w.heap.size + 1)))).run Tryz.prog (((w.alloc (.map #[] 0)).alloc (.map #[] 0)).alloc (.cells #[.int .i64 1, .map (some w.heap.size), .map (some (w.heap.size + 1))] 114)) = .ok (.pointer (some ⟨w.heap.size + 1 + 1 + 1, 0, none⟩)) w4 := by
    rw [hrun]
    simp
  have hnext : ∀ ty, (Instr.next (.pointer (some ⟨w.heap.size + 1 + 1 + 1, 0, none⟩)) false ty).run Tryz.prog w4 = .ok (.tuple #[.bool false]) w4 := fun ty => by
    have hrg' := hrg
    simp only [World.size_alloc] at hrg'
    rcases hrg'.next keyed9 ty with ⟨_, _, h⟩ | ⟨_, _, _, _, _, cnt', _, _, _, _, _, _, hlt, _⟩
    · exact h
    · simp [Maps.size] at hlt
  clear hb0 hi hs hb hown hT hb4 hT4 hrun hrg hgr hsz
  go_enter Tryz.func13, Tryz.ntmps13
  go_wp2_with fail
  go_loop [30] (fun i => i = .int .i64 0) (fun _ => 0)
  case atStart => rfl
  case round =>
    subst hrel
    go_wp2_with fail
    go_loop [72, 73] (fun _ _ => True) (fun _ _ => 0)
    case atStart => trivial
    case round =>
      go_wp2_with fail
      go_ret2
      exact ⟨w.heap.size + 1 + 1, rfl, ⟨_, _, _, _, _, HT.out⟩, HB.out⟩

end Go.Proofs.YtoaiamgcegnjjaaGreatDoor
namespace Go.Proofs.YtoaiamgcegnjjaaGreatDoor
open Go.RowKit Go.Maps Go.WideMaps Go.Sort
set_option maxRecDepth 100000

theorem land_ok {w : World} {base tb m : Nat} {T : TabS} (h : Tab w base tb m T) (hm : m < 40000) (obj : ByteArray) (st : Int) (M : MetaS) (A : Option Addr) (n c : Nat) (sf sto age ti mo ge : Int) (hk : Strs w base A n M.ks) (hn : n ≤ 9223372036854775807) (hnc : n ≤ c)
    (hok : landOK obj M age ti mo ge = true) {id : Int} {b : Bool} (hl : (landS T obj M age ti mo ge).2 = (id, b)) :
    Calls Tryz.prog 29 #[.pointer (some ⟨tb, 0, none⟩), .string obj, .agg (replyC st M A n c sf sto age), .agg #[.int .i64 ti, .int .i64 mo, .int .i64 ge]] w fun en w' => en = .returned (.tuple #[.int .i64 id, .bool b]) ∧ Keeps base w w' ∧ Tab w' base tb (m + 4) (landS T obj M age ti mo ge).1 := by
  obtain ⟨be, bo, kf, of_, rf, hR⟩ := h
  refine land_guard hR hm obj st M A n c sf sto age ti mo ge hk hn hnc _ (fun h => by rw [hok] at h; cases h) (fun _ w' T' id' b' he hkp ht => ?_)
  rw [he] at hl ⊢
  simp only [Prod.mk.injEq] at hl
  obtain ⟨rfl, rfl⟩ := hl
  exact ⟨rfl, hkp, ht⟩

def metaL (s : ByteArray) : MetaS := { t := s, wk := false, mo := -1, le := 4, ha := 4, fr := 9, wh := 0, er := 0, ks := [], ten := ByteArray.empty, kp := true }

theorem meta_any (s : ByteArray) (w : World) : Calls Tryz.prog 43 #[.string s] w fun e w' => e = .returned (.agg (metaC s false (-1) 4 4 9 0 0 none 0 0 ByteArray.empty true)) ∧ Below w.heap.size w w' := by
  go_enter Tryz.func43, Tryz.ntmps43
  go_wp2
  exact bodyPost_ret (v := .agg (metaC s false (-1) 4 4 9 0 0 none 0 0 ByteArray.empty true)) (by simp [results, Tryz.results43, go_sem]; rfl) rfl ⟨rfl, (Below.refl _ _).alloc (Nat.le_refl _) _⟩

def so : ByteArray := ⟨#[47, 111]⟩
def v1 : ByteArray := ⟨#[118, 49]⟩
def v2 : ByteArray := ⟨#[118, 50]⟩
def T1 : TabS := (landS (emptyT 1) so (metaL v1) 0 0 5 0).1
def T2 : TabS := (landS T1 so (metaL v2) 0 0 9 0).1
def T3 : TabS := (landS T2 so (metaL v1) 0 0 7 0).1
def E1 : Ent := newEnt 1 so (metaL v1) 0 7 0
theorem ok1 : landOK so (metaL v1) 0 0 5 0 = true := by kernel_rfl
theorem ok2 : landOK so (metaL v2) 0 0 9 0 = true := by kernel_rfl
theorem ok3 : landOK so (metaL v1) 0 0 7 0 = true := by kernel_rfl
theorem id1 : (landS (emptyT 1) so (metaL v1) 0 0 5 0).2 = (1, true) := by kernel_rfl
theorem id2 : (landS T1 so (metaL v2) 0 0 9 0).2 = (2, true) := by kernel_rfl
theorem id3 : (landS T2 so (metaL v1) 0 0 7 0).2 = (1, false) := by kernel_rfl
theorem last3 : lastS T3 so = some 2 := by kernel_rfl
theorem ent3 : T3.ents 1 = some E1 := by kernel_rfl
theorem turn3 : turnedS T3 E1 = true := by kernel_rfl

theorem tab_grow {w w' : World} {base tb m : Nat} {T : TabS} (h : Tab w base tb m T) (hb : Below w.heap.size w w') : Tab w' base tb m T := by
  obtain ⟨be, bo, kf, of_, rf, hR⟩ := h
  exact ⟨be, bo, kf, of_, rf, hR.grow hb⟩

set_option maxHeartbeats 1000000 in
theorem wakes_any (w : World) : Calls Tryz.prog 11 #[] w fun e w' => e = .returned (.bool true) ∧ Below w.heap.size w w' := by
  go_enter Tryz.func11, Tryz.ntmps11
  go_wp2_with fail
  refine (load_nil w).mono ?_
  rintro en w1 ⟨tb, rfl, ht, hb⟩
  have HT := Lib.hid ht
  have HB := Lib.hid hb
  clear ht hb
  go_wp2_with fail
  refine (meta_any _ _).mono ?_
  rintro en w2 ⟨rfl, hb⟩
  have htw2 := tab_grow HT.out hb
  have HBw2 := Lib.hid (HB.out.trans (hb.mono HB.out.size))
  clear hb HT HB
  have HT := Lib.hid htw2
  have HB := Lib.hid HBw2.out
  clear htw2 HBw2
  go_wp2_with fail
  refine (land_ok HT.out (by omega) so 200 (metaL v1) none 0 0 0 0 0 0 5 0 Rd.nil (by omega) (Nat.le_refl _) ok1 id1).mono ?_
  rintro en w3 ⟨rfl, hk, ht⟩
  have hbb := HB.out.trans hk.below
  clear HT HB
  have HT := Lib.hid (show Tab w3 w.heap.size tb _ T1 from ht)
  have HB := Lib.hid hbb
  clear hk ht hbb
  go_wp2_with fail
  refine (meta_any _ _).mono ?_
  rintro en w4 ⟨rfl, hb⟩
  have htw4 := tab_grow HT.out hb
  have HBw4 := Lib.hid (HB.out.trans (hb.mono HB.out.size))
  clear hb HT HB
  have HT := Lib.hid htw4
  have HB := Lib.hid HBw4.out
  clear htw4 HBw4
  go_wp2_with fail
  refine (land_ok HT.out (by omega) so 200 (metaL v2) none 0 0 0 0 0 0 9 0 Rd.nil (by omega) (Nat.le_refl _) ok2 id2).mono ?_
  rintro en w5 ⟨rfl, hk, ht⟩
  have hbb := HB.out.trans hk.below
  clear HT HB
  have HT := Lib.hid (show Tab w5 w.heap.size tb _ T2 from ht)
  have HB := Lib.hid hbb
  clear hk ht hbb
  go_wp2_with fail
  refine (meta_any _ _).mono ?_
  rintro en w6 ⟨rfl, hb⟩
  have htw6 := tab_grow HT.out hb
  have HBw6 := Lib.hid (HB.out.trans (hb.mono HB.out.size))
  clear hb HT HB
  have HT := Lib.hid htw6
  have HB := Lib.hid HBw6.out
  clear htw6 HBw6
  go_wp2_with fail
  refine (land_ok HT.out (by omega) so 200 (metaL v1) none 0 0 0 0 0 0 7 0 Rd.nil (by omega) (Nat.le_refl _) ok3 id3).mono ?_
  rintro en w7 ⟨rfl, hk, ht⟩
  have hbb := HB.out.trans hk.below
  clear HT HB
  have HT := Lib.hid (show Tab w7 w.heap.size tb _ T3 from ht)
  have HB := Lib.hid hbb
  clear hk ht hbb
  go_wp2_with fail
  obtain ⟨be, bo, kf, of_, rf, hR⟩ := HT.out
  refine (last_any hR (s := so) (by unfold maxLen; decide)).mono ?_
  rintro en w8 ⟨rfl, hb8⟩
  have hR8 := hR.grow hb8
  have HB8 := Lib.hid (HB.out.trans (hb8.mono HB.out.size))
  have HR8 := Lib.hid hR8
  clear hR hb8 hR8 HB HT
  rw [last3]
  go_wp2_with fail
  obtain ⟨g, hg⟩ := HR8.out.kf_some (id := 1) (by rw [ent3]; rfl)
  refine (get_some HR8.out (e := E1) (by decide) hg ent3).mono ?_
  rintro en w9 ⟨⟨A', n, c', rfl, hnc, hown⟩, hb9⟩
  rw [turn3]
  have HB9 := Lib.hid (HB8.out.trans (hb9.mono HB8.out.size))
  clear hown hb9 hnc
  go_wp2_with fail
  go_ret
  exact ⟨rfl, HB9.out.alloc HB9.out.size _⟩

end Go.Proofs.YtoaiamgcegnjjaaGreatDoor
