/- Table.Confirm, Gone and Has. No condition. Table.Learn. No condition. -/
import Derived.Test.YtoaiamgcegnjjaaGreatDoorMG
import Derived.Test.YtoaiamgcegnjjaaGreatDoorW3
import Derived.Lib.QuietBelow
namespace Go.Proofs.YtoaiamgcegnjjaaGreatDoor
open Go.RowKit Go.Maps Go.WideMaps Go.Sort
set_option maxRecDepth 100000

def confirmS (T : TabS) (id ti mo ge : Int) : TabS × Int :=
  if askOK ti mo ge then (match T.ents id with
    | some e => (match T.objs e.obj with
      | some o => ((T.setEnt (e.say mo ge ti)).setObj e.obj (o.take mo id), 0)
      | none => (T, 0))
    | none => (T, 6)) else (T, 1)

section
variable {w : World} {base tb m : Nat} {T : TabS}

set_option maxHeartbeats 400000 in
theorem confirm_any (h : Tab w base tb m T) (id ti mo ge : Int) (hid : (Lit.int .i64 id).wf = true) :
    Calls Tryz.prog 30 #[.pointer (some ⟨tb, 0, none⟩), .int .i64 id, .agg #[.int .i64 ti, .int .i64 mo, .int .i64 ge]] w fun e w' => e = .returned (.int .i64 (confirmS T id ti mo ge).2) ∧ Keeps base w w' ∧ Tab w' base tb m (confirmS T id ti mo ge).1 := by
  obtain ⟨be, bo, kf, of_, rf, hR⟩ := h
  have hlow := hR.lows
  have hb0 : Below w.heap.size w (w.alloc (.cells #[.int .i64 ti, .int .i64 mo, .int .i64 ge] 74)) := (Below.refl _ _).alloc (Nat.le_refl _) _
  have k0 : Blk (w.alloc (.cells #[.int .i64 ti, .int .i64 mo, .int .i64 ge] 74)) w.heap.size 74 #[.int .i64 ti, .int .i64 mo, .int .i64 ge] := Blk.new _ _ _
  have HB0 := Lib.hid hb0
  have K0 := Lib.hid k0
  have HR := Lib.hid hR
  clear hb0 k0 hR
  go_enter Tryz.func30, Tryz.ntmps30
  go_wp2_with fail
  refine (askRight_any _ _ _ _).mono ?_
  rintro en w1 ⟨rfl, hb⟩
  have hb1 := HB0.out.trans (hb.mono (by simp))
  have k1 := K0.out.below hb (by simp)
  have HB1 := Lib.hid hb1
  have K1 := Lib.hid k1
  have HR1 := Lib.hid (HR.out.grow hb1)
  have hs1 := k1.lt
  obtain ⟨a0, a1, a2⟩ := ask_cells k1
  clear hb hb1 k1 HB0 K0
  cases hok : askOK ti mo ge
  · have HOK := Lib.hid hok
    clear hok
    go_wp2_with fail
    go_ret
    have e : confirmS T id ti mo ge = (T, 1) := by unfold confirmS; rw [HOK.out]; rfl
    rw [e]
    exact ⟨rfl, Keeps.of_below HB1.out hlow, _, _, _, _, _, HR1.out⟩
  · have HOK := Lib.hid hok
    clear hok
    go_wp2_with fail
    refine (find_any HR1.out hid).mono ?_
    rintro en w2 ⟨rfl, rfl⟩
    cases hk : kf id with
    | none =>
      have HN : Hid (T.ents id = none) := HR1.out.noent id hk
      unfold ptrV
      clear hk
      go_wp2_with fail
      go_ret
      have e : confirmS T id ti mo ge = (T, 6) := by unfold confirmS; rw [HOK.out, HN.out]; rfl
      rw [e]
      exact ⟨rfl, Keeps.of_below HB1.out hlow, _, _, _, _, _, HR1.out⟩
    | some g =>
      obtain ⟨e, he, hid', hK⟩ := HR1.out.ents id g hk
      subst hid'
      have HE := Lib.hid he
      have hoS := HR1.out.eobj _ _ he
      obtain ⟨o, ho⟩ := Option.isSome_iff_exists.1 hoS
      have HO := Lib.hid ho
      have HG := Lib.hid hk
      unfold ptrV
      have hname := hK.name
      have HKN := Lib.hid hK
      have HEQ : Hid (confirmS T e.id ti mo ge = ((T.setEnt (e.say mo ge ti)).setObj e.obj (o.take mo e.id), 0)) := by
        show confirmS T e.id ti mo ge = _
        unfold confirmS
        rw [HOK.out, HE.out]
        simp only [if_true, HO.out]
      clear he hoS ho hk hK
      go_wp2_with fail
      refine (say_tab HR1.out HG.out HE.out ti mo ge ti).mono ?_
      rintro en w3 ⟨rfl, hk3, hR3⟩
      have k3 := K1.out.keeps hk3 (by decide) (by decide) (by decide) (by decide)
      obtain ⟨g', hg'⟩ : ∃ g', of_ e.obj = some g' := by
        cases hof : of_ e.obj with
        | some g' => exact ⟨g', rfl⟩
        | none => have := HR1.out.noobj _ hof; rw [HO.out] at this; cases this
      obtain ⟨b0, b1, b2⟩ := ask_cells k3
      obtain ⟨e3, he3, hi3, hK3⟩ := hR3.ents _ _ HG.out
      have ee : e3 = e.say mo ge ti := by
        have : (T.setEnt (e.say mo ge ti)).ents e.id = some (e.say mo ge ti) := by simp [TabS.setEnt, Ent.say_id]
        exact Option.some.inj (he3.symm.trans this)
      obtain ⟨_, _, _, _, _, _, hbk3, _⟩ := hK3.cells
      have c1 : w3.cell? ⟨g, 1, none⟩ = some (.string e.obj) := by rw [hbk3.cell 1, ee, ← Ent.say_obj e mo ge ti]; rfl
      have HK3 := Lib.hid hk3
      have HR3 := Lib.hid hR3
      have HG' := Lib.hid hg'
      have hsz3 := k3.lt
      clear hk3 hR3 k3 he3 hi3 hK3 ee hbk3 hg' a0 a1 a2
      have ho3 : (T.setEnt (e.say mo ge ti)).objs e.obj = some o := HO.out
      have HO3 := Lib.hid ho3
      clear ho3
      go_wp2_with fail
      go_region_with (first
        | (go_at_call 84; refine (object_there HR3.out.drew hname HG'.out).mono ?_; rintro en w4 ⟨rfl, rfl⟩)
        | (go_at_call 89; refine (take_tab HR3.out.drew HG'.out HO3.out mo e.id hid).mono ?_; rintro en w5 ⟨rfl, hk5, hR5⟩; (have HK5 := Lib.hid hk5); (have HR5 := Lib.hid hR5); clear hk5 hR5))
      all_goals
        go_wp2_with fail
        go_ret
        rw [HEQ.out]
        exact ⟨rfl, ((Keeps.of_below HB1.out hlow).trans HK3.out).trans (keeps_drew.trans HK5.out), _, _, _, _, _, HR5.out⟩

/-- .. and no row of numbers has turned -/
def Keep2 (base : Nat) (w w' : World) : Prop := Keeps base w w' ∧ ∀ k, tyOf w k = some 2 → w'.heap[k]? = w.heap[k]?
theorem Keep2.refl (base : Nat) (w : World) : Keep2 base w w := ⟨Keeps.refl _ _, fun _ _ => rfl⟩
theorem Keep2.trans {base : Nat} {a b c : World} (h : Keep2 base a b) (k : Keep2 base b c) : Keep2 base a c :=
  ⟨h.1.trans k.1, fun i hi => (k.2 i ((tyOf_of (h.2 i hi)).trans hi)).trans (h.2 i hi)⟩
theorem Keep2.of_below {base : Nat} {w w' : World} (h : Below w.heap.size w w') (hb : base ≤ w.heap.size) : Keep2 base w w' :=
  ⟨Keeps.of_below h hb, fun k hk => h.block k (tyOf_lt hk)⟩
theorem Keep2.of_grown {base : Nat} {w w' : World} {g : Nat} (h : w.grownBy w' (some g)) (hb : base ≤ w.heap.size) (hg : base ≤ g) (ht : ∀ t, tyOf w g = some t → t = 114 ∨ t = 125 ∨ t = 121) : Keep2 base w w' :=
  ⟨Keeps.of_grown h hb hg (fun t h => by rcases ht t h with h | h | h; exact .inl h; exact .inr (.inl h); exact .inr (.inr (.inl h))), fun k hk => h.block k (tyOf_lt hk) (fun e => by
    injection e with e
    subst e
    rcases ht 2 hk with h | h | h <;> simp at h)⟩
theorem keep2_drew {base : Nat} {w : World} : Keep2 base w w.drew := ⟨keeps_drew, fun _ _ => rfl⟩

theorem object_new2 {be bo : Nat} {kf : Int → Option Nat} {of_ rf : ByteArray → Option Nat} (h : TabR w base tb m T be bo kf of_ rf) {s : ByteArray} (hs : s.size ≤ maxLen) (hg : of_ s = none) (hm : m < 100000) :
    Calls Tryz.prog 84 #[.pointer (some ⟨tb, 0, none⟩), .string s] w fun e w' => ∃ g, e = .returned (.pointer (some ⟨g, 0, none⟩)) ∧ Keep2 base w w' ∧
      TabR w' base tb (m + 1) (T.setObj s newObj) be bo kf (fun y => if y = s then some g else of_ y) (fun y => if y = s then none else rf y) := by
  obtain ⟨c0, c1, c2⟩ := tab_cells h.blk
  have hl := h.smap.look hs
  rw [hg] at hl
  unfold ptrV at hl
  have hn := run_eql_map_nil (P := Tryz.prog) w 112 9 118 (some bo) Tryz.underlying112
  have hb : Below w.heap.size w (w.alloc (.cells #[.int .i64 (-1), .int .i64 0, .slice none 0 0] 121)) := (Below.refl _ _).alloc (Nat.le_refl _) _
  obtain ⟨w1, hrun, hm1, hg1⟩ := (h.grow hb).smap.put (by unfold maxLen; omega) hs w.heap.size
  have hfin := h.addObj hg (Nat.le_refl _) hb (Blk.new _ _ _) hg1 hm1
  have hty : tyOf (w.alloc (.cells #[.int .i64 (-1), .int .i64 0, .slice none 0 0] 121)) bo = none := by
    obtain ⟨D, ⟨es, cl, hx, _⟩, _⟩ := (h.grow hb).smap
    simp [tyOf, hx]
  have hk : Keep2 base w w1 := (Keep2.of_below hb h.lows).trans (Keep2.of_grown hg1 (by have := h.lows; simp; omega) h.low.2.2 (fun t ht => by rw [hty] at ht; cases ht))
  have hlt := h.blk.lt
  have HF := Lib.hid hfin
  have HK := Lib.hid hk
  clear h hg hfin hk hm1 hg1 hb hty
  go_enter Tryz.func84, Tryz.ntmps84
  go_wp2
  go_ret
  exact ⟨_, rfl, HK.out, HF.out⟩
theorem object_any2 {be bo : Nat} {kf : Int → Option Nat} {of_ rf : ByteArray → Option Nat} (h : TabR w base tb m T be bo kf of_ rf) {s : ByteArray} (hs : s.size ≤ maxLen) (hm : m < 100000) :
    Calls Tryz.prog 84 #[.pointer (some ⟨tb, 0, none⟩), .string s] w fun e w' => ∃ g of' rf', e = .returned (.pointer (some ⟨g, 0, none⟩)) ∧ Keep2 base w w' ∧ of' s = some g ∧ TabR w' base tb (m + 1) (T.withObj s) be bo kf of' rf' := by
  cases hg : of_ s with
  | some g =>
    refine (object_there h hs hg).mono fun e w' ⟨he, hw⟩ => ?_
    subst hw
    obtain ⟨o, ho, _⟩ := h.objs s g hg
    refine ⟨g, of_, rf, he, Keep2.refl _ _, hg, ?_⟩
    unfold TabS.withObj
    rw [ho]
    exact h.mono (by omega)
  | none =>
    refine (object_new2 h hs hg hm).mono fun e w' ⟨g, he, hk, ht⟩ => ?_
    refine ⟨g, (fun y => if y = s then some g else of_ y), (fun y => if y = s then none else rf y), he, hk, by simp, ?_⟩
    unfold TabS.withObj
    rw [h.noobj s hg]
    exact ht
theorem take_tab2 {be bo : Nat} {kf : Int → Option Nat} {of_ rf : ByteArray → Option Nat} (h : TabR w base tb m T be bo kf of_ rf) {s : ByteArray} {g : Nat} {o : ObjS} (hg : of_ s = some g) (ho : T.objs s = some o) (mo id : Int) (hid : (Lit.int .i64 id).wf = true) :
    Calls Tryz.prog 89 #[.pointer (some ⟨g, 0, none⟩), .int .i64 mo, .int .i64 id] w fun en w' => en = .returned (.tuple #[]) ∧ Keep2 base w w' ∧ TabR w' base tb m (T.setObj s (o.take mo id)) be bo kf of_ rf := by
  obtain ⟨o', ho', hO⟩ := h.objs s g hg
  obtain rfl : o' = o := Option.some.inj (ho'.symm.trans ho)
  obtain ⟨A, n, c, hb, x1, x2, x3⟩ := hO.cells
  have kp : ∀ w', w.grownBy w' (some g) → Keep2 base w w' := fun w' hw => Keep2.of_grown hw h.lows hO.low (fun t ht => by rw [hb.ty] at ht; injection ht with ht; exact .inr (.inr ht.symm))
  have same : ∀ A2 n2 c2, Blk w g 121 #[.int .i64 o'.mom, .int .i64 o'.told, .slice A2 n2 c2] → (Value.slice A2 n2 c2) = .slice A n c := fun A2 n2 c2 hb2 => by
    have : #[Value.int .i64 o'.mom, .int .i64 o'.told, .slice A2 n2 c2] = #[Value.int .i64 o'.mom, .int .i64 o'.told, .slice A n c] := by
      unfold Blk at hb hb2
      rw [hb] at hb2
      injection hb2 with hb2
      injection hb2 with hb2
      exact hb2.symm
    simp only [Array.mk.injEq, List.cons.injEq] at this
    exact this.2.2.1
  by_cases hm : o'.mom ≤ mo
  · refine (obj_take g _ o'.mom o'.told mo id w hb hm rfl rfl).mono fun en w' ⟨hen, hb', hw⟩ => ⟨hen, kp w' hw, ?_⟩
    have : o'.take mo id = { mom := mo, told := id, ids := o'.ids } := by unfold ObjS.take; rw [if_pos hm]
    rw [this]
    exact h.updObj hg ho hw hid (fun A2 n2 c2 hb2 => by rw [same A2 n2 c2 hb2]; exact hb')
  · refine (obj_take_no g _ o'.mom mo id w hb (by omega) rfl).mono fun en w' ⟨hen, hb', hw⟩ => ⟨hen, kp w' hw, ?_⟩
    have : o'.take mo id = { mom := o'.mom, told := o'.told, ids := o'.ids } := by unfold ObjS.take; rw [if_neg hm]
    rw [this]
    exact h.updObj hg ho hw (h.told s o' ho) (fun A2 n2 c2 hb2 => by rw [same A2 n2 c2 hb2]; exact hb')

def goneS (T : TabS) (s : ByteArray) (ti mo ge : Int) : TabS × List Int :=
  if askOK ti mo ge then (match (T.withObj s).objs s with
    | some o => ((T.withObj s).setObj s (o.take mo 0), match lastS T s with
      | some was => if (lastS ((T.withObj s).setObj s (o.take mo 0)) s).isSome then [] else [was]
      | none => [])
    | none => (T.withObj s, [])) else (T, [])

theorem withObj_some (T : TabS) (s : ByteArray) : ∃ o, (T.withObj s).objs s = some o := by
  unfold TabS.withObj
  cases h : T.objs s with
  | some o => exact ⟨o, h⟩
  | none => exact ⟨newObj, by simp [TabS.setObj]⟩

set_option maxHeartbeats 1000000 in
theorem gone_any (h : Tab w base tb m T) (hm : m < 100000) (s : ByteArray) (hs : s.size ≤ maxLen) (ti mo ge : Int) :
    Calls Tryz.prog 31 #[.pointer (some ⟨tb, 0, none⟩), .string s, .agg #[.int .i64 ti, .int .i64 mo, .int .i64 ge]] w fun e w' => (∃ A n c, e = .returned (.slice A n c) ∧ Rd w' w'.heap.size 1 A n ((goneS T s ti mo ge).2.map (Value.int .i64))) ∧ Keep2 base w w' ∧ Tab w' base tb (m + 1) (goneS T s ti mo ge).1 := by
  obtain ⟨be, bo, kf, of_, rf, hR⟩ := h
  have hlow := hR.lows
  have hb0 : Below w.heap.size w (w.alloc (.cells #[.int .i64 ti, .int .i64 mo, .int .i64 ge] 74)) := (Below.refl _ _).alloc (Nat.le_refl _) _
  have k0 : Blk (w.alloc (.cells #[.int .i64 ti, .int .i64 mo, .int .i64 ge] 74)) w.heap.size 74 #[.int .i64 ti, .int .i64 mo, .int .i64 ge] := Blk.new _ _ _
  have HB0 := Lib.hid hb0
  have K0 := Lib.hid k0
  have HR := Lib.hid hR
  clear hb0 k0 hR
  go_enter Tryz.func31, Tryz.ntmps31
  go_wp2_with fail
  refine (askRight_any _ _ _ _).mono ?_
  rintro en w1 ⟨rfl, hb⟩
  have hb1 := HB0.out.trans (hb.mono (by simp))
  have k1 := K0.out.below hb (by simp)
  have HB1 := Lib.hid hb1
  have K1 := Lib.hid k1
  have HR1 := Lib.hid (HR.out.grow hb1)
  clear hb hb1 k1 HB0 K0
  cases hok : askOK ti mo ge
  · have HOK := Lib.hid hok
    clear hok
    go_wp2_with fail
    go_ret
    have e : goneS T s ti mo ge = (T, []) := by unfold goneS; rw [HOK.out]; rfl
    rw [e]
    exact ⟨⟨none, 0, 0, rfl, Rd.nil⟩, Keep2.of_below HB1.out hlow, _, _, _, _, _, HR1.out.mono (by omega)⟩
  · have HOK := Lib.hid hok
    clear hok
    go_wp2_with fail
    refine (last_any HR1.out hs).mono ?_
    rintro en w2 ⟨rfl, hb⟩
    have hb2 := HB1.out.trans (hb.mono HB1.out.size)
    have k2 := K1.out.below hb K1.out.lt
    have HB2 := Lib.hid hb2
    have K2 := Lib.hid k2
    have HR2 := Lib.hid (HR1.out.grow hb)
    obtain ⟨a0, a1, a2⟩ := ask_cells k2
    obtain ⟨o, ho⟩ := withObj_some T s
    have HO := Lib.hid ho
    clear hb hb2 k2 HB1 K1 HR1 ho
    have HEQ : Hid (goneS T s ti mo ge = ((T.withObj s).setObj s (o.take mo 0), match lastS T s with
      | some was => if (lastS ((T.withObj s).setObj s (o.take mo 0)) s).isSome then [] else [was]
      | none => [])) := by
      show goneS T s ti mo ge = _
      unfold goneS
      rw [HOK.out]
      simp only [if_true, HO.out]
    go_upto_region 4 with fail
    go_cut [] (fun wx => ∃ of' rf', Keep2 base w2 wx ∧ TabR wx base tb (m + 1) ((T.withObj s).setObj s (o.take mo 0)) be bo kf of' rf')
    case first =>
      go_region_with (first
        | (go_at_call 84; refine (object_any2 HR2.out.drew hs hm).mono ?_; rintro en w4 ⟨g, of', rf', rfl, hk4, hof', hR4⟩; (obtain ⟨e0, e1, e2⟩ := ask_cells ((K2.out.drew).keeps hk4.1 (by decide) (by decide) (by decide) (by decide))); (have HK4 := Lib.hid hk4); (have HR4 := Lib.hid hR4); (have HOF := Lib.hid hof'); clear hk4 hR4 hof')
        | (go_at_call 89; refine (take_tab2 HR4.out HOF.out HO.out mo 0 (by decide)).mono ?_; rintro en w5 ⟨rfl, hk5, hR5⟩; (have HK5 := Lib.hid hk5); (have HR5 := Lib.hid hR5); clear hk5 hR5))
      all_goals
        go_wp2_with fail
        go_meet
        exact ⟨_, _, (keep2_drew.trans HK4.out).trans HK5.out, HR5.out⟩
    case rest =>
      obtain ⟨of', rf', hk5, hR5⟩ := hcut
      have HK5 := Lib.hid ((Keep2.of_below HB2.out hlow).trans hk5)
      have HR5 := Lib.hid hR5
      clear hk5 hR5 a0 a1 a2
      go_wp2_with fail
      refine (last_any HR5.out hs).mono ?_
      rintro en w6 ⟨rfl, hb6⟩
      have HK6 := Lib.hid (HK5.out.trans (Keep2.of_below hb6 HR5.out.lows))
      have HR6 := Lib.hid (HR5.out.grow hb6)
      clear hb6
      generalize hl1 : lastS T s = l1
      generalize hl2 : lastS ((T.withObj s).setObj s (o.take mo 0)) s = l2
      have HL1 := Lib.hid hl1
      have HL2 := Lib.hid hl2
      clear hl1 hl2
      rcases l1 with _ | was
      · go_wp2_with fail
        go_ret
        rw [HEQ.out, HL1.out]
        exact ⟨⟨none, 0, 0, rfl, Rd.nil⟩, HK6.out, _, _, _, _, _, HR6.out⟩
      · rcases l2 with _ | still
        · go_wp2_with fail
          go_ret
          rw [HEQ.out, HL1.out, HL2.out]
          have hb7 : Below w6.heap.size w6 (w6.alloc (.cells #[.int .i64 was] 2)) := (Below.refl _ _).alloc (Nat.le_refl _) _
          exact ⟨⟨_, 1, 1, rfl, (Blk.new w6 2 #[.int .i64 was]).rd⟩, HK6.out.trans (Keep2.of_below hb7 HR6.out.lows), _, _, _, _, _, HR6.out.grow hb7⟩
        · go_wp2_with fail
          go_ret
          rw [HEQ.out, HL1.out, HL2.out]
          exact ⟨⟨none, 0, 0, rfl, Rd.nil⟩, HK6.out, _, _, _, _, _, HR6.out⟩
end
end Go.Proofs.YtoaiamgcegnjjaaGreatDoor
namespace Go.Proofs.YtoaiamgcegnjjaaGreatDoor
open Go.RowKit Go.Maps Go.WideMaps Go.Sort
set_option maxRecDepth 100000

def Ent.meta_ (e : Ent) : MetaS := { t := e.t, wk := e.wk, mo := e.mo, le := e.le, ha := e.ha, fr := e.fr, wh := e.wh, er := e.er, ks := e.ks, ten := e.ten, kp := e.kp }
def MetaS.learn (M : MetaS) (hv ln : Int) : MetaS := { M with ha := hv, le := ln }
def learnS (T : TabS) (id hv ln : Int) : TabS × Int :=
  match T.ents id with
  | none => (T, 6)
  | some e => if (e.meta_.learn hv ln).ok && e.followB (e.meta_.learn hv ln) then (T.setEnt (e.withMeta (e.meta_.learn hv ln)), 0) else (T, 12)

theorem size39 : (Tryz.prog.info? 39).map (·.size) = some 11 := by kernel_rfl
theorem metaC_one (t : ByteArray) (wk : Bool) (mo le ha fr wh er : Int) (A : Option Addr) (n c : Nat) (ten : ByteArray) (kp : Bool) : (metaC t wk mo le ha fr wh er A n c ten kp).all (·.oneCell') = true := by simp [Value.oneCell']
abbrev zero39 : Array Value := metaC ⟨#[]⟩ false 0 0 0 0 0 0 none 0 0 ⟨#[]⟩ false

theorem Blk.range {w : World} {g : Nat} {t : TypeId} {cs : Array Value} (h : Blk w g t cs) (o : Nat) (xs : List Value) (hx : ∀ j v, xs[j]? = some v → cs[o + j]? = some v) : w.rangeAt g o xs := fun j v hv => (h.cell (o + j)).trans (hx j v hv)
theorem Blk.there {w : World} {g : Nat} {t : TypeId} {cs : Array Value} (h : Blk w g t cs) (o n : Nat) (hn : o + n ≤ cs.size) : w.there g o n := fun j hj => ⟨by rw [h.cell, Array.getElem?_eq_getElem (by omega)]; rfl, h.free _⟩

theorem metaOK_len {t : ByteArray} {wk : Bool} {mo le ha fr wh er : Int} {ks : List ByteArray} {ten : ByteArray} (h : metaOK t wk mo le ha fr wh er ks ten = true) : ks.length ≤ 32 := by
  unfold metaOK at h
  simp only [Bool.and_eq_true, decide_eq_true_eq] at h
  exact h.1.1.2
section
variable {w : World} {base tb m : Nat} {T : TabS}
set_option maxHeartbeats 1000000 in
theorem learn_any (h : Tab w base tb m T) (id hv ln : Int) (hid : (Lit.int .i64 id).wf = true) :
    Calls Tryz.prog 34 #[.pointer (some ⟨tb, 0, none⟩), .int .i64 id, .int .i64 hv, .int .i64 ln] w fun e w' => e = .returned (.int .i64 (learnS T id hv ln).2) ∧ Keeps base w w' ∧ Tab w' base tb m (learnS T id hv ln).1 := by
  obtain ⟨be, bo, kf, of_, rf, hR⟩ := h
  have hlow := hR.lows
  have HR := Lib.hid hR
  clear hR
  go_enter Tryz.func34, Tryz.ntmps34
  go_wp2_with fail
  refine (find_any HR.out hid).mono ?_
  rintro en w2 ⟨rfl, rfl⟩
  cases hk : kf id with
  | none =>
    have HN : Hid (T.ents id = none) := HR.out.noent id hk
    unfold ptrV
    clear hk
    go_wp2_with fail
    go_ret
    have e : learnS T id hv ln = (T, 6) := by unfold learnS; rw [HN.out]
    rw [e]
    exact ⟨rfl, Keeps.refl _ _, _, _, _, _, _, HR.out⟩
  | some g =>
    obtain ⟨e, he, hid', hK⟩ := HR.out.ents id g hk
    subst hid'
    obtain ⟨A, n, c, hA, hn, hc, hb, x1, x2, x3, x4⟩ := hK.cells
    have HE := Lib.hid he
    have HG := Lib.hid hk
    have HKN := Lib.hid hK
    have HBK := Lib.hid hb
    have HX2 := Lib.hid x2
    have HX4 := Lib.hid x4
    have hn1 : n ≤ 1000 := by have := own_len x2; have := hK.keys; simp at *; omega
    have hr0 : w.rangeAt g 2 (metaC e.t e.wk e.mo e.le e.ha e.fr e.wh e.er A n c e.ten e.kp).toList := hb.range 2 _ (fun j v hv => by
      match j, hv with
      | 0, hv | 1, hv | 2, hv | 3, hv | 4, hv | 5, hv | 6, hv | 7, hv | 8, hv | 9, hv | 10, hv => simpa using hv)
    have HR0 := Lib.hid hr0
    have hgl := hb.lt
    unfold ptrV
    clear he hk hK hb x2 x4 hr0
    go_wp2_with (refine wpList_load_mid rfl 39 _ rfl g 2 rfl (metaC e.t e.wk e.mo e.le e.ha e.fr e.wh e.er A n c e.ten e.kp).toList _ HR0.out Tryz.underlying39 rfl size39 ?_; rw [show (metaC e.t e.wk e.mo e.le e.ha e.fr e.wh e.er A n c e.ten e.kp).toList.toArray = metaC e.t e.wk e.mo e.le e.ha e.fr e.wh e.er A n c e.ten e.kp from rfl])
    refine (copied_any e.t e.wk e.mo e.le e.ha e.fr e.wh e.er A n c e.ten e.kp e.ks _ (own_rd HX2.out) hn1).mono ?_
    rintro en w1 ⟨⟨A', c', rfl, hown', hnc'⟩, hb1⟩
    have hs1 := hb1.size
    have HB1 := Lib.hid hb1
    have HOW := Lib.hid hown'
    clear hb1 hown'
    have HS : Hid (zero39.size = (metaC e.t e.wk e.mo e.le e.ha e.fr e.wh e.er A' n c' e.ten e.kp).size) := rfl
    go_upto_region 7 with (refine wpList_store_row rfl 39 _ _ rfl w1.heap.size (metaC e.t e.wk e.mo e.le e.ha e.fr e.wh e.er A' n c' e.ten e.kp) rfl rfl 39 _ (Blk.new w1 39 _) size39 HS.out (metaC_one _ _ _ _ _ _ _ _ _ _ _ _ _) ?_; rw [World.setRow_alloc_new])
    go_upto_region 8 with fail
    have hbk3 : Blk (w1.alloc (.cells (metaC e.t e.wk e.mo ln hv e.fr e.wh e.er A' n c' e.ten e.kp) 39)) w1.heap.size 39 (metaC e.t e.wk e.mo ln hv e.fr e.wh e.er A' n c' e.ten e.kp) := Blk.new _ _ _
    have hb3 : Below w.heap.size w (w1.alloc (.cells (metaC e.t e.wk e.mo ln hv e.fr e.wh e.er A' n c' e.ten e.kp) 39)) := HB1.out.alloc hs1 _
    have how3 := HOW.out.alloc (.cells (metaC e.t e.wk e.mo ln hv e.fr e.wh e.er A' n c' e.ten e.kp) 39)
    generalize w1.alloc (.cells (metaC e.t e.wk e.mo ln hv e.fr e.wh e.er A' n c' e.ten e.kp) 39) = w3 at *
    have hbg3 := HBK.out.below hb3 hgl
    have hsz3 := hb3.size
    have sB : Strs w3 w3.heap.size A' n e.ks := own_rd how3
    have sA : Strs w3 w3.heap.size A n e.ks := Rd.below (own_rd HX2.out) hb3 hsz3
    obtain ⟨b0, b1, b2, b3, b4, b5, b6, b7, b8, b9, b10⟩ := metaCells hbk3
    obtain ⟨_, _, k2, k3, k4, k5, k6, k7, k8, k9, k10, k11, k12, _⟩ := known_cells hbg3
    have HB3 := Lib.hid hb3
    have HBK3 := Lib.hid hbk3
    have HBG3 := Lib.hid hbg3
    have HOW3 := Lib.hid how3
    have SA := Lib.hid sA
    have SB := Lib.hid sB
    have hg3 : w1.heap.size < w3.heap.size := hbk3.lt
    clear hb3 hbk3 hbg3 how3 sA sB HOW HB1 HR0
    have hMok : Hid ((e.meta_.learn hv ln).ok = metaOK e.t e.wk e.mo ln hv e.fr e.wh e.er e.ks e.ten) := rfl
    have hFol : Hid (e.followB (e.meta_.learn hv ln) = followsB e.t e.wk e.mo e.le e.ha e.fr e.wh e.er e.ks e.ten e.t e.wk e.mo ln hv e.fr e.wh e.er e.ks e.ten) := rfl
    have c80 : ∀ d os, Calls Tryz.prog 80 #[.agg (metaC e.t e.wk e.mo ln hv e.fr e.wh e.er A' n c' e.ten e.kp)] (grow (redrawn w3 d) os) fun en w'' => en = .returned (.bool (metaOK e.t e.wk e.mo ln hv e.fr e.wh e.er e.ks e.ten)) ∧ ∃ p : Regrown, w'' = grow (redrawn w3 p.d) p.os :=
      fun d os => Calls.regrown_of (metaRight_any e.t e.wk e.mo ln hv e.fr e.wh e.er A' n c' e.ten e.kp _ e.ks w3.heap.size (SB.out.below (below_regrown w3 d os) (Nat.le_refl _)) (below_regrown w3 d os).size (by omega) hnc')
    have c87 : ∀ d os, Calls Tryz.prog 87 #[.agg (metaC e.t e.wk e.mo e.le e.ha e.fr e.wh e.er A n c e.ten e.kp), .agg (metaC e.t e.wk e.mo ln hv e.fr e.wh e.er A' n c' e.ten e.kp)] (grow (redrawn w3 d) os) fun en w'' => en = .returned (.bool (followsB e.t e.wk e.mo e.le e.ha e.fr e.wh e.er e.ks e.ten e.t e.wk e.mo ln hv e.fr e.wh e.er e.ks e.ten)) ∧ ∃ p : Regrown, w'' = grow (redrawn w3 p.d) p.os :=
      fun d os => Calls.regrown_of (metaFollows_any e.t e.wk e.mo e.le e.ha e.fr e.wh e.er A n c e.ten e.kp e.ks e.t e.wk e.mo ln hv e.fr e.wh e.er A' n c' e.ten e.kp e.ks _ (SA.out.below (below_regrown w3 d os) (below_regrown w3 d os).size) (SB.out.below (below_regrown w3 d os) (below_regrown w3 d os).size) (by omega) (by omega) x1 hnc')
    generalize hmk : metaOK e.t e.wk e.mo ln hv e.fr e.wh e.er e.ks e.ten = mk at *
    generalize hfl : followsB e.t e.wk e.mo e.le e.ha e.fr e.wh e.er e.ks e.ten e.t e.wk e.mo ln hv e.fr e.wh e.er e.ks e.ten = fl at *
    have HMK := Lib.hid hmk
    clear hmk hfl
    go_cut [40] (fun x wx => x = .bool (!(mk && fl)) ∧ Below w3.heap.size w3 wx)
    case first =>
      have rb0 := cell_regrown b0
      have rb1 := cell_regrown b1
      have rb2 := cell_regrown b2
      have rb3 := cell_regrown b3
      have rb4 := cell_regrown b4
      have rb5 := cell_regrown b5
      have rb6 := cell_regrown b6
      have rb7 := cell_regrown b7
      have rb8 := cell_regrown b8
      have rb9 := cell_regrown b9
      have rb10 := cell_regrown b10
      have rk2 := cell_regrown k2
      have rk3 := cell_regrown k3
      have rk4 := cell_regrown k4
      have rk5 := cell_regrown k5
      have rk6 := cell_regrown k6
      have rk7 := cell_regrown k7
      have rk8 := cell_regrown k8
      have rk9 := cell_regrown k9
      have rk10 := cell_regrown k10
      have rk11 := cell_regrown k11
      have rk12 := cell_regrown k12
      clear b0 b1 b2 b3 b4 b5 b6 b7 b8 b9 b10 k2 k3 k4 k5 k6 k7 k8 k9 k10 k11 k12
      cases mk
      all_goals
        refine wp_region_quiet_below (by kernel_rfl) (by kernel_rfl) ?_
        repeat (go_big_quiet_step (first | exact c80 _ _ | exact c87 _ _))
        refine wpQuiet_nil ?_
        intro _ hw'
        obtain ⟨⟨dq, osq⟩, hw''⟩ := hw'
        subst hw''
        go_wp2_with fail
        go_meet
        exact ⟨by simp, below_regrown w3 dq osq⟩
    case rest =>
      obtain ⟨rfl, hb4⟩ := hcut
      have hbw := HB3.out.trans (hb4.mono hsz3)
      have HBW := Lib.hid hbw
      have HR4 := Lib.hid (HR.out.grow hbw)
      have HBK4 := Lib.hid (HBK3.out.below hb4 hg3)
      have HBG4 := Lib.hid (HBG3.out.below hb4 (by omega))
      have HOW4 := Lib.hid (own_base (own_kept HOW3.out (gby_of_below hb4) (by simp)) hlow)
      have HX44 := Lib.hid (own_kept HX4.out (gby_of_below hbw) (by simp))
      have hsz4 := hbw.size
      have hEQ : Hid (learnS T e.id hv ln = if mk && fl then (T.setEnt (e.withMeta (e.meta_.learn hv ln)), 0) else (T, 12)) := by
        show learnS T e.id hv ln = _
        unfold learnS
        rw [HE.out]
        simp only [hMok.out, hFol.out]
      clear hb4 hbw HB3 HBK3 HBG3 HOW3 b0 b1 b2 b3 b4 b5 b6 b7 b8 b9 b10 k2 k3 k4 k5 k6 k7 k8 k9 k10 k11 k12 c80 c87 SA SB
      cases hmf : (mk && fl)
      · have HMF := Lib.hid hmf
        clear hmf
        go_wp2_with fail
        go_ret
        rw [hEQ.out, HMF.out]
        exact ⟨rfl, Keeps.of_below HBW.out hlow, _, _, _, _, _, HR4.out⟩
      · have HMF := Lib.hid hmf
        have hth := HBG4.out.there 2 (metaC e.t e.wk e.mo ln hv e.fr e.wh e.er A' n c' e.ten e.kp).size (by show 2 + 11 ≤ 18; omega)
        have HTH := Lib.hid hth
        clear hmf hth
        go_wp2_with (first
          | (refine wpList_load_row rfl 39 _ rfl w1.heap.size rfl 39 (metaC e.t e.wk e.mo ln hv e.fr e.wh e.er A' n c' e.ten e.kp) (0, 0) _ HBK4.out Tryz.underlying39 rfl size39 ?_)
          | (refine wpList_store_mid rfl 39 _ _ rfl g 2 (metaC e.t e.wk e.mo ln hv e.fr e.wh e.er A' n c' e.ten e.kp) rfl rfl HTH.out size39 (metaC_one _ _ _ _ _ _ _ _ _ _ _ _ _) ?_))
        go_ret
        rw [hEQ.out, HMF.out]
        have hmk1 : mk = true := by have := HMF.out; cases mk; cases this; rfl
        obtain ⟨hKn, hgw⟩ := known_meta (M := e.meta_.learn hv ln) (W := wc.setCells g 2 (metaC e.t e.wk e.mo ln hv e.fr e.wh e.er A' n c' e.ten e.kp).toList) HBG4.out HKN.out.low HKN.out.name (metaOK_len (HMK.out.trans hmk1)) hnc' HOW4.out x3 HX44.out rfl
        refine ⟨rfl, (Keeps.of_below HBW.out hlow).trans (Keeps.of_grown hgw HR4.out.lows HKN.out.low (fun t ht => by rw [HBG4.out.ty] at ht; injection ht with ht; exact .inr (.inl ht.symm))), _, _, _, _, _, HR4.out.updEnt HG.out (fun e0 h0 => by rw [Option.some.inj (h0.symm.trans HE.out)]; rfl) hgw hKn⟩
end
end Go.Proofs.YtoaiamgcegnjjaaGreatDoor
