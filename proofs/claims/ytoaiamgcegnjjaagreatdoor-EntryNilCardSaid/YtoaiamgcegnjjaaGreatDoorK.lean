/- A table of which one block is written. No condition. -/
import Derived.Test.YtoaiamgcegnjjaaGreatDoorJ
namespace Go.Proofs.YtoaiamgcegnjjaaGreatDoor
open Go.RowKit Go.Maps Go.WideMaps
set_option maxRecDepth 100000

section
variable {w w' : World} {base tb m : Nat} {T : TabS} {be bo : Nat} {kf : Int → Option Nat} {of_ rf : ByteArray → Option Nat}

theorem TabR.obj_row (h : TabR w base tb m T be bo kf of_ rf) {s : ByteArray} {g r : Nat} (hs : of_ s = some g) (hr : rf s = some r) : tyOf w r = some 2 := by
  obtain ⟨o, _, hO⟩ := h.objs s g hs
  obtain ⟨A, n, c, hb, _, x2, x3⟩ := hO.cells
  exact own_ty x2 (x3.trans hr)

/-- The object's own block is written. -/
theorem TabR.updObj (h : TabR w base tb m T be bo kf of_ rf) {s : ByteArray} {g : Nat} {o : ObjS} (hg : of_ s = some g) (ho : T.objs s = some o) (hw : w.grownBy w' (some g)) {mo td : Int} (hto : (Lit.int .i64 td).wf = true)
    (hb' : ∀ A n c, Blk w g 121 #[.int .i64 o.mom, .int .i64 o.told, .slice A n c] → Blk w' g 121 #[.int .i64 mo, .int .i64 td, .slice A n c]) :
    TabR w' base tb m (T.setObj s { mom := mo, told := td, ids := o.ids }) be bo kf of_ rf := by
  obtain ⟨o', ho', hO⟩ := h.objs s g hg
  obtain rfl : o' = o := Option.some.inj (ho'.symm.trans ho)
  obtain ⟨A, n, c, hbk, x1, x2, x3⟩ := hO.cells
  have nb : ∀ {b : Nat} {t : TypeId} {cs : Array Value}, Blk w b t cs → t ≠ 121 → some g ≠ some b := fun hx hne e => by
    injection e with e
    subst e
    exact hne (Option.some.inj (hx.ty.symm.trans hbk.ty))
  refine { blk := h.blk.grown hw (nb h.blk (by decide)), low := h.low, ne := h.ne, imap := h.imap.kept hw (fun e => h.imap.no_blk hbk (by injection e)), smap := h.smap.kept hw (fun e => h.smap.no_blk hbk (by injection e)), ents := fun id g' hk => ?_, noent := h.noent, objs := fun u g' hu => ?_, noobj := fun u hu => ?_, kinj := h.kinj, oinj := h.oinj, rinj := h.rinj, ids := fun u o1 hu => ?_, eobj := fun i e he => ?_, told := fun u o1 hu => ?_, idlt := h.idlt, next := h.next }
  · obtain ⟨e, h1, h2, h3⟩ := h.ents id g' hk
    obtain ⟨_, _, _, _, _, _, hb1, _⟩ := h3.cells
    exact ⟨e, h1, h2, h3.kept hw (nb hb1 (by decide)) (fun k hk => by injection hk with hk; subst hk; rw [hbk.ty]; simp)⟩
  · by_cases eu : u = s
    · subst eu
      obtain rfl : g = g' := Option.some.inj (hg.symm.trans hu)
      refine ⟨_, by simp [TabS.setObj]; rfl, ⟨hO.low, A, n, c, hb' A n c hbk, x1, ?_, x3⟩⟩
      exact own_kept x2 hw (fun k hk e => by injection e with e; subst e; have := own_ty x2 hk; rw [hbk.ty] at this; simp at this)
    · obtain ⟨o1, h1, h2⟩ := h.objs u g' hu
      refine ⟨o1, by simp [TabS.setObj, eu, h1], h2.kept hw (fun e => eu (h.oinj u s g' hu (by injection e with e; rw [← e]; exact hg))) (fun k hk hr => ?_)⟩
      injection hk with hk
      subst hk
      have := h.obj_row hu hr
      rw [hbk.ty] at this
      simp at this
  · have : u ≠ s := fun e => by subst e; rw [hg] at hu; cases hu
    simp [TabS.setObj, this, h.noobj u hu]
  · by_cases eu : u = s
    · subst eu
      simp [TabS.setObj] at hu
      subst hu
      exact h.ids u o' ho
    · simp [TabS.setObj, eu] at hu
      exact h.ids u o1 hu
  · have := h.eobj i e he
    simp only [TabS.setObj]
    split
    · rfl
    · exact this
  · by_cases eu : u = s
    · subst eu
      simp [TabS.setObj] at hu
      subst hu
      exact hto
    · simp [TabS.setObj, eu] at hu
      exact h.told u o1 hu

def TabS.setEnt (T : TabS) (e : Ent) : TabS := { T with ents := fun i => if i = e.id then some e else T.ents i }

/-- An entry's own block is written. -/
theorem TabR.updEnt (h : TabR w base tb m T be bo kf of_ rf) {e : Ent} {g : Nat} (hg : kf e.id = some g) (hobj : ∀ e0, T.ents e.id = some e0 → e0.obj = e.obj) (hw : w.grownBy w' (some g)) (hK : Known w' base g e) :
    TabR w' base tb m (T.setEnt e) be bo kf of_ rf := by
  obtain ⟨e0, he0, hid0, hK0⟩ := h.ents e.id g hg
  obtain ⟨_, _, _, _, _, _, hbk, _⟩ := hK0.cells
  have nb : ∀ {b : Nat} {t : TypeId} {cs : Array Value}, Blk w b t cs → t ≠ 125 → some g ≠ some b := fun hx hne e => by
    injection e with e
    subst e
    exact hne (Option.some.inj (hx.ty.symm.trans hbk.ty))
  refine { blk := h.blk.grown hw (nb h.blk (by decide)), low := h.low, ne := h.ne, imap := h.imap.kept hw (fun e => h.imap.no_blk hbk (by injection e)), smap := h.smap.kept hw (fun e => h.smap.no_blk hbk (by injection e)), ents := fun id g' hk => ?_, noent := fun id hk => ?_, objs := fun u g' hu => ?_, noobj := h.noobj, kinj := h.kinj, oinj := h.oinj, rinj := h.rinj, ids := fun u o1 hu => ?_, eobj := fun i e' he => ?_, told := h.told, idlt := fun i e' he => ?_, next := h.next }
  · by_cases ei : id = e.id
    · subst ei
      obtain rfl : g = g' := Option.some.inj (hg.symm.trans hk)
      exact ⟨e, by simp [TabS.setEnt], rfl, hK⟩
    · obtain ⟨e', h1, h2, h3⟩ := h.ents id g' hk
      refine ⟨e', by simp [TabS.setEnt, ei, h1], h2, h3.kept hw (fun e9 => ei (h.kinj id e.id g' hk (by injection e9 with e9; rw [← e9]; exact hg))) (fun k hk => ?_)⟩
      injection hk with hk
      subst hk
      rw [hbk.ty]
      simp
  · have : id ≠ e.id := fun e9 => by subst e9; rw [hg] at hk; cases hk
    simp [TabS.setEnt, this, h.noent id hk]
  · obtain ⟨o1, h1, h2⟩ := h.objs u g' hu
    obtain ⟨A1, n1, c1, hb1, x1, x2, x3⟩ := h2.cells
    refine ⟨o1, h1, h2.kept hw (nb hb1 (by decide)) (fun k hk hr => ?_)⟩
    injection hk with hk
    subst hk
    have := h.obj_row hu hr
    rw [hbk.ty] at this
    simp at this
  · refine ⟨(h.ids u o1 hu).1, fun i hi => ?_⟩
    obtain ⟨a, e', b, c⟩ := (h.ids u o1 hu).2 i hi
    by_cases ei : i = e.id
    · subst ei
      exact ⟨a, e, by simp [TabS.setEnt], by rw [← hobj e' b]; exact c⟩
    · exact ⟨a, e', by simp [TabS.setEnt, ei, b], c⟩
  · by_cases ei : i = e.id
    · subst ei
      simp [TabS.setEnt] at he
      subst he
      rw [← hobj e0 he0]
      exact h.eobj _ _ he0
    · simp [TabS.setEnt, ei] at he
      exact h.eobj i e' he
  · by_cases ei : i = e.id
    · subst ei
      exact h.idlt _ _ he0
    · simp [TabS.setEnt, ei] at he
      exact h.idlt i e' he

/-- The next number is one more. -/
theorem TabR.updNext (h : TabR w base tb m T be bo kf of_ rf) (hw : w.grownBy w' (some tb)) (hb' : Blk w' tb 114 #[.int .i64 (T.next + 1), .map (some be), .map (some bo)]) :
    TabR w' base tb (m + 1) { T with next := T.next + 1 } be bo kf of_ rf := by
  have hbk := h.blk
  have nb : ∀ {b : Nat} {t : TypeId} {cs : Array Value}, Blk w b t cs → t ≠ 114 → some tb ≠ some b := fun hx hne e => by
    injection e with e
    subst e
    exact hne (Option.some.inj (hx.ty.symm.trans hbk.ty))
  refine { blk := hb', low := h.low, ne := h.ne, imap := (h.imap.kept hw (fun e => h.imap.no_blk hbk (by injection e))).mono (by omega), smap := (h.smap.kept hw (fun e => h.smap.no_blk hbk (by injection e))).mono (by omega), ents := fun id g' hk => ?_, noent := h.noent, objs := fun u g' hu => ?_, noobj := h.noobj, kinj := h.kinj, oinj := h.oinj, rinj := h.rinj, ids := fun u o1 hu => ⟨by have := (h.ids u o1 hu).1; omega, (h.ids u o1 hu).2⟩, eobj := h.eobj, told := h.told, idlt := fun i e he => ?_, next := ⟨by have := h.next.1; simp only; omega, by have := h.next.2; simp only; omega⟩ }
  · obtain ⟨e, h1, h2, h3⟩ := h.ents id g' hk
    obtain ⟨_, _, _, _, _, _, hb1, _⟩ := h3.cells
    exact ⟨e, h1, h2, h3.kept hw (nb hb1 (by decide)) (fun k hk => by injection hk with hk; subst hk; rw [hbk.ty]; simp)⟩
  · obtain ⟨o1, h1, h2⟩ := h.objs u g' hu
    obtain ⟨A1, n1, c1, hb1, x1, x2, x3⟩ := h2.cells
    refine ⟨o1, h1, h2.kept hw (nb hb1 (by decide)) (fun k hk hr => ?_)⟩
    injection hk with hk
    subst hk
    have := h.obj_row hu hr
    rw [hbk.ty] at this
    simp at this
  · have := h.idlt i e he
    simp only
    omega
end

end Go.Proofs.YtoaiamgcegnjjaaGreatDoor
