/- A table's object. No condition. -/
import Derived.Test.YtoaiamgcegnjjaaGreatDoorH
namespace Go.Proofs.YtoaiamgcegnjjaaGreatDoor
open Go.RowKit Go.Maps Go.WideMaps
set_option maxRecDepth 100000

theorem gby_of_below {w w' : World} (h : Below w.heap.size w w') : w.grownBy w' none := ⟨h.os, h.tape, h.output, h.size, fun k hk _ => h.block k hk⟩

/-- A table stays while only new blocks are made. -/
theorem TabR.grow {w w' : World} {base tb m : Nat} {T : TabS} {be bo : Nat} {kf : Int → Option Nat} {of_ rf : ByteArray → Option Nat} (h : TabR w base tb m T be bo kf of_ rf) (hb : Below w.heap.size w w') : TabR w' base tb m T be bo kf of_ rf := by
  have hg := gby_of_below hb
  refine { h with blk := h.blk.grown hg (by simp), imap := h.imap.kept hg (by simp), smap := h.smap.kept hg (by simp), ents := fun id g hk => ?_, objs := fun s g hs => ?_ }
  · obtain ⟨e, h1, h2, h3⟩ := h.ents id g hk
    exact ⟨e, h1, h2, h3.kept hg (by simp) (by simp)⟩
  · obtain ⟨o, h1, h2⟩ := h.objs s g hs
    exact ⟨o, h1, h2.kept hg (by simp) (by simp)⟩

theorem TabR.lows {w : World} {base tb m : Nat} {T : TabS} {be bo : Nat} {kf : Int → Option Nat} {of_ rf : ByteArray → Option Nat} (h : TabR w base tb m T be bo kf of_ rf) : base ≤ w.heap.size := by
  have := h.blk.lt; have := h.low.1; omega

theorem tab_cells {w : World} {tb be bo : Nat} {n : Int} (h : Blk w tb 114 #[.int .i64 n, .map (some be), .map (some bo)]) :
    w.cell? ⟨tb, 0, none⟩ = some (.int .i64 n) ∧ w.cell? ⟨tb, 1, none⟩ = some (.map (some be)) ∧ w.cell? ⟨tb, 2, none⟩ = some (.map (some bo)) := by
  refine ⟨?_, ?_, ?_⟩ <;> rw [h.cell] <;> rfl

def newObj : ObjS := { mom := -1, told := 0, ids := [] }
def TabS.setObj (T : TabS) (s : ByteArray) (o : ObjS) : TabS := { T with objs := fun u => if u = s then some o else T.objs u }

theorem object_there {w : World} {base tb m : Nat} {T : TabS} {be bo : Nat} {kf : Int → Option Nat} {of_ rf : ByteArray → Option Nat} (h : TabR w base tb m T be bo kf of_ rf) {s : ByteArray} (hs : s.size ≤ maxLen) {g : Nat} (hg : of_ s = some g) :
    Calls Tryz.prog 84 #[.pointer (some ⟨tb, 0, none⟩), .string s] w fun e w' => e = .returned (.pointer (some ⟨g, 0, none⟩)) ∧ w = w' := by
  obtain ⟨c0, c1, c2⟩ := tab_cells h.blk
  have hl := h.smap.look hs
  rw [hg] at hl
  unfold ptrV at hl
  clear h hg
  go_enter Tryz.func84, Tryz.ntmps84
  go_wp2
  go_ret
  exact ⟨rfl, rfl⟩

theorem TabR.addObj {w w1 w' : World} {base tb m : Nat} {T : TabS} {be bo : Nat} {kf : Int → Option Nat} {of_ rf : ByteArray → Option Nat} (h : TabR w base tb m T be bo kf of_ rf) {s : ByteArray} (hg : of_ s = none) {g : Nat} (hgs : w.heap.size ≤ g)
    (hb : Below w.heap.size w w1) (hB : Blk w1 g 121 #[.int .i64 (-1), .int .i64 0, .slice none 0 0]) (hw : w1.grownBy w' (some bo)) (hm : SMap w' bo (m + 1) (fun y => if y = s then some g else of_ y)) :
    TabR w' base tb (m + 1) (T.setObj s newObj) be bo kf (fun y => if y = s then some g else of_ y) (fun y => if y = s then none else rf y) := by
  have h1 := h.grow hb
  have hm1 := h1.smap
  have hm1' := h1.imap
  have hbo : tyOf w1 bo = none := by
    obtain ⟨D, ⟨es, cl, hx, _⟩, _⟩ := hm1
    simp [tyOf, hx]
  have hlow := h.lows
  have nb : ∀ {g : Nat} {t : TypeId} {cs : Array Value}, Blk w1 g t cs → some bo ≠ some g := fun hx e => hm1.no_blk hx (by injection e)
  have hno := h.noobj s hg
  refine { blk := h1.blk.grown hw (nb h1.blk), low := h.low, ne := h.ne, imap := (h1.imap.kept hw (by simpa using h.ne)).mono (by omega), smap := hm, ents := fun id g hk => ?_, noent := h.noent, objs := fun u g' hs => ?_, noobj := fun u hu => ?_, kinj := h.kinj, oinj := fun u v g' hu hv => ?_, rinj := fun u v r hu hv h1' h2' => ?_, ids := fun u o ho => ?_, eobj := fun i e he => ?_, told := fun u o ho => ?_, idlt := h.idlt, next := ⟨h.next.1, by have := h.next.2; simp only [TabS.setObj]; omega⟩ }
  · obtain ⟨e, h2, h3, h4⟩ := h1.ents id g hk
    obtain ⟨A, n, c, hA, hn, hc, hbk, _⟩ := h4.cells
    exact ⟨e, h2, h3, h4.kept hw (nb hbk) (fun k hk => by injection hk with hk; subst hk; rw [hbo]; simp)⟩
  · by_cases e : u = s
    · subst e
      simp only [if_pos, Option.some.injEq] at hs
      subst hs
      refine ⟨newObj, by simp [TabS.setObj], ⟨by omega, none, 0, 0, hB.grown hw (nb hB), Nat.le_refl _, World.ownsRow_nil _ _ _ _, by simp [Value.ownBlock]⟩⟩
    · simp only [if_neg e] at hs ⊢
      obtain ⟨o, h2, h3⟩ := h1.objs u g' hs
      obtain ⟨A, n, c, hbk, _, h5, h6⟩ := h3.cells
      refine ⟨o, by simp [TabS.setObj, e, h2], h3.kept hw (nb hbk) (fun k hk e' => ?_)⟩
      injection hk with hk
      subst hk
      rw [← h6] at e'
      have := own_ty h5 e'
      rw [hbo] at this
      cases this
  · by_cases e : u = s
    · subst e; simp at hu
    · simp only [if_neg e] at hu
      simp [TabS.setObj, e, h.noobj u hu]
  · have old : ∀ x gx, of_ x = some gx → gx < w.heap.size := fun x gx hx => by
      obtain ⟨o, _, ho⟩ := h.objs x gx hx
      obtain ⟨A, n, c, hbk, _⟩ := ho.cells
      exact hbk.lt
    by_cases e1 : u = s <;> by_cases e2 : v = s
    · rw [e1, e2]
    · simp only [if_pos e1, if_neg e2, Option.some.injEq] at hu hv
      have := old v g' hv; omega
    · simp only [if_neg e1, if_pos e2, Option.some.injEq] at hu hv
      have := old u g' hu; omega
    · simp only [if_neg e1, if_neg e2] at hu hv
      exact h.oinj u v g' hu hv
  · by_cases e1 : u = s <;> by_cases e2 : v = s
    · rw [e1, e2]
    · simp [e1] at h1'
    · simp [e2] at h2'
    · simp only [if_neg e1, if_neg e2] at hu hv h1' h2'
      exact h.rinj u v r hu hv h1' h2'
  · by_cases e : u = s
    · subst e
      simp [TabS.setObj] at ho
      subst ho
      simp [newObj]
    · simp [TabS.setObj, e] at ho
      obtain ⟨a, b⟩ := h.ids u o ho
      exact ⟨by omega, b⟩
  · have := h.eobj i e he
    simp only [TabS.setObj]
    split
    · rfl
    · exact this
  · by_cases e : u = s
    · subst e
      simp [TabS.setObj] at ho
      subst ho
      rfl
    · simp [TabS.setObj, e] at ho
      exact h.told u o ho

theorem object_new {w : World} {base tb m : Nat} {T : TabS} {be bo : Nat} {kf : Int → Option Nat} {of_ rf : ByteArray → Option Nat} (h : TabR w base tb m T be bo kf of_ rf) {s : ByteArray} (hs : s.size ≤ maxLen) (hg : of_ s = none) (hm : m < 100000) :
    Calls Tryz.prog 84 #[.pointer (some ⟨tb, 0, none⟩), .string s] w fun e w' => ∃ g, e = .returned (.pointer (some ⟨g, 0, none⟩)) ∧ Keeps base w w' ∧
      TabR w' base tb (m + 1) (T.setObj s newObj) be bo kf (fun y => if y = s then some g else of_ y) (fun y => if y = s then none else rf y) := by
  obtain ⟨c0, c1, c2⟩ := tab_cells h.blk
  have hl := h.smap.look hs
  rw [hg] at hl
  unfold ptrV at hl
  have hn := run_eql_map_nil (P := Tryz.prog) w 112 9 118 (some bo) Tryz.underlying112
  have hb : Below w.heap.size w (w.alloc (.cells #[.int .i64 (-1), .int .i64 0, .slice none 0 0] 121)) := (Below.refl _ _).alloc (Nat.le_refl _) _
  obtain ⟨w1, hrun, hm1, hg1⟩ := (h.grow hb).smap.put (by unfold maxLen; omega) hs w.heap.size
  have hfin := h.addObj hg (Nat.le_refl _) hb (Blk.new _ _ _) hg1 hm1
  have hty : tyOf (w.alloc (.cells #[.int .i64 (-1), .int .i64 0, .slice none 0 0] 121)) bo = none := by
    obtain ⟨D, ⟨es, cl, hx, _⟩, _⟩ := (h.grow hb).smap
    simp [tyOf, hx]
  have hk : Keeps base w w1 := (Keeps.of_below hb h.lows).trans (Keeps.of_grown hg1 (by have := h.lows; simp; omega) h.low.2.2 (fun t ht => by rw [hty] at ht; cases ht))
  have hlt := h.blk.lt
  have HF := Lib.hid hfin
  have HK := Lib.hid hk
  clear h hg hfin hk hm1 hg1 hb hty
  go_enter Tryz.func84, Tryz.ntmps84
  go_wp2
  go_ret
  exact ⟨_, rfl, HK.out, HF.out⟩

theorem TabR.mono {w : World} {base tb m m' : Nat} {T : TabS} {be bo : Nat} {kf : Int → Option Nat} {of_ rf : ByteArray → Option Nat} (h : TabR w base tb m T be bo kf of_ rf) (hm : m ≤ m') : TabR w base tb m' T be bo kf of_ rf :=
  { h with imap := h.imap.mono hm, smap := h.smap.mono hm, ids := fun s o ho => ⟨Nat.le_trans (h.ids s o ho).1 hm, (h.ids s o ho).2⟩, next := ⟨h.next.1, by have := h.next.2; omega⟩ }

def TabS.withObj (T : TabS) (s : ByteArray) : TabS := match T.objs s with | some _ => T | none => T.setObj s newObj

theorem object_any {w : World} {base tb m : Nat} {T : TabS} {be bo : Nat} {kf : Int → Option Nat} {of_ rf : ByteArray → Option Nat} (h : TabR w base tb m T be bo kf of_ rf) {s : ByteArray} (hs : s.size ≤ maxLen) (hm : m < 100000) :
    Calls Tryz.prog 84 #[.pointer (some ⟨tb, 0, none⟩), .string s] w fun e w' => ∃ g of' rf', e = .returned (.pointer (some ⟨g, 0, none⟩)) ∧ Keeps base w w' ∧ w.heap.size ≤ w'.heap.size ∧ of' s = some g ∧ (∀ g', of_ s = some g' → of' s = some g') ∧ TabR w' base tb (m + 1) (T.withObj s) be bo kf of' rf' := by
  cases hg : of_ s with
  | some g =>
    refine (object_there h hs hg).mono fun e w' ⟨he, hw⟩ => ?_
    subst hw
    obtain ⟨o, ho, _⟩ := h.objs s g hg
    refine ⟨g, of_, rf, he, Keeps.refl _ _, Nat.le_refl _, hg, (fun _ h' => hg.trans h'), ?_⟩
    unfold TabS.withObj
    rw [ho]
    exact h.mono (by omega)
  | none =>
    refine (object_new h hs hg hm).mono fun e w' ⟨g, he, hk, ht⟩ => ?_
    refine ⟨g, (fun y => if y = s then some g else of_ y), (fun y => if y = s then none else rf y), he, hk, hk.below.size, by simp, (fun g' hg' => by cases hg'), ?_⟩
    unfold TabS.withObj
    rw [h.noobj s hg]
    exact ht

end Go.Proofs.YtoaiamgcegnjjaaGreatDoor
