/- entry.Load of any notes. No condition but the bounds that it names. -/
import Derived.Test.YtoaiamgcegnjjaaGreatDoorNF
import Derived.Test.YtoaiamgcegnjjaaGreatDoorND
import Derived.Test.YtoaiamgcegnjjaaGreatDoorMO
namespace Go.Proofs.YtoaiamgcegnjjaaGreatDoor
open Go.RowKit Go.Maps Go.WideMaps Go.Sort
set_option maxRecDepth 100000
attribute [local go_sem ↓] ld57_fold st57_fold ld39n_fold

/-- what is asked of the entries ahead of place k -/
def GoodUp (nx : Int) (es : List RE) (k : Nat) : Prop := ∀ i (hi : i < es.length), i < k → noteOK es[i].norm.ent = true ∧ es[i].id < nx ∧ ∀ j (hj : j < es.length), j < i → es[j].id ≠ es[i].id
def LoadGood (nx : Int) (es : List RE) : Prop := 1 ≤ nx ∧ nx ≤ 1099511627776 ∧ GoodUp nx es es.length
theorem GoodUp.succ {nx : Int} {es : List RE} {k : Nat} (h : GoodUp nx es k) (hk : k < es.length) (h1 : noteOK es[k].norm.ent = true) (h2 : es[k].id < nx) (h3 : ∀ j (hj : j < es.length), j < k → es[j].id ≠ es[k].id) : GoodUp nx es (k + 1) := fun i hi hik => by
  by_cases e : i = k
  · subst e; exact ⟨h1, h2, h3⟩
  · exact h i hi (by omega)

/-- the table while objects are gone through -/
def midT (n : Int) (L : List RE) (left : Lit → Bool) : TabS :=
  { next := n, ents := (loadT0 n L).ents, objs := fun s => ((loadT0 n L).objs s).map fun o => if left (.string s.data.toList) then o else finO (loadT0 n L).ents o }
theorem midT_end {n : Int} {L : List RE} {left : Lit → Bool} (h : ∀ kl, left kl = false) : midT n L left = loadT n L := by
  refine tabS_ext rfl rfl (fun s => ?_)
  unfold midT loadT
  simp only [h, Bool.false_eq_true, if_false]
theorem midT_start {n : Int} {L : List RE} {left : Lit → Bool} (h : ∀ s, ((loadT0 n L).objs s).isSome → left (.string s.data.toList) = true) : midT n L left = loadT0 n L := by
  refine tabS_ext rfl rfl (fun s => ?_)
  unfold midT
  simp only
  cases ho : (loadT0 n L).objs s with
  | none => rfl
  | some o => rw [Option.map_some, h s (by rw [ho]; rfl), if_pos rfl]
theorem midT_step {n : Int} {L : List RE} {left : Lit → Bool} {s : ByteArray} {o : ObjS} (ho : (loadT0 n L).objs s = some o) :
    (midT n L left).setObj s (finO (loadT0 n L).ents o) = midT n L (fun z => left z && !z.sameKey (.string s.data.toList)) := by
  refine tabS_ext rfl rfl (fun u => ?_)
  unfold midT TabS.setObj
  simp only
  by_cases hu : u = s
  · subst hu
    rw [if_pos rfl, ho, Option.map_some]
    have : (Lit.string u.data.toList).sameKey (.string u.data.toList) = true := by simp [Lit.sameKey]
    simp only [this, Bool.not_true, Bool.and_false, Bool.false_eq_true, if_false]
  · rw [if_neg hu]
    have : (Lit.string u.data.toList).sameKey (.string s.data.toList) = false := by
      simp only [Lit.sameKey, beq_eq_false_iff_ne, ne_eq]
      intro e
      exact hu (ba_ext (by simpa using e))
    simp only [this, Bool.not_false, Bool.and_true]
theorem bestI_snoc (ents : Int → Option Ent) (t0 : Int) (l : List Int) (i : Int) : bestI ents t0 (l ++ [i]) = match ents i, ents (bestI ents t0 l) with
    | some a, some b => if newerE a b then i else bestI ents t0 l
    | _, _ => bestI ents t0 l := by
  unfold bestI
  rw [List.foldl_append]
  rfl
theorem setObj_twice (T : TabS) (s : ByteArray) (a b : ObjS) : (T.setObj s a).setObj s b = T.setObj s b := by
  refine tabS_ext rfl rfl (fun u => ?_)
  unfold TabS.setObj
  simp only
  split <;> rfl

theorem withObj_load (nx : Int) (L : List RE) (e : RE) (o : ObjS) (h : ((loadT0 nx L).withObj e.obj).objs e.obj = some o) (hid : ∀ a ∈ L, a.id ≠ e.id) :
    ((loadT0 nx L).withObj e.obj).addEnt o e.ent = loadT0 nx (L ++ [e]) := by
  have hany : ∀ s, (L ++ [e]).any (fun a => decide (a.obj = s)) = (L.any (fun a => decide (a.obj = s)) || decide (e.obj = s)) := fun s => by simp
  have hids : ∀ s, idsOf ((L ++ [e]).map RE.key) s = idsOf (L.map RE.key) s ++ (if e.obj = s then [e.id] else []) := fun s => by
    rw [List.map_append, idsOf_append]
    congr 1
    unfold idsOf
    by_cases he : e.obj = s
    · simp [RE.key, he]
    · simp [RE.key, he]
  have hW : ((loadT0 nx L).withObj e.obj).next = nx ∧ ((loadT0 nx L).withObj e.obj).ents = (loadT0 nx L).ents := ⟨withObj_next _ _, withObj_ents _ _⟩
  have ho : o = { mom := -1, told := 0, ids := idsOf (L.map RE.key) e.obj } := by
    unfold TabS.withObj at h
    cases hq : (loadT0 nx L).objs e.obj with
    | some o' =>
      rw [hq] at h
      simp only at h
      rw [hq] at h
      injection h with h
      subst h
      unfold loadT0 at hq
      simp only at hq
      split at hq
      · injection hq with hq; exact hq.symm
      · cases hq
    | none =>
      rw [hq] at h
      simp [TabS.setObj] at h
      subst h
      unfold loadT0 at hq
      simp only at hq
      split at hq
      · cases hq
      · rename_i hn
        have : idsOf (L.map RE.key) e.obj = [] := by
          rw [idsOf_eq, List.map_eq_nil_iff, List.filter_eq_nil_iff]
          intro a ha hc
          exact hn (List.any_eq_true.2 ⟨a, ha, hc⟩)
        rw [this]
        rfl
  refine tabS_ext hW.1 ?_ (fun s => ?_)
  · funext i
    unfold TabS.addEnt
    simp only
    rw [hW.2]
    unfold loadT0
    simp only
    rw [List.find?_append]
    by_cases hi : i = e.id
    · have hi' : i = e.ent.id := hi
      rw [if_pos hi']
      have : L.find? (fun a => a.id == i) = none := by
        rw [List.find?_eq_none]
        intro a ha hc
        exact hid a ha (by rw [← hi]; simpa using hc)
      rw [this]
      simp [hi]
    · have hi' : ¬ i = e.ent.id := hi
      rw [if_neg hi']
      have : [e].find? (fun a => a.id == i) = none := by simp; exact fun h => hi h.symm
      rw [this, Option.or_none]
  · unfold TabS.addEnt
    simp only
    by_cases hs : s = e.obj
    · have hs' : s = e.ent.obj := hs
      rw [if_pos hs', ho]
      unfold loadT0
      simp only
      rw [if_pos (by rw [hany, hs]; simp), hids, if_pos hs.symm, hs]
      rfl
    · have hs' : ¬ s = e.ent.obj := hs
      rw [if_neg hs']
      have hne : ¬ e.obj = s := fun h => hs h.symm
      have hsame : ((loadT0 nx L).withObj e.obj).objs s = (loadT0 nx L).objs s := by
        unfold TabS.withObj
        split
        · rfl
        · simp [TabS.setObj, hs]
      rw [hsame]
      unfold loadT0
      simp only
      rw [hany, hids, if_neg hne]
      simp [hne]

theorem entC_bare (q : EM) (A' : Option Addr) (c' : Nat) : (((((((((((((entC q.e q.A q.n q.c q.tu).setIfInBounds 2 (.string q.e.t)).setIfInBounds 3 (.bool q.e.wk)).setIfInBounds 4 (.int .i64 q.e.mo)).setIfInBounds 5 (.int .i64 q.e.le)).setIfInBounds 6 (.int .i64 q.e.ha)).setIfInBounds 7 (.int .i64 q.e.fr)).setIfInBounds 8 (.int .i64 q.e.wh)).setIfInBounds 9 (.int .i64 q.e.er)).setIfInBounds 10 (.slice A' q.n c')).setIfInBounds 11 (.string q.e.ten)).setIfInBounds 12 (.bool q.e.kp)).setIfInBounds 14 (.int .i64 0)).setIfInBounds 16 (.bool false) = entC q.e.bare A' q.n c' false := by
  rw [entC_meta q.e q.A A' q.n q.c c' q.tu]
  obtain ⟨e, A, n, c, tu⟩ := q
  obtain ⟨id, obj, t, wk, mo, le, ha, fr, wh, er, ks, ten, kp, said, mom, gen, has⟩ := e
  rfl
end Go.Proofs.YtoaiamgcegnjjaaGreatDoor
