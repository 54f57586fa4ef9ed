/- A table of notes in plain words: what the program's Load and the document's come to, and that the one is like the other. No program in sight, no condition. -/
import Derived.Test.YtoaiamgcegnjjaaGreatDoorML
namespace Go.Proofs.YtoaiamgcegnjjaaGreatDoor
open Go.RowKit Go.Maps Go.WideMaps Go.Sort
set_option maxRecDepth 100000

/-- an entry as it is loaded -/
def RE.norm (e : RE) : RE := { e with mom := 0, last := false, has := [] }
/-- is one told ahead of another one? -/
def newerN (g s i g' s' i' : Int) : Bool := decide (g' < g) || (decide (g = g') && (decide (s' < s) || (decide (s = s') && decide (i' < i))))
def newerE (a b : Ent) : Bool := newerN a.gen a.said a.id b.gen b.said b.id
def newerR (a b : RE) : Bool := newerN a.gen a.said a.id b.gen b.said b.id
theorem newerN_iff {g s i g' s' i' : Int} : newerN g s i g' s' i' = true ↔ (g' < g ∨ (g = g' ∧ (s' < s ∨ (s = s' ∧ i' < i)))) := by
  unfold newerN
  simp

/-- what the program's table is ahead of its last loop: entries in the order in which they came -/
def loadT0 (next : Int) (L : List RE) : TabS :=
  { next := next, ents := fun i => (L.find? fun e => e.id == i).map RE.ent, objs := fun s => if L.any (fun e => decide (e.obj = s)) then some { mom := -1, told := 0, ids := idsOf (L.map RE.key) s } else none }
def bestI (ents : Int → Option Ent) (t0 : Int) (ids : List Int) : Int :=
  ids.foldl (fun t i => match ents i, ents t with
    | some a, some b => if newerE a b then i else t
    | _, _ => t) t0
def sortI (l : List Int) : List Int := l.mergeSort fun x y => decide (x ≤ y)
def finO (ents : Int → Option Ent) (o : ObjS) : ObjS := { mom := 0, told := bestI ents ((sortI o.ids).headD 0) (sortI o.ids), ids := sortI o.ids }
/-- .. behind it -/
def loadT (next : Int) (L : List RE) : TabS := { loadT0 next L with objs := fun s => ((loadT0 next L).objs s).map (finO (loadT0 next L).ents) }

/-- put in its place -/
def insE (e : RE) : List RE → List RE
  | [] => [e]
  | a :: L => if e.id < a.id then e :: a :: L else a :: insE e L
def sortR (l : List RE) : List RE := l.foldl (fun L e => insE e.norm L) []
/-- is an entry told ahead of all others of its object? -/
def firstB (L : List RE) (e : RE) : Bool := L.all fun a => !decide (a.obj = e.obj) || a.id == e.id || newerR e a
def stepX (L0 : List RE) (x : RTab) (e : RE) : RTab := if firstB L0 e then takenR x e.obj e.id 0 else x
/-- the document's table -/
def loadX (next : Int) (L0 : List RE) : RTab := L0.foldl (stepX L0) { L := L0, N := [], next := next }

theorem ins_mem {e a : RE} : ∀ {L : List RE}, a ∈ insE e L ↔ a = e ∨ a ∈ L
  | [] => by simp [insE]
  | b :: L => by
    unfold insE
    split
    · simp
    · rw [List.mem_cons, ins_mem (L := L), List.mem_cons]
      constructor
      · rintro (h | h | h)
        · exact .inr (.inl h)
        · exact .inl h
        · exact .inr (.inr h)
      · rintro (h | h | h)
        · exact .inr (.inl h)
        · exact .inl h
        · exact .inr (.inr h)
def RiseR (L : List RE) : Prop := L.Pairwise fun a b => a.id < b.id
theorem ins_rise {e : RE} : ∀ {L : List RE}, RiseR L → (∀ a ∈ L, a.id ≠ e.id) → RiseR (insE e L)
  | [], _, _ => by simp [insE, RiseR]
  | b :: L, h, hne => by
    have h' := List.pairwise_cons.1 h
    unfold insE
    split
    · rename_i hlt
      refine List.pairwise_cons.2 ⟨fun a ha => ?_, h⟩
      rw [List.mem_cons] at ha
      rcases ha with rfl | ha
      · exact hlt
      · have := h'.1 a ha; omega
    · rename_i hlt
      refine List.pairwise_cons.2 ⟨fun a ha => ?_, ins_rise h'.2 (fun a ha => hne a (List.mem_cons_of_mem _ ha))⟩
      rw [ins_mem] at ha
      have := hne b (by simp)
      rcases ha with rfl | ha
      · omega
      · exact h'.1 a ha
theorem ins_len {e : RE} : ∀ L : List RE, (insE e L).length = L.length + 1
  | [] => rfl
  | b :: L => by
    unfold insE
    split
    · rfl
    · rw [List.length_cons, ins_len L]; rfl
theorem sortR_snoc (l : List RE) (e : RE) : sortR (l ++ [e]) = insE e.norm (sortR l) := by unfold sortR; rw [List.foldl_append]; rfl
theorem list_snoc {α : Type} {P : List α → Prop} (h0 : P []) (h1 : ∀ l a, P l → P (l ++ [a])) (l : List α) : P l := by
  have : ∀ r : List α, P r.reverse := fun r => by
    induction r with
    | nil => exact h0
    | cons a r ih => rw [List.reverse_cons]; exact h1 _ _ ih
  have h := this l.reverse
  rw [List.reverse_reverse] at h
  exact h
theorem tabS_ext {a b : TabS} (h1 : a.next = b.next) (h2 : a.ents = b.ents) (h3 : ∀ s, a.objs s = b.objs s) : a = b := by
  cases a
  cases b
  simp only at h1 h2 h3
  subst h1 h2
  have := funext h3
  subst this
  rfl
theorem sortR_mem : ∀ (l : List RE) (a : RE), a ∈ sortR l ↔ ∃ e ∈ l, a = e.norm := by
  intro l
  refine list_snoc (P := fun l => ∀ a : RE, a ∈ sortR l ↔ ∃ e ∈ l, a = e.norm) (fun a => by simp [sortR]) (fun l e ih a => ?_) l
  rw [sortR_snoc, ins_mem, ih]
  constructor
  · rintro (h | ⟨f, hf, h⟩)
    · exact ⟨e, by simp, h⟩
    · exact ⟨f, by simp [hf], h⟩
  · rintro ⟨f, hf, h⟩
    rw [List.mem_append, List.mem_singleton] at hf
    rcases hf with hf | rfl
    · exact .inr ⟨f, hf, h⟩
    · exact .inl h

/-! ### the one that is told -/
def bestL (t : RE) (S : List RE) : RE := S.foldl (fun t e => if newerR e t then e else t) t
theorem bestL_is : ∀ (S : List RE) (t : RE), bestL t S ∈ t :: S ∧ ∀ a ∈ t :: S, (a.gen = (bestL t S).gen ∧ a.said = (bestL t S).said ∧ a.id = (bestL t S).id) ∨ newerR (bestL t S) a = true
  | [], t => ⟨by simp [bestL], fun a ha => by simp at ha; subst ha; exact .inl ⟨rfl, rfl, rfl⟩⟩
  | e :: S, t => by
    have ih := bestL_is S (if newerR e t then e else t)
    have hd : bestL t (e :: S) = bestL (if newerR e t then e else t) S := rfl
    rw [hd]
    generalize bestL (if newerR e t then e else t) S = b at ih ⊢
    obtain ⟨h1, h2⟩ := ih
    have tr : ∀ x y z : RE, ((x.gen = y.gen ∧ x.said = y.said ∧ x.id = y.id) ∨ newerR y x = true) → ((y.gen = z.gen ∧ y.said = z.said ∧ y.id = z.id) ∨ newerR z y = true) → ((x.gen = z.gen ∧ x.said = z.said ∧ x.id = z.id) ∨ newerR z x = true) := fun x y z hx hy => by
      unfold newerR at *
      simp only [newerN_iff] at *
      omega
    by_cases hn : newerR e t = true
    · rw [if_pos hn] at h1 h2
      refine ⟨by simp at h1 ⊢; rcases h1 with h | h <;> simp [h], fun a ha => ?_⟩
      rw [List.mem_cons] at ha
      rcases ha with rfl | ha
      · exact tr a e b (.inr hn) (h2 e (by simp))
      · exact h2 a ha
    · rw [if_neg hn] at h1 h2
      refine ⟨by simp at h1 ⊢; rcases h1 with h | h <;> simp [h], fun a ha => ?_⟩
      rw [List.mem_cons, List.mem_cons] at ha
      rcases ha with rfl | rfl | ha
      · exact h2 a (by simp)
      · refine tr a t b ?_ (h2 t (by simp))
        unfold newerR at *
        simp only [newerN_iff] at *
        omega
      · exact h2 a (by simp [ha])

theorem rise_find {L : List RE} (h : RiseR L) {e : RE} (he : e ∈ L) : L.find? (fun a => a.id == e.id) = some e := by
  induction L with
  | nil => cases he
  | cons b L ih =>
    have h' := List.pairwise_cons.1 h
    rw [List.find?_cons]
    rw [List.mem_cons] at he
    rcases he with rfl | he
    · simp
    · have := h'.1 e he
      have hb : (b.id == e.id) = false := by simp; omega
      rw [hb]
      exact ih h'.2 he
theorem rise_uniq {L : List RE} (h : RiseR L) {a b : RE} (ha : a ∈ L) (hb : b ∈ L) (e : a.id = b.id) : a = b := by
  have h1 := rise_find h ha
  have h2 := rise_find h hb
  rw [e] at h1
  rw [h1] at h2
  injection h2
theorem bestI_is {n : Int} {L : List RE} (h : RiseR L) : ∀ (S : List RE) (t : RE), (∀ a ∈ S, a ∈ L) → t ∈ L → bestI (loadT0 n L).ents t.id (S.map (·.id)) = (bestL t S).id
  | [], t, _, _ => rfl
  | e :: S, t, hS, ht => by
    have e1 : (loadT0 n L).ents e.id = some e.ent := by show (L.find? _).map _ = _; rw [rise_find h (hS e (by simp))]; rfl
    have e2 : (loadT0 n L).ents t.id = some t.ent := by show (L.find? _).map _ = _; rw [rise_find h ht]; rfl
    have hd : bestI (loadT0 n L).ents t.id ((e :: S).map (·.id)) = bestI (loadT0 n L).ents (if newerR e t then e else t).id (S.map (·.id)) := by
      unfold bestI
      rw [List.map_cons, List.foldl_cons]
      simp only [e1, e2]
      congr 1
      show (if newerE e.ent t.ent = true then e.id else t.id) = _
      have : newerE e.ent t.ent = newerR e t := rfl
      rw [this]
      split <;> rfl
    rw [hd, bestI_is h S _ (fun a ha => hS a (by simp [ha])) (by split; exact hS e (by simp); exact ht)]
    rfl

theorem idsOf_eq (L : List RE) (s : ByteArray) : idsOf (L.map RE.key) s = (L.filter fun e => decide (e.obj = s)).map (·.id) := by
  induction L with
  | nil => rfl
  | cons a L ih =>
    unfold idsOf at *
    rw [List.map_cons, List.filter_cons, List.filter_cons]
    have : decide (a.key.2.1 = s) = decide (a.obj = s) := rfl
    rw [this]
    split
    · rw [List.map_cons, List.map_cons, ih]; rfl
    · exact ih
theorem rise_ids {L : List RE} (h : RiseR L) (s : ByteArray) : (idsOf (L.map RE.key) s).Pairwise (· < ·) := by
  rw [idsOf_eq]
  exact List.pairwise_map.2 (h.filter _)
theorem sortI_rise {l : List Int} (h : l.Pairwise (· < ·)) : sortI l = l := by
  unfold sortI
  exact List.mergeSort_of_pairwise (h.imp fun hab => by simp; omega)

/-- the told of each object, in the sorted table -/
theorem told_first {n : Int} {L : List RE} (h : RiseR L) {s : ByteArray} (hs : L.any (fun e => decide (e.obj = s)) = true) :
    ∃ e ∈ L, e.obj = s ∧ firstB L e = true ∧ (finO (loadT0 n L).ents { mom := -1, told := 0, ids := idsOf (L.map RE.key) s }) = { mom := 0, told := e.id, ids := idsOf (L.map RE.key) s } := by
  have hr := rise_ids h s
  unfold finO
  simp only [sortI_rise hr]
  rw [idsOf_eq]
  cases hf : L.filter (fun e => decide (e.obj = s)) with
  | nil =>
    rw [List.any_eq_true] at hs
    obtain ⟨a, ha, hb⟩ := hs
    have : a ∈ L.filter (fun e => decide (e.obj = s)) := List.mem_filter.2 ⟨ha, hb⟩
    rw [hf] at this
    cases this
  | cons t S =>
    have hm : ∀ a ∈ t :: S, a ∈ L ∧ a.obj = s := fun a ha => by
      rw [← hf] at ha
      have := List.mem_filter.1 ha
      exact ⟨this.1, of_decide_eq_true this.2⟩
    have hb := bestI_is (n := n) h (t :: S) t (fun a ha => (hm a ha).1) (hm t (by simp)).1
    have hi := bestL_is (t :: S) t
    rw [List.map_cons, List.headD_cons, ← List.map_cons, hb]
    generalize bestL t (t :: S) = e at hi ⊢
    have he : e ∈ t :: S := by
      have := hi.1
      rw [List.mem_cons] at this
      rcases this with rfl | h
      · simp
      · exact h
    refine ⟨e, (hm e he).1, (hm e he).2, ?_, rfl⟩
    unfold firstB
    rw [List.all_eq_true]
    intro a ha
    by_cases hao : a.obj = e.obj
    · have : a ∈ t :: S := by
        rw [← hf]
        exact List.mem_filter.2 ⟨ha, by rw [hao, (hm e he).2]; simp⟩
      rcases hi.2 a (by simp at this ⊢; rcases this with h | h <;> simp [h]) with h | h
      · simp [h.2.2]
      · simp [h]
    · simp [hao]
theorem first_uniq {L : List RE} {a b : RE} (ha : a ∈ L) (hb : b ∈ L) (fa : firstB L a = true) (fb : firstB L b = true) (e : a.obj = b.obj) : a.id = b.id := by
  unfold firstB at fa fb
  rw [List.all_eq_true] at fa fb
  have h1 := fa b hb
  have h2 := fb a ha
  unfold newerR at h1 h2
  simp only [e, Bool.or_eq_true, Bool.not_eq_true', decide_eq_false_iff_not, not_true_eq_false, false_or, beq_iff_eq, newerN_iff] at h1 h2
  omega

/-- the program's table while the document's is made: what is told of the objects whose first is done -/
def partT (n : Int) (L done : List RE) : TabS :=
  { loadT0 n L with objs := fun s => ((loadT0 n L).objs s).map fun o => match done.find? (fun e => decide (e.obj = s) && firstB L e) with
    | some e => { mom := 0, told := e.id, ids := o.ids }
    | none => o }
theorem part_nil (n : Int) (L : List RE) : partT n L [] = loadT0 n L := by
  refine tabS_ext rfl rfl (fun s => ?_)
  unfold partT
  simp
theorem part_full {L : List RE} (h : RiseR L) (n : Int) : partT n L L = loadT n L := by
  refine tabS_ext rfl rfl (fun s => ?_)
  unfold partT loadT loadT0
  simp only
  by_cases hs : L.any (fun e => decide (e.obj = s)) = true
  · obtain ⟨e, he, heo, hf, hfin⟩ := told_first (n := n) h hs
    rw [if_pos hs, Option.map_some, Option.map_some]
    congr 1
    have hfind : ∃ e', L.find? (fun e => decide (e.obj = s) && firstB L e) = some e' := by
      rw [← Option.isSome_iff_exists, List.find?_isSome]
      exact ⟨e, he, by simp [heo, hf]⟩
    obtain ⟨e', he'⟩ := hfind
    have hp := List.find?_some he'
    have hm := List.mem_of_find?_eq_some he'
    simp only [Bool.and_eq_true, decide_eq_true_eq] at hp
    have hid := first_uniq he hm hf hp.2 (heo.trans hp.1.symm)
    rw [he']
    unfold loadT0 at hfin
    simp only at hfin ⊢
    rw [hfin, hid]
  · rw [if_neg hs]
    rfl

theorem sim_load0 {L : List RE} (h : RiseR L) {n : Int} (h1 : 1 ≤ n) (hpos : ∀ e ∈ L, 1 ≤ e.id ∧ e.id < n) (hnorm : ∀ e ∈ L, e.mom = 0 ∧ e.last = false ∧ e.has = []) (hg : ∀ e ∈ L, e.Gd) : Sim 0 (loadT0 n L) { L := L, N := [], next := n } := by
  have hobj : ∀ s o, (loadT0 n L).objs s = some o → o = { mom := -1, told := 0, ids := idsOf (L.map RE.key) s } := fun s o ho => by
    unfold loadT0 at ho
    simp only at ho
    split at ho
    · injection ho with ho; exact ho.symm
    · cases ho
  have hk : ∀ y ∈ L.map RE.key, ∃ e ∈ L, e.key = y := fun y hy => List.mem_map.1 hy
  refine { next := rfl, one := h1, rise := List.pairwise_map.2 h, pos := fun y hy => ?_, ents := fun i e' => ?_, ids := fun s o ho => by rw [hobj s o ho], obj := fun y hy => ?_, mom := fun s => ?_, low := fun s o ho => by rw [hobj s o ho]; exact Int.le_refl _, told := fun s o ho => by rw [hobj s o ho]; exact ⟨Int.le_refl _, by show (0 : Int) < n; omega⟩, mine := fun s o ho y hy e => ?_, last := fun y hy => ?_, has := fun e he => ?_, gd := hg }
  · obtain ⟨e, he, rfl⟩ := hk y hy
    exact hpos e he
  · show (L.find? _).map _ = _ ↔ _
    constructor
    · intro hf
      cases hfi : L.find? (fun e => e.id == i) with
      | none => rw [hfi] at hf; cases hf
      | some e =>
        rw [hfi, Option.map_some] at hf
        injection hf with hf
        have := List.find?_some hfi
        exact ⟨e, List.mem_of_find?_eq_some hfi, by simpa using this, hf⟩
    · rintro ⟨e, he, rfl, rfl⟩
      rw [rise_find h he]
      rfl
  · obtain ⟨e, he, rfl⟩ := hk y hy
    unfold loadT0
    simp only
    rw [if_pos (List.any_eq_true.2 ⟨e, he, by simp [RE.key]⟩)]
    rfl
  · unfold loadT0
    simp only
    split <;> rfl
  · rw [hobj s o ho] at e
    obtain ⟨a, ha, rfl⟩ := hk y hy
    have := (hpos a ha).1
    have : a.id = 0 := e
    omega
  · obtain ⟨a, ha, rfl⟩ := hk y hy
    have hl : a.key.2.2 = false := (hnorm a ha).2.1
    rw [hl]
    refine ⟨fun h => (by cases h), fun ⟨o, ho, ht⟩ => ?_⟩
    rw [hobj _ o ho] at ht
    have h0 : (0 : Int) = a.id := ht
    have := (hpos a ha).1
    omega
  · rw [(hnorm e he).2.2]
    exact ⟨⟨trivial, fun p hp => by cases hp⟩, Nat.le_refl _⟩

theorem taken_L (x : RTab) (s : ByteArray) (id mo : Int) : (takenR x s id mo).next = x.next ∧ ((takenR x s id mo).L = x.L ∨ (takenR x s id mo).L = x.L.map (updL s id)) := by
  unfold takenR
  split
  · exact ⟨rfl, .inl rfl⟩
  · exact ⟨rfl, .inr rfl⟩
/-- an entry, whoever is told -/
def RE.strip (e : RE) : RE := { e with last := false }
theorem upd_strip (s : ByteArray) (id : Int) (e : RE) : (updL s id e).strip = e.strip := by unfold updL; split <;> rfl
theorem taken_strip (x : RTab) (s : ByteArray) (id mo : Int) : (takenR x s id mo).L.map RE.strip = x.L.map RE.strip := by
  rcases (taken_L x s id mo).2 with h | h
  · rw [h]
  · rw [h, List.map_map]
    exact List.map_congr_left fun e _ => upd_strip s id e

theorem sim_part {L : List RE} (h : RiseR L) {n : Int} (h1 : 1 ≤ n) (hpos : ∀ e ∈ L, 1 ≤ e.id ∧ e.id < n) (hnorm : ∀ e ∈ L, e.mom = 0 ∧ e.last = false ∧ e.has = []) (hg : ∀ e ∈ L, e.Gd) :
    ∀ k, k ≤ L.length → Sim 0 (partT n L (L.take k)) ((L.take k).foldl (stepX L) { L := L, N := [], next := n }) ∧ (((L.take k).foldl (stepX L) { L := L, N := [], next := n }).L.map RE.strip = L.map RE.strip)
  | 0, _ => ⟨by rw [List.take_zero, part_nil]; exact sim_load0 h h1 hpos hnorm hg, rfl⟩
  | k + 1, hk => by
    have hk' : k < L.length := by omega
    obtain ⟨ih, ihs⟩ := sim_part h h1 hpos hnorm hg k (by omega)
    have ht : L.take (k + 1) = L.take k ++ [L[k]] := List.take_succ_eq_append_getElem hk'
    rw [ht, List.foldl_append]
    generalize hx : (L.take k).foldl (stepX L) { L := L, N := [], next := n } = x at ih ihs ⊢
    have hm : L[k] ∈ L := List.getElem_mem hk'
    show Sim 0 _ (stepX L x L[k]) ∧ (stepX L x L[k]).L.map RE.strip = _
    unfold stepX
    by_cases hf : firstB L L[k] = true
    · rw [if_pos hf]
      refine ⟨?_, by rw [taken_strip, ihs]⟩
      have hany : L.any (fun e => decide (e.obj = L[k].obj)) = true := List.any_eq_true.2 ⟨L[k], hm, by simp⟩
      have hnone : (L.take k).find? (fun e => decide (e.obj = L[k].obj) && firstB L e) = none := by
        rw [List.find?_eq_none]
        intro a ha hp
        simp only [Bool.and_eq_true, decide_eq_true_eq] at hp
        obtain ⟨j, hj, rfl⟩ := List.mem_iff_getElem.1 ha
        rw [List.getElem_take] at hp
        have hjk : j < k := by rw [List.length_take] at hj; omega
        have := first_uniq (List.getElem_mem (show j < L.length by omega)) hm hp.2 hf hp.1
        have hlt := List.pairwise_iff_getElem.1 h j k (by omega) hk' hjk
        omega
      have hobj : (partT n L (L.take k)).objs L[k].obj = some { mom := -1, told := 0, ids := idsOf (L.map RE.key) L[k].obj } := by
        unfold partT loadT0
        simp only
        rw [if_pos hany, hnone]
        rfl
      have hmine : ∀ y ∈ x.L.map RE.key, y.1 = L[k].id → y.2.1 = L[k].obj := fun y hy hid => by
        obtain ⟨a, ha, rfl⟩ := List.mem_map.1 hy
        have : a.strip ∈ L.map RE.strip := by rw [← ihs]; exact List.mem_map.2 ⟨a, ha, rfl⟩
        obtain ⟨b, hb, hbs⟩ := List.mem_map.1 this
        have e1 : b.id = a.id := show b.strip.id = a.strip.id by rw [hbs]
        have e2 : b.obj = a.obj := show b.strip.obj = a.strip.obj by rw [hbs]
        have e3 : a.id = L[k].id := hid
        have := rise_uniq h hb hm (e1.trans e3)
        show a.obj = _
        rw [← e2, this]
      have hs := ih.take hobj (mo := 0) (id := L[k].id) (by omega) (by have := hpos _ hm; exact ⟨by omega, this.2⟩) hmine
      have heq : (partT n L (L.take k)).setObj L[k].obj (ObjS.take { mom := -1, told := 0, ids := idsOf (L.map RE.key) L[k].obj } 0 L[k].id) = partT n L (L.take k ++ [L[k]]) := by
        refine tabS_ext rfl rfl (fun u => ?_)
        unfold TabS.setObj partT
        simp only
        by_cases hu : u = L[k].obj
        · subst hu
          rw [if_pos rfl, List.find?_append, hnone]
          unfold loadT0
          simp only
          rw [if_pos hany]
          simp [hf, ObjS.take]
        · rw [if_neg hu, List.find?_append]
          have : [L[k]].find? (fun e => decide (e.obj = u) && firstB L e) = none := by
            simp [show ¬ L[k].obj = u from fun e => hu e.symm]
          rw [this, Option.or_none]
      rw [heq] at hs
      exact hs
    · rw [if_neg hf]
      refine ⟨?_, ihs⟩
      have heq : partT n L (L.take k ++ [L[k]]) = partT n L (L.take k) := by
        refine tabS_ext rfl rfl (fun u => ?_)
        unfold partT
        simp only
        rw [List.find?_append]
        have : [L[k]].find? (fun e => decide (e.obj = u) && firstB L e) = none := by simp [hf]
        rw [this, Option.or_none]
      rw [heq]
      exact ih
theorem sim_loadX {L : List RE} (h : RiseR L) {n : Int} (h1 : 1 ≤ n) (hpos : ∀ e ∈ L, 1 ≤ e.id ∧ e.id < n) (hnorm : ∀ e ∈ L, e.mom = 0 ∧ e.last = false ∧ e.has = []) (hg : ∀ e ∈ L, e.Gd) : Sim 0 (loadT n L) (loadX n L) := by
  have := (sim_part h h1 hpos hnorm hg L.length (Nat.le_refl _)).1
  rw [List.take_length, part_full h] at this
  exact this
end Go.Proofs.YtoaiamgcegnjjaaGreatDoor
