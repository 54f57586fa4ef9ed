/- The reference's acts as plain functions; the relation between the program's table and the reference's. No condition. Act by act the program's table stays the reference's. No condition. -/
import Derived.Test.YtoaiamgcegnjjaaGreatDoorY1
import Derived.Test.YtoaiamgcegnjjaaGreatDoorMH
import Derived.Test.YtoaiamgcegnjjaaGreatDoorMK
import Derived.Test.YtoaiamgcegnjjaaGreatDoorMG
import Derived.Test.YtoaiamgcegnjjaaGreatDoorMI
namespace Go.Proofs.YtoaiamgcegnjjaaGreatDoor
open Go.RowKit Go.Maps Go.WideMaps Go.Sort
set_option maxRecDepth 100000

def MetaS.follows (M N : MetaS) : Bool := followsB M.t M.wk M.mo M.le M.ha M.fr M.wh M.er M.ks M.ten N.t N.wk N.mo N.le N.ha N.fr N.wh N.er N.ks N.ten
structure MetaS.Sz (M : MetaS) : Prop where
  t : M.t.size ≤ 9223372036854775807
  ten : M.ten.size ≤ 9223372036854775807
  ks : ∀ s ∈ M.ks, s.size ≤ 9223372036854775807
/-- a version's numbers are in their bounds -/
structure MetaS.Gd (M : MetaS) : Prop where
  sz : M.Sz
  fr : 0 ≤ M.fr ∧ M.fr ≤ 1099511627776
  wh : 0 ≤ M.wh ∧ M.wh ≤ 1099511627776
  er : 0 ≤ M.er ∧ M.er ≤ 1099511627776
def RE.Gd (e : RE) : Prop := e.M.Gd ∧ 0 ≤ e.gen
theorem tick0_bd {n : Int} (h : tick0 n = true) : 0 ≤ n ∧ n ≤ 1099511627776 := by
  unfold tick0 at h
  rw [Bool.and_eq_true] at h
  exact ⟨of_decide_eq_true h.1, of_decide_eq_true h.2⟩
theorem MetaS.gd_of_ok {M : MetaS} (hs : M.Sz) (h : M.ok = true) : M.Gd := by
  unfold MetaS.ok metaOK at h
  simp only [Bool.and_eq_true] at h
  exact ⟨hs, tick0_bd h.1.1.1.1.1.2, tick0_bd h.1.1.1.1.2, tick0_bd h.1.1.1.2⟩
theorem anew_gd {e : RE} (h : e.Gd) (ti mo : Int) {ge : Int} (hg : 0 ≤ ge) : (anewR e ti mo ge).Gd := by
  unfold anewR
  split
  · exact ⟨h.1, hg⟩
  · exact h
theorem upd_gd {e : RE} (h : e.Gd) (s : ByteArray) (id : Int) : (updL s id e).Gd := by
  unfold updL
  split <;> exact h
def learnR (x : RTab) (id hv ln : Int) : RTab × Int :=
  match findR x.L id with
  | none => (x, 6)
  | some i => (match x.L[i]? with
    | some e => if e.M.follows (e.M.learn hv ln) then ({ x with L := x.L.set i { e with M := e.M.learn hv ln } }, 0) else (x, 12)
    | none => (x, 6))
def matchR (obj : ByteArray) (M : MetaS) (e : RE) : Bool := decide (e.obj = obj) && ((tagOK e.M.t && !e.M.wk) && strongB e.M.t e.M.wk M.t M.wk)
def RE.follow (e : RE) (M : MetaS) : RE := if e.M.follows M then { e with M := M } else e
def newR (id : Int) (obj : ByteArray) (M : MetaS) (said mo ge : Int) : RE := { id := id, obj := obj, M := M, said := said, mom := mo, gen := ge, last := false, has := [] }
def landR (x : RTab) (obj : ByteArray) (M : MetaS) (age ti mo ge : Int) : RTab × Int × Bool :=
  match x.L.findIdx? (matchR obj M) with
  | some i => (match x.L[i]? with
    | some e => (takenR { x with L := x.L.set i (anewR (e.follow M) (saidOf ti age) mo ge) } obj e.id mo, e.id, false)
    | none => (x, 0, false))
  | none => (takenR { x with L := x.L ++ [newR x.next obj M (saidOf ti age) mo ge], next := x.next + 1 } obj x.next mo, x.next, true)
def turnedL : List RE → List RE → List Int
  | a :: l, b :: k => (if a.last && !b.last then [a.id] else []) ++ turnedL l k
  | _, _ => []
def goneR (x : RTab) (s : ByteArray) (ti mo ge : Int) : RTab × List Int :=
  if askOK ti mo ge then (takenR x s 0 mo, turnedL x.L (takenR x s 0 mo).L) else (x, [])
def fillR (x : RTab) (id f t : Int) (lose : Bool) : RTab × Int :=
  if spanOK f t then (match findR x.L id with
    | some i => (match x.L[i]? with
      | some e => ({ x with L := x.L.set i { e with has := ofR e.has [(f, t)] (if lose then 3 else 1) } }, 0)
      | none => (x, 6))
    | none => (x, 6)) else (x, 1)
def dropR (x : RTab) (id : Int) : RTab × Bool := match findR x.L id with
  | some i => ({ x with L := x.L.eraseIdx i }, true)
  | none => (x, false)
def TabS.dropEnt (T : TabS) (id : Int) (s : ByteArray) (o : ObjS) : TabS :=
  { T with ents := fun i => if i = id then none else T.ents i, objs := fun u => if u = s then some { o with ids := o.ids.filter fun n => !(n == id) } else T.objs u }
def dropS (T : TabS) (id : Int) : TabS × Bool := match T.ents id with
  | none => (T, false)
  | some e => (match T.objs e.obj with
    | some o => (T.dropEnt id e.obj o, true)
    | none => (T, false))

def RE.ent (e : RE) : Ent :=
  { id := e.id, obj := e.obj, t := e.M.t, wk := e.M.wk, mo := e.M.mo, le := e.M.le, ha := e.M.ha, fr := e.M.fr, wh := e.M.wh, er := e.M.er, ks := e.M.ks, ten := e.M.ten, kp := e.M.kp, said := e.said, mom := e.mom, gen := e.gen, has := e.has }
def RE.key (e : RE) : Int × ByteArray × Bool := (e.id, e.obj, e.last)
def idsOf (K : List (Int × ByteArray × Bool)) (s : ByteArray) : List Int := (K.filter fun y => decide (y.2.1 = s)).map (·.1)
def newOf (o : Option ObjS) : Option Int := match o with
  | some o => if o.mom = -1 then none else some o.mom
  | none => none

/-- The program's table and the reference's are one. -/
structure Sim (k : Nat) (T : TabS) (x : RTab) : Prop where
  next : x.next = T.next
  one : 1 ≤ T.next
  rise : (x.L.map RE.key).Pairwise fun a b => a.1 < b.1
  pos : ∀ y ∈ x.L.map RE.key, 1 ≤ y.1 ∧ y.1 < T.next
  ents : ∀ i e', T.ents i = some e' ↔ ∃ e ∈ x.L, e.id = i ∧ e.ent = e'
  ids : ∀ s o, T.objs s = some o → o.ids = idsOf (x.L.map RE.key) s
  obj : ∀ y ∈ x.L.map RE.key, (T.objs y.2.1).isSome
  mom : ∀ s, newestR x.N s = newOf (T.objs s)
  low : ∀ s o, T.objs s = some o → -1 ≤ o.mom
  told : ∀ s o, T.objs s = some o → 0 ≤ o.told ∧ o.told < T.next
  mine : ∀ s o, T.objs s = some o → ∀ y ∈ x.L.map RE.key, y.1 = o.told → y.2.1 = s
  last : ∀ y ∈ x.L.map RE.key, y.2.2 = true ↔ ∃ o, T.objs y.2.1 = some o ∧ o.told = y.1
  has : ∀ e ∈ x.L, Good e.has ∧ e.has.length ≤ k
  gd : ∀ e ∈ x.L, e.Gd

section
variable {k : Nat} {T : TabS} {x : RTab}

theorem Sim.sz (h : Sim k T x) : ∀ e ∈ x.L, e.M.Sz := fun e he => (h.gd e he).1.sz
theorem Sim.more (h : Sim k T x) {k' : Nat} (hk : k ≤ k') : Sim k' T x := { h with has := fun e he => ⟨(h.has e he).1, Nat.le_trans (h.has e he).2 hk⟩ }

theorem rise_inj {L : List RE} (h : (L.map RE.key).Pairwise fun a b => a.1 < b.1) {i j : Nat} {a b : RE} (hi : L[i]? = some a) (hj : L[j]? = some b) (he : a.id = b.id) : i = j := by
  rw [List.pairwise_map] at h
  rw [List.pairwise_iff_getElem] at h
  obtain ⟨h1, e1⟩ := List.getElem?_eq_some_iff.1 hi
  obtain ⟨h2, e2⟩ := List.getElem?_eq_some_iff.1 hj
  rcases Nat.lt_trichotomy i j with hlt | rfl | hlt
  · have := h i j h1 h2 hlt
    rw [e1, e2] at this
    simp only [RE.key] at this
    omega
  · rfl
  · have := h j i h2 h1 hlt
    rw [e1, e2] at this
    simp only [RE.key] at this
    omega
theorem Sim.uniq (h : Sim k T x) {a b : RE} (ha : a ∈ x.L) (hb : b ∈ x.L) (he : a.id = b.id) : a = b := by
  obtain ⟨i, hi⟩ := List.mem_iff_getElem?.1 ha
  obtain ⟨j, hj⟩ := List.mem_iff_getElem?.1 hb
  have := rise_inj h.rise hi hj he
  subst this
  rw [hi] at hj
  injection hj
theorem Sim.ent_of (h : Sim k T x) {e : RE} (he : e ∈ x.L) : T.ents e.id = some e.ent := (h.ents _ _).2 ⟨e, he, rfl, rfl⟩
theorem key_mem {L : List RE} {e : RE} (he : e ∈ L) : e.key ∈ L.map RE.key := List.mem_map.2 ⟨e, he, rfl⟩
theorem map_set_same {L : List RE} {i : Nat} {e e1 : RE} (hi : L[i]? = some e) (hk : e1.key = e.key) : (L.set i e1).map RE.key = L.map RE.key := by
  rw [List.map_set]
  apply List.ext_getElem?
  intro j
  rw [List.getElem?_set]
  obtain ⟨h1, h2⟩ := List.getElem?_eq_some_iff.1 hi
  split
  · rename_i hij
    subst hij
    rw [if_pos (by simpa using h1), List.getElem?_map, hi, hk]
    rfl
  · rfl

/-- An entry is written. -/
theorem Sim.set (h : Sim k T x) {i : Nat} {e e1 : RE} (hi : x.L[i]? = some e) (hk : e1.key = e.key) {k' : Nat} (hkk : k ≤ k') (hg : Good e1.has ∧ e1.has.length ≤ k') (hs : e1.Gd) : Sim k' (T.setEnt e1.ent) { x with L := x.L.set i e1 } := by
  have hkey := map_set_same hi hk
  have hid : e1.id = e.id := by injection hk
  have hmem : ∀ e' ∈ x.L.set i e1, e' = e1 ∨ e' ∈ x.L := fun e' he => (List.mem_or_eq_of_mem_set he).symm
  have hlt := (List.getElem?_eq_some_iff.1 hi).1
  refine { next := h.next, one := h.one, rise := by rw [hkey]; exact h.rise, pos := by rw [hkey]; exact h.pos, ents := fun j e' => ?_, ids := by rw [hkey]; exact h.ids, obj := by rw [hkey]; exact h.obj, mom := h.mom, low := h.low, told := h.told, mine := by rw [hkey]; exact h.mine, last := by rw [hkey]; exact h.last, has := fun e' he => ?_, gd := fun e' he => ?_ }
  · show (if j = e1.ent.id then some e1.ent else T.ents j) = some e' ↔ _
    by_cases hj : j = e1.id
    · subst hj
      rw [if_pos (show e1.id = e1.ent.id from rfl)]
      constructor
      · intro hh
        injection hh with hh
        exact ⟨e1, List.mem_iff_getElem?.2 ⟨i, by rw [List.getElem?_set_self hlt]⟩, rfl, hh⟩
      · rintro ⟨e2, he2, h1, h2⟩
        obtain ⟨n, hn⟩ := List.mem_iff_getElem?.1 he2
        rw [List.getElem?_set] at hn
        split at hn
        · first
            | (rw [if_pos hlt] at hn; injection hn with hn; rw [hn, h2])
            | (injection hn with hn; rw [hn, h2])
        · rename_i hne
          exact absurd (rise_inj h.rise hi hn (by rw [h1, hid])) hne
    · rw [if_neg (show ¬ j = e1.ent.id from hj), h.ents]
      constructor
      · rintro ⟨e2, he2, h1, h2⟩
        obtain ⟨n, hn⟩ := List.mem_iff_getElem?.1 he2
        refine ⟨e2, List.mem_iff_getElem?.2 ⟨n, ?_⟩, h1, h2⟩
        rw [List.getElem?_set, if_neg (fun hin => ?_)]
        · exact hn
        · subst hin
          rw [hi] at hn
          injection hn with hn
          exact hj (by rw [← h1, ← hn, hid])
      · rintro ⟨e2, he2, h1, h2⟩
        rcases hmem e2 he2 with rfl | he2
        · exact absurd h1.symm hj
        · exact ⟨e2, he2, h1, h2⟩
  · rcases hmem e' he with rfl | he
    · exact hg
    · exact ⟨(h.has e' he).1, Nat.le_trans (h.has e' he).2 hkk⟩
  · rcases hmem e' he with rfl | he
    · exact hs
    · exact h.gd e' he

def updK (s : ByteArray) (id : Int) (y : Int × ByteArray × Bool) : Int × ByteArray × Bool := if y.2.1 = s then (y.1, y.2.1, y.1 == id) else y
theorem updK_1 (s : ByteArray) (id : Int) (y : Int × ByteArray × Bool) : (updK s id y).1 = y.1 ∧ (updK s id y).2.1 = y.2.1 := by unfold updK; split <;> exact ⟨rfl, rfl⟩
theorem upd_key (s : ByteArray) (id : Int) (L : List RE) : (L.map (updL s id)).map RE.key = (L.map RE.key).map (updK s id) := by
  rw [List.map_map, List.map_map]
  refine List.map_congr_left fun e _ => ?_
  show RE.key (updL s id e) = updK s id e.key
  unfold updL updK RE.key
  dsimp only
  split <;> rfl
theorem ids_upd (s : ByteArray) (id : Int) (K : List (Int × ByteArray × Bool)) (u : ByteArray) : idsOf (K.map (updK s id)) u = idsOf K u := by
  unfold idsOf
  induction K with
  | nil => rfl
  | cons y K ih =>
    obtain ⟨h1, h2⟩ := updK_1 s id y
    rw [List.map_cons, List.filter_cons, List.filter_cons]
    simp only [h2]
    split
    · rw [List.map_cons, List.map_cons, ih, h1]
    · exact ih
theorem newest_cons (p : ByteArray × Int) (N : List (ByteArray × Int)) (u : ByteArray) : newestR (p :: N) u = if p.1 = u then some p.2 else newestR N u := by
  unfold newestR
  rw [List.find?_cons]
  by_cases h : p.1 = u
  · rw [decide_eq_true h, if_pos h]
    rfl
  · rw [decide_eq_false h, if_neg h]
theorem newest_upd (N : List (ByteArray × Int)) (s u : ByteArray) (mo : Int) : newestR (N.filter (notOf s) ++ [(s, mo)]) u = if u = s then some mo else newestR N u := by
  induction N with
  | nil =>
    show newestR [(s, mo)] u = _
    rw [newest_cons]
    by_cases h : u = s
    · rw [if_pos h, if_pos h.symm]
    · rw [if_neg h, if_neg (fun e => h e.symm)]
  | cons p N ih =>
    by_cases hp : p.1 = s
    · rw [List.filter_cons_of_neg (by simp [notOf, hp]), ih]
      by_cases h : u = s
      · rw [if_pos h, if_pos h]
      · rw [if_neg h, if_neg h, newest_cons, if_neg (fun e => h (e.symm.trans hp))]
    · rw [List.filter_cons_of_pos (by simp [notOf, hp]), List.cons_append, newest_cons, ih, newest_cons]
      by_cases h : u = s
      · rw [if_pos h, if_pos h, if_neg (fun e => hp (e.trans h))]
      · rw [if_neg h, if_neg h]

/-- An object is told anew. -/
theorem Sim.put (h : Sim k T x) {s : ByteArray} {o : ObjS} (ho : T.objs s = some o) {mo id : Int} (hmo : 0 ≤ mo) (hid : 0 ≤ id ∧ id < T.next) (hm : ∀ y ∈ x.L.map RE.key, y.1 = id → y.2.1 = s) :
    Sim k (T.setObj s { mom := mo, told := id, ids := o.ids }) { x with N := x.N.filter (notOf s) ++ [(s, mo)], L := x.L.map (updL s id) } := by
  have hobj : ∀ u, (T.setObj s { mom := mo, told := id, ids := o.ids }).objs u = if u = s then some { mom := mo, told := id, ids := o.ids } else T.objs u := fun _ => rfl
  have hK := upd_key s id x.L
  have hyy : ∀ y ∈ (x.L.map (updL s id)).map RE.key, ∃ z ∈ x.L.map RE.key, y = updK s id z ∧ y.1 = z.1 ∧ y.2.1 = z.2.1 := fun y hy => by
    rw [hK] at hy
    obtain ⟨z, hz, rfl⟩ := List.mem_map.1 hy
    exact ⟨z, hz, rfl, updK_1 s id z⟩
  have hx : ∀ e' ∈ x.L.map (updL s id), ∃ e ∈ x.L, e' = updL s id e ∧ e'.ent = e.ent ∧ e'.id = e.id ∧ e'.M = e.M ∧ e'.has = e.has := fun e' he => by
    obtain ⟨e, hm', rfl⟩ := List.mem_map.1 he
    refine ⟨e, hm', rfl, ?_⟩
    unfold updL
    split <;> exact ⟨rfl, rfl, rfl, rfl⟩
  refine { next := h.next, one := h.one, rise := ?_, pos := fun y hy => ?_, ents := fun j e' => ?_, ids := fun u o' hu => ?_, obj := fun y hy => ?_, mom := fun u => ?_, low := fun u o' hu => ?_, told := fun u o' hu => ?_, mine := fun u o' hu y hy => ?_, last := fun y hy => ?_, has := fun e' he => ?_, gd := fun e' he => ?_ }
  · show ((x.L.map (updL s id)).map RE.key).Pairwise _
    rw [hK, List.pairwise_map]
    refine h.rise.imp fun {a b} hab => ?_
    rw [(updK_1 s id a).1, (updK_1 s id b).1]
    exact hab
  · obtain ⟨z, hz, _, e1, _⟩ := hyy y hy
    rw [e1]
    exact h.pos z hz
  · rw [show (T.setObj s { mom := mo, told := id, ids := o.ids }).ents j = T.ents j from rfl, h.ents]
    constructor
    · rintro ⟨e, he, h1, h2⟩
      have hme : updL s id e ∈ x.L.map (updL s id) := List.mem_map.2 ⟨e, he, rfl⟩
      refine ⟨updL s id e, hme, ?_, ?_⟩
      · rw [← h1]; unfold updL; split <;> rfl
      · rw [← h2]; unfold updL; split <;> rfl
    · rintro ⟨e1, he1, h1, h2⟩
      obtain ⟨e, he, _, g1, g2, _⟩ := hx e1 he1
      exact ⟨e, he, g2.symm.trans h1, g1.symm.trans h2⟩
  · show o'.ids = idsOf ((x.L.map (updL s id)).map RE.key) u
    rw [hK, ids_upd]
    rw [hobj] at hu
    split at hu
    · rename_i hus
      injection hu with hu
      rw [← hu, hus]
      exact h.ids s o ho
    · exact h.ids u o' hu
  · obtain ⟨z, hz, _, _, e2⟩ := hyy y hy
    rw [hobj, e2]
    split
    · rfl
    · exact h.obj z hz
  · show newestR (x.N.filter (notOf s) ++ [(s, mo)]) u = _
    rw [newest_upd, hobj]
    split
    · show some mo = if mo = -1 then none else some mo
      rw [if_neg (by omega)]
    · exact h.mom u
  · rw [hobj] at hu
    split at hu
    · injection hu with hu
      rw [← hu]
      show -1 ≤ mo
      omega
    · exact h.low u o' hu
  · rw [hobj] at hu
    split at hu
    · injection hu with hu
      rw [← hu]
      exact hid
    · exact h.told u o' hu
  · obtain ⟨z, hz, _, e1, e2⟩ := hyy y hy
    rw [hobj] at hu
    rw [e1, e2]
    split at hu
    · rename_i hus
      injection hu with hu
      rw [← hu, hus]
      exact hm z hz
    · exact h.mine u o' hu z hz
  · obtain ⟨z, hz, e0, e1, e2⟩ := hyy y hy
    rw [e1, e2, hobj]
    by_cases hs : z.2.1 = s
    · rw [if_pos hs]
      have : y.2.2 = (z.1 == id) := by rw [e0]; unfold updK; rw [if_pos hs]
      rw [this]
      constructor
      · intro hh
        refine ⟨_, rfl, ?_⟩
        exact (eq_of_beq hh).symm
      · rintro ⟨o', ho', ht⟩
        injection ho' with ho'
        rw [← ho'] at ht
        rw [← ht]
        exact beq_self_eq_true _
    · rw [if_neg hs]
      have : y.2.2 = z.2.2 := by rw [e0]; unfold updK; rw [if_neg hs]
      rw [this]
      exact h.last z hz
  · obtain ⟨e, he, _, _, _, _, g4⟩ := hx e' he
    rw [g4]
    exact h.has e he
  · obtain ⟨e, he, g0, _⟩ := hx e' he
    rw [g0]
    exact upd_gd (h.gd e he) s id

theorem setObj_same {s : ByteArray} {o : ObjS} (ho : T.objs s = some o) : T.setObj s o = T := by
  obtain ⟨n, e, f⟩ := T
  unfold TabS.setObj
  congr
  funext u
  split
  · rename_i hu
    rw [hu]
    exact ho.symm
  · rfl

theorem Sim.take (h : Sim k T x) {s : ByteArray} {o : ObjS} (ho : T.objs s = some o) {mo id : Int} (hmo : 0 ≤ mo) (hid : 0 ≤ id ∧ id < T.next) (hm : ∀ y ∈ x.L.map RE.key, y.1 = id → y.2.1 = s) :
    Sim k (T.setObj s (o.take mo id)) (takenR x s id mo) := by
  have hn := h.mom s
  rw [ho] at hn
  have hlow := h.low s o ho
  unfold takenR ObjS.take
  by_cases hle : o.mom ≤ mo
  · have : laterB (newestR x.N s) mo = false := by
      rw [hn]
      by_cases hm1 : o.mom = -1
      · have e : newOf (some o) = none := if_pos hm1
        rw [e]
        rfl
      · have e : newOf (some o) = some o.mom := if_neg hm1
        rw [e]
        unfold laterB
        simp; omega
    rw [if_pos hle, this]
    exact h.put ho hmo hid hm
  · have : laterB (newestR x.N s) mo = true := by
      have e : newOf (some o) = some o.mom := by
        show (if o.mom = -1 then none else some o.mom) = _
        rw [if_neg (by omega)]
      rw [hn, e]
      unfold laterB
      simp; omega
    rw [if_neg hle, this, setObj_same ho]
    exact h

theorem Sim.withObj (h : Sim k T x) (s : ByteArray) : Sim k (T.withObj s) x := by
  unfold TabS.withObj
  cases ho : T.objs s with
  | some o => exact h
  | none =>
    have hno : ∀ y ∈ x.L.map RE.key, y.2.1 ≠ s := fun y hy e => by
      have := h.obj y hy
      rw [e, ho] at this
      cases this
    have hobj : ∀ u, (T.setObj s newObj).objs u = if u = s then some newObj else T.objs u := fun _ => rfl
    refine { next := h.next, one := h.one, rise := h.rise, pos := h.pos, ents := h.ents, ids := fun u o' hu => ?_, obj := fun y hy => ?_, mom := fun u => ?_, low := fun u o' hu => ?_, told := fun u o' hu => ?_, mine := fun u o' hu y hy hy' => ?_, last := fun y hy => ?_, has := h.has, gd := h.gd }
    · rw [hobj] at hu
      split at hu
      · rename_i hus
        injection hu with hu
        rw [← hu, hus]
        unfold idsOf
        rw [List.filter_eq_nil_iff.2 (fun y hy => by simpa using hno y hy)]
        rfl
      · exact h.ids u o' hu
    · rw [hobj, if_neg (hno y hy)]
      exact h.obj y hy
    · rw [hobj, h.mom u]
      split
      · rename_i hus
        rw [hus, ho]
        rfl
      · rfl
    · rw [hobj] at hu
      split at hu
      · injection hu with hu
        rw [← hu]
        show (-1 : Int) ≤ -1
        omega
      · exact h.low u o' hu
    · rw [hobj] at hu
      split at hu
      · injection hu with hu
        rw [← hu]
        show (0 : Int) ≤ 0 ∧ (0 : Int) < T.next
        have := h.one
        omega
      · exact h.told u o' hu
    · rw [hobj] at hu
      split at hu
      · injection hu with hu
        rw [← hu] at hy'
        have := h.pos y hy
        have e0 : newObj.told = 0 := rfl
        omega
      · exact h.mine u o' hu y hy hy'
    · rw [hobj, if_neg (hno y hy)]
      exact h.last y hy

theorem idsOf_append (K K' : List (Int × ByteArray × Bool)) (s : ByteArray) : idsOf (K ++ K') s = idsOf K s ++ idsOf K' s := by unfold idsOf; rw [List.filter_append, List.map_append]

/-- A new entry comes. -/
theorem Sim.add (h : Sim k T x) {s : ByteArray} {o : ObjS} (ho : T.objs s = some o) (M : MetaS) (said mo ge : Int) (hs : M.Gd) (hge : 0 ≤ ge) :
    Sim k (({ T with next := T.next + 1 } : TabS).addEnt o (newEnt T.next s M said mo ge)) { x with L := x.L ++ [newR x.next s M said mo ge], next := x.next + 1 } := by
  have hn := h.next
  rw [hn]
  have hent : (newR T.next s M said mo ge).ent = newEnt T.next s M said mo ge := rfl
  have hobj : ∀ u, (({ T with next := T.next + 1 } : TabS).addEnt o (newEnt T.next s M said mo ge)).objs u = if u = s then some { o with ids := o.ids ++ [T.next] } else T.objs u := fun _ => rfl
  have hK : (x.L ++ [newR T.next s M said mo ge]).map RE.key = x.L.map RE.key ++ [(T.next, s, false)] := by rw [List.map_append]; rfl
  have hone := h.one
  have hmem : ∀ y ∈ (x.L ++ [newR T.next s M said mo ge]).map RE.key, y ∈ x.L.map RE.key ∨ y = (T.next, s, false) := fun y hy => by
    rw [hK, List.mem_append, List.mem_singleton] at hy
    exact hy
  have hobj' : ∀ u o', (if u = s then some ({ o with ids := o.ids ++ [T.next] } : ObjS) else T.objs u) = some o' → ∃ o1, T.objs u = some o1 ∧ o'.told = o1.told ∧ o'.mom = o1.mom := fun u o' hu => by
    split at hu
    · rename_i hus
      injection hu with hu
      rw [hus, ← hu]
      exact ⟨o, ho, rfl, rfl⟩
    · exact ⟨o', hu, rfl, rfl⟩
  refine { next := rfl, one := show (1 : Int) ≤ T.next + 1 by omega, rise := ?_, pos := fun y hy => ?_, ents := fun j e' => ?_, ids := fun u o' hu => ?_, obj := fun y hy => ?_, mom := fun u => ?_, low := fun u o' hu => ?_, told := fun u o' hu => ?_, mine := fun u o' hu y hy hy' => ?_, last := fun y hy => ?_, has := fun e' he => ?_, gd := fun e' he => ?_ }
  · show ((x.L ++ [newR T.next s M said mo ge]).map RE.key).Pairwise _
    rw [hK, List.pairwise_append]
    refine ⟨h.rise, List.pairwise_singleton _ _, fun a ha b hb => ?_⟩
    rw [List.mem_singleton] at hb
    rw [hb]
    exact (h.pos a ha).2
  · show 1 ≤ y.1 ∧ y.1 < T.next + 1
    rcases hmem y hy with hy | rfl
    · have := h.pos y hy
      omega
    · show 1 ≤ T.next ∧ T.next < T.next + 1
      omega
  · show (if j = T.next then some (newEnt T.next s M said mo ge) else T.ents j) = some e' ↔ ∃ e ∈ x.L ++ [newR T.next s M said mo ge], e.id = j ∧ e.ent = e'
    by_cases hj : j = T.next
    · rw [if_pos hj]
      constructor
      · intro hh
        injection hh with hh
        exact ⟨newR T.next s M said mo ge, by simp, hj.symm, by rw [hent, hh]⟩
      · rintro ⟨e, he, h1, h2⟩
        rw [List.mem_append, List.mem_singleton] at he
        rcases he with he | rfl
        · have hp := (h.pos _ (key_mem he)).2
          have : e.key.1 = e.id := rfl
          omega
        · rw [← h2, hent]
    · rw [if_neg hj, h.ents]
      constructor
      · rintro ⟨e, he, h1, h2⟩
        exact ⟨e, List.mem_append.2 (.inl he), h1, h2⟩
      · rintro ⟨e, he, h1, h2⟩
        rw [List.mem_append, List.mem_singleton] at he
        rcases he with he | rfl
        · exact ⟨e, he, h1, h2⟩
        · exact absurd h1.symm hj
  · show o'.ids = idsOf ((x.L ++ [newR T.next s M said mo ge]).map RE.key) u
    rw [hK, idsOf_append]
    rw [hobj] at hu
    split at hu
    · rename_i hus
      injection hu with hu
      rw [← hu, hus]
      show o.ids ++ [T.next] = _
      rw [h.ids s o ho]
      simp [idsOf]
    · rename_i hus
      rw [h.ids u o' hu]
      have : idsOf [(T.next, s, false)] u = [] := by
        unfold idsOf
        rw [List.filter_cons_of_neg (by simpa using fun e => hus e.symm)]
        rfl
      rw [this, List.append_nil]
  · rw [hobj]
    split
    · rfl
    · rename_i hus
      rcases hmem y hy with hy | rfl
      · exact h.obj y hy
      · exact absurd rfl hus
  · rw [hobj]
    show newestR x.N u = _
    rw [h.mom u]
    split
    · rename_i hus
      rw [hus, ho]
      rfl
    · rfl
  · rw [hobj] at hu
    obtain ⟨o1, h1, _, h3⟩ := hobj' u o' hu
    rw [h3]
    exact h.low u o1 h1
  · rw [hobj] at hu
    obtain ⟨o1, h1, h2, _⟩ := hobj' u o' hu
    rw [h2]
    have := h.told u o1 h1
    show 0 ≤ o1.told ∧ o1.told < T.next + 1
    omega
  · rw [hobj] at hu
    obtain ⟨o1, h1, h2, _⟩ := hobj' u o' hu
    rw [h2] at hy'
    rcases hmem y hy with hy | rfl
    · exact h.mine u o1 h1 y hy hy'
    · have := h.told u o1 h1
      have e0 : ((T.next, s, false) : Int × ByteArray × Bool).1 = T.next := rfl
      omega
  · rcases hmem y hy with hy | rfl
    · rw [h.last y hy, hobj]
      constructor
      · rintro ⟨o', ho', ht⟩
        by_cases hs : y.2.1 = s
        · rw [hs, ho] at ho'
          injection ho' with ho'
          exact ⟨_, if_pos hs, by rw [← ho'] at ht; exact ht⟩
        · exact ⟨o', by rw [if_neg hs]; exact ho', ht⟩
      · rintro ⟨o', ho', ht⟩
        obtain ⟨o1, h1, h2, _⟩ := hobj' _ o' ho'
        exact ⟨o1, h1, by rw [← h2]; exact ht⟩
    · rw [hobj]
      constructor
      · intro hh; cases hh
      · rintro ⟨o', ho', ht⟩
        obtain ⟨o1, h1, h2, _⟩ := hobj' _ o' ho'
        have := h.told _ o1 h1
        have e0 : ((T.next, s, false) : Int × ByteArray × Bool).1 = T.next := rfl
        omega
  · rw [List.mem_append, List.mem_singleton] at he
    rcases he with he | rfl
    · exact h.has e' he
    · exact ⟨⟨trivial, fun p hp => by cases hp⟩, Nat.zero_le _⟩
  · rw [List.mem_append, List.mem_singleton] at he
    rcases he with he | rfl
    · exact h.gd e' he
    · exact ⟨hs, hge⟩

/-- An entry goes. -/
theorem Sim.drop (h : Sim k T x) {i : Nat} {e : RE} (hi : x.L[i]? = some e) {o : ObjS} (ho : T.objs e.obj = some o) : Sim k (T.dropEnt e.id e.obj o) { x with L := x.L.eraseIdx i } := by
  have hobj : ∀ u, (T.dropEnt e.id e.obj o).objs u = if u = e.obj then some { o with ids := o.ids.filter fun n => !(n == e.id) } else T.objs u := fun _ => rfl
  have hlt := (List.getElem?_eq_some_iff.1 hi).1
  have hin : ∀ a, a ∈ x.L.eraseIdx i ↔ a ∈ x.L ∧ a.id ≠ e.id := fun a => by
    rw [List.mem_eraseIdx_iff_getElem?]
    constructor
    · rintro ⟨j, hne, hj⟩
      refine ⟨List.mem_iff_getElem?.2 ⟨j, hj⟩, fun hid => hne (rise_inj h.rise hj hi hid)⟩
    · rintro ⟨ha, hid⟩
      obtain ⟨j, hj⟩ := List.mem_iff_getElem?.1 ha
      refine ⟨j, fun hji => ?_, hj⟩
      subst hji
      rw [hi] at hj
      injection hj with hj
      rw [hj] at hid
      exact hid rfl
  have hkin : ∀ y ∈ (x.L.eraseIdx i).map RE.key, y ∈ x.L.map RE.key ∧ y.1 ≠ e.id := fun y hy => by
    obtain ⟨a, ha, rfl⟩ := List.mem_map.1 hy
    obtain ⟨h1, h2⟩ := (hin a).1 ha
    exact ⟨key_mem h1, h2⟩
  have hobj' : ∀ u o', (if u = e.obj then some ({ o with ids := o.ids.filter fun n => !(n == e.id) } : ObjS) else T.objs u) = some o' → ∃ o1, T.objs u = some o1 ∧ o'.told = o1.told ∧ o'.mom = o1.mom := fun u o' hu => by
    split at hu
    · rename_i hus
      injection hu with hu
      rw [hus, ← hu]
      exact ⟨o, ho, rfl, rfl⟩
    · exact ⟨o', hu, rfl, rfl⟩
  have hsub : (x.L.eraseIdx i).map RE.key = (x.L.map RE.key).filter fun y => !(y.1 == e.id) := by
    have hr := h.rise
    clear h ho hobj hobj' hin hkin
    generalize x.L = L at *
    induction L generalizing i with
    | nil => simp at hlt
    | cons a L ih =>
      rw [List.map_cons, List.pairwise_cons] at hr
      cases i with
      | zero =>
        simp only [List.getElem?_cons_zero] at hi
        injection hi with hi
        subst hi
        rw [List.eraseIdx_cons_zero, List.map_cons, List.filter_cons_of_neg (by simp [RE.key])]
        symm
        rw [List.filter_eq_self]
        intro y hy
        have := hr.1 y hy
        have e0 : a.key.1 = a.id := rfl
        have : ¬ y.1 = a.id := by omega
        simpa using this
      | succ i =>
        rw [List.eraseIdx_cons_succ, List.map_cons, List.map_cons, List.filter_cons_of_pos, ih (by simpa using hi) (by simpa using hlt) hr.2]
        have hme : e.key ∈ L.map RE.key := key_mem (List.mem_iff_getElem?.2 ⟨i, by simpa using hi⟩)
        have := hr.1 _ hme
        have e0 : a.key.1 = a.id := rfl
        have e1 : e.key.1 = e.id := rfl
        have : ¬ a.key.1 = e.id := by omega
        simpa using this
  refine { next := h.next, one := h.one, rise := ?_, pos := fun y hy => h.pos y (hkin y hy).1, ents := fun j e' => ?_, ids := fun u o' hu => ?_, obj := fun y hy => ?_, mom := fun u => ?_, low := fun u o' hu => ?_, told := fun u o' hu => ?_, mine := fun u o' hu y hy hy' => ?_, last := fun y hy => ?_, has := fun e' he => h.has e' ((hin e').1 he).1, gd := fun e' he => h.gd e' ((hin e').1 he).1 }
  · show ((x.L.eraseIdx i).map RE.key).Pairwise _
    rw [hsub]
    exact h.rise.filter _
  · show (if j = e.id then none else T.ents j) = some e' ↔ ∃ a ∈ x.L.eraseIdx i, a.id = j ∧ a.ent = e'
    by_cases hj : j = e.id
    · rw [if_pos hj]
      constructor
      · intro hh; cases hh
      · rintro ⟨a, ha, h1, _⟩
        exact absurd (h1.trans hj) ((hin a).1 ha).2
    · rw [if_neg hj, h.ents]
      constructor
      · rintro ⟨a, ha, h1, h2⟩
        exact ⟨a, (hin a).2 ⟨ha, fun e => hj (h1.symm.trans e)⟩, h1, h2⟩
      · rintro ⟨a, ha, h1, h2⟩
        exact ⟨a, ((hin a).1 ha).1, h1, h2⟩
  · show o'.ids = idsOf ((x.L.eraseIdx i).map RE.key) u
    rw [hsub]
    have hcm : idsOf ((x.L.map RE.key).filter fun y => !(y.1 == e.id)) u = (idsOf (x.L.map RE.key) u).filter fun n => !(n == e.id) := by
      generalize x.L.map RE.key = K
      unfold idsOf
      induction K with
      | nil => rfl
      | cons y K ih =>
        by_cases hy1 : y.1 = e.id
        · rw [List.filter_cons_of_neg (by simp [hy1]), ih, List.filter_cons]
          split
          · rw [List.map_cons, List.filter_cons_of_neg (by simp [hy1])]
          · rfl
        · rw [List.filter_cons_of_pos (by simp [hy1]), List.filter_cons, List.filter_cons]
          split
          · rw [List.map_cons, List.map_cons, List.filter_cons_of_pos (by simp [hy1]), ih]
          · exact ih
    rw [hcm]
    rw [hobj] at hu
    split at hu
    · rename_i hus
      injection hu with hu
      rw [← hu, hus]
      show o.ids.filter _ = _
      rw [h.ids _ o ho]
    · rename_i hus
      rw [h.ids u o' hu]
      symm
      rw [List.filter_eq_self]
      intro n hn
      unfold idsOf at hn
      obtain ⟨y, hy, rfl⟩ := List.mem_map.1 hn
      obtain ⟨hy1, hy2⟩ := List.mem_filter.1 hy
      obtain ⟨a, ha, rfl⟩ := List.mem_map.1 hy1
      have hy2 : a.obj = u := of_decide_eq_true hy2
      have : ¬ a.id = e.id := fun hid => by
        have := h.uniq ha (List.mem_iff_getElem?.2 ⟨i, hi⟩) hid
        exact hus (by rw [← hy2, this])
      simpa [RE.key] using this
  · rw [hobj]
    split
    · rfl
    · exact h.obj y (hkin y hy).1
  · rw [hobj]
    show newestR x.N u = _
    rw [h.mom u]
    split
    · rename_i hus
      rw [hus, ho]
      rfl
    · rfl
  · rw [hobj] at hu
    obtain ⟨o1, h1, _, h3⟩ := hobj' u o' hu
    rw [h3]
    exact h.low u o1 h1
  · rw [hobj] at hu
    obtain ⟨o1, h1, h2, _⟩ := hobj' u o' hu
    rw [h2]
    exact h.told u o1 h1
  · rw [hobj] at hu
    obtain ⟨o1, h1, h2, _⟩ := hobj' u o' hu
    rw [h2] at hy'
    exact h.mine u o1 h1 y (hkin y hy).1 hy'
  · rw [h.last y (hkin y hy).1, hobj]
    constructor
    · rintro ⟨o', ho', ht⟩
      by_cases hs : y.2.1 = e.obj
      · rw [hs, ho] at ho'
        injection ho' with ho'
        exact ⟨_, if_pos hs, by rw [← ho'] at ht; exact ht⟩
      · exact ⟨o', by rw [if_neg hs]; exact ho', ht⟩
    · rintro ⟨o', ho', ht⟩
      obtain ⟨o1, h1, h2, _⟩ := hobj' _ o' ho'
      exact ⟨o1, h1, by rw [← h2]; exact ht⟩

end
end Go.Proofs.YtoaiamgcegnjjaaGreatDoor
namespace Go.Proofs.YtoaiamgcegnjjaaGreatDoor
open Go.RowKit Go.Maps Go.WideMaps Go.Sort
set_option maxRecDepth 100000

theorem findR_some {L : List RE} {id : Int} {i : Nat} (h : findR L id = some i) : ∃ e, L[i]? = some e ∧ e.id = id := by
  unfold findR at h
  obtain ⟨h1, h2, _⟩ := List.findIdx?_eq_some_iff_getElem.1 h
  exact ⟨L[i], List.getElem?_eq_getElem h1, eq_of_beq h2⟩
theorem findR_none {L : List RE} {id : Int} (h : findR L id = none) : ∀ e ∈ L, e.id ≠ id := fun e he hid => by
  unfold findR at h
  have := List.findIdx?_eq_none_iff.1 h e he
  rw [hid, beq_self_eq_true] at this
  cases this
theorem ask_ge {ti mo ge : Int} (h : askOK ti mo ge = true) : 0 ≤ ge := by
  unfold askOK at h
  simp only [Bool.and_eq_true] at h
  exact (tick0_bd h.2).1
theorem ask_mo {ti mo ge : Int} (h : askOK ti mo ge = true) : 0 ≤ mo := by
  unfold askOK tick0 at h
  simp at h
  omega
theorem say_ent (e : RE) (ti mo ge : Int) : e.ent.say mo ge ti = (anewR e ti mo ge).ent := by
  unfold Ent.say anewR
  show (if e.mom ≤ mo then _ else _) = _
  split <;> rfl
theorem anew_key (e : RE) (ti mo ge : Int) : (anewR e ti mo ge).key = e.key := by unfold anewR; split <;> rfl
theorem follow_key (e : RE) (M : MetaS) : (e.follow M).key = e.key := by unfold RE.follow; split <;> rfl
theorem follow_ent (e : RE) (M : MetaS) : e.ent.follow M = (e.follow M).ent := by
  unfold Ent.follow RE.follow
  show (if e.M.follows M then _ else _) = _
  split <;> rfl
theorem follows_ok {M N : MetaS} (h : M.follows N = true) : N.ok = true := by
  unfold MetaS.follows followsB at h
  unfold MetaS.ok
  simp only [Bool.and_eq_true] at h
  exact h.1.1.1.1.2

section
variable {k : Nat} {T : TabS} {x : RTab}

theorem Sim.none_of (h : Sim k T x) {id : Int} (hf : findR x.L id = none) : T.ents id = none := by
  cases he : T.ents id with
  | none => rfl
  | some e' =>
    obtain ⟨e, hm, h1, _⟩ := (h.ents _ _).1 he
    exact absurd h1 (findR_none hf e hm)
theorem Sim.obj_of (h : Sim k T x) {e : RE} (he : e ∈ x.L) : ∃ o, T.objs e.obj = some o := Option.isSome_iff_exists.1 (h.obj _ (key_mem he))
theorem mem_at {L : List RE} {i : Nat} {e : RE} (h : L[i]? = some e) : e ∈ L := List.mem_iff_getElem?.2 ⟨i, h⟩
theorem Sim.id_lt (h : Sim k T x) {e : RE} (he : e ∈ x.L) : 0 ≤ e.id ∧ e.id < T.next := by
  have := h.pos _ (key_mem he)
  have e0 : e.key.1 = e.id := rfl
  omega
theorem Sim.mine_of (h : Sim k T x) {e : RE} (he : e ∈ x.L) : ∀ y ∈ x.L.map RE.key, y.1 = e.id → y.2.1 = e.obj := fun y hy hid => by
  obtain ⟨a, ha, rfl⟩ := List.mem_map.1 hy
  rw [h.uniq ha he hid]
  rfl

theorem sim_confirm (h : Sim k T x) (id ti mo ge : Int) : (confirmS T id ti mo ge).2 = (confirmR x id ti mo ge).2 ∧ Sim k (confirmS T id ti mo ge).1 (confirmR x id ti mo ge).1 := by
  unfold confirmS confirmR
  by_cases ha : askOK ti mo ge = true
  · rw [if_pos ha, if_pos ha]
    cases hf : findR x.L id with
    | none =>
      rw [h.none_of hf]
      exact ⟨rfl, h⟩
    | some i =>
      obtain ⟨e, hi, rfl⟩ := findR_some hf
      have he := mem_at hi
      rw [h.ent_of he]
      obtain ⟨o, ho⟩ := h.obj_of he
      dsimp only
      rw [hi, show T.objs e.ent.obj = some o from ho]
      dsimp only
      rw [say_ent]
      refine ⟨rfl, ?_⟩
      have h1 := h.set hi (anew_key e ti mo ge) (Nat.le_refl k) (by rw [anewR_has]; exact h.has e he) (anew_gd (h.gd e he) ti mo (ask_ge ha))
      refine h1.take (s := e.obj) ho (ask_mo ha) (h.id_lt he) ?_
      show ∀ y ∈ (x.L.set i _).map RE.key, _
      rw [map_set_same hi (anew_key e ti mo ge)]
      exact h.mine_of he
  · rw [if_neg ha, if_neg ha]
    exact ⟨rfl, h⟩

theorem sim_learn (h : Sim k T x) (id hv ln : Int) : (learnS T id hv ln).2 = (learnR x id hv ln).2 ∧ Sim k (learnS T id hv ln).1 (learnR x id hv ln).1 := by
  unfold learnS learnR
  cases hf : findR x.L id with
  | none =>
    rw [h.none_of hf]
    exact ⟨rfl, h⟩
  | some i =>
    obtain ⟨e, hi, rfl⟩ := findR_some hf
    have he := mem_at hi
    rw [h.ent_of he]
    dsimp only
    rw [hi]
    dsimp only
    have hc : ((e.ent.meta_.learn hv ln).ok && e.ent.followB (e.ent.meta_.learn hv ln)) = e.M.follows (e.M.learn hv ln) := by
      show ((e.M.learn hv ln).ok && e.M.follows (e.M.learn hv ln)) = _
      cases hb : e.M.follows (e.M.learn hv ln) with
      | false => rw [Bool.and_false]
      | true => rw [follows_ok hb]; rfl
    rw [hc]
    split
    · refine ⟨rfl, h.set (e1 := { e with M := e.M.learn hv ln }) hi rfl (Nat.le_refl k) (h.has e he) ?_⟩
      exact ⟨⟨⟨(h.sz e he).t, (h.sz e he).ten, (h.sz e he).ks⟩, (h.gd e he).1.fr, (h.gd e he).1.wh, (h.gd e he).1.er⟩, (h.gd e he).2⟩
    · exact ⟨rfl, h⟩

theorem mergeS_len (l t : List (Int × Int)) : (mergeS l t).length = l.length + t.length := by
  induction l generalizing t with
  | nil => simp [mergeS]
  | cons a l ih =>
    induction t with
    | nil => simp [mergeS]
    | cons b t ih2 =>
      unfold mergeS
      split
      · rw [List.length_cons, ih]; simp; omega
      · rw [List.length_cons, ih2]; simp; omega
theorem orS_len (l : List (Int × Int)) (s : Int × Int) : (orS l s).length ≤ l.length + 1 := by
  unfold orS gatherS
  have h1 := foldl_gstep_len (mergeS l (ofS s)) []
  rw [mergeS_len] at h1
  have : (ofS s).length ≤ 1 := by unfold ofS; split <;> simp
  simp at h1
  omega
theorem cut_far {s : Int × Int} {lo : Int} (hlo : s.2 ≤ lo) : ∀ {l : List (Int × Int)}, NormAt lo l → l.flatMap (cutS s) = l
  | [], _ => rfl
  | x :: r, h => by
    obtain ⟨h1, h2, h3⟩ := h
    rw [List.flatMap_cons, cut_far (by omega) h3]
    unfold cutS
    rw [if_pos (.inl (by omega))]
    rfl
theorem less_len1 {s : Int × Int} : ∀ {lo : Int} {l : List (Int × Int)}, NormAt lo l → (l.flatMap (cutS s)).length ≤ l.length + 1
  | _, [], _ => by simp
  | lo, x :: r, h => by
    obtain ⟨h1, h2, h3⟩ := h
    rw [List.flatMap_cons, List.length_append, List.length_cons]
    have ih := less_len1 (s := s) h3
    by_cases hsp : x.1 < s.1 ∧ s.2 < x.2
    · rw [cut_far (by omega) h3]
      have := cut_len s x
      omega
    · have : (cutS s x).length ≤ 1 := by
        unfold cutS
        split
        · simp
        · split
          · rw [if_neg (by omega)]; simp
          · split <;> simp
      omega
theorem lessS_len {l : List (Int × Int)} (h : Norm l) (s : Int × Int) : (lessS l s).length ≤ l.length + 1 := by
  unfold lessS
  split
  · exact less_len1 h
  · omega

theorem sim_fill (h : Sim k T x) (id f t : Int) (lose : Bool) : (fillS T id f t lose).2 = (fillR x id f t lose).2 ∧ Sim (k + 1) (fillS T id f t lose).1 (fillR x id f t lose).1 := by
  unfold fillS fillR
  by_cases hs : spanOK f t = true
  · rw [if_pos hs, if_pos hs]
    cases hf : findR x.L id with
    | none =>
      rw [h.none_of hf]
      exact ⟨rfl, h.more (by omega)⟩
    | some i =>
      obtain ⟨e, hi, rfl⟩ := findR_some hf
      have he := mem_at hi
      rw [h.ent_of he]
      dsimp only
      rw [hi]
      dsimp only
      have hr : rightS (f, t) = true := hs
      obtain ⟨hg, hl⟩ := h.has e he
      refine ⟨rfl, ?_⟩
      cases lose with
      | false =>
        obtain ⟨e1, e2⟩ := orS_eq hg hr
        have h1 : ((e.ent.withHas (orS e.has (f, t))) : Ent) = ({ e with has := ofR e.has [(f, t)] 1 } : RE).ent := by rw [← e1]; rfl
        show Sim (k + 1) (T.setEnt (e.ent.withHas (orS e.has (f, t)))) _
        rw [h1]
        refine h.set (e1 := { e with has := ofR e.has [(f, t)] 1 }) hi rfl (show k ≤ k + 1 by omega) ⟨(by show Good (ofR e.has [(f, t)] 1); rw [← e1]; exact e2), ?_⟩ (h.gd e he)
        show (ofR e.has [(f, t)] 1).length ≤ k + 1
        rw [← e1]
        have := orS_len e.has (f, t)
        omega
      | true =>
        obtain ⟨e1, e2⟩ := lessS_eq hg hr
        have h1 : ((e.ent.withHas (lessS e.has (f, t))) : Ent) = ({ e with has := ofR e.has [(f, t)] 3 } : RE).ent := by rw [← e1]; rfl
        show Sim (k + 1) (T.setEnt (e.ent.withHas (lessS e.has (f, t)))) _
        rw [h1]
        refine h.set (e1 := { e with has := ofR e.has [(f, t)] 3 }) hi rfl (show k ≤ k + 1 by omega) ⟨(by show Good (ofR e.has [(f, t)] 3); rw [← e1]; exact e2), ?_⟩ (h.gd e he)
        show (ofR e.has [(f, t)] 3).length ≤ k + 1
        rw [← e1]
        have := lessS_len hg.1 (f, t)
        omega
  · rw [if_neg hs, if_neg hs]
    exact ⟨rfl, h.more (by omega)⟩

theorem sim_drop (h : Sim k T x) (id : Int) : (dropS T id).2 = (dropR x id).2 ∧ Sim k (dropS T id).1 (dropR x id).1 := by
  unfold dropS dropR
  cases hf : findR x.L id with
  | none =>
    rw [h.none_of hf]
    exact ⟨rfl, h⟩
  | some i =>
    obtain ⟨e, hi, rfl⟩ := findR_some hf
    have he := mem_at hi
    rw [h.ent_of he]
    obtain ⟨o, ho⟩ := h.obj_of he
    dsimp only
    rw [show T.objs e.ent.obj = some o from ho]
    exact ⟨rfl, h.drop hi ho⟩

theorem find_ids {M : MetaS} {s : ByteArray} {T : TabS} : ∀ {L : List RE}, (∀ e ∈ L, T.ents e.id = some e.ent) → (idsOf (L.map RE.key) s).find? (matchB T M) = (L.find? (matchR s M)).map (·.id)
  | [], _ => rfl
  | a :: L, h => by
    have ih := find_ids (M := M) (s := s) (T := T) (L := L) (fun e he => h e (List.mem_cons_of_mem _ he))
    have hm : matchB T M a.id = ((tagOK a.M.t && !a.M.wk) && strongB a.M.t a.M.wk M.t M.wk) := by
      unfold matchB
      rw [h a (List.mem_cons_self ..)]
      rfl
    unfold idsOf at ih ⊢
    rw [List.map_cons, List.filter_cons, List.find?_cons]
    by_cases hs : a.obj = s
    · rw [if_pos (show decide (a.key.2.1 = s) = true from decide_eq_true hs), List.map_cons, List.find?_cons]
      have e1 : matchR s M a = matchB T M a.key.1 := by
        show _ = matchB T M a.id
        rw [hm]
        unfold matchR
        rw [decide_eq_true hs, Bool.true_and]
      rw [e1]
      cases matchB T M a.key.1 with
      | true => rfl
      | false => exact ih
    · rw [if_neg (by rw [show decide (a.key.2.1 = s) = false from decide_eq_false hs]; simp)]
      have e1 : matchR s M a = false := by
        unfold matchR
        rw [decide_eq_false hs, Bool.false_and]
      rw [e1]
      exact ih
theorem find_idx {p : RE → Bool} : ∀ (L : List RE), (L.findIdx? p = none ∧ L.find? p = none) ∨ ∃ i e, L.findIdx? p = some i ∧ L[i]? = some e ∧ L.find? p = some e
  | [] => .inl ⟨rfl, rfl⟩
  | a :: L => by
    rw [List.findIdx?_cons, List.find?_cons]
    cases hp : p a with
    | true => exact .inr ⟨0, a, by simp, by simp, rfl⟩
    | false =>
      rcases find_idx (p := p) L with ⟨h1, h2⟩ | ⟨i, e, h1, h2, h3⟩
      · exact .inl ⟨by simp [h1], h2⟩
      · exact .inr ⟨i + 1, e, by simp [h1], by simpa using h2, h3⟩

theorem withObj_ents (T : TabS) (s : ByteArray) : (T.withObj s).ents = T.ents := by unfold TabS.withObj; split <;> rfl

theorem sim_land (h : Sim k T x) (obj : ByteArray) (M : MetaS) (age ti mo ge : Int) (hmo : 0 ≤ mo) (hge : 0 ≤ ge) (hs : M.Gd) : (landS T obj M age ti mo ge).2 = (landR x obj M age ti mo ge).2 ∧ Sim k (landS T obj M age ti mo ge).1 (landR x obj M age ti mo ge).1 := by
  have h1 := h.withObj obj
  obtain ⟨o, ho⟩ := withObj_some T obj
  have hn := withObj_next T obj
  unfold landS landR
  dsimp only
  generalize T.withObj obj = T1 at *
  rw [ho]
  dsimp only
  rw [h1.ids obj o ho, find_ids (fun e he => h1.ent_of he)]
  rcases find_idx (p := matchR obj M) x.L with ⟨f1, f2⟩ | ⟨i, e, f1, hi, f2⟩
  · rw [f1, f2]
    dsimp only [Option.map_none]
    refine ⟨by rw [← hn, h1.next], ?_⟩
    try dsimp only
    have h2 := h1.add ho M (saidOf ti age) mo ge hs hge
    have e1 : ({ o with ids := idsOf (x.L.map RE.key) obj ++ [T.next] } : ObjS) = { o with ids := o.ids ++ [T1.next] } := by rw [h1.ids obj o ho, hn]
    rw [e1, ← hn, ← h1.next]
    rw [← h1.next] at h2
    refine h2.take (s := obj) (if_pos rfl) hmo ?_ ?_
    · have := h1.one
      have := h1.next
      show 0 ≤ x.next ∧ x.next < x.next + 1
      omega
    · intro y hy hid
      rw [show (x.L ++ [newR x.next obj M (saidOf ti age) mo ge]).map RE.key = x.L.map RE.key ++ [(x.next, obj, false)] by rw [List.map_append]; rfl, List.mem_append, List.mem_singleton] at hy
      rcases hy with hy | rfl
      · have := (h1.pos y hy).2
        have := h1.next
        omega
      · rfl
  · rw [f1, f2]
    dsimp only [Option.map_some]
    have he := mem_at hi
    have hob : e.obj = obj := by
      have := List.find?_some f2
      unfold matchR at this
      rw [Bool.and_eq_true] at this
      exact of_decide_eq_true this.1
    subst hob
    rw [hi, h1.ent_of he]
    dsimp only
    refine ⟨rfl, ?_⟩
    rw [follow_ent, say_ent]
    have hk : (anewR (e.follow M) (saidOf ti age) mo ge).key = e.key := (anew_key _ _ _ _).trans (follow_key _ _)
    have h2 := h1.set hi hk (Nat.le_refl k) (by
      rw [anewR_has]
      have : (e.follow M).has = e.has := by unfold RE.follow; split <;> rfl
      rw [this]
      exact h1.has e he) (by
      refine anew_gd ?_ _ _ hge
      unfold RE.follow
      split
      · exact ⟨hs, (h1.gd e he).2⟩
      · exact h1.gd e he)
    refine h2.take (s := e.obj) ho hmo (h1.id_lt he) ?_
    show ∀ y ∈ (x.L.set i _).map RE.key, _
    rw [map_set_same hi hk]
    exact h1.mine_of he

theorem sim_last (h : Sim k T x) (s : ByteArray) : lastS T s = lastR x.L s := by
  unfold lastS lastR
  cases ho : T.objs s with
  | none =>
    have : x.L.find? (fun e => decide (e.obj = s) && e.last) = none := by
      rw [List.find?_eq_none]
      intro e he hp
      rw [Bool.and_eq_true] at hp
      have := h.obj _ (key_mem he)
      rw [show e.key.2.1 = s from of_decide_eq_true hp.1, ho] at this
      cases this
    rw [this]
    rfl
  | some o =>
    dsimp only
    cases hf : x.L.find? (fun e => decide (e.obj = s) && e.last) with
    | none =>
      rw [List.find?_eq_none] at hf
      cases ht : T.ents o.told with
      | none => rfl
      | some e' =>
        obtain ⟨e, he, h1, _⟩ := (h.ents _ _).1 ht
        have h2 := h.mine s o ho _ (key_mem he) h1
        have h3 := (h.last _ (key_mem he)).2 ⟨o, by rw [h2]; exact ho, h1.symm⟩
        refine absurd ?_ (hf e he)
        rw [Bool.and_eq_true]
        exact ⟨decide_eq_true h2, h3⟩
    | some e =>
      have he := List.mem_of_find?_eq_some hf
      have hp := List.find?_some hf
      rw [Bool.and_eq_true] at hp
      obtain ⟨o', h1, h2⟩ := (h.last _ (key_mem he)).1 hp.2
      rw [show e.key.2.1 = s from of_decide_eq_true hp.1, ho] at h1
      injection h1 with h1
      subst h1
      rw [show o.told = e.id from h2, h.ent_of he]
      rfl

theorem turned_same : ∀ L : List RE, turnedL L L = []
  | [] => rfl
  | a :: L => by
    unfold turnedL
    rw [turned_same L]
    cases a.last <;> rfl
theorem turned_upd (s : ByteArray) : ∀ L : List RE, (∀ e ∈ L, 1 ≤ e.id) → turnedL L (L.map (updL s 0)) = (L.filter fun e => decide (e.obj = s) && e.last).map (·.id)
  | [], _ => rfl
  | a :: L, h => by
    rw [List.map_cons]
    unfold turnedL
    rw [turned_upd s L (fun e he => h e (List.mem_cons_of_mem _ he)), List.filter_cons]
    have ha := h a (List.mem_cons_self ..)
    have h0 : (a.id == 0) = false := by simp; omega
    unfold updL
    by_cases hs : a.obj = s
    · rw [if_pos hs, decide_eq_true hs]
      dsimp only
      rw [h0]
      cases a.last <;> rfl
    · rw [if_neg hs, decide_eq_false hs]
      cases a.last <;> rfl
theorem filter_one {p : RE → Bool} : ∀ (L : List RE), (∀ a ∈ L, ∀ b ∈ L, p a = true → p b = true → a.id = b.id) → (L.map RE.key).Pairwise (fun a b => a.1 < b.1) → (L.filter p).map (·.id) = ((L.find? p).map (·.id)).toList
  | [], _, _ => rfl
  | a :: L, h, hr => by
    rw [List.map_cons, List.pairwise_cons] at hr
    rw [List.filter_cons, List.find?_cons]
    cases hp : p a with
    | true =>
      rw [if_pos rfl]
      have : L.filter p = [] := by
        rw [List.filter_eq_nil_iff]
        intro b hb hpb
        have e1 := h a (List.mem_cons_self ..) b (List.mem_cons_of_mem _ hb) hp hpb
        have := hr.1 _ (key_mem hb)
        have e2 : a.key.1 = a.id := rfl
        have e3 : b.key.1 = b.id := rfl
        omega
      rw [this]
      rfl
    | false =>
      rw [if_neg (by simp)]
      exact filter_one L (fun b hb c hc => h b (List.mem_cons_of_mem _ hb) c (List.mem_cons_of_mem _ hc)) hr.2

theorem sim_gone (h : Sim k T x) (s : ByteArray) (ti mo ge : Int) : (goneS T s ti mo ge).2 = (goneR x s ti mo ge).2 ∧ Sim k (goneS T s ti mo ge).1 (goneR x s ti mo ge).1 := by
  unfold goneS goneR
  by_cases ha : askOK ti mo ge = true
  · rw [if_pos ha, if_pos ha]
    have h1 := h.withObj s
    obtain ⟨o, ho⟩ := withObj_some T s
    have hlT : lastS T s = lastS (T.withObj s) s := by rw [sim_last h, sim_last h1]
    rw [ho]
    dsimp only
    have h2 := h1.take (s := s) (mo := mo) (id := 0) ho (ask_mo ha) ⟨by omega, by have := h1.one; omega⟩ (fun y hy e => by have := h1.pos y hy; omega)
    refine ⟨?_, h2⟩
    have e2 := sim_last h2 s
    rw [hlT]
    have e1 := sim_last h1 s
    rw [e2, e1]
    by_cases hl : laterB (newestR x.N s) mo = true
    · have hx : takenR x s 0 mo = x := by unfold takenR; rw [if_pos hl]
      rw [hx, turned_same]
      cases lastR x.L s with
      | none => rfl
      | some n => rfl
    · have hx : (takenR x s 0 mo).L = x.L.map (updL s 0) := by unfold takenR; rw [if_neg hl]
      rw [hx, turned_upd s x.L (fun e he => (h.pos _ (key_mem he)).1)]
      have hn : lastR (x.L.map (updL s 0)) s = none := by
        unfold lastR
        have : (x.L.map (updL s 0)).find? (fun e => decide (e.obj = s) && e.last) = none := by
          rw [List.find?_eq_none]
          intro e he hp
          obtain ⟨e0, he0, rfl⟩ := List.mem_map.1 he
          rw [Bool.and_eq_true] at hp
          have hpos := (h.pos _ (key_mem he0)).1
          unfold updL at hp
          by_cases hs : e0.obj = s
          · rw [if_pos hs] at hp
            have h0 : e0.id = 0 := eq_of_beq hp.2
            have e3 : e0.key.1 = e0.id := rfl
            omega
          · rw [if_neg hs] at hp
            exact hs (of_decide_eq_true hp.1)
        rw [this]
        rfl
      rw [hn, filter_one x.L (fun a ha b hb hpa hpb => ?_) h.rise]
      · show _ = (lastR x.L s).toList
        cases lastR x.L s with
        | none => rfl
        | some n => rfl
      · rw [Bool.and_eq_true] at hpa hpb
        obtain ⟨o1, g1, g2⟩ := (h.last _ (key_mem ha)).1 hpa.2
        obtain ⟨o2, g3, g4⟩ := (h.last _ (key_mem hb)).1 hpb.2
        rw [show a.key.2.1 = s from of_decide_eq_true hpa.1] at g1
        rw [show b.key.2.1 = s from of_decide_eq_true hpb.1, g1] at g3
        injection g3 with g3
        subst g3
        exact g2.symm.trans g4
  · rw [if_neg ha, if_neg ha]
    exact ⟨rfl, h⟩

theorem sim_empty (n : Int) (hn : 1 ≤ n) : Sim 0 (emptyT n) { L := [], N := [], next := n } :=
  { next := rfl, one := hn, rise := List.Pairwise.nil, pos := (fun y hy => by cases hy), ents := fun i e' => ⟨(fun h => by cases h), fun ⟨e, he, _⟩ => by cases he⟩, ids := (fun s o h => by cases h), obj := (fun y hy => by cases hy), mom := fun s => rfl, low := (fun s o h => by cases h), told := (fun s o h => by cases h), mine := (fun s o h => by cases h), last := (fun y hy => by cases hy), has := (fun e he => by cases he), gd := (fun e he => by cases he) }

end
end Go.Proofs.YtoaiamgcegnjjaaGreatDoor
