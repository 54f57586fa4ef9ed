/- What the program's Load wants: the sort of numbers of one's own, the choice of three, a table while an object's numbers are sorted. No condition but the bounds that each names. -/
import Derived.Test.YtoaiamgcegnjjaaGreatDoorNB
import Derived.Test.YtoaiamgcegnjjaaGreatDoorMN
import Derived.Sort.OwnSortedInts
import Derived.Maps.RangeWalk
namespace Go.Proofs.YtoaiamgcegnjjaaGreatDoor
open Go.RowKit Go.Maps Go.WideMaps Go.Sort
set_option maxRecDepth 100000

theorem own_addr {w : World} {base e size n c : Nat} {A : Option Addr} {xs : List Value} (h : w.ownsRow base e size (.slice A n c) n xs) (hn : 0 < n) : ∃ g, A = some ⟨g, 0, none⟩ := by
  rcases h.2 with ⟨_, rfl⟩ | ⟨g, cap, cur, hv, _⟩
  · omega
  · injection hv with hA
    exact ⟨g, hA⟩
theorem sort_own {w : World} {base g n c : Nat} {ids : List Int} (h : w.ownsRow base 2 1 (.slice (some ⟨g, 0, none⟩) n c) n (ids.map (Value.int .i64))) (hn : 0 < n) (hs : n ≤ 1000000) :
    Calls Tryz.prog 47 #[.slice (some ⟨g, 0, none⟩) n c] w fun e w' => e = .returned (.tuple #[]) ∧ w'.ownsRow base 2 1 (.slice (some ⟨g, 0, none⟩) n c) n ((sortI ids).map (Value.int .i64)) ∧ w.grownBy w' (some g) := by
  have hl : ids.length = n := by have := h.1; simpa using this
  rcases h.2 with ⟨_, rfl⟩ | ⟨g', cap, cur, hv, hb, hg, h1, h2, h3, h4⟩
  · omega
  injection hv with hA _ hc
  injection hA with hA
  injection hA with hA
  subst hA hc
  subst hl
  have h4' : cur.toList.take ids.length = ids.map (Value.int .i64) := by simpa using h4
  refine (AnyM.slices_Sort_int Tryz.sortA g 0 c ids w (holds_of_blockI hg h4') (Array.getElem?_eq_some_iff.1 hg).1 (by omega)).mono ?_
  rintro e w' ⟨rfl, m, os, rfl⟩
  exact ⟨rfl, ownsRow_sortedI (by simp) hb hg h1 h2 h3, grownBy_sortedI _⟩

def cmpN (a b : Int) : Int := if a < b then -1 else if b < a then 1 else 0
theorem nann_any (a : Int) (w : World) : Calls Tryz.prog 111 #[.int .i64 a] w fun e w' => e = .returned (.bool false) ∧ w = w' := by
  go_enter Tryz.func111, Tryz.ntmps111
  go_wp2
  go_ret
  exact ⟨rfl, rfl⟩
theorem comparen_any (a b : Int) (w : World) : Calls Tryz.prog 49 #[.int .i64 a, .int .i64 b] w fun e w' => e = .returned (.int .i64 (cmpN a b)) ∧ w = w' := by
  go_enter Tryz.func49, Tryz.ntmps49
  go_wp2_with (go_at_call 111; refine (nann_any _ _).mono ?_; rintro e w' ⟨rfl, rfl⟩)
  all_goals
    go_ret
    refine ⟨ret_int ?_, rfl⟩
    unfold cmpN
    repeat' split
    all_goals first | rfl | (exfalso; omega)
def orN (x y z : Int) : Int := if x = 0 then (if y = 0 then z else y) else x
theorem or3_any (g : Nat) (x y z : Int) (w : World) (hk : Blk w g 3 #[.int .i64 x, .int .i64 y, .int .i64 z]) : Calls Tryz.prog 48 #[.slice (some ⟨g, 0, none⟩) 3 3] w fun e w' => e = .returned (.int .i64 (orN x y z)) ∧ w = w' := by
  have c0 : w.cell? ⟨g, 0, none⟩ = some (.int .i64 x) := (hk.cell 0).trans rfl
  have c1 : w.cell? ⟨g, 1, none⟩ = some (.int .i64 y) := (hk.cell 1).trans rfl
  have c2 : w.cell? ⟨g, 2, none⟩ = some (.int .i64 z) := (hk.cell 2).trans rfl
  clear hk
  go_enter Tryz.func48, Tryz.ntmps48
  go_wp2_with fail
  go_loop [8] (fun i => i = .int .i64 0 ∨ (i = .int .i64 1 ∧ x = 0) ∨ (i = .int .i64 2 ∧ x = 0 ∧ y = 0) ∨ (i = .int .i64 3 ∧ x = 0 ∧ y = 0 ∧ z = 0)) (fun i => 3 - (intOf i).toNat)
  case atStart => exact .inl rfl
  case round =>
    rcases hrel with rfl | ⟨rfl, rfl⟩ | ⟨rfl, rfl, rfl⟩ | ⟨rfl, rfl, rfl, rfl⟩
    · by_cases hx : x = 0
      · subst hx
        go_wp2_with fail
        exact ⟨.inr (.inl ⟨by go_num, by simp⟩), by simp [intOf]⟩
      · go_wp2_with fail
        go_ret
        exact ⟨ret_int (by unfold orN; rw [if_neg hx]), rfl⟩
    · by_cases hy : y = 0
      · subst hy
        go_wp2_with fail
        exact ⟨.inr (.inr (.inl ⟨by go_num, by simp⟩)), by simp [intOf]⟩
      · go_wp2_with fail
        go_ret
        exact ⟨ret_int (by unfold orN; rw [if_pos rfl, if_neg hy]), rfl⟩
    · by_cases hz : z = 0
      · subst hz
        go_wp2_with fail
        exact ⟨.inr (.inr (.inr ⟨by go_num, by simp⟩)), by simp [intOf]⟩
      · go_wp2_with fail
        go_ret
        exact ⟨ret_int (by unfold orN; rw [if_pos rfl, if_pos rfl]), rfl⟩
    · go_wp2_with fail
      go_ret
      exact ⟨rfl, rfl⟩
theorem newer_or (a b : Ent) : decide (0 < orN (cmpN a.gen b.gen) (cmpN a.said b.said) (cmpN a.id b.id)) = newerE a b := by
  rw [Bool.eq_iff_iff, decide_eq_true_iff]
  unfold newerE
  rw [newerN_iff]
  unfold orN cmpN
  repeat' split
  all_goals omega

section
variable {w w' : World} {base tb m : Nat} {T : TabS} {be bo : Nat} {kf : Int → Option Nat} {of_ rf : ByteArray → Option Nat}
/-- an object's numbers are put in another order -/
theorem TabR.sortObj (h : TabR w base tb m T be bo kf of_ rf) {s : ByteArray} {g r : Nat} {o : ObjS} (hg : of_ s = some g) (ho : T.objs s = some o) (hr : rf s = some r) (hw : w.grownBy w' (some r)) {ids : List Int} (hlen : ids.length = o.ids.length) (hmem : ∀ i ∈ ids, i ∈ o.ids)
    (hown : ∀ A n c, w.ownsRow base 2 1 (.slice A n c) n (o.ids.map (Value.int .i64)) → (Value.slice A n c).ownBlock = some r → Blk w g 121 #[.int .i64 o.mom, .int .i64 o.told, .slice A n c] → w'.ownsRow base 2 1 (.slice A n c) n (ids.map (Value.int .i64))) :
    TabR w' base tb m (T.setObj s { mom := o.mom, told := o.told, ids := ids }) be bo kf of_ rf := by
  obtain ⟨o', ho', hO⟩ := h.objs s g hg
  obtain rfl : o' = o := Option.some.inj (ho'.symm.trans ho)
  obtain ⟨A, n, c, hbk, x1, x2, x3⟩ := hO.cells
  have hty := h.obj_row hg hr
  have nb : ∀ {b : Nat} {t : TypeId} {cs : Array Value}, Blk w b t cs → t ≠ 2 → some r ≠ some b := fun hx hne e => by
    injection e with e
    subst e
    exact hne (Option.some.inj (hx.ty.symm.trans hty))
  have nm : ∀ b, tyOf w b = none → b ≠ r := fun b hb e => by subst e; rw [hb] at hty; cases hty
  have mi : tyOf w be = none := by obtain ⟨D, ⟨es, cl, hx, _⟩, _⟩ := h.imap; simp [tyOf, hx]
  have ms : tyOf w bo = none := by obtain ⟨D, ⟨es, cl, hx, _⟩, _⟩ := h.smap; simp [tyOf, hx]
  refine { blk := h.blk.grown hw (nb h.blk (by decide)), low := h.low, ne := h.ne, imap := h.imap.kept hw (fun e => nm _ mi (by injection e)), smap := h.smap.kept hw (fun e => nm _ ms (by injection e)), ents := fun id g' hk => ?_, noent := h.noent, objs := fun u g' hu => ?_, noobj := fun u hu => ?_, kinj := h.kinj, oinj := h.oinj, rinj := h.rinj, ids := fun u o1 hu => ?_, eobj := fun i e he => ?_, told := fun u o1 hu => ?_, idlt := h.idlt, next := h.next }
  · obtain ⟨e, h1, h2, h3⟩ := h.ents id g' hk
    obtain ⟨_, _, _, _, _, _, hb1, _⟩ := h3.cells
    exact ⟨e, h1, h2, h3.kept hw (nb hb1 (by decide)) (fun k hk => by injection hk with hk; subst hk; rw [hty]; simp)⟩
  · by_cases eu : u = s
    · subst eu
      obtain rfl : g = g' := Option.some.inj (hg.symm.trans hu)
      exact ⟨{ mom := o'.mom, told := o'.told, ids := ids }, by simp [TabS.setObj], ⟨hO.low, A, n, c, hbk.grown hw (nb hbk (by decide)), x1, hown A n c x2 (x3.trans hr) hbk, x3⟩⟩
    · obtain ⟨o1, h1, h2⟩ := h.objs u g' hu
      obtain ⟨A1, n1, c1, hbk1, _⟩ := h2.cells
      refine ⟨o1, by simp [TabS.setObj, eu, h1], h2.kept hw (nb hbk1 (by decide)) (fun k hk hr1 => ?_)⟩
      injection hk with hk
      subst hk
      exact eu (h.rinj u s r (by rw [hu]; rfl) (by rw [hg]; rfl) hr1 hr)
  · have : u ≠ s := fun e => by subst e; rw [hg] at hu; cases hu
    simp [TabS.setObj, this, h.noobj u hu]
  · by_cases eu : u = s
    · subst eu
      simp [TabS.setObj] at hu
      subst hu
      obtain ⟨a, b⟩ := h.ids u o' ho
      exact ⟨by simp only; omega, fun i hi => b i (hmem i hi)⟩
    · simp [TabS.setObj, eu] at hu
      exact h.ids u o1 hu
  · have := h.eobj i e he
    simp only [TabS.setObj]
    split
    · rfl
    · exact this
  · by_cases eu : u = s
    · subst eu
      simp [TabS.setObj] at hu
      subst hu
      exact h.told u o' ho
    · simp [TabS.setObj, eu] at hu
      exact h.told u o1 hu
end

theorem key9_inv {key : Value} {kl : Lit} (h : keyOf Tryz.prog 9 key = some kl) : ∃ s : ByteArray, key = .string s ∧ kl = .string s.data.toList ∧ s.size ≤ maxLen := by
  cases key <;> simp [keyOf, Tryz.underlying9, mapKey] at h
  obtain ⟨hw, rfl⟩ := h
  exact ⟨_, rfl, rfl, hw⟩
theorem ptr_shape {v : Value} {y : DataW Unit × List MemPlace} (h : ptrElem v = some y) : ∃ c, v = ptrV c ∧ y.1 = encP c := by
  unfold ptrElem at h
  split at h
  · injection h with h; subst h; exact ⟨none, rfl, rfl⟩
  · injection h with h; subst h; exact ⟨some _, rfl, rfl⟩
  · cases h
theorem encP_inj {a b : Option Nat} (h : encP a = encP b) : a = b := by
  cases a <;> cases b <;> simp [encP] at h <;> first | rfl | (congr 1; omega)
end Go.Proofs.YtoaiamgcegnjjaaGreatDoor
