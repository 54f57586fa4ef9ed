/- A table with an entry more. No condition. A table of which one block is written. No condition. say and take, seen from the table. No condition. -/
import Derived.Test.YtoaiamgcegnjjaaGreatDoorMB
import Derived.Deep.RegionLaw
import Derived.Deep.AppendLies
namespace Go.Proofs.YtoaiamgcegnjjaaGreatDoor
open Go.RowKit Go.Maps Go.WideMaps
set_option maxRecDepth 100000

def TabS.addEnt (T : TabS) (o : ObjS) (e : Ent) : TabS :=
  { next := T.next, ents := fun i => if i = e.id then some e else T.ents i, objs := fun u => if u = e.obj then some { o with ids := o.ids ++ [e.id] } else T.objs u }

theorem Blk.ne {w : World} {g g' : Nat} {t t' : TypeId} {cs cs' : Array Value} (h : Blk w g t cs) (h' : Blk w g' t' cs') (hne : t ≠ t') : g ≠ g' := by
  rintro rfl
  have := h.ty
  rw [h'.ty] at this
  injection this with this
  exact hne this.symm
theorem SMap.same {w w' : World} {b n : Nat} {f : ByteArray → Option Nat} (h : SMap w b n f) (e : w'.heap[b]? = w.heap[b]?) : SMap w' b n f := by
  obtain ⟨D, ⟨es, cl, hm, r⟩, hf⟩ := h
  exact ⟨D, ⟨es, cl, e.trans hm, r⟩, hf⟩
theorem IMap.same {w w' : World} {b n : Nat} {f : Int → Option Nat} (h : IMap w b n f) (e : w'.heap[b]? = w.heap[b]?) : IMap w' b n f := by
  obtain ⟨D, ⟨es, cl, hm, r⟩, hf⟩ := h
  exact ⟨D, ⟨es, cl, e.trans hm, r⟩, hf⟩

theorem TabR.addEnt {w w2 w4 w5 : World} {base tb m : Nat} {T : TabS} {be bo : Nat} {kf : Int → Option Nat} {of_ rf : ByteArray → Option Nat} (h : TabR w base tb m T be bo kf of_ rf) {e : Ent} {g : Nat} {o : ObjS} (hg : of_ e.obj = some g) (ho : T.objs e.obj = some o)
    (hid : kf e.id = none) (hlt : 1 ≤ e.id ∧ e.id < T.next) (hwf : (Lit.int .i64 e.id).wf = true) {A' : Option Addr} {n' c' : Nat} (hrow : w.grownBy w2 (rf e.obj)) (hnc : n' ≤ c') (hown : w2.ownsRow base 2 1 (.slice A' n' c') n' ((o.ids ++ [e.id]).map (Value.int .i64)))
    (hat : (Value.slice A' n' c').ownBlock = rf e.obj ∨ ∃ k, (Value.slice A' n' c').ownBlock = some k ∧ w.heap.size ≤ k)
    {kb : Nat} (hkb : w2.heap.size ≤ kb) (hb4 : Below w2.heap.size (w2.setCell ⟨g, 2, none⟩ (.slice A' n' c')) w4) (hK : Known w4 base kb e)
    (h5 : w4.grownBy w5 (some be)) (him : IMap w5 be (m + 1) (fun y => if y = e.id then some kb else kf y)) :
    TabR w5 base tb (m + 1) (T.addEnt o e) be bo (fun y => if y = e.id then some kb else kf y) of_ (fun u => if u = e.obj then (Value.slice A' n' c').ownBlock else rf u) := by
  obtain ⟨o', ho', hO⟩ := h.objs e.obj g hg
  obtain rfl : o' = o := Option.some.inj (ho'.symm.trans ho)
  obtain ⟨A, n, c, hbk, hnc0, hown0, hr0⟩ := hO.cells
  -- the kinds of blocks
  have hsz2 := hrow.size
  have rty : ∀ k, rf e.obj = some k → tyOf w k = some 2 := fun k hk => own_ty hown0 (hr0.trans hk)
  have nrow : ∀ {b : Nat} {t : TypeId} {cs : Array Value}, Blk w b t cs → t ≠ 2 → rf e.obj ≠ some b := fun hx hne hr => hne (by have := rty _ hr; rw [hx.ty] at this; injection this)
  have mapty : ∀ {b : Nat} {x : Obj}, w.heap[b]? = some x → (∀ c t f, x ≠ .cells c t f) → rf e.obj ≠ some b := fun hx hne hr => by
    have := rty _ hr
    unfold tyOf at this
    rw [hx] at this
    split at this
    · rename_i heq; injection heq with heq; exact hne _ _ _ heq
    · cases this
  have bety : rf e.obj ≠ some be := by obtain ⟨D, ⟨es, cl, hx, _⟩, _⟩ := h.imap; exact mapty hx (fun _ _ _ e => by cases e)
  have boty : rf e.obj ≠ some bo := by obtain ⟨D, ⟨es, cl, hx, _⟩, _⟩ := h.smap; exact mapty hx (fun _ _ _ e => by cases e)
  -- a block of w2 that is not g lies in w4 as it did
  have step : ∀ k, k < w.heap.size → k ≠ g → rf e.obj ≠ some k → w4.heap[k]? = w.heap[k]? := fun k hk hkg hkr => by
    rw [hb4.block k (by omega), Below.heap_setCell _ _ _ _ hkg, hrow.block k hk (fun e => hkr e.symm)]
  have hG4 : ∀ {row : Option Nat}, row = none → True := fun _ => trivial
  clear hG4
  have gblk2 : Blk w2 g 121 #[.int .i64 o'.mom, .int .i64 o'.told, .slice A n c] := hbk.grown hrow (nrow hbk (by decide))
  have gblk4 : Blk w4 g 121 #[.int .i64 o'.mom, .int .i64 o'.told, .slice A' n' c'] := by
    have := (gblk2.set 2 (.slice A' n' c')).below hb4 (by have := gblk2.lt; omega)
    exact this
  have keepBlk : ∀ {b : Nat} {t : TypeId} {cs : Array Value}, Blk w b t cs → b ≠ g → t ≠ 2 → Blk w4 b t cs := fun hx hne ht => (step _ hx.lt hne (nrow hx ht)).trans hx
  have keepOwn : ∀ {e' size n : Nat} {v : Value} {xs : List Value}, w.ownsRow base e' size v n xs → e' ≠ 121 → (∀ k, v.ownBlock = some k → rf e.obj ≠ some k) → w4.ownsRow base e' size v n xs := fun {e' size n v xs} hx hne hk => by
    refine ⟨hx.1, ?_⟩
    rcases hx.2 with hx' | ⟨k, cap, cur, rfl, hb, hh, r⟩
    · exact .inl hx'
    · refine .inr ⟨k, cap, cur, rfl, hb, ?_, r⟩
      rw [step k (Array.getElem?_eq_some_iff.1 hh).1 ?_ (hk k (by simp [Value.ownBlock]))]
      · exact hh
      · rintro rfl
        unfold Blk at hbk
        rw [hbk] at hh
        injection hh with hh
        injection hh with _ ht
        exact hne ht.symm
  have bene : be ≠ g := h.imap.no_blk hbk
  have bone : bo ≠ g := h.smap.no_blk hbk
  have noBe : ∀ {b : Nat} {t : TypeId} {cs : Array Value}, Blk w4 b t cs → some be ≠ some b := fun hx he => by
    injection he with he
    subst he
    obtain ⟨D, ⟨es, cl, hm, _⟩, _⟩ := h.imap
    have := step be h.imap.lt bene bety
    unfold Blk at hx
    rw [this, hm] at hx
    cases hx
  have bety4 : tyOf w4 be = none := by
    obtain ⟨D, ⟨es, cl, hm, _⟩, _⟩ := h.imap
    have := step be h.imap.lt bene bety
    simp [tyOf, this, hm]
  have ownBe : ∀ {e' size n : Nat} {v : Value} {xs : List Value}, w4.ownsRow base e' size v n xs → ∀ k, v.ownBlock = some k → some be ≠ some k := fun hx k hk he => by
    injection he with he
    subst he
    have := own_ty hx hk
    rw [bety4] at this
    cases this
  have noid : T.ents e.id = none := h.noent _ hid
  have hown4 : w4.ownsRow base 2 1 (.slice A' n' c') n' ((o'.ids ++ [e.id]).map (Value.int .i64)) := by
    refine ⟨hown.1, ?_⟩
    rcases hown.2 with hx | ⟨k, cap, cur, hv, hb, hh, r⟩
    · exact .inl hx
    · refine .inr ⟨k, cap, cur, hv, hb, ?_, r⟩
      rw [hb4.block k (Array.getElem?_eq_some_iff.1 hh).1, Below.heap_setCell]
      · exact hh
      · rintro rfl
        have e1 := gblk2.ty
        simp [tyOf, hh] at e1
  refine { blk := (keepBlk h.blk (h.blk.ne hbk (by decide)) (by decide)).grown h5 (noBe (keepBlk h.blk (h.blk.ne hbk (by decide)) (by decide))), low := h.low, ne := h.ne, imap := him, smap := ((h.smap.same (step bo h.smap.lt bone boty)).kept h5 (by simpa using fun e => h.ne e.symm)).mono (by omega), ents := fun id g' hk => ?_, noent := fun id hk => ?_, objs := fun u g' hu => ?_, noobj := fun u hu => ?_, kinj := fun i j g' hi hj => ?_, oinj := h.oinj, rinj := fun u v r hu hv h1 h2 => ?_, ids := fun u o hu => ?_, eobj := fun i e' he => ?_, told := fun u o hu => ?_, idlt := fun i e' he => ?_, next := ⟨h.next.1, by have := h.next.2; simp only [TabS.addEnt]; omega⟩ }
  · by_cases ei : id = e.id
    · subst ei
      simp only [if_pos, Option.some.injEq] at hk
      subst hk
      obtain ⟨_, _, _, _, _, _, hbk', _⟩ := hK.cells
      exact ⟨e, by simp [TabS.addEnt], rfl, hK.kept h5 (noBe hbk') (fun k hk => by injection hk with hk; subst hk; rw [bety4]; simp)⟩
    · simp only [if_neg ei] at hk
      obtain ⟨e', h1, h2, h3⟩ := h.ents id g' hk
      obtain ⟨A1, n1, c1, hA1, hn1, hc1, hb1, x1, x2, x3, x4⟩ := h3.cells
      have k4 : Known w4 base g' e' := ⟨h3.low, h3.keys, h3.name, A1, n1, c1, hA1, hn1, hc1, keepBlk hb1 (hb1.ne hbk (by decide)) (by decide), x1,
        keepOwn x2 (by decide) (fun k hk hr => by have := rty k hr; rw [own_ty x2 hk] at this; simp at this), x3,
        keepOwn x4 (by decide) (fun k hk hr => by have := rty k hr; rw [own_ty x4 hk] at this; simp at this)⟩
      obtain ⟨_, _, _, _, _, _, hbk', _⟩ := k4.cells
      exact ⟨e', by simp [TabS.addEnt, ei, h1], h2, k4.kept h5 (noBe hbk') (fun k hk => by injection hk with hk; subst hk; rw [bety4]; simp)⟩
  · by_cases ei : id = e.id
    · subst ei; simp at hk
    · simp only [if_neg ei] at hk
      simp [TabS.addEnt, ei, h.noent id hk]
  · by_cases eu : u = e.obj
    · subst eu
      obtain rfl : g = g' := Option.some.inj (hg.symm.trans hu)
      refine ⟨_, by simp [TabS.addEnt]; rfl, ⟨hO.low, A', n', c', ?_, hnc, ?_, by simp⟩⟩
      · exact gblk4.grown h5 (noBe gblk4)
      · exact own_kept hown4 h5 (ownBe hown4)
    · obtain ⟨o1, h1, h2⟩ := h.objs u g' hu
      obtain ⟨A1, n1, c1, hb1, x1, x2, x3⟩ := h2.cells
      have hne : g' ≠ g := fun e' => eu (h.oinj u e.obj g' hu (e' ▸ hg))
      have own1 : w4.ownsRow base 2 1 (.slice A1 n1 c1) n1 (o1.ids.map (Value.int .i64)) := keepOwn x2 (by decide) (fun k hk hr => eu (h.rinj u e.obj k (by rw [hu]; rfl) (by rw [hg]; rfl) (x3 ▸ hk) hr))
      refine ⟨o1, by simp [TabS.addEnt, eu, h1], ⟨h2.low, A1, n1, c1, ?_, x1, ?_, by simp [eu, x3]⟩⟩
      · exact (keepBlk hb1 hne (by decide)).grown h5 (noBe (keepBlk hb1 hne (by decide)))
      · exact own_kept own1 h5 (ownBe own1)
  · have : u ≠ e.obj := fun e' => by subst e'; rw [hg] at hu; cases hu
    simp [TabS.addEnt, this, h.noobj u hu]
  · have old : ∀ i g', kf i = some g' → g' < w.heap.size := fun i g' hi => by
      obtain ⟨_, _, _, h3⟩ := h.ents i g' hi
      obtain ⟨_, _, _, _, _, _, hb, _⟩ := h3.cells
      exact hb.lt
    by_cases e1 : i = e.id <;> by_cases e2 : j = e.id
    · rw [e1, e2]
    · simp only [if_pos e1, if_neg e2, Option.some.injEq] at hi hj
      have := old j g' hj; omega
    · simp only [if_neg e1, if_pos e2, Option.some.injEq] at hi hj
      have := old i g' hi; omega
    · simp only [if_neg e1, if_neg e2] at hi hj
      exact h.kinj i j g' hi hj
  · have old : ∀ u r, (of_ u).isSome → rf u = some r → r < w.heap.size := fun u r hu hr => by
      obtain ⟨gu, hgu⟩ := Option.isSome_iff_exists.1 hu
      obtain ⟨o1, _, h2⟩ := h.objs u gu hgu
      obtain ⟨A1, n1, c1, hb1, x1, x2, x3⟩ := h2.cells
      exact tyOf_lt (own_ty x2 (x3.trans hr))
    have main : ∀ v, v ≠ e.obj → (of_ v).isSome → (Value.slice A' n' c').ownBlock = some r → rf v = some r → False := fun v hv hs h1 h2 => by
      rcases hat with ha | ⟨k, ha, hk⟩
      · rw [ha] at h1
        exact hv (h.rinj v e.obj r hs (by rw [hg]; rfl) h2 h1)
      · rw [ha] at h1
        injection h1 with h1
        have := old v r hs h2
        omega
    by_cases e1 : u = e.obj <;> by_cases e2 : v = e.obj
    · rw [e1, e2]
    · simp only [if_pos e1, if_neg e2] at h1 h2
      exact (main v e2 hv h1 h2).elim
    · simp only [if_neg e1, if_pos e2] at h1 h2
      exact (main u e1 hu h2 h1).elim
    · simp only [if_neg e1, if_neg e2] at h1 h2
      exact h.rinj u v r hu hv h1 h2
  · have old : ∀ s o1 i, T.objs s = some o1 → i ∈ o1.ids → (Lit.int .i64 i).wf = true ∧ ∃ e', (T.addEnt o' e).ents i = some e' ∧ e'.obj = s := fun s o1 i hs hi => by
      obtain ⟨a, e', b, c⟩ := (h.ids s o1 hs).2 i hi
      refine ⟨a, e', ?_, c⟩
      have : i ≠ e.id := fun e'' => by subst e''; rw [noid] at b; cases b
      simp [TabS.addEnt, this, b]
    by_cases eu : u = e.obj
    · subst eu
      simp [TabS.addEnt] at hu
      subst hu
      refine ⟨by have := (h.ids _ _ ho).1; simp; omega, fun i hi => ?_⟩
      rcases List.mem_append.1 hi with hi | hi
      · exact old _ _ i ho hi
      · obtain rfl : i = e.id := by simpa using hi
        exact ⟨hwf, e, by simp [TabS.addEnt], rfl⟩
    · simp [TabS.addEnt, eu] at hu
      exact ⟨by have := (h.ids _ _ hu).1; omega, fun i hi => old _ _ i hu hi⟩
  · by_cases ei : i = e.id
    · subst ei
      simp [TabS.addEnt] at he
      subst he
      simp [TabS.addEnt]
    · simp [TabS.addEnt, ei] at he
      have := h.eobj i e' he
      simp only [TabS.addEnt]
      split
      · rfl
      · exact this
  · by_cases eu : u = e.obj
    · subst eu
      simp [TabS.addEnt] at hu
      subst hu
      exact (show (Lit.int .i64 o'.told).wf = true from h.told _ o' ho)
    · simp [TabS.addEnt, eu] at hu
      exact h.told _ _ hu
  · by_cases ei : i = e.id
    · subst ei
      exact hlt
    · simp [TabS.addEnt, ei] at he
      exact h.idlt i e' he


abbrev entC (e : Ent) (A : Option Addr) (n c : Nat) (tu : Bool) : Array Value :=
  #[.int .i64 e.id, .string e.obj, .string e.t, .bool e.wk, .int .i64 e.mo, .int .i64 e.le, .int .i64 e.ha, .int .i64 e.fr, .int .i64 e.wh, .int .i64 e.er, .slice A n c, .string e.ten, .bool e.kp,
    .int .i64 e.said, .int .i64 e.mom, .int .i64 e.gen, .bool tu]

theorem Blk.keeps {w w' : World} {base g : Nat} {t : TypeId} {cs : Array Value} (h : Blk w g t cs) (hk : Keeps base w w') (h1 : t ≠ 114) (h2 : t ≠ 125) (h3 : t ≠ 121) (h4 : t ≠ 2) : Blk w' g t cs := (hk.old g t h.ty h1 h2 h3 h4).trans h
theorem own_keeps {w w' : World} {base base' e size n : Nat} {v : Value} {xs : List Value} (h : w.ownsRow base e size v n xs) (hk : Keeps base' w w') (h1 : e ≠ 114) (h2 : e ≠ 125) (h3 : e ≠ 121) (h4 : e ≠ 2) : w'.ownsRow base e size v n xs := by
  refine ⟨h.1, ?_⟩
  rcases h.2 with hx | ⟨k, cap, cur, rfl, hb, hh, r⟩
  · exact .inl hx
  · exact .inr ⟨k, cap, cur, rfl, hb, (hk.old k e (own_ty h (by simp [Value.ownBlock])) h1 h2 h3 h4).trans hh, r⟩
theorem ent_cells {w : World} {g : Nat} {ty : TypeId} {e : Ent} {A : Option Addr} {n c : Nat} {tu : Bool} (h : Blk w g ty (entC e A n c tu)) :
    w.cell? ⟨g, 0, none⟩ = some (.int .i64 e.id) ∧ w.cell? ⟨g, 1, none⟩ = some (.string e.obj) ∧ w.cell? ⟨g, 2, none⟩ = some (.string e.t) ∧ w.cell? ⟨g, 3, none⟩ = some (.bool e.wk) ∧ w.cell? ⟨g, 4, none⟩ = some (.int .i64 e.mo) ∧ w.cell? ⟨g, 5, none⟩ = some (.int .i64 e.le) ∧
    w.cell? ⟨g, 6, none⟩ = some (.int .i64 e.ha) ∧ w.cell? ⟨g, 7, none⟩ = some (.int .i64 e.fr) ∧ w.cell? ⟨g, 8, none⟩ = some (.int .i64 e.wh) ∧ w.cell? ⟨g, 9, none⟩ = some (.int .i64 e.er) ∧ w.cell? ⟨g, 10, none⟩ = some (.slice A n c) ∧ w.cell? ⟨g, 11, none⟩ = some (.string e.ten) ∧
    w.cell? ⟨g, 12, none⟩ = some (.bool e.kp) ∧ w.cell? ⟨g, 13, none⟩ = some (.int .i64 e.said) ∧ w.cell? ⟨g, 14, none⟩ = some (.int .i64 e.mom) ∧ w.cell? ⟨g, 15, none⟩ = some (.int .i64 e.gen) ∧ w.cell? ⟨g, 16, none⟩ = some (.bool tu) := by
  refine ⟨?_, ?_, ?_, ?_, ?_, ?_, ?_, ?_, ?_, ?_, ?_, ?_, ?_, ?_, ?_, ?_, ?_⟩ <;> rw [h.cell] <;> rfl

theorem withObj_next (T : TabS) (s : ByteArray) : (T.withObj s).next = T.next := by
  unfold TabS.withObj
  split <;> rfl
theorem Keeps.of_row {base : Nat} {w w' : World} {row : Option Nat} (h : w.grownBy w' row) (hb : base ≤ w.heap.size) (hr : ∀ k, row = some k → base ≤ k ∧ ∀ t, tyOf w k = some t → t = 114 ∨ t = 125 ∨ t = 121 ∨ t = 2) : Keeps base w w' := by
  cases row with
  | none => exact Keeps.of_below ⟨h.os, h.tape, h.output, h.size, fun k hk => h.block k hk (by simp)⟩ hb
  | some g => exact Keeps.of_grown h hb (hr g rfl).1 (hr g rfl).2

theorem info2 : (Tryz.prog.info? 2).map (fun i => (i.zero, i.size, i.bytes)) = some (some (.int .i64 0), 1, 8) := by kernel_rfl

set_option maxHeartbeats 1000000 in
theorem add_any {w : World} {base tb m : Nat} {T : TabS} {be bo : Nat} {kf : Int → Option Nat} {of_ rf : ByteArray → Option Nat} (h : TabR w base tb m T be bo kf of_ rf) {e : Ent} {A : Option Addr} {n c : Nat} (hs : e.obj.size ≤ maxLen) (hm : m < 50000)
    (hid : kf e.id = none) (hlt : 1 ≤ e.id ∧ e.id < T.next) (hwf : (Lit.int .i64 e.id).wf = true) (hks : e.ks.length ≤ 1000) (hnc : n ≤ c) (hkey : w.ownsRow base 9 1 (.slice A n c) n (e.ks.map Value.string)) (hhas : e.has = []) :
    Calls Tryz.prog 46 #[.pointer (some ⟨tb, 0, none⟩), .agg (entC e A n c false)] w fun en w' => en = .returned (.tuple #[]) ∧ Keeps base w w' ∧ ∃ o kb of' rf', (T.withObj e.obj).objs e.obj = some o ∧ (∀ g', of_ e.obj = some g' → of' e.obj = some g') ∧ TabR w' base tb (m + 2) ((T.withObj e.obj).addEnt o e) be bo (fun y => if y = e.id then some kb else kf y) of' rf' := by
  obtain ⟨i0, hi, hz0, hz1, hz2⟩ := info_parts info2
  have hb0 : Below w.heap.size w (w.alloc (.cells (entC e A n c false) 57)) := (Below.refl _ _).alloc (Nat.le_refl _) _
  have k0 := Blk.new w 57 (entC e A n c false)
  have h0 := h.grow hb0
  have hkey0 := own_kept hkey (gby_of_below hb0) (by simp)
  have hkp0 : Keeps base w (w.alloc (.cells (entC e A n c false) 57)) := Keeps.of_below hb0 h.lows
  have H0 := Lib.hid h0
  have K0 := Lib.hid k0
  have HKY := Lib.hid hkey0
  have HKP := Lib.hid hkp0
  clear hb0 k0 h0 hkey hkey0 hkp0 h
  go_enter Tryz.func46, Tryz.ntmps46
  go_wp2_with fail
  refine (object_any H0.out hs (by omega)).mono ?_
  rintro en w1 ⟨g, of1, rf1, rfl, hk1, hsz1, hg1, hof, h1⟩
  have HOF := Lib.hid hof
  clear hof
  obtain ⟨o, ho, hO⟩ := h1.objs e.obj g hg1
  obtain ⟨A1, n1, c1, hb1, x1, x2, x3⟩ := hO.cells
  have q0 := (hb1.cell 0)
  have q2 : w1.cell? ⟨g, 2, none⟩ = some (.slice A1 n1 c1) := (hb1.cell 2).trans rfl
  have qf := hb1.free'
  have hgl := hb1.lt
  have bk1 := K0.out.keeps hk1 (by decide) (by decide) (by decide) (by decide)
  have hwl := bk1.lt
  have ec := ent_cells bk1
  obtain ⟨e0, e1, e2, e3, e4, e5, e6, e7, e8, e9, e10, e11, e12, e13, e14, e15, e16⟩ := ec
  have hne : w.heap.size ≠ g := bk1.ne hb1 (by decide)
  have hn1 : n1 ≤ m + 1 := by have := (h1.ids _ _ ho).1; have := own_len x2; simp at this; omega
  have hlow := h1.lows
  have H1 := Lib.hid h1
  have HX := Lib.hid x2
  have HX3 := Lib.hid x3
  have HO := Lib.hid ho
  have HB1 := Lib.hid hb1
  have HBK := Lib.hid bk1
  have HK1 := Lib.hid hk1
  have HG1 := Lib.hid hg1
  have HKY1 := Lib.hid (own_keeps HKY.out hk1 (by decide) (by decide) (by decide) (by decide))
  have HHA := Lib.hid hhas
  have HID := Lib.hid hid
  clear q0 h1 x2 x3 ho hb1 bk1 hk1 hg1 hO hhas hid
  have a1 : Hid (∀ u ∈ [Value.int .i64 e.id], u.oneCell' = true) := by
    show ∀ u ∈ [Value.int .i64 e.id], u.oneCell' = true
    intro u hu; simp at hu; subst hu; rfl
  have a5 : Hid (∀ j u, [Value.int .i64 e.id][j]? = some u → (w1.alloc (.cells #[.int .i64 e.id] 2)).drew.cell? ((⟨w1.heap.size, 0, none⟩ : Addr).add j) = some u) := cell_one_new w1 _ _
  have a6 : Hid ((w1.alloc (.cells #[.int .i64 e.id] 2)).drew.ownsRow base 2 1 (.slice A1 n1 c1) n1 (o.ids.map (Value.int .i64))) := HX.out.alloc _
  have a7 : Hid (base ≤ (w1.alloc (.cells #[.int .i64 e.id] 2)).drew.heap.size) := by
    show base ≤ (w1.alloc (.cells #[.int .i64 e.id] 2)).drew.heap.size
    simp; omega
  have a8 : Hid ((Value.slice A1 n1 c1).ownBlock ≠ some g) := own_ne HX.out HB1.out (by decide)
  go_upto_region 2 with fail
  go_cut [] (fun wx => ∃ g2 cap2 w2, wx = w2.setCell ⟨g, 2, none⟩ (.slice (some ⟨g2, 0, none⟩) (n1 + 1) cap2) ∧ n1 + 1 ≤ cap2 ∧ w2.ownsRow base 2 1 (.slice (some ⟨g2, 0, none⟩) (n1 + 1) cap2) (n1 + 1) (o.ids.map (Value.int .i64) ++ [.int .i64 e.id]) ∧ (w1.alloc (.cells #[.int .i64 e.id] 2)).drew.grownBy w2 (Value.slice A1 n1 c1).ownBlock ∧ ((Value.slice A1 n1 c1).ownBlock = some g2 ∨ g2 = (w1.alloc (.cells #[.int .i64 e.id] 2)).drew.heap.size))
  case first =>
    skip
    go_region_law ((refine step_append_lies _ rfl (.tmp 13) (.tmp 16) 89 rfl base 2 i0 (.int .i64 0) 1 8 Tryz.underlying89 hi hz0 hz1 hz2 rfl (by decide) (.slice A1 n1 c1) n1 _ (by simp [Act.eval]) a6.out ⟨w1.heap.size, 0, none⟩ 1 1 [.int .i64 e.id] (by simp [Act.eval]) rfl a5.out a1.out (by decide) (by unfold maxLen; omega) (by omega) a7.out _ rfl ?_); intro g2 cap2 w2 hown2 hgrow2 hat2 hlt2; (have bk2 := ((HB1.out.alloc (.cells #[.int .i64 e.id] 2)).drew).grown hgrow2 a8.out); (have p2 : w2.cell? ⟨g, 2, none⟩ = some (.slice A1 n1 c1) := (bk2.cell 2).trans rfl); (have pf := bk2.free'); (have hs2 := hgrow2.size); (have HOW := Lib.hid hown2); (have HGR := Lib.hid hgrow2); (have HAT := Lib.hid hat2); (have HBK2 := Lib.hid bk2); clear hown2 hgrow2 hat2 bk2)
    all_goals
      go_wp2_with fail
      go_meet
      refine ⟨g2, cap2, w2, rfl, ?_, HOW.out, HGR.out, HAT.out⟩
      obtain ⟨A9, c9, hv9, hn9⟩ := own_form HOW.out
      injection hv9 with _ _ hc9
      omega
  case rest =>
    obtain ⟨g2, cap2, w2, hwc, hcap, how, hgr, hat⟩ := hcut
    clear a1 a5 a6 a7
    -- what lies in wc
    have gw : ∀ {b : Nat} {t : TypeId} {cs : Array Value}, Blk w1 b t cs → t ≠ 2 → t ≠ 121 → Blk wc b t cs := fun {b t cs} hb h1 h2 => by
      have hx : (Value.slice A1 n1 c1).ownBlock ≠ some b := own_ne HX.out hb (fun e => h1 e.symm)
      rw [hwc]
      exact (((hb.alloc (.cells #[.int .i64 e.id] 2)).drew).grown hgr hx).far (fun e => by subst e; exact h2 (Option.some.inj (hb.ty.symm.trans HB1.out.ty))) _
    have mapw : ∀ b, (∃ (es : Array MapEntry) (cl : Nat), w1.heap[b]? = some (Obj.map es cl)) → wc.heap[b]? = w1.heap[b]? := fun b hx => by
      obtain ⟨es, cl, hm⟩ := hx
      have hlt1 : b < w1.heap.size := (Array.getElem?_eq_some_iff.1 hm).1
      have hbg : b ≠ g := fun e => by subst e; have := HB1.out.ty; simp [tyOf, hm] at this
      rw [hwc, Below.heap_setCell _ _ _ _ hbg, hgr.block b (by simp; omega) (fun e => own_no_map HX.out hm e.symm)]
      exact Below.heap_alloc w1 _ b hlt1
    have bkt := gw H1.out.blk (by decide) (by decide)
    have bke := gw HBK.out (by decide) (by decide)
    obtain ⟨t0, t1, t2⟩ := tab_cells bkt
    have htl := bkt.lt
    have hel := bke.lt
    obtain ⟨d0, d1, d2, d3, d4, d5, d6, d7, d8, d9, d10, d11, d12, d13, d14, d15, d16⟩ := ent_cells bke
    have him : IMap wc be (m + 1) kf := H1.out.imap.same (mapw be (by obtain ⟨D, ⟨es, cl, hm, _⟩, _⟩ := H1.out.imap; exact ⟨es, cl, hm⟩))
    have him2 : IMap (wc.alloc (.cells (kCells e A n c (.slice none 0 0)) 125)).drew be (m + 1) kf := him.kept (gby_drew (gby_alloc (gby_refl _ none) _)) (by simp)
    obtain ⟨w5, hrun, him5, hg5⟩ := him2.put (by unfold maxLen; omega) hwf wc.heap.size
    have keyw : wc.ownsRow base 9 1 (.slice A n c) n (e.ks.map Value.string) := by
      rw [hwc]
      have k1 := own_kept (own_kept HKY1.out (gby_drew (gby_alloc (gby_refl _ none) (.cells #[.int .i64 e.id] 2))) (by simp)) hgr (fun k hk hr => by
        have a := own_ty HKY1.out hk
        have b := own_ty HX.out hr
        rw [a] at b
        simp at b)
      refine own_kept k1 (gby_set (gby_refl _ _) _ _) (fun k hk hr => ?_)
      injection hr with hr
      subst hr
      have a := own_ty HKY1.out hk
      rw [HB1.out.ty] at a
      simp at a
    have HKW := Lib.hid keyw
    clear keyw
    have HWC := Lib.hid hwc
    have HW := Lib.hid how
    have HGR := Lib.hid hgr
    have HAT := Lib.hid hat
    have HI5 := Lib.hid him5
    have HG5 := Lib.hid hg5
    clear hwc how hgr hat gw mapw him him2 him5 hg5 bkt bke e0 e1 e2 e3 e4 e5 e6 e7 e8 e9 e10 e11 e12 e13 e14 e15 e16 q2 qf
    go_wp2_with fail
    go_region
    go_end0
    have hbel1 : Below w1.heap.size w1 (w1.alloc (.cells #[.int .i64 e.id] 2)).drew := ((Below.refl _ _).alloc (Nat.le_refl _) _).drew
    have hw2 : w2.heap.size ≤ wc.heap.size := by rw [HWC.out]; simp [World.setCell]
    have hb4 : Below w2.heap.size (w2.setCell ⟨g, 2, none⟩ (.slice (some ⟨g2, 0, none⟩) (n1 + 1) cap2)) (wc.alloc (.cells (kCells e A n c (.slice none 0 0)) 125)).drew := by
      rw [← HWC.out]
      exact ((Below.refl _ _).alloc hw2 _).drew
    have hlow2 : base ≤ wc.heap.size := by have := HGR.out.size; simp at this; omega
    have hK : Known (wc.alloc (.cells (kCells e A n c (.slice none 0 0)) 125)).drew base wc.heap.size e :=
      ⟨hlow2, hks, hs, A, n, c, none, 0, 0, (Blk.new wc 125 _).drew, hnc, own_kept HKW.out (gby_drew (gby_alloc (gby_refl _ none) _)) (by simp), Nat.le_refl _, by rw [HHA.out]; exact World.ownsRow_nil _ _ _ _⟩
    have hfin := (H1.out.grow hbel1).addEnt HG1.out HO.out HID.out (by rw [withObj_next]; exact hlt) hwf (n' := n1 + 1) (c' := cap2) (A' := some ⟨g2, 0, none⟩) (by rw [← HX3.out]; exact HGR.out) hcap (by simpa using HW.out)
      (by
        rcases HAT.out with ha | ha
        · exact .inl (by rw [← HX3.out, ha]; rfl)
        · exact .inr ⟨g2, rfl, by rw [ha]; exact Nat.le_refl _⟩) hw2 hb4 hK HG5.out HI5.out
    refine ⟨rfl, ?_, o, wc.heap.size, of1, _, HO.out, HOF.out, hfin⟩
    have kp1 : Keeps base w w1 := HKP.out.trans HK1.out
    have kp2 : Keeps base w1 (w1.alloc (.cells #[.int .i64 e.id] 2)).drew := Keeps.of_below hbel1 (by omega)
    have kp3 : Keeps base (w1.alloc (.cells #[.int .i64 e.id] 2)).drew w2 := Keeps.of_row HGR.out (by simp; omega) (fun k hk => ⟨by
        rcases HX.out.2 with ⟨hv, _⟩ | ⟨gg, cp, cu, hv, hbb, _⟩
        · rw [hv] at hk; simp [Value.ownBlock] at hk
        · rw [hv] at hk; simp [Value.ownBlock] at hk; omega, fun t ht => by
        have := own_ty (HX.out.alloc (.cells #[.int .i64 e.id] 2)) hk
        have ht' : tyOf (w1.alloc (.cells #[.int .i64 e.id] 2)) k = some t := ht
        rw [this] at ht'
        injection ht' with ht'
        exact .inr (.inr (.inr ht'.symm))⟩)
    have hgb : Blk w2 g 121 _ := ((HB1.out.alloc (.cells #[.int .i64 e.id] 2)).drew).grown HGR.out a8.out
    have hlo : base ≤ w2.heap.size := by have := HGR.out.size; simp at this; omega
    have hgo : base ≤ g := by
      obtain ⟨o9, _, hO9⟩ := H1.out.objs e.obj g HG1.out
      exact hO9.low
    have kp4 : Keeps base w2 wc := by
      rw [HWC.out]
      exact Keeps.of_grown (gby_set (gby_refl _ _) _ _) hlo hgo (fun t ht => by rw [hgb.ty] at ht; injection ht with ht; exact .inr (.inr (.inl ht.symm)))
    have kp5 : Keeps base wc (wc.alloc (.cells (kCells e A n c (.slice none 0 0)) 125)).drew := Keeps.of_below (((Below.refl _ _).alloc (Nat.le_refl _) _).drew) hlow2
    have kp6 : Keeps base (wc.alloc (.cells (kCells e A n c (.slice none 0 0)) 125)).drew w5 := Keeps.of_row HG5.out (by simp; omega) (fun k hk => ⟨by injection hk with hk; have := H1.out.low.2.1; omega, fun t ht => by
        injection hk with hk
        subst hk
        exfalso
        obtain ⟨D, ⟨es, cl, hm9, _⟩, _⟩ := H1.out.imap
        have hbg : be ≠ g := H1.out.imap.no_blk HB1.out
        have e9 : wc.heap[be]? = some (.map es cl) := by
          rw [HWC.out, Below.heap_setCell _ _ _ _ hbg, HGR.out.block be (by have := H1.out.imap.lt; simp; omega) (fun e => own_no_map HX.out hm9 e.symm)]
          exact (Below.heap_alloc w1 _ be H1.out.imap.lt).trans hm9
        have e8 : (wc.alloc (.cells (kCells e A n c (.slice none 0 0)) 125)).drew.heap[be]? = some (.map es cl) := (Below.heap_alloc wc _ be (Array.getElem?_eq_some_iff.1 e9).1).trans e9
        simp [tyOf, e8] at ht⟩)
    exact ((((kp1.trans kp2).trans kp3).trans kp4).trans kp5).trans kp6

end Go.Proofs.YtoaiamgcegnjjaaGreatDoor
namespace Go.Proofs.YtoaiamgcegnjjaaGreatDoor
open Go.RowKit Go.Maps Go.WideMaps
set_option maxRecDepth 100000

section
variable {w w' : World} {base tb m : Nat} {T : TabS} {be bo : Nat} {kf : Int → Option Nat} {of_ rf : ByteArray → Option Nat}

theorem TabR.obj_row (h : TabR w base tb m T be bo kf of_ rf) {s : ByteArray} {g r : Nat} (hs : of_ s = some g) (hr : rf s = some r) : tyOf w r = some 2 := by
  obtain ⟨o, _, hO⟩ := h.objs s g hs
  obtain ⟨A, n, c, hb, _, x2, x3⟩ := hO.cells
  exact own_ty x2 (x3.trans hr)

/-- The object's own block is written. -/
theorem TabR.updObj (h : TabR w base tb m T be bo kf of_ rf) {s : ByteArray} {g : Nat} {o : ObjS} (hg : of_ s = some g) (ho : T.objs s = some o) (hw : w.grownBy w' (some g)) {mo td : Int} (hto : (Lit.int .i64 td).wf = true)
    (hb' : ∀ A n c, Blk w g 121 #[.int .i64 o.mom, .int .i64 o.told, .slice A n c] → Blk w' g 121 #[.int .i64 mo, .int .i64 td, .slice A n c]) :
    TabR w' base tb m (T.setObj s { mom := mo, told := td, ids := o.ids }) be bo kf of_ rf := by
  obtain ⟨o', ho', hO⟩ := h.objs s g hg
  obtain rfl : o' = o := Option.some.inj (ho'.symm.trans ho)
  obtain ⟨A, n, c, hbk, x1, x2, x3⟩ := hO.cells
  have nb : ∀ {b : Nat} {t : TypeId} {cs : Array Value}, Blk w b t cs → t ≠ 121 → some g ≠ some b := fun hx hne e => by
    injection e with e
    subst e
    exact hne (Option.some.inj (hx.ty.symm.trans hbk.ty))
  refine { blk := h.blk.grown hw (nb h.blk (by decide)), low := h.low, ne := h.ne, imap := h.imap.kept hw (fun e => h.imap.no_blk hbk (by injection e)), smap := h.smap.kept hw (fun e => h.smap.no_blk hbk (by injection e)), ents := fun id g' hk => ?_, noent := h.noent, objs := fun u g' hu => ?_, noobj := fun u hu => ?_, kinj := h.kinj, oinj := h.oinj, rinj := h.rinj, ids := fun u o1 hu => ?_, eobj := fun i e he => ?_, told := fun u o1 hu => ?_, idlt := h.idlt, next := h.next }
  · obtain ⟨e, h1, h2, h3⟩ := h.ents id g' hk
    obtain ⟨_, _, _, _, _, _, hb1, _⟩ := h3.cells
    exact ⟨e, h1, h2, h3.kept hw (nb hb1 (by decide)) (fun k hk => by injection hk with hk; subst hk; rw [hbk.ty]; simp)⟩
  · by_cases eu : u = s
    · subst eu
      obtain rfl : g = g' := Option.some.inj (hg.symm.trans hu)
      refine ⟨_, by simp [TabS.setObj]; rfl, ⟨hO.low, A, n, c, hb' A n c hbk, x1, ?_, x3⟩⟩
      exact own_kept x2 hw (fun k hk e => by injection e with e; subst e; have := own_ty x2 hk; rw [hbk.ty] at this; simp at this)
    · obtain ⟨o1, h1, h2⟩ := h.objs u g' hu
      refine ⟨o1, by simp [TabS.setObj, eu, h1], h2.kept hw (fun e => eu (h.oinj u s g' hu (by injection e with e; rw [← e]; exact hg))) (fun k hk hr => ?_)⟩
      injection hk with hk
      subst hk
      have := h.obj_row hu hr
      rw [hbk.ty] at this
      simp at this
  · have : u ≠ s := fun e => by subst e; rw [hg] at hu; cases hu
    simp [TabS.setObj, this, h.noobj u hu]
  · by_cases eu : u = s
    · subst eu
      simp [TabS.setObj] at hu
      subst hu
      exact h.ids u o' ho
    · simp [TabS.setObj, eu] at hu
      exact h.ids u o1 hu
  · have := h.eobj i e he
    simp only [TabS.setObj]
    split
    · rfl
    · exact this
  · by_cases eu : u = s
    · subst eu
      simp [TabS.setObj] at hu
      subst hu
      exact hto
    · simp [TabS.setObj, eu] at hu
      exact h.told u o1 hu

def TabS.setEnt (T : TabS) (e : Ent) : TabS := { T with ents := fun i => if i = e.id then some e else T.ents i }

/-- An entry's own block is written. -/
theorem TabR.updEnt (h : TabR w base tb m T be bo kf of_ rf) {e : Ent} {g : Nat} (hg : kf e.id = some g) (hobj : ∀ e0, T.ents e.id = some e0 → e0.obj = e.obj) (hw : w.grownBy w' (some g)) (hK : Known w' base g e) :
    TabR w' base tb m (T.setEnt e) be bo kf of_ rf := by
  obtain ⟨e0, he0, hid0, hK0⟩ := h.ents e.id g hg
  obtain ⟨_, _, _, _, _, _, hbk, _⟩ := hK0.cells
  have nb : ∀ {b : Nat} {t : TypeId} {cs : Array Value}, Blk w b t cs → t ≠ 125 → some g ≠ some b := fun hx hne e => by
    injection e with e
    subst e
    exact hne (Option.some.inj (hx.ty.symm.trans hbk.ty))
  refine { blk := h.blk.grown hw (nb h.blk (by decide)), low := h.low, ne := h.ne, imap := h.imap.kept hw (fun e => h.imap.no_blk hbk (by injection e)), smap := h.smap.kept hw (fun e => h.smap.no_blk hbk (by injection e)), ents := fun id g' hk => ?_, noent := fun id hk => ?_, objs := fun u g' hu => ?_, noobj := h.noobj, kinj := h.kinj, oinj := h.oinj, rinj := h.rinj, ids := fun u o1 hu => ?_, eobj := fun i e' he => ?_, told := h.told, idlt := fun i e' he => ?_, next := h.next }
  · by_cases ei : id = e.id
    · subst ei
      obtain rfl : g = g' := Option.some.inj (hg.symm.trans hk)
      exact ⟨e, by simp [TabS.setEnt], rfl, hK⟩
    · obtain ⟨e', h1, h2, h3⟩ := h.ents id g' hk
      refine ⟨e', by simp [TabS.setEnt, ei, h1], h2, h3.kept hw (fun e9 => ei (h.kinj id e.id g' hk (by injection e9 with e9; rw [← e9]; exact hg))) (fun k hk => ?_)⟩
      injection hk with hk
      subst hk
      rw [hbk.ty]
      simp
  · have : id ≠ e.id := fun e9 => by subst e9; rw [hg] at hk; cases hk
    simp [TabS.setEnt, this, h.noent id hk]
  · obtain ⟨o1, h1, h2⟩ := h.objs u g' hu
    obtain ⟨A1, n1, c1, hb1, x1, x2, x3⟩ := h2.cells
    refine ⟨o1, h1, h2.kept hw (nb hb1 (by decide)) (fun k hk hr => ?_)⟩
    injection hk with hk
    subst hk
    have := h.obj_row hu hr
    rw [hbk.ty] at this
    simp at this
  · refine ⟨(h.ids u o1 hu).1, fun i hi => ?_⟩
    obtain ⟨a, e', b, c⟩ := (h.ids u o1 hu).2 i hi
    by_cases ei : i = e.id
    · subst ei
      exact ⟨a, e, by simp [TabS.setEnt], by rw [← hobj e' b]; exact c⟩
    · exact ⟨a, e', by simp [TabS.setEnt, ei, b], c⟩
  · by_cases ei : i = e.id
    · subst ei
      simp [TabS.setEnt] at he
      subst he
      rw [← hobj e0 he0]
      exact h.eobj _ _ he0
    · simp [TabS.setEnt, ei] at he
      exact h.eobj i e' he
  · by_cases ei : i = e.id
    · subst ei
      exact h.idlt _ _ he0
    · simp [TabS.setEnt, ei] at he
      exact h.idlt i e' he

/-- The next number is one more. -/
theorem TabR.updNext (h : TabR w base tb m T be bo kf of_ rf) (hw : w.grownBy w' (some tb)) (hb' : Blk w' tb 114 #[.int .i64 (T.next + 1), .map (some be), .map (some bo)]) :
    TabR w' base tb (m + 1) { T with next := T.next + 1 } be bo kf of_ rf := by
  have hbk := h.blk
  have nb : ∀ {b : Nat} {t : TypeId} {cs : Array Value}, Blk w b t cs → t ≠ 114 → some tb ≠ some b := fun hx hne e => by
    injection e with e
    subst e
    exact hne (Option.some.inj (hx.ty.symm.trans hbk.ty))
  refine { blk := hb', low := h.low, ne := h.ne, imap := (h.imap.kept hw (fun e => h.imap.no_blk hbk (by injection e))).mono (by omega), smap := (h.smap.kept hw (fun e => h.smap.no_blk hbk (by injection e))).mono (by omega), ents := fun id g' hk => ?_, noent := h.noent, objs := fun u g' hu => ?_, noobj := h.noobj, kinj := h.kinj, oinj := h.oinj, rinj := h.rinj, ids := fun u o1 hu => ⟨by have := (h.ids u o1 hu).1; omega, (h.ids u o1 hu).2⟩, eobj := h.eobj, told := h.told, idlt := fun i e he => ?_, next := ⟨by have := h.next.1; simp only; omega, by have := h.next.2; simp only; omega⟩ }
  · obtain ⟨e, h1, h2, h3⟩ := h.ents id g' hk
    obtain ⟨_, _, _, _, _, _, hb1, _⟩ := h3.cells
    exact ⟨e, h1, h2, h3.kept hw (nb hb1 (by decide)) (fun k hk => by injection hk with hk; subst hk; rw [hbk.ty]; simp)⟩
  · obtain ⟨o1, h1, h2⟩ := h.objs u g' hu
    obtain ⟨A1, n1, c1, hb1, x1, x2, x3⟩ := h2.cells
    refine ⟨o1, h1, h2.kept hw (nb hb1 (by decide)) (fun k hk hr => ?_)⟩
    injection hk with hk
    subst hk
    have := h.obj_row hu hr
    rw [hbk.ty] at this
    simp at this
  · have := h.idlt i e he
    simp only
    omega
end

end Go.Proofs.YtoaiamgcegnjjaaGreatDoor
namespace Go.Proofs.YtoaiamgcegnjjaaGreatDoor
open Go.RowKit Go.Maps Go.WideMaps
set_option maxRecDepth 100000

def Ent.say (e : Ent) (mo ge tick : Int) : Ent := if e.mom ≤ mo then { e with said := tick, mom := mo, gen := ge } else e
theorem Ent.say_id (e : Ent) (mo ge tick : Int) : (e.say mo ge tick).id = e.id := by unfold Ent.say; split <;> rfl
theorem Ent.say_obj (e : Ent) (mo ge tick : Int) : (e.say mo ge tick).obj = e.obj := by unfold Ent.say; split <;> rfl
def ObjS.take (o : ObjS) (mo id : Int) : ObjS := if o.mom ≤ mo then { mom := mo, told := id, ids := o.ids } else o

theorem known_say_any {w : World} {base g : Nat} {e : Ent} (h : Known w base g e) (ti mo ge tick : Int) :
    Calls Tryz.prog 88 #[.pointer (some ⟨g, 0, none⟩), .agg #[.int .i64 ti, .int .i64 mo, .int .i64 ge], .int .i64 tick] w fun en w' => en = .returned (.tuple #[]) ∧ Known w' base g (e.say mo ge tick) ∧ w.grownBy w' (some g) := by
  obtain ⟨A, n, c, hA, hn, hc, hb, x1, x2, x3, x4⟩ := h.cells
  have own : ∀ w', w.grownBy w' (some g) → ∀ e', e' = 9 ∨ e' = 41 → ∀ {size n : Nat} {v : Value} {xs : List Value}, w.ownsRow base e' size v n xs → w'.ownsRow base e' size v n xs := fun w' hw e' he size n v xs hx =>
    own_kept hx hw (fun k hk hr => by
      injection hr with hr
      subst hr
      have := own_ty hx hk
      rw [hb.ty] at this
      injection this with this
      rcases he with rfl | rfl <;> simp at this)
  by_cases hm : e.mom ≤ mo
  · refine (known_say g _ e.said e.mom e.gen ti mo ge tick w hb hm rfl rfl rfl).mono fun en w' ⟨he, hb', hw⟩ => ⟨he, ?_, hw⟩
    unfold Ent.say
    rw [if_pos hm]
    exact ⟨h.low, h.keys, h.name, A, n, c, hA, hn, hc, hb', x1, own w' hw 9 (.inl rfl) x2, x3, own w' hw 41 (.inr rfl) x4⟩
  · refine (known_say_no g _ e.mom ti mo ge tick w hb (by omega) rfl).mono fun en w' ⟨he, hb', hw⟩ => ⟨he, ?_, hw⟩
    unfold Ent.say
    rw [if_neg hm]
    exact ⟨h.low, h.keys, h.name, A, n, c, hA, hn, hc, hb', x1, own w' hw 9 (.inl rfl) x2, x3, own w' hw 41 (.inr rfl) x4⟩

section
variable {w : World} {base tb m : Nat} {T : TabS} {be bo : Nat} {kf : Int → Option Nat} {of_ rf : ByteArray → Option Nat}

theorem say_tab (h : TabR w base tb m T be bo kf of_ rf) {e : Ent} {g : Nat} (hg : kf e.id = some g) (he : T.ents e.id = some e) (ti mo ge tick : Int) :
    Calls Tryz.prog 88 #[.pointer (some ⟨g, 0, none⟩), .agg #[.int .i64 ti, .int .i64 mo, .int .i64 ge], .int .i64 tick] w fun en w' => en = .returned (.tuple #[]) ∧ Keeps base w w' ∧ TabR w' base tb m (T.setEnt (e.say mo ge tick)) be bo kf of_ rf := by
  obtain ⟨e', he', _, hK⟩ := h.ents e.id g hg
  obtain rfl : e' = e := Option.some.inj (he'.symm.trans he)
  obtain ⟨_, _, _, _, _, _, hb, _⟩ := hK.cells
  refine (known_say_any hK ti mo ge tick).mono fun en w' ⟨hen, hk, hw⟩ => ⟨hen, ?_, ?_⟩
  · exact Keeps.of_grown hw h.lows hK.low (fun t ht => by rw [hb.ty] at ht; injection ht with ht; exact .inr (.inl ht.symm))
  · exact h.updEnt (by rw [Ent.say_id]; exact hg) (fun e0 h0 => by rw [Ent.say_id] at h0; rw [Ent.say_obj, Option.some.inj (h0.symm.trans he)]) hw hk

theorem take_tab (h : TabR w base tb m T be bo kf of_ rf) {s : ByteArray} {g : Nat} {o : ObjS} (hg : of_ s = some g) (ho : T.objs s = some o) (mo id : Int) (hid : (Lit.int .i64 id).wf = true) :
    Calls Tryz.prog 89 #[.pointer (some ⟨g, 0, none⟩), .int .i64 mo, .int .i64 id] w fun en w' => en = .returned (.tuple #[]) ∧ Keeps base w w' ∧ TabR w' base tb m (T.setObj s (o.take mo id)) be bo kf of_ rf := by
  obtain ⟨o', ho', hO⟩ := h.objs s g hg
  obtain rfl : o' = o := Option.some.inj (ho'.symm.trans ho)
  obtain ⟨A, n, c, hb, x1, x2, x3⟩ := hO.cells
  have kp : ∀ w', w.grownBy w' (some g) → Keeps base w w' := fun w' hw => Keeps.of_grown hw h.lows hO.low (fun t ht => by rw [hb.ty] at ht; injection ht with ht; exact .inr (.inr (.inl ht.symm)))
  by_cases hm : o'.mom ≤ mo
  · refine (obj_take g _ o'.mom o'.told mo id w hb hm rfl rfl).mono fun en w' ⟨hen, hb', hw⟩ => ⟨hen, kp w' hw, ?_⟩
    have : o'.take mo id = { mom := mo, told := id, ids := o'.ids } := by unfold ObjS.take; rw [if_pos hm]
    rw [this]
    refine h.updObj hg ho hw hid (fun A2 n2 c2 hb2 => ?_)
    have : #[Value.int .i64 o'.mom, .int .i64 o'.told, .slice A2 n2 c2] = #[Value.int .i64 o'.mom, .int .i64 o'.told, .slice A n c] := by
      unfold Blk at hb hb2
      rw [hb] at hb2
      injection hb2 with hb2
      injection hb2 with hb2
      exact hb2.symm
    simp only [Array.mk.injEq, List.cons.injEq] at this
    rw [this.2.2.1]
    exact hb'
  · refine (obj_take_no g _ o'.mom mo id w hb (by omega) rfl).mono fun en w' ⟨hen, hb', hw⟩ => ⟨hen, kp w' hw, ?_⟩
    have : o'.take mo id = { mom := o'.mom, told := o'.told, ids := o'.ids } := by unfold ObjS.take; rw [if_neg hm]
    rw [this]
    refine h.updObj hg ho hw (h.told s o' ho) (fun A2 n2 c2 hb2 => ?_)
    have : #[Value.int .i64 o'.mom, .int .i64 o'.told, .slice A2 n2 c2] = #[Value.int .i64 o'.mom, .int .i64 o'.told, .slice A n c] := by
      unfold Blk at hb hb2
      rw [hb] at hb2
      injection hb2 with hb2
      injection hb2 with hb2
      exact hb2.symm
    simp only [Array.mk.injEq, List.cons.injEq] at this
    rw [this.2.2.1]
    exact hb'
end

/-- two ways of asking, each with its answer -/
theorem joins_no (t : ByteArray) (wk : Bool) (mo le ha fr wh er : Int) (A : Option Addr) (n c : Nat) (ten : ByteArray) (kp : Bool) (w : World) (h : (tagOK t && !wk) = false) :
    Calls Tryz.prog 85 #[.agg (metaC t wk mo le ha fr wh er A n c ten kp)] w fun e w' => e = .returned (.bool false) ∧ Below w.heap.size w w' := by
  have := metaJoins_any t wk mo le ha fr wh er A n c ten kp w
  rw [h] at this
  exact this
theorem joins_yes (t : ByteArray) (wk : Bool) (mo le ha fr wh er : Int) (A : Option Addr) (n c : Nat) (ten : ByteArray) (kp : Bool) (w : World) (h : (tagOK t && !wk) = true) :
    Calls Tryz.prog 85 #[.agg (metaC t wk mo le ha fr wh er A n c ten kp)] w fun e w' => e = .returned (.bool true) ∧ Below w.heap.size w w' := by
  have := metaJoins_any t wk mo le ha fr wh er A n c ten kp w
  rw [h] at this
  exact this

theorem known_cells {w : World} {g : Nat} {ty : TypeId} {e : Ent} {A : Option Addr} {n c : Nat} {hv : Value} (h : Blk w g ty (kCells e A n c hv)) :
    w.cell? ⟨g, 0, none⟩ = some (.int .i64 e.id) ∧ w.cell? ⟨g, 1, none⟩ = some (.string e.obj) ∧ w.cell? ⟨g, 2, none⟩ = some (.string e.t) ∧ w.cell? ⟨g, 3, none⟩ = some (.bool e.wk) ∧ w.cell? ⟨g, 4, none⟩ = some (.int .i64 e.mo) ∧ w.cell? ⟨g, 5, none⟩ = some (.int .i64 e.le) ∧
    w.cell? ⟨g, 6, none⟩ = some (.int .i64 e.ha) ∧ w.cell? ⟨g, 7, none⟩ = some (.int .i64 e.fr) ∧ w.cell? ⟨g, 8, none⟩ = some (.int .i64 e.wh) ∧ w.cell? ⟨g, 9, none⟩ = some (.int .i64 e.er) ∧ w.cell? ⟨g, 10, none⟩ = some (.slice A n c) ∧ w.cell? ⟨g, 11, none⟩ = some (.string e.ten) ∧
    w.cell? ⟨g, 12, none⟩ = some (.bool e.kp) ∧ w.cell? ⟨g, 13, none⟩ = some (.int .i64 e.said) ∧ w.cell? ⟨g, 14, none⟩ = some (.int .i64 e.mom) ∧ w.cell? ⟨g, 15, none⟩ = some (.int .i64 e.gen) ∧ w.cell? ⟨g, 16, none⟩ = some (.bool false) ∧ w.cell? ⟨g, 17, none⟩ = some hv := by
  refine ⟨?_, ?_, ?_, ?_, ?_, ?_, ?_, ?_, ?_, ?_, ?_, ?_, ?_, ?_, ?_, ?_, ?_, ?_⟩ <;> rw [h.cell] <;> rfl

end Go.Proofs.YtoaiamgcegnjjaaGreatDoor
