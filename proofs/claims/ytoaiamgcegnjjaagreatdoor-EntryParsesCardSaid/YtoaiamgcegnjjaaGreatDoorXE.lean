/- Table.Drop. No condition. -/
import Derived.Test.YtoaiamgcegnjjaaGreatDoorMN
import Derived.Test.YtoaiamgcegnjjaaGreatDoorML
import Derived.Sort.OwnSortedInts
namespace Go.Proofs.YtoaiamgcegnjjaaGreatDoor
open Go.RowKit Go.Maps Go.WideMaps Go.Sort Go.Shelf
set_option maxRecDepth 100000

theorem IMap.del {w : World} {b n : Nat} {f : Int → Option Nat} (h : IMap w b n f) {x : Int} (hx : (Lit.int .i64 x).wf = true) (ty : TypeId) :
    ∃ w', (Builtin.delete_ #[111, 2] ty #[.map (some b), .int .i64 x]).run Tryz.prog w = .ok (.tuple #[]) w' ∧ IMap w' b n (fun y => if y = x then none else f y) ∧ w.grownBy w' (some b) := by
  obtain ⟨D, h, hf⟩ := h
  obtain ⟨w', hrun, h', hg⟩ := h.drop keyed2 Tryz.underlying111 (keyOf_int_mk Tryz.underlying2 hx) ty
  refine ⟨w', hrun, ⟨_, h', fun y hy => ?_⟩, hg.grown⟩
  by_cases e : y = x
  · subst e
    simp only [if_pos]
    rw [atKey_del_same, has_del_same]
    exact ⟨rfl, rfl⟩
  · have hne : Lit.int IntKind.i64 y ≠ Lit.int IntKind.i64 x := fun he => e (by injection he)
    simp only [if_neg e]
    rw [atKey_del_other hne, has_del_other hne]
    exact hf y hy

theorem own_take {w : World} {base e n c : Nat} {a : Addr} {xs : List Value} (h : w.ownsRow base e 1 (.slice (some a) n c) n xs) {k : Nat} (hk : k ≤ n) : w.ownsRow base e 1 (.slice (some a) k c) k (xs.take k) := by
  rcases h.2 with ⟨hv, h0⟩ | ⟨g, cap, cur, hv, hg, hb, h1, h2, h3, h4⟩
  · cases hv
  · injection hv with hA hn hc
    injection hA with hA
    subst hA hc
    refine ⟨by rw [List.length_take, h.1]; omega, .inr ⟨g, c, cur, rfl, hg, hb, by omega, h2, h3, ?_⟩⟩
    rw [← h4, List.take_take]
    congr 1
    omega

section
variable {w w2 w3 w4 : World} {base tb m : Nat} {T : TabS} {be bo : Nat} {kf : Int → Option Nat} {of_ rf : ByteArray → Option Nat}
theorem TabR.dropEnt (h : TabR w base tb m T be bo kf of_ rf) {e : Ent} {g : Nat} {o : ObjS} (he : T.ents e.id = some e) (hg : of_ e.obj = some g) (ho : T.objs e.obj = some o)
    (hw1 : w.grownBy w2 (some be)) (him : IMap w2 be m (fun i => if i = e.id then none else kf i)) (hw2 : w2.grownBy w3 (rf e.obj)) (hw3 : w3.grownBy w4 (some g))
    (hO : ObjAt w4 base g (rf e.obj) { o with ids := o.ids.filter fun n => !(n == e.id) }) :
    TabR w4 base tb m (T.dropEnt e.id e.obj o) be bo (fun i => if i = e.id then none else kf i) of_ rf := by
  obtain ⟨o', ho', hO0⟩ := h.objs e.obj g hg
  obtain rfl : o' = o := Option.some.inj (ho'.symm.trans ho)
  obtain ⟨A, n, c, hbk, x1, x2, x3⟩ := hO0.cells
  have nobe : ∀ {b : Nat} {t : TypeId} {cs : Array Value}, Blk w b t cs → some be ≠ some b := fun hx e => h.imap.no_blk hx (by injection e)
  -- a block of another kind stays
  have st : ∀ {b : Nat} {t : TypeId} {cs : Array Value}, Blk w b t cs → t ≠ 2 → t ≠ 121 → Blk w4 b t cs := fun {b t cs} hx h1 h2 => by
    have y1 := hx.grown hw1 (nobe hx)
    have y2 := y1.grown hw2 (fun er => by
      have := h.obj_row hg er
      rw [hx.ty] at this
      exact h1 (Option.some.inj this))
    refine y2.grown hw3 (fun er => ?_)
    injection er with er
    subst er
    exact h2 (Option.some.inj (hx.ty.symm.trans hbk.ty))
  have ow : ∀ {B e' size n : Nat} {v : Value} {xs : List Value}, w.ownsRow B e' size v n xs → e' ≠ 2 → e' ≠ 121 → w4.ownsRow B e' size v n xs := fun {B e' size n v xs} hx h1 h2 => by
    have y1 := own_kept hx hw1 (fun k hk er => by
      injection er with er
      subst er
      obtain ⟨D, ⟨es, cl, hm, _⟩, _⟩ := h.imap
      exact own_no_map hx hm hk)
    have y2 := own_kept y1 hw2 (fun k hk er => by
      have := h.obj_row hg er
      rw [own_ty hx hk] at this
      exact h1 (Option.some.inj this))
    refine own_kept y2 hw3 (fun k hk er => ?_)
    injection er with er
    subst er
    exact h2 (Option.some.inj ((own_ty hx hk).symm.trans hbk.ty))
  have nes : ∀ i, i ≠ e.id → (T.dropEnt e.id e.obj o').ents i = T.ents i := fun i hi => if_neg hi
  have nos : ∀ u, u ≠ e.obj → (T.dropEnt e.id e.obj o').objs u = T.objs u := fun u hu => if_neg hu
  have os : (T.dropEnt e.id e.obj o').objs e.obj = some { o' with ids := o'.ids.filter fun n => !(n == e.id) } := if_pos rfl
  refine { blk := st h.blk (by decide) (by decide), low := h.low, ne := h.ne, imap := ?_, smap := ?_, ents := fun id g' hk => ?_, noent := fun id hk => ?_, objs := fun u g' hu => ?_, noobj := fun u hu => ?_, kinj := fun i j g' hi0 hj0 => ?_, oinj := h.oinj, rinj := h.rinj, ids := fun u o1 hu => ?_, eobj := fun i e1 he1 => ?_, told := fun u o1 hu => ?_, idlt := fun i e1 he1 => ?_, next := h.next }
  · have hb2 := hbk.grown hw1 (nobe hbk)
    refine (him.kept hw2 (fun er => ?_)).kept hw3 (fun er => him.no_blk hb2 (by injection er))
    have ht := h.obj_row hg er.symm
    obtain ⟨D, ⟨es, cl, hm, _⟩, _⟩ := h.imap
    unfold tyOf at ht
    rw [hm] at ht
    cases ht
  · refine ((h.smap.kept hw1 (fun er => h.ne (by injection er with er; exact er.symm))).kept hw2 (fun er => ?_)).kept hw3 (fun er => h.smap.no_blk hbk (by injection er))
    have ht := h.obj_row hg er.symm
    obtain ⟨D, ⟨es, cl, hm, _⟩, _⟩ := h.smap
    unfold tyOf at ht
    rw [hm] at ht
    cases ht
  · by_cases hi : id = e.id
    · rw [if_pos hi] at hk; cases hk
    · rw [if_neg hi] at hk
      obtain ⟨e1, h1, h2, h3⟩ := h.ents id g' hk
      refine ⟨e1, (nes id hi).trans h1, h2, ?_⟩
      obtain ⟨A1, n1, c1, hA, hn, hc, hb1, z1, z2, z3, z4⟩ := h3.cells
      exact ⟨h3.low, h3.keys, h3.name, A1, n1, c1, hA, hn, hc, st hb1 (by decide) (by decide), z1, ow z2 (by decide) (by decide), z3, ow z4 (by decide) (by decide)⟩
  · by_cases hi : id = e.id
    · exact if_pos hi
    · rw [if_neg hi] at hk
      exact (nes id hi).trans (h.noent id hk)
  · by_cases eu : u = e.obj
    · subst eu
      obtain rfl : g = g' := Option.some.inj (hg.symm.trans hu)
      exact ⟨_, os, hO⟩
    · obtain ⟨o1, h1, h2⟩ := h.objs u g' hu
      refine ⟨o1, (nos u eu).trans h1, ?_⟩
      obtain ⟨A1, n1, c1, hb1, z1, z2, z3⟩ := h2.cells
      have r1 : ObjAt w2 base g' (rf u) o1 := h2.kept hw1 (nobe hb1) (fun k hk hr => by
        injection hk with hk
        subst hk
        have ht := h.obj_row hu hr
        obtain ⟨D, ⟨es, cl, hm, _⟩, _⟩ := h.imap
        unfold tyOf at ht
        rw [hm] at ht
        cases ht)
      have r2 : ObjAt w3 base g' (rf u) o1 := r1.kept hw2 (fun er => by
        have ht := h.obj_row hg er
        rw [hb1.ty] at ht
        simp at ht) (fun k hk hr => eu (h.rinj u e.obj k (by rw [hu]; rfl) (by rw [hg]; rfl) hr hk))
      refine r2.kept hw3 (fun er => eu (h.oinj u e.obj g' hu (by injection er with er; rw [← er]; exact hg))) (fun k hk hr => ?_)
      injection hk with hk
      subst hk
      have ht := h.obj_row hu hr
      rw [hbk.ty] at ht
      simp at ht
  · have hne : u ≠ e.obj := fun er => by subst er; rw [hg] at hu; cases hu
    exact (nos u hne).trans (h.noobj u hu)
  · by_cases hi : i = e.id
    · rw [if_pos hi] at hi0; cases hi0
    · by_cases hj : j = e.id
      · rw [if_pos hj] at hj0; cases hj0
      · rw [if_neg hi] at hi0
        rw [if_neg hj] at hj0
        exact h.kinj i j g' hi0 hj0
  · by_cases eu : u = e.obj
    · subst eu
      rw [os] at hu
      injection hu with hu
      subst hu
      obtain ⟨h1, h2⟩ := h.ids e.obj o' ho
      refine ⟨Nat.le_trans (List.length_filter_le _ _) h1, fun i hi => ?_⟩
      obtain ⟨hi1, hi2⟩ := List.mem_filter.1 hi
      obtain ⟨z1, e1, z2, z3⟩ := h2 i hi1
      have hne : i ≠ e.id := fun er => by rw [er] at hi2; simp at hi2
      exact ⟨z1, e1, (nes i hne).trans z2, z3⟩
    · rw [nos u eu] at hu
      obtain ⟨h1, h2⟩ := h.ids u o1 hu
      refine ⟨h1, fun i hi => ?_⟩
      obtain ⟨z1, e1, z2, z3⟩ := h2 i hi
      have hne : i ≠ e.id := fun er => by
        rw [er, he] at z2
        injection z2 with z2
        exact eu (by rw [← z3, ← z2])
      exact ⟨z1, e1, (nes i hne).trans z2, z3⟩
  · by_cases hi : i = e.id
    · rw [show (T.dropEnt e.id e.obj o').ents i = none from if_pos hi] at he1
      cases he1
    · rw [nes i hi] at he1
      by_cases eu : e1.obj = e.obj
      · rw [eu, os]; rfl
      · rw [nos _ eu]
        exact h.eobj i e1 he1
  · by_cases eu : u = e.obj
    · subst eu
      rw [os] at hu
      injection hu with hu
      subst hu
      exact h.told e.obj o' ho
    · rw [nos u eu] at hu
      exact h.told u o1 hu
  · by_cases hi : i = e.id
    · rw [show (T.dropEnt e.id e.obj o').ents i = none from if_pos hi] at he1
      cases he1
    · rw [nes i hi] at he1
      exact h.idlt i e1 he1
end

/-- the closure of Drop: is it the number? -/
theorem drop_gives (id x : Int) (B : Nat) (W : World) (hc : W.cell? ⟨B, 0, none⟩ = some (.int .i64 id)) :
    FnGives Tryz.prog 95 #[.pointer (some ⟨B, 0, none⟩)] #[.int .i64 x] (.bool (x == id)) W := by
  show Calls Tryz.prog 95 #[.int .i64 x, .pointer (some ⟨B, 0, none⟩)] W _
  go_enter Tryz.func95, Tryz.ntmps95
  go_wp2
  all_goals (go_ret; exact ⟨by simp, 0, rfl⟩)

theorem delete_call (W : World) (B blk cap : Nat) (l : List Int) (id : Int) (hcell : W.cell? ⟨B, 0, none⟩ = some (.int .i64 id)) (hB : B < W.heap.size) (hne : B ≠ blk) {base : Nat} (ho : W.ownsRow base 2 1 (.slice (some ⟨blk, 0, none⟩) l.length cap) l.length (l.map (Value.int .i64))) (hl : l.length ≤ 100000) :
    Calls Tryz.prog 94 #[.slice (some ⟨blk, 0, none⟩) l.length cap, .func (.func 95) #[] #[.pointer (some ⟨B, 0, none⟩)]] W fun e w' => e = .returned (.slice (some ⟨blk, 0, none⟩) (l.filter fun n => !(n == id)).length cap) ∧ W.grownBy w' (some blk) ∧ w'.ownsRow base 2 1 (.slice (some ⟨blk, 0, none⟩) (l.filter fun n => !(n == id)).length cap) (l.filter fun n => !(n == id)).length ((l.filter fun n => !(n == id)).map (Value.int .i64)) := by
  have eg : ∀ args w, (callFunc 95 args).run Tryz.prog w = .ok (.enter 95 args) w := enters_of Tryz.func95 (by kernel_rfl) rfl
  have hp : PredAt Tryz.prog 95 #[.pointer (some ⟨B, 0, none⟩)] (Value.int .i64) (fun x => x == id) W := fun W' x hb => drop_gives id x B W' ((hb.cell (p := ⟨B, 0, none⟩) hB).trans hcell)
  have hpo : PredOver Tryz.prog 95 #[.pointer (some ⟨B, 0, none⟩)] (Value.int .i64) (fun x => x == id) blk 0 l.toArray.size W := fun n os dk x _ => drop_gives id x B _ (by
    unfold sortWorld
    rw [cell?_grow _ _ _ (by show B < (putRow _ _ _ _ _).heap.size; rw [size_putRow]; exact hB), cell?_putRow_other _ _ blk 0 _ _ (Or.inl hne)]
    exact hcell)
  obtain ⟨cur, hgb, hbase, r1, r2, r3, r4⟩ : ∃ cur, W.heap[blk]? = some (.cells cur 2 (0, 0)) ∧ base ≤ blk ∧ l.length ≤ cap ∧ cap ≤ maxLen ∧ cur.size = cap * 1 ∧ cur.toList.take (l.length * 1) = l.map (Value.int .i64) := by
    rcases ho.2 with ⟨h0, _⟩ | ⟨g, cap', cur, hv, hb, hg, r1, r2, r3, r4⟩
    · cases h0
    · injection hv with hA hn hc
      injection hA with hA
      injection hA with hA
      subst hA hc
      exact ⟨cur, hg, hb, r1, r2, r3, r4⟩
  have hH : Holds (Value.int .i64) W blk 0 l.toArray := holds_of_block_i hgb (by simpa using r4)
  have hcon := AnyE.slices_DeleteFunc Tryz.delA (Value.int .i64) (fun _ => rfl) (fun x => x == id) 95 #[.pointer (some ⟨B, 0, none⟩)] eg 0 Tryz.zeroValue2 blk 0 cap l.toArray W hp hpo hH (by simp; omega) (by simpa using r1)
  change Calls Tryz.prog 94 _ _ _ at hcon
  simp only [List.size_toArray] at hcon
  refine hcon.mono ?_
  rintro e w' ⟨rfl, q, rfl⟩
  refine ⟨rfl, ?_, ?_⟩
  · have := grownBy_sortedI (w := W) (g := blk) (n := q) (os := #[]) ((l.filter fun x => !(x == id)) ++ List.replicate (l.length - (l.filter fun x => !(x == id)).length) 0).toArray
    rw [grow_empty] at this
    exact this
  · have hfl := List.length_filter_le (fun x => !(x == id)) l
    have := ownsRow_sortedI (w := W) (base := base) (g := blk) (cap := cap) (n := q) (os := #[]) (ss := l) (ts := (l.filter fun x => !(x == id)) ++ List.replicate (l.length - (l.filter fun x => !(x == id)).length) 0) (by simp; omega) hbase hgb r1 r2 r3
    rw [grow_empty] at this
    have h := own_take this hfl
    rw [List.map_append, List.take_append_of_le_length (by simp), List.take_of_length_le (by simp)] at h
    exact h

section
variable {w : World} {base tb m : Nat} {T : TabS}
set_option maxHeartbeats 1000000 in
theorem drop_any (h : Tab w base tb m T) (hm : m ≤ 10000) (id : Int) (hid : (Lit.int .i64 id).wf = true) (hin : ∀ e o, T.ents id = some e → T.objs e.obj = some o → id ∈ o.ids) :
    Calls Tryz.prog 35 #[.pointer (some ⟨tb, 0, none⟩), .int .i64 id] w fun e w' => e = .returned (.bool (dropS T id).2) ∧ Keeps base w w' ∧ Tab w' base tb m (dropS T id).1 := by
  obtain ⟨be, bo, kf, of_, rf, hR⟩ := h
  have hlow := hR.lows
  have hb0 : Below w.heap.size w (w.alloc (.cells #[.int .i64 id] 2)) := (Below.refl _ _).alloc (Nat.le_refl _) _
  have k0 : Blk (w.alloc (.cells #[.int .i64 id] 2)) w.heap.size 2 #[.int .i64 id] := Blk.new _ _ _
  have x0 : (w.alloc (.cells #[.int .i64 id] 2)).cell? ⟨w.heap.size, 0, none⟩ = some (.int .i64 id) := (k0.cell 0).trans rfl
  have hR1 := hR.grow hb0
  obtain ⟨c0, c1, c2⟩ := tab_cells hR1.blk
  have HB0 := Lib.hid hb0
  have K0 := Lib.hid k0
  have HR := Lib.hid hR
  have HR1 := Lib.hid hR1
  have HIN := Lib.hid hin
  have hs1 := k0.lt
  clear hb0 k0 hR hR1 hin
  go_enter Tryz.func35, Tryz.ntmps35
  go_upto_region 1 with fail
  generalize w.alloc (.cells #[.int .i64 id] 2) = w1 at *
  go_wp2_with fail
  refine (find_any HR1.out hid).mono ?_
  rintro en w2 ⟨rfl, rfl⟩
  cases hk : kf id with
  | none =>
    have HK := Lib.hid hk
    unfold ptrV
    clear hk
    go_wp2_with fail
    go_ret
    have e : dropS T id = (T, false) := by unfold dropS; rw [HR.out.noent id HK.out]
    rw [e]
    exact ⟨rfl, Keeps.of_below HB0.out hlow, ⟨be, bo, kf, of_, rf, HR1.out⟩⟩
  | some g =>
    have HK := Lib.hid hk
    obtain ⟨e, he, hei, hKn⟩ := HR1.out.ents id g hk
    subst hei
    obtain ⟨o, ho⟩ := Option.isSome_iff_exists.1 (HR1.out.eobj _ _ he)
    obtain ⟨go, hgo⟩ : ∃ go, of_ e.obj = some go := by
      cases hof : of_ e.obj with
      | some go => exact ⟨go, rfl⟩
      | none => rw [HR1.out.noobj _ hof] at ho; cases ho
    obtain ⟨A, n, c, hA, hn, hc, hbk, h1, h2, h3, h4⟩ := hKn.cells
    obtain ⟨o', ho', hO⟩ := HR1.out.objs _ go hgo
    obtain rfl : o' = o := Option.some.inj (ho'.symm.trans ho)
    obtain ⟨Ai, ni, ci, hbo, y1, y2, y3⟩ := hO.cells
    have y0 : w1.cell? ⟨g, 1, none⟩ = some (.string e.obj) := (hbk.cell 1).trans rfl
    have hdel := (show IMap w1.drew be m kf from HR1.out.imap.kept (gby_drew (gby_refl _ none)) (by simp)).del hid 0
    obtain ⟨w2, hrun, him, hgr0⟩ := hdel
    have hgr : w1.grownBy w2 (some be) := (gby_drew (gby_refl w1 _)).trans hgr0
    clear hgr0
    unfold ptrV
    have hgne : be ≠ tb := HR1.out.imap.no_blk HR1.out.blk
    have hR2b := HR1.out.blk.grown hgr (fun er => hgne (by injection er))
    have hbo2 : Blk w2 go 121 #[.int .i64 o'.mom, .int .i64 o'.told, .slice Ai ni ci] := hbo.grown hgr (fun er => HR1.out.imap.no_blk hbo (by injection er))
    have hbk2 := hbk.grown hgr (fun er => HR1.out.imap.no_blk hbk (by injection er))
    have hk2 : Blk w2 w.heap.size 2 #[.int .i64 e.id] := K0.out.grown hgr (fun er => HR1.out.imap.no_blk K0.out (by injection er))
    obtain ⟨d0, d1, d2⟩ := tab_cells hR2b
    have z1 : w2.cell? ⟨g, 1, none⟩ = some (.string e.obj) := (hbk2.cell 1).trans rfl
    have hsm : SMap w2 bo m of_ := HR1.out.smap.kept hgr (fun er => HR1.out.ne (by injection er with er; exact er.symm))
    have hl := hsm.look hKn.name
    rw [hgo] at hl
    unfold ptrV at hl
    have hls : ∀ q, (Instr.lookup 112 (.map (some bo)) (.string e.obj) false).run Tryz.prog (w2.drewN q) = .ok (.pointer (some ⟨go, 0, none⟩)) (w2.drewN q) := fun q => by
      have := (show SMap (w2.drewN q) bo m of_ from hsm.kept (gby_drewN (gby_refl _ none) q) (by simp)).look hKn.name
      rw [hgo] at this
      exact this
    have y2' := own_kept y2 hgr (fun k hk er => by
      injection er with er
      subst er
      obtain ⟨D, ⟨es, cl, hmm, _⟩, _⟩ := HR1.out.imap
      exact own_no_map y2 hmm hk)
    have hni : ni = o'.ids.length := by have := own_len y2; simpa using this.symm
    subst hni
    have hid0 := HIN.out e o' he ho
    have hpos : 0 < o'.ids.length := List.length_pos_of_mem hid0
    obtain ⟨gr, rfl, hgrb, hgrl, _⟩ := own_at y2' hpos
    have hgrne : w.heap.size ≠ gr := fun er => by
      obtain ⟨oz, hoz, hOz⟩ := HR.out.objs _ go hgo
      obtain ⟨Az, nz, cz, _, _, q2, q3⟩ := hOz.cells
      have := (q2.lt gr (q3.trans y3.symm)).2
      omega
    have HE := Lib.hid he
    have HO := Lib.hid ho
    have HGO := Lib.hid hgo
    have HIM := Lib.hid him
    have HGR := Lib.hid hgr
    have HBO2 := Lib.hid hbo2
    have HY2 := Lib.hid y2'
    have HY3 := Lib.hid y3
    have HK2 := Lib.hid hk2
    have hlen := ((HR1.out.ids _ _ ho).1)
    have hs2 := hk2.lt
    clear he ho ho' hgo him hbo2 y2 y2' y3 hk2 hbk hbk2 hbo hKn hO h1 h2 h3 h4 hk hsm hl hR2b hid0
    go_upto_region 4 with fail
    go_cut [] (fun wy => wy = w2)
    case first =>
      go_region
      all_goals
        go_wp2_with fail
        go_meet
      all_goals rfl
    case rest =>
      subst hcut
      clear hrun
      generalize wc = w2 at *
      go_upto_region 5 with fail
      go_cut [6] (fun v wy => v = .pointer (some ⟨go, 0, none⟩) ∧ ∃ q, wy = w2.drewN q)
      case first =>
        go_quiet (fail)
        go_wp2_with fail
        go_meet
        exact ⟨rfl, _, rfl⟩
      case rest =>
        obtain ⟨rfl, q, rfl⟩ := hcut
        have HBO3 : Hid (Blk (w2.drewN q) go 121 #[.int .i64 o'.mom, .int .i64 o'.told, .slice (some ⟨gr, 0, none⟩) o'.ids.length ci]) := HBO2.out
        have HK3 : Hid (Blk (w2.drewN q) w.heap.size 2 #[.int .i64 e.id]) := HK2.out
        have HY3' : Hid ((w2.drewN q).ownsRow base 2 1 (.slice (some ⟨gr, 0, none⟩) o'.ids.length ci) o'.ids.length (o'.ids.map (Value.int .i64))) := HY2.out
        have HIM3 : Hid (IMap (w2.drewN q) be m (fun i => if i = e.id then none else kf i)) := HIM.out.kept (gby_drewN (gby_refl _ none) q) (by simp)
        have HGR3 : Hid (w1.grownBy (w2.drewN q) (some be)) := gby_drewN HGR.out q
        have hs3 : w.heap.size < (w2.drewN q).heap.size := hs2
        have hx0 : (w2.drewN q).cell? ⟨w.heap.size, 0, none⟩ = some (.int .i64 e.id) := (HK3.out.cell 0).trans rfl
        clear HBO2 HK2 HY2 HIM HGR hs2 hls d0 d1 d2 z1
        generalize w2.drewN q = w3 at *
        have q2 : w3.cell? ⟨go, 2, none⟩ = some (.slice (some ⟨gr, 0, none⟩) o'.ids.length ci) := (HBO3.out.cell 2).trans rfl
        have CD := Lib.hid (delete_call w3 w.heap.size gr ci o'.ids e.id hx0 hs3 hgrne HY3'.out (by omega))
        clear hx0
        generalize hfl : (o'.ids.filter fun n => !(n == e.id)) = fl at *
        have HFL := Lib.hid hfl
        clear hfl
        go_wp2_with fail
        refine CD.out.mono ?_
        rintro en w4 ⟨rfl, hg4, ho4⟩
        have hne4 : some gr ≠ some go := fun er => by
          injection er with er
          subst er
          have h9 := own_ty HY3'.out rfl
          rw [HBO3.out.ty] at h9
          simp at h9
        have hbo4 := HBO3.out.grown hg4 hne4
        have q4 : w4.cell? ⟨go, 2, none⟩ = some (.slice (some ⟨gr, 0, none⟩) o'.ids.length ci) := (hbo4.cell 2).trans rfl
        have qf := hbo4.free'
        have HBO4 := Lib.hid hbo4
        have HG4 := Lib.hid hg4
        have HO4 := Lib.hid ho4
        clear hbo4 hg4 ho4 CD
        go_wp2_with fail
        go_ret
        have hfe : fl.length ≤ o'.ids.length := by rw [← HFL.out]; exact List.length_filter_le _ _
        have hg5 : w4.grownBy (w4.setCell ⟨go, 2, none⟩ (.slice (some ⟨gr, 0, none⟩) fl.length ci)) (some go) := gby_set (gby_refl _ _) _ _
        have hrf : rf e.obj = some gr := HY3.out.symm
        have hobj : ObjAt (w4.setCell ⟨go, 2, none⟩ (.slice (some ⟨gr, 0, none⟩) fl.length ci)) base go (rf e.obj) { o' with ids := o'.ids.filter fun n => !(n == e.id) } := by
          obtain ⟨_, hh, hOO⟩ := HR1.out.objs _ go HGO.out
          refine ⟨hOO.low, some ⟨gr, 0, none⟩, fl.length, ci, HBO4.out.set 2 _, by omega, ?_, hrf.symm⟩
          show World.ownsRow _ base 2 1 _ _ ((o'.ids.filter fun n => !(n == e.id)).map (Value.int .i64))
          rw [HFL.out]
          exact own_kept HO4.out hg5 (fun k hk er => hne4 ((show some gr = some k from hk).trans er.symm))
        have ht := HR1.out.dropEnt HE.out HGO.out HO.out HGR3.out HIM3.out (by rw [hrf]; exact HG4.out) hg5 hobj
        have ed : dropS T e.id = (T.dropEnt e.id e.obj o', true) := by unfold dropS; rw [HE.out]; dsimp only; rw [HO.out]
        rw [ed]
        refine ⟨rfl, ?_, ⟨_, _, _, _, _, ht⟩⟩
        have hlow1 : base ≤ w1.heap.size := by omega
        have k1 : Keeps base w w1 := Keeps.of_below HB0.out hlow
        have k2 : Keeps base w1 w3 := Keeps.of_grown HGR3.out hlow1 HR1.out.low.2.1 (fun t ht => by
          obtain ⟨D, ⟨es, cl, hmm, _⟩, _⟩ := HR1.out.imap
          unfold tyOf at ht
          rw [hmm] at ht
          cases ht)
        have k3 : Keeps base w3 w4 := Keeps.of_grown HG4.out (by have := HGR3.out.size; omega) hgrb (fun t ht => by
          have h9 := own_ty HY3'.out rfl
          rw [h9] at ht
          injection ht with ht
          exact .inr (.inr (.inr ht.symm)))
        have k4 : Keeps base w4 (w4.setCell ⟨go, 2, none⟩ (.slice (some ⟨gr, 0, none⟩) fl.length ci)) := Keeps.of_grown hg5 (by have := HGR3.out.size; have := HG4.out.size; omega) hobj.low (fun t ht => by
          rw [HBO4.out.ty] at ht
          injection ht with ht
          exact .inr (.inr (.inl ht.symm)))
        exact ((k1.trans k2).trans k3).trans k4
end
end Go.Proofs.YtoaiamgcegnjjaaGreatDoor
