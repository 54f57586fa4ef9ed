/- Appends to rows of one's own, and the contracts of small functions that copy or count. No condition. The contracts of ticks, of Asked.right, of known.say and object.take. No condition but that the cells are there. Maps from numbers and from texts to blocks. No condition. A table in memory. No condition. A table's object. No condition. -/
import Derived.Test.YtoaiamgcegnjjaaGreatDoorMA
import Derived.KernelRfl
import Derived.Maps.AppendAt
import Derived.Deep.QuietTactic
import Derived.BigQuiet
import Derived.Maps.OwnSet
import Derived.Maps.OwnOps
import Derived.Maps.Ext
namespace Go.Proofs.YtoaiamgcegnjjaaGreatDoor
open Go.RowKit
set_option maxRecDepth 100000

theorem addr_add (b o j : Nat) : (⟨b, o, none⟩ : Addr).add j = ⟨b, o + j, none⟩ := by
  unfold Addr.add; split <;> simp_all

theorem own_form {w : World} {base e size : Nat} {v : Value} {n : Nat} {xs : List Value} (h : w.ownsRow base e size v n xs) : ∃ A c, v = .slice A n c ∧ n ≤ c := by
  rcases h.2 with ⟨rfl, rfl⟩ | ⟨g, cap, cur, rfl, _, _, hnc, _⟩
  · exact ⟨_, _, rfl, Nat.le_refl _⟩
  · exact ⟨_, _, rfl, hnc⟩
theorem own_rd {w : World} {base e size : Nat} {A : Option Addr} {n c : Nat} {xs : List Value} (h : w.ownsRow base e size (.slice A n c) n xs) : Rd w w.heap.size size A n xs := by
  refine ⟨h.1, fun hn => ?_⟩
  rcases h.2 with ⟨hv, rfl⟩ | ⟨g, cap, cur, hv, _, hg, _⟩
  · omega
  · injection hv with hA
    subst hA
    refine ⟨g, 0, rfl, (Array.getElem?_eq_some_iff.1 hg).1, fun j hj => ?_⟩
    have := h.cells (g := g) rfl j xs[j] (List.getElem?_eq_getElem hj)
    rw [addr_add] at this
    exact this

/-- An append onto a row of one's own, from a slice that reads as a list, nil let in. -/
theorem run_append_rd {P : Program} (w : World) (base : Nat) (t ty e : TypeId) (i : TypeInfo) (z : Value) (size bytes : Nat) (ht : P.underlying t = some (.slice e)) (hi : P.info? e = some i) (hz : i.zero = some z)
    (hsize : i.size = size) (hby : i.bytes = bytes) (hzs : z.cells.size = size) (hsz : 0 < size)
    (v : Value) (n : Nat) (xs : List Value) (hown : w.ownsRow base e size v n xs)
    (A : Option Addr) (m c B : Nat) (news : List Value) (hr : Rd w B size A m news) (h1 : ∀ u ∈ news, u.oneCell' = true)
    (h63 : n + m ≤ maxLen) (hbytes : (n + m) * bytes ≤ 140737488355328) (hbase : base ≤ w.heap.size) :
    ∃ A' c' w', (Builtin.append_ #[t, t] ty #[v, .slice A m c]).run P w = .ok (.slice A' (n + m) c') w' ∧ w'.ownsRow base e size (.slice A' (n + m) c') (n + m) (xs ++ news) ∧ w.grownBy w' v.ownBlock ∧
      n + m ≤ c' ∧ ((Value.slice A' (n + m) c').ownBlock = v.ownBlock ∨ (Value.slice A' (n + m) c').ownBlock = some w.heap.size) := by
  have fin : ∀ v' w', (Builtin.append_ #[t, t] ty #[v, .slice A m c]).run P w = .ok v' w' → w'.ownsRow base e size v' (n + m) (xs ++ news) → w.grownBy w' v.ownBlock → (v'.ownBlock = v.ownBlock ∨ v'.ownBlock = some w.heap.size) →
      ∃ A' c' w', (Builtin.append_ #[t, t] ty #[v, .slice A m c]).run P w = .ok (.slice A' (n + m) c') w' ∧ w'.ownsRow base e size (.slice A' (n + m) c') (n + m) (xs ++ news) ∧ w.grownBy w' v.ownBlock ∧
      n + m ≤ c' ∧ ((Value.slice A' (n + m) c').ownBlock = v.ownBlock ∨ (Value.slice A' (n + m) c').ownBlock = some w.heap.size) := by
    intro v' w' h h2 h3 h4
    obtain ⟨A', c', rfl, hc⟩ := own_form h2
    exact ⟨A', c', w', h, h2, h3, hc, h4⟩
  by_cases hm : m = 0
  · subst hm
    have hn : news = [] := List.eq_nil_of_length_eq_zero (by simpa using hr.1)
    subst hn
    refine fin v w ?_ (by simpa using hown) ⟨rfl, rfl, rfl, Nat.le_refl _, fun _ _ _ => rfl⟩ (.inl rfl)
    rcases hown.2 with ⟨rfl, rfl⟩ | ⟨g, cap, cur, rfl, _, _, hnc, _⟩ <;> cases A <;>
      simp [*, Builtin.append_, run_underlying ht, sizeOf, typeInfo, Builtin.lenOf, Builtin.firstCells, loadCells, loadCellsFrom, storeCells]
  · obtain ⟨b, o, rfl, hb, hc⟩ := hr.2 (by omega)
    obtain ⟨v', w', hrun, ho, hg, _, hv⟩ := run_append_own_at (P := P) w base t ty e i z size bytes ht hi hz hsize hby hzs hsz v n xs hown ⟨b, o, none⟩ m c news hr.1
      (fun j u hu => by obtain ⟨hj, rfl⟩ := List.getElem?_eq_some_iff.1 hu; rw [addr_add]; exact hc j hj) h1 h63 hbytes hbase
    exact fin v' w' hrun ho hg hv

/-- .. at the operation. -/
theorem wpList_append_rd {P : Program} (w : World) {ops : Array Oper} {rest : List Oper} {o : Oper} {a : Act} {Q : Exit → Act → World → Prop} (hgd : o.guard = none) (s x : Operand) (t : TypeId)
    (ho : o.op = .call { callee := .builtin .append, args := #[s, x], argTypes := #[t, t] })
    (base : Nat) (e : TypeId) (i : TypeInfo) (z : Value) (size bytes : Nat) (ht : P.underlying t = some (.slice e)) (hi : P.info? e = some i) (hz : i.zero = some z)
    (hsize : i.size = size) (hby : i.bytes = bytes) (hzs : z.cells.size = size) (hsz : 0 < size)
    (v : Value) (n : Nat) (xs : List Value) (hs : a.eval s = v) (hown : w.ownsRow base e size v n xs)
    (A : Option Addr) (m c B : Nat) (news : List Value) (hx : a.eval x = .slice A m c) (hr : Rd w B size A m news) (h1 : ∀ u ∈ news, u.oneCell' = true)
    (h63 : n + m ≤ maxLen) (hbytes : (n + m) * bytes ≤ 140737488355328) (hbase : base ≤ w.heap.size)
    (h : ∀ A' c' w', w'.ownsRow base e size (.slice A' (n + m) c') (n + m) (xs ++ news) → w.grownBy w' v.ownBlock → n + m ≤ c' → ((Value.slice A' (n + m) c').ownBlock = v.ownBlock ∨ (Value.slice A' (n + m) c').ownBlock = some w.heap.size) → wpList P ops Q rest (a.put o.dst (.slice A' (n + m) c')) w') :
    wpList P ops Q (o :: rest) a w := by
  refine wpList_plain hgd fun K hK => ?_
  obtain ⟨A', c', w', hrun, h2, h3, h4, h5⟩ := run_append_rd (P := P) w base t o.type e i z size bytes ht hi hz hsize hby hzs hsz v n xs hown A m c B news hr h1 h63 hbytes hbase
  unfold Oper.wp execOp
  simp only [ho, resolve, invoke, builtin, Sem.run_bind, Sem.run_pure, Result.andThen_ok, List.map_toArray, List.map_cons, List.map_nil, hs, hx, hrun]
  exact hK _ _ (h A' c' w' h2 h3 h4 h5)

theorem info9 : (Tryz.prog.info? 9).map (fun i => (i.zero, i.size, i.bytes)) = some (some (.string ByteArray.empty), 1, 16) := by kernel_rfl

theorem oneCell_strings (ks : List ByteArray) : ∀ u ∈ ks.map Value.string, u.oneCell' = true := by
  intro u hu
  obtain ⟨x, _, rfl⟩ := List.mem_map.1 hu
  rfl

theorem grown_below {w w' : World} {row : Option Nat} (hg : w.grownBy w' row) {B : Nat} (hB : B ≤ w.heap.size) (hr : ∀ k, row = some k → B ≤ k) : Below B w w' := (Below.refl B w).grown hg hB hr

theorem Blk.grown {w w' : World} {g : Nat} {t : TypeId} {cs : Array Value} {row : Option Nat} (h : Blk w g t cs) (hb : w.grownBy w' row) (hg : row ≠ some g) : Blk w' g t cs := (hb.block g h.lt (fun e => hg e.symm)).trans h
theorem Blk.free' {w : World} {g : Nat} {t : TypeId} {cs : Array Value} (h : Blk w g t cs) : ∀ i, w.frozen? ⟨g, i, none⟩ = false := fun i => h.free i

theorem own_base {w : World} {base base' e size : Nat} {v : Value} {n : Nat} {xs : List Value} (h : w.ownsRow base e size v n xs) (hb : base' ≤ base) : w.ownsRow base' e size v n xs := by
  refine ⟨h.1, ?_⟩
  rcases h.2 with h | ⟨g, cap, cur, hv, hbg, hg, r⟩
  · exact .inl h
  · exact .inr ⟨g, cap, cur, hv, Nat.le_trans hb hbg, hg, r⟩

theorem own_set {w : World} {base e size : Nat} {v : Value} {n : Nat} {xs : List Value} (h : w.ownsRow base e size v n xs) {b o : Nat} (hb : b < base) (u : Value) : (w.setCell ⟨b, o, none⟩ u).ownsRow base e size v n xs :=
  ownsRow_setCell_below h (a := ⟨b, o, none⟩) hb u
theorem below_set {B : Nat} {a w : World} (h : Below B a w) {b o : Nat} (hp : B ≤ b) (u : Value) : Below B a (w.setCell ⟨b, o, none⟩ u) := h.setCell (p := ⟨b, o, none⟩) hp u

set_option maxHeartbeats 400000 in
theorem copied_any (t : ByteArray) (wk : Bool) (mo le ha fr wh er : Int) (A : Option Addr) (n c : Nat) (ten : ByteArray) (kp : Bool) (ks : List ByteArray) (w : World)
    (hk : Strs w w.heap.size A n ks) (hn : n ≤ 1000) :
    Calls Tryz.prog 45 #[.agg (metaC t wk mo le ha fr wh er A n c ten kp)] w fun e w' => (∃ A' c', e = .returned (.agg (metaC t wk mo le ha fr wh er A' n c' ten kp)) ∧ w'.ownsRow w.heap.size 9 1 (.slice A' n c') n (ks.map Value.string) ∧ n ≤ c') ∧ Below w.heap.size w w' := by
  obtain ⟨i0, hi, hz0, hz1, hz2⟩ := info_parts info9
  have hk2 := hk.below (((Below.refl w.heap.size w).alloc (Nat.le_refl _) (.cells (metaC t wk mo le ha fr wh er A n c ten kp) 39)).alloc (by simp) (.cells (metaC ByteArray.empty false 0 0 0 0 0 0 none 0 0 ByteArray.empty false) 39)) (Nat.le_refl _)
  have HK := Lib.hid hk2
  clear hk hk2
  have k0 : Blk ((w.alloc (.cells (metaC t wk mo le ha fr wh er A n c ten kp) 39)).alloc (.cells (metaC ByteArray.empty false 0 0 0 0 0 0 none 0 0 ByteArray.empty false) 39)) w.heap.size 39 (metaC t wk mo le ha fr wh er A n c ten kp) := (Blk.new w 39 _).alloc _
  have k1 : Blk ((w.alloc (.cells (metaC t wk mo le ha fr wh er A n c ten kp) 39)).alloc (.cells (metaC ByteArray.empty false 0 0 0 0 0 0 none 0 0 ByteArray.empty false) 39)) (w.heap.size + 1) 39 (metaC ByteArray.empty false 0 0 0 0 0 0 none 0 0 ByteArray.empty false) := by
    have := Blk.new (w.alloc (.cells (metaC t wk mo le ha fr wh er A n c ten kp) 39)) 39 (metaC ByteArray.empty false 0 0 0 0 0 0 none 0 0 ByteArray.empty false)
    simpa using this
  have K0 := Lib.hid k0
  have K1 := Lib.hid k1
  clear k0 k1
  go_enter Tryz.func45, Tryz.ntmps45
  go_wp2_with (at_builtin; refine wpList_append_rd _ rfl _ _ 37 rfl (w.heap.size + 2) 9 i0 (.string ByteArray.empty) 1 16 Tryz.underlying37 hi hz0 hz1 hz2 rfl (by decide) (.slice none 0 0) 0 [] rfl (World.ownsRow_nil _ _ _ _) A n c _ _ rfl HK.out (oneCell_strings ks) (by unfold maxLen; omega) (by omega) (by simp) ?_; intro A' c' w1 hown hgrow hnc hat; have bk0 := K0.out.grown hgrow (by simp [Value.ownBlock]); have bk1 := K1.out.grown hgrow (by simp [Value.ownBlock]); obtain ⟨a0, a1, a2, a3, a4, a5, a6, a7, a8, a9, a10⟩ := metaCells bk0; obtain ⟨b0, b1, b2, b3, b4, b5, b6, b7, b8, b9, b10⟩ := metaCells bk1; have f0 := bk0.free'; have f1 := bk1.free'; have hsz := hgrow.size; have HB0 := Lib.hid bk0; have HB1 := Lib.hid bk1; have HO := Lib.hid hown; have HG := Lib.hid hgrow; have HA := Lib.hid hat; clear bk0 bk1 hown hgrow hat)
  have hown := HO.out
  simp only [Nat.zero_add, List.nil_append] at hown hnc
  have hbel : Below w.heap.size w w1 := (((Below.refl w.heap.size w).alloc (Nat.le_refl _) _).alloc (by simp) _).trans (grown_below HG.out (by simp; omega) (fun k hk => by simp [Value.ownBlock] at hk))
  refine bodyPost_ret (v := .agg (metaC t wk mo le ha fr wh er A' n c' ten kp)) ?_ rfl ⟨⟨A', c', rfl, ?_, hnc⟩, ?_⟩
  · simp [results, Tryz.results45, go_sem, b0, b1, b2, b3, b4, b5, b6, b7, b8, b9, b10]
  · refine own_base (base := w.heap.size + 2) ?_ (by omega)
    iterate 12 (refine own_set ?_ (by omega) _)
    exact hown
  · iterate 12 (refine below_set ?_ (by omega) _)
    exact hbel

end Go.Proofs.YtoaiamgcegnjjaaGreatDoor
namespace Go.Proofs.YtoaiamgcegnjjaaGreatDoor
open Go.RowKit
set_option maxRecDepth 100000

/-- a number as a tick -/
def tickOf (n : Int) : Int := min (max n 0) 1099511627776
theorem tickOf_bd (n : Int) : 0 ≤ tickOf n ∧ tickOf n ≤ 1099511627776 := by unfold tickOf; omega
def saidOf (now age : Int) : Int := max (tickOf now - tickOf age) 0
def ageOf (said now : Int) : Int := max (tickOf now - tickOf said) 0

theorem tick_any (n : Int) (w : World) : Calls Tryz.prog 72 #[.int .i64 n] w fun e w' => e = .returned (.int .i64 (tickOf n)) ∧ w = w' := by
  go_enter Tryz.func72, Tryz.ntmps72
  go_wp2
  all_goals (go_ret; exact ⟨ret_int (by unfold tickOf; omega), rfl⟩)

theorem said_any (now age : Int) (w : World) : Calls Tryz.prog 83 #[.int .i64 now, .int .i64 age] w fun e w' => e = .returned (.int .i64 (saidOf now age)) ∧ w = w' := by
  have b1 := tickOf_bd now
  have b2 := tickOf_bd age
  go_enter Tryz.func83, Tryz.ntmps83
  go_wp2_with fail
  refine (tick_any _ _).mono ?_
  rintro e w' ⟨rfl, rfl⟩
  go_wp2_with fail
  refine (tick_any _ _).mono ?_
  rintro e w' ⟨rfl, rfl⟩
  go_wp2
  all_goals (go_ret; exact ⟨ret_int (by unfold saidOf; omega), rfl⟩)

theorem age_any (said now : Int) (w : World) : Calls Tryz.prog 130 #[.int .i64 said, .int .i64 now] w fun e w' => e = .returned (.int .i64 (ageOf said now)) ∧ w = w' := by
  have b1 := tickOf_bd now
  have b2 := tickOf_bd said
  go_enter Tryz.func130, Tryz.ntmps130
  go_wp2_with fail
  refine (tick_any _ _).mono ?_
  rintro e w' ⟨rfl, rfl⟩
  go_wp2_with fail
  refine (tick_any _ _).mono ?_
  rintro e w' ⟨rfl, rfl⟩
  go_wp2
  all_goals (go_ret; exact ⟨ret_int (by unfold ageOf; omega), rfl⟩)

def askOK (ti mo ge : Int) : Bool := tick0 ti && tick0 mo && tick0 ge
theorem askRight_any (ti mo ge : Int) (w : World) : Calls Tryz.prog 82 #[.agg #[.int .i64 ti, .int .i64 mo, .int .i64 ge]] w fun e w' => e = .returned (.bool (askOK ti mo ge)) ∧ Below w.heap.size w w' := by
  have hb0 : Below w.heap.size w (w.alloc (.cells #[.int .i64 ti, .int .i64 mo, .int .i64 ge] 74)) := (Below.refl _ _).alloc (Nat.le_refl _) _
  have HB := Lib.hid hb0
  clear hb0
  go_enter Tryz.func82, Tryz.ntmps82
  go_wp2_with (go_at_call 81; refine (number0 _ _).mono ?_; rintro e w' ⟨rfl, rfl⟩)
  all_goals (go_ret; refine ⟨ret_bool ?_, HB.out⟩; simp_all [askOK])

theorem Blk.drewN {w : World} {g : Nat} {t : TypeId} {cs : Array Value} (h : Blk w g t cs) (n : Nat) : Blk (w.drewN n) g t cs := h
theorem Blk.drew {w : World} {g : Nat} {t : TypeId} {cs : Array Value} (h : Blk w g t cs) : Blk w.drew g t cs := h
theorem Blk.set {w : World} {g : Nat} {t : TypeId} {cs : Array Value} (h : Blk w g t cs) (i : Nat) (u : Value) : Blk (w.setCell ⟨g, i, none⟩ u) g t (cs.setIfInBounds i u) := by
  unfold Blk at h ⊢
  simp [World.setCell, Array.getElem?_modify, h]
theorem Blk.far {w : World} {g : Nat} {t : TypeId} {cs : Array Value} (h : Blk w g t cs) {b o : Nat} (hp : g ≠ b) (u : Value) : Blk (w.setCell ⟨b, o, none⟩ u) g t cs := (Below.heap_setCell w ⟨b, o, none⟩ u g hp).trans h
theorem gby_refl (w : World) (row : Option Nat) : w.grownBy w row := ⟨rfl, rfl, rfl, Nat.le_refl _, fun _ _ _ => rfl⟩
theorem gby_set {a w : World} {g : Nat} (h : a.grownBy w (some g)) (i : Nat) (u : Value) : a.grownBy (w.setCell ⟨g, i, none⟩ u) (some g) :=
  ⟨h.os, h.tape, h.output, by simpa [World.setCell] using h.size, fun k hk hne => (Below.heap_setCell w ⟨g, i, none⟩ u k (fun e => hne (by rw [e]))).trans (h.block k hk hne)⟩
theorem gby_alloc {a w : World} {row : Option Nat} (h : a.grownBy w row) (o : Obj) : a.grownBy (w.alloc o) row :=
  ⟨h.os, h.tape, h.output, by have := h.size; simp; omega, fun k hk hne => (Below.heap_alloc w o k (by have := h.size; omega)).trans (h.block k hk hne)⟩
theorem gby_drewN {a w : World} {row : Option Nat} (h : a.grownBy w row) (n : Nat) : a.grownBy (w.drewN n) row := ⟨h.os, h.tape, h.output, h.size, h.block⟩
theorem gby_drew {a w : World} {row : Option Nat} (h : a.grownBy w row) : a.grownBy w.drew row := ⟨h.os, h.tape, h.output, h.size, h.block⟩

theorem known_say (g : Nat) (cs : Array Value) (s0 m0 g0 ti mo ge tick : Int) (w : World) (hB : Blk w g 125 cs) (h : m0 ≤ mo)
    (h13 : cs[13]? = some (.int .i64 s0)) (h14 : cs[14]? = some (.int .i64 m0)) (h15 : cs[15]? = some (.int .i64 g0)) :
    Calls Tryz.prog 88 #[.pointer (some ⟨g, 0, none⟩), .agg #[.int .i64 ti, .int .i64 mo, .int .i64 ge], .int .i64 tick] w fun e w' => e = .returned (.tuple #[]) ∧ Blk w' g 125 (((cs.setIfInBounds 13 (.int .i64 tick)).setIfInBounds 14 (.int .i64 mo)).setIfInBounds 15 (.int .i64 ge)) ∧ w.grownBy w' (some g) := by
  have hlt := hB.lt
  have e13 := (hB.cell 13).trans h13
  have e14 := (hB.cell 14).trans h14
  have e15 := (hB.cell 15).trans h15
  have f := hB.free'
  have HB := Lib.hid hB
  clear hB h13 h14 h15
  go_enter Tryz.func88, Tryz.ntmps88
  go_wp2_with fail
  go_quiet (fail)
  go_wp2_with fail
  go_region
  all_goals (go_end0; exact ⟨rfl, (((((HB.out.alloc _).drewN _).set _ _).set _ _).set _ _), gby_set (gby_set (gby_set (gby_drewN (gby_alloc (gby_refl _ _) _) _) _ _) _ _) _ _⟩)

theorem known_say_no (g : Nat) (cs : Array Value) (m0 ti mo ge tick : Int) (w : World) (hB : Blk w g 125 cs) (h : mo < m0)
    (h14 : cs[14]? = some (.int .i64 m0)) :
    Calls Tryz.prog 88 #[.pointer (some ⟨g, 0, none⟩), .agg #[.int .i64 ti, .int .i64 mo, .int .i64 ge], .int .i64 tick] w fun e w' => e = .returned (.tuple #[]) ∧ Blk w' g 125 cs ∧ w.grownBy w' (some g) := by
  have hlt := hB.lt
  have e14 := (hB.cell 14).trans h14
  have HB := Lib.hid hB
  clear hB h14
  go_enter Tryz.func88, Tryz.ntmps88
  go_wp2_with fail
  go_quiet (fail)
  go_wp2_with fail
  go_end0
  exact ⟨rfl, ((HB.out.alloc _).drewN _), gby_drewN (gby_alloc (gby_refl _ _) _) _⟩

theorem obj_take (g : Nat) (cs : Array Value) (m0 t0 mo id : Int) (w : World) (hB : Blk w g 121 cs) (h : m0 ≤ mo) (h0 : cs[0]? = some (.int .i64 m0)) (h1 : cs[1]? = some (.int .i64 t0)) :
    Calls Tryz.prog 89 #[.pointer (some ⟨g, 0, none⟩), .int .i64 mo, .int .i64 id] w fun e w' => e = .returned (.tuple #[]) ∧ Blk w' g 121 ((cs.setIfInBounds 0 (.int .i64 mo)).setIfInBounds 1 (.int .i64 id)) ∧ w.grownBy w' (some g) := by
  have e0 := (hB.cell 0).trans h0
  have e1 := (hB.cell 1).trans h1
  have f := hB.free'
  have HB := Lib.hid hB
  clear hB h0 h1
  go_enter Tryz.func89, Tryz.ntmps89
  go_wp2
  go_end0
  exact ⟨rfl, (HB.out.set _ _).set _ _, gby_set (gby_set (gby_refl _ _) _ _) _ _⟩

theorem obj_take_no (g : Nat) (cs : Array Value) (m0 mo id : Int) (w : World) (hB : Blk w g 121 cs) (h : mo < m0) (h0 : cs[0]? = some (.int .i64 m0)) :
    Calls Tryz.prog 89 #[.pointer (some ⟨g, 0, none⟩), .int .i64 mo, .int .i64 id] w fun e w' => e = .returned (.tuple #[]) ∧ Blk w' g 121 cs ∧ w.grownBy w' (some g) := by
  have e0 := (hB.cell 0).trans h0
  have HB := Lib.hid hB
  clear hB h0
  go_enter Tryz.func89, Tryz.ntmps89
  go_wp2
  go_end0
  exact ⟨rfl, HB.out, gby_refl _ _⟩

end Go.Proofs.YtoaiamgcegnjjaaGreatDoor
namespace Go.Proofs.YtoaiamgcegnjjaaGreatDoor
open Go.RowKit Go.Maps Go.WideMaps
set_option maxRecDepth 100000

/-- a pointer to a block's head, or nil, read as the block's number -/
def ptrElem : Value → Option (DataW Unit × List MemPlace)
  | .pointer none => some (.nil, [])
  | .pointer (some ⟨g, 0, none⟩) => some (.lit (.int .i64 g), [])
  | _ => none
def encP : Option Nat → DataW Unit
  | none => .nil
  | some g => .lit (.int .i64 g)
def ptrV : Option Nat → Value
  | none => .pointer none
  | some g => .pointer (some ⟨g, 0, none⟩)
theorem ptrElem_ptrV (o : Option Nat) : ptrElem (ptrV o) = some (encP o, []) := by cases o <;> rfl
theorem ptrElem_inv {v : Value} {o : Option Nat} {ps : List MemPlace} (h : ptrElem v = some (encP o, ps)) : v = ptrV o := by
  unfold ptrElem at h
  split at h
  · cases o
    · rfl
    · simp [encP] at h
  · rename_i g
    cases o
    · simp [encP] at h
    · rename_i g'
      simp [encP] at h
      have : g = g' := by omega
      subst this
      rfl
  · cases h

theorem keyed2 : Keyed Tryz.prog 2 := int_keyed Tryz.underlying2
theorem keyed9 : Keyed Tryz.prog 9 := string_keyed Tryz.underlying9
theorem zero115 (w : World) : (zeroValue 115).run Tryz.prog w = .ok (.pointer none) w := by kernel_rfl
theorem zero118 (w : World) : (zeroValue 118).run Tryz.prog w = .ok (.pointer none) w := by kernel_rfl

/-- Block b is a map of at most n entries from numbers to blocks. -/
def IMap (w : World) (b n : Nat) (f : Int → Option Nat) : Prop :=
  ∃ D, w.ownsMap Tryz.prog 2 ptrElem b n D ∧ ∀ x, (Lit.int .i64 x).wf = true → D.atKey (.int .i64 x) .nil = encP (f x) ∧ has D (.int .i64 x) = (f x).isSome
/-- .. from texts to blocks. -/
def SMap (w : World) (b n : Nat) (f : ByteArray → Option Nat) : Prop :=
  ∃ D, w.ownsMap Tryz.prog 9 ptrElem b n D ∧ ∀ s : ByteArray, s.size ≤ maxLen → D.atKey (.string s.data.toList) .nil = encP (f s) ∧ has D (.string s.data.toList) = (f s).isSome

theorem IMap.made (w : World) : IMap (w.alloc (.map #[] 0)) w.heap.size 0 (fun _ => none) :=
  ⟨.map [], World.ownsMap_made w _ _ _, fun _ _ => ⟨rfl, rfl⟩⟩
theorem SMap.made (w : World) : SMap (w.alloc (.map #[] 0)) w.heap.size 0 (fun _ => none) :=
  ⟨.map [], World.ownsMap_made w _ _ _, fun _ _ => ⟨rfl, rfl⟩⟩
theorem IMap.lt {w : World} {b n : Nat} {f : Int → Option Nat} (h : IMap w b n f) : b < w.heap.size := let ⟨_, h, _⟩ := h; h.lt
theorem SMap.lt {w : World} {b n : Nat} {f : ByteArray → Option Nat} (h : SMap w b n f) : b < w.heap.size := let ⟨_, h, _⟩ := h; h.lt
theorem IMap.kept {w w' : World} {b n : Nat} {f : Int → Option Nat} {row : Option Nat} (h : IMap w b n f) (hg : w.grownBy w' row) (hne : some b ≠ row) : IMap w' b n f :=
  let ⟨D, h, hf⟩ := h; ⟨D, h.kept hg hne, hf⟩
theorem SMap.kept {w w' : World} {b n : Nat} {f : ByteArray → Option Nat} {row : Option Nat} (h : SMap w b n f) (hg : w.grownBy w' row) (hne : some b ≠ row) : SMap w' b n f :=
  let ⟨D, h, hf⟩ := h; ⟨D, h.kept hg hne, hf⟩
theorem IMap.mono {w : World} {b n n' : Nat} {f : Int → Option Nat} (h : IMap w b n f) (hn : n ≤ n') : IMap w b n' f := let ⟨D, h, hf⟩ := h; ⟨D, h.mono hn, hf⟩
theorem SMap.mono {w : World} {b n n' : Nat} {f : ByteArray → Option Nat} (h : SMap w b n f) (hn : n ≤ n') : SMap w b n' f := let ⟨D, h, hf⟩ := h; ⟨D, h.mono hn, hf⟩
theorem IMap.no_blk {w : World} {b n g : Nat} {f : Int → Option Nat} {t : TypeId} {cs : Array Value} (h : IMap w b n f) (hb : Blk w g t cs) : b ≠ g := by
  rintro rfl
  obtain ⟨D, ⟨es, cl, hm, _⟩, _⟩ := h
  unfold Blk at hb
  rw [hm] at hb
  cases hb
theorem SMap.no_blk {w : World} {b n g : Nat} {f : ByteArray → Option Nat} {t : TypeId} {cs : Array Value} (h : SMap w b n f) (hb : Blk w g t cs) : b ≠ g := by
  rintro rfl
  obtain ⟨D, ⟨es, cl, hm, _⟩, _⟩ := h
  unfold Blk at hb
  rw [hm] at hb
  cases hb

theorem IMap.look {w : World} {b n : Nat} {f : Int → Option Nat} (h : IMap w b n f) {x : Int} (hx : (Lit.int .i64 x).wf = true) :
    (Instr.lookup 111 (.map (some b)) (.int .i64 x) false).run Tryz.prog w = .ok (ptrV (f x)) w := by
  obtain ⟨D, h, hf⟩ := h
  obtain ⟨v, ps, hrun, hv⟩ := h.lookup keyed2 Tryz.underlying111 (zero115 w) (show ptrElem (.pointer none) = some (.nil, []) from rfl) (keyOf_int_mk Tryz.underlying2 hx)
  rw [(hf x hx).1] at hv
  rw [hrun, ptrElem_inv hv]
theorem SMap.look {w : World} {b n : Nat} {f : ByteArray → Option Nat} (h : SMap w b n f) {s : ByteArray} (hs : s.size ≤ maxLen) :
    (Instr.lookup 112 (.map (some b)) (.string s) false).run Tryz.prog w = .ok (ptrV (f s)) w := by
  obtain ⟨D, h, hf⟩ := h
  obtain ⟨v, ps, hrun, hv⟩ := h.lookup keyed9 Tryz.underlying112 (zero118 w) (show ptrElem (.pointer none) = some (.nil, []) from rfl) (keyOf_string_mk Tryz.underlying9 hs)
  rw [(hf s hs).1] at hv
  rw [hrun, ptrElem_inv hv]

theorem IMap.put {w : World} {b n : Nat} {f : Int → Option Nat} (h : IMap w b n f) (hn : n < maxLen) {x : Int} (hx : (Lit.int .i64 x).wf = true) (g : Nat) :
    ∃ w', (Instr.mapUpdate 111 (.map (some b)) (.int .i64 x) (.pointer (some ⟨g, 0, none⟩))).run Tryz.prog w = .ok () w' ∧ IMap w' b (n + 1) (fun y => if y = x then some g else f y) ∧ w.grownBy w' (some b) := by
  obtain ⟨D, h, hf⟩ := h
  obtain ⟨w', hrun, h', hg⟩ := h.update keyed2 Tryz.underlying111 hn (keyOf_int_mk Tryz.underlying2 hx) (show ptrElem (.pointer (some ⟨g, 0, none⟩)) = some (.lit (.int .i64 g), []) from rfl)
  have hm := h.isMap
  refine ⟨w', hrun, ⟨_, h', fun y hy => ?_⟩, hg⟩
  by_cases e : y = x
  · subst e
    simp only [if_pos]
    rw [ atKey_put_same hm (by trivial), has_put_same hm (by trivial)]
    exact ⟨rfl, rfl⟩
  · have hne : Lit.int IntKind.i64 y ≠ Lit.int IntKind.i64 x := fun he => e (by injection he)
    simp only [if_neg e]
    rw [atKey_put_other hne, has_put_other hne]
    exact hf y hy
theorem SMap.put {w : World} {b n : Nat} {f : ByteArray → Option Nat} (h : SMap w b n f) (hn : n < maxLen) {s : ByteArray} (hs : s.size ≤ maxLen) (g : Nat) :
    ∃ w', (Instr.mapUpdate 112 (.map (some b)) (.string s) (.pointer (some ⟨g, 0, none⟩))).run Tryz.prog w = .ok () w' ∧ SMap w' b (n + 1) (fun y => if y = s then some g else f y) ∧ w.grownBy w' (some b) := by
  obtain ⟨D, h, hf⟩ := h
  obtain ⟨w', hrun, h', hg⟩ := h.update keyed9 Tryz.underlying112 hn (keyOf_string_mk Tryz.underlying9 hs) (show ptrElem (.pointer (some ⟨g, 0, none⟩)) = some (.lit (.int .i64 g), []) from rfl)
  have hm := h.isMap
  refine ⟨w', hrun, ⟨_, h', fun y hy => ?_⟩, hg⟩
  by_cases e : y = s
  · subst e
    simp only [if_pos]
    rw [ atKey_put_same hm (by trivial), has_put_same hm (by trivial)]
    exact ⟨rfl, rfl⟩
  · have hne : Lit.string y.data.toList ≠ Lit.string s.data.toList := fun he => e (by injection he with he; cases y; cases s; simp at he; simp [he])
    simp only [if_neg e]
    rw [atKey_put_other hne, has_put_other hne]
    exact hf y hy

end Go.Proofs.YtoaiamgcegnjjaaGreatDoor
namespace Go.Proofs.YtoaiamgcegnjjaaGreatDoor
open Go.RowKit Go.Maps Go.WideMaps
set_option maxRecDepth 100000

/-- an entry -/
structure Ent where
  id : Int
  obj : ByteArray
  t : ByteArray
  wk : Bool
  mo : Int
  le : Int
  ha : Int
  fr : Int
  wh : Int
  er : Int
  ks : List ByteArray
  ten : ByteArray
  kp : Bool
  said : Int
  mom : Int
  gen : Int
  has : List (Int × Int)

/-- an object -/
structure ObjS where
  mom : Int
  told : Int
  ids : List Int

/-- a table -/
structure TabS where
  next : Int
  ents : Int → Option Ent
  objs : ByteArray → Option ObjS

def spanCells (l : List (Int × Int)) : List Value := l.flatMap fun p => [.int .i64 p.1, .int .i64 p.2]

abbrev kCells (e : Ent) (A : Option Addr) (n c : Nat) (hv : Value) : Array Value :=
  #[.int .i64 e.id, .string e.obj, .string e.t, .bool e.wk, .int .i64 e.mo, .int .i64 e.le, .int .i64 e.ha, .int .i64 e.fr, .int .i64 e.wh, .int .i64 e.er, .slice A n c, .string e.ten, .bool e.kp,
    .int .i64 e.said, .int .i64 e.mom, .int .i64 e.gen, .bool false, hv]

/-- Block g holds the entry e. -/
structure Known (w : World) (base g : Nat) (e : Ent) : Prop where
  low : base ≤ g
  keys : e.ks.length ≤ 1000
  name : e.obj.size ≤ maxLen
  cells : ∃ A n c hA hn hc, Blk w g 125 (kCells e A n c (.slice hA hn hc)) ∧ n ≤ c ∧ w.ownsRow base 9 1 (.slice A n c) n (e.ks.map Value.string) ∧ hn ≤ hc ∧ w.ownsRow base 41 2 (.slice hA hn hc) hn (spanCells e.has)

/-- Block g holds the object o, whose numbers lie in the row r. -/
structure ObjAt (w : World) (base g : Nat) (r : Option Nat) (o : ObjS) : Prop where
  low : base ≤ g
  cells : ∃ A n c, Blk w g 121 #[.int .i64 o.mom, .int .i64 o.told, .slice A n c] ∧ n ≤ c ∧ w.ownsRow base 2 1 (.slice A n c) n (o.ids.map (Value.int .i64)) ∧ (Value.slice A n c).ownBlock = r

theorem own_len {w : World} {base e n : Nat} {v : Value} {xs : List Value} (h : w.ownsRow base e 1 v n xs) : xs.length = n := by have := h.1; simpa using this

theorem own_ne {w : World} {base e size n g : Nat} {v : Value} {xs : List Value} {t : TypeId} {cs : Array Value} (h : w.ownsRow base e size v n xs) (hb : Blk w g t cs) (hne : e ≠ t) : v.ownBlock ≠ some g := by
  rcases h.2 with ⟨rfl, _⟩ | ⟨g', cap, cur, rfl, _, hg, _⟩
  · simp [Value.ownBlock]
  · intro he
    have : g' = g := by simpa [Value.ownBlock] using he
    subst this
    unfold Blk at hb
    rw [hg] at hb
    injection hb with hb
    injection hb with _ ht
    exact hne ht
theorem own_kept {w w' : World} {base e size n : Nat} {v : Value} {xs : List Value} {row : Option Nat} (h : w.ownsRow base e size v n xs) (hg : w.grownBy w' row) (hne : ∀ g, v.ownBlock = some g → row ≠ some g) : w'.ownsRow base e size v n xs :=
  h.kept hg (by cases hv : v.ownBlock with | none => exact .inl rfl | some g => exact .inr fun e => hne g hv e.symm)
theorem own_no_map {w : World} {base e size n b : Nat} {v : Value} {xs : List Value} {es : Array MapEntry} {cl : Nat} (h : w.ownsRow base e size v n xs) (hm : w.heap[b]? = some (.map es cl)) : v.ownBlock ≠ some b := by
  rcases h.2 with ⟨rfl, _⟩ | ⟨g', cap, cur, rfl, _, hg, _⟩
  · simp [Value.ownBlock]
  · intro he
    have : g' = b := by simpa [Value.ownBlock] using he
    subst this
    rw [hg] at hm
    cases hm

/-- What block k of w is, as far as it matters: the element type of its cells; nothing for a map. -/
def tyOf (w : World) (k : Nat) : Option TypeId := match w.heap[k]? with | some (.cells _ t _) => some t | _ => none
theorem Blk.ty {w : World} {g : Nat} {t : TypeId} {cs : Array Value} (h : Blk w g t cs) : tyOf w g = some t := by unfold Blk at h; simp [tyOf, h]
theorem own_ty {w : World} {base e size n g : Nat} {v : Value} {xs : List Value} (h : w.ownsRow base e size v n xs) (hg : v.ownBlock = some g) : tyOf w g = some e := by
  rcases h.2 with ⟨rfl, _⟩ | ⟨g', cap, cur, rfl, _, hh, _⟩
  · simp [Value.ownBlock] at hg
  · have : g' = g := by simpa [Value.ownBlock] using hg
    subst this
    simp [tyOf, hh]

/-- An entry stays while a block of another kind is written. -/
theorem Known.kept {w w' : World} {base g : Nat} {e : Ent} {row : Option Nat} (h : Known w base g e) (hg : w.grownBy w' row) (hne : row ≠ some g) (hty : ∀ k, row = some k → tyOf w k ≠ some 9 ∧ tyOf w k ≠ some 41) : Known w' base g e := by
  obtain ⟨A, n, c, hA, hn, hc, hb, h1, h2, h3, h4⟩ := h.cells
  refine ⟨h.low, h.keys, h.name, A, n, c, hA, hn, hc, hb.grown hg hne, h1, own_kept h2 hg (fun k hk e => (hty k e).1 (own_ty h2 hk)), h3, own_kept h4 hg (fun k hk e => (hty k e).2 (own_ty h4 hk))⟩
theorem ObjAt.kept {w w' : World} {base g : Nat} {r : Option Nat} {o : ObjS} {row : Option Nat} (h : ObjAt w base g r o) (hg : w.grownBy w' row) (hne : row ≠ some g) (hr : ∀ k, row = some k → r ≠ some k) : ObjAt w' base g r o := by
  obtain ⟨A, n, c, hb, h1, h2, h3⟩ := h.cells
  exact ⟨h.low, A, n, c, hb.grown hg hne, h1, own_kept h2 hg (fun k hk e => hr k e (h3 ▸ hk)), h3⟩

/-- Block tb of w is a table; all that it leads to lies from base on; there are at most m entries and objects. -/
structure TabR (w : World) (base tb m : Nat) (T : TabS) (be bo : Nat) (kf : Int → Option Nat) (of_ : ByteArray → Option Nat) (rf : ByteArray → Option Nat) : Prop where
  blk : Blk w tb 114 #[.int .i64 T.next, .map (some be), .map (some bo)]
  low : base ≤ tb ∧ base ≤ be ∧ base ≤ bo
  ne : be ≠ bo
  imap : IMap w be m kf
  smap : SMap w bo m of_
  ents : ∀ id g, kf id = some g → ∃ e, T.ents id = some e ∧ e.id = id ∧ Known w base g e
  noent : ∀ id, kf id = none → T.ents id = none
  objs : ∀ s g, of_ s = some g → ∃ o, T.objs s = some o ∧ ObjAt w base g (rf s) o
  noobj : ∀ s, of_ s = none → T.objs s = none
  kinj : ∀ i j g, kf i = some g → kf j = some g → i = j
  oinj : ∀ s u g, of_ s = some g → of_ u = some g → s = u
  rinj : ∀ s u r, (of_ s).isSome → (of_ u).isSome → rf s = some r → rf u = some r → s = u
  ids : ∀ s o, T.objs s = some o → o.ids.length ≤ m ∧ ∀ i ∈ o.ids, (Lit.int .i64 i).wf = true ∧ ∃ e, T.ents i = some e ∧ e.obj = s
  eobj : ∀ i e, T.ents i = some e → (T.objs e.obj).isSome
  told : ∀ s o, T.objs s = some o → (Lit.int .i64 o.told).wf = true
  idlt : ∀ i e, T.ents i = some e → 1 ≤ i ∧ i < T.next
  next : 1 ≤ T.next ∧ T.next ≤ 1099511627776 + m

def Tab (w : World) (base tb m : Nat) (T : TabS) : Prop := ∃ be bo kf of_ rf, TabR w base tb m T be bo kf of_ rf

/-- From w to w' only blocks of a table's kinds have turned, and none below base. -/
structure Keeps (base : Nat) (w w' : World) : Prop where
  below : Below base w w'
  old : ∀ k t, tyOf w k = some t → t ≠ 114 → t ≠ 125 → t ≠ 121 → t ≠ 2 → w'.heap[k]? = w.heap[k]?

theorem tyOf_lt {w : World} {k : Nat} {t : TypeId} (h : tyOf w k = some t) : k < w.heap.size := by
  unfold tyOf at h
  split at h
  · rename_i hh; exact (Array.getElem?_eq_some_iff.1 hh).1
  · cases h
theorem Keeps.refl (base : Nat) (w : World) : Keeps base w w := ⟨Below.refl _ _, fun _ _ _ _ _ _ _ => rfl⟩
theorem Keeps.trans {base : Nat} {a b c : World} (h : Keeps base a b) (k : Keeps base b c) : Keeps base a c :=
  ⟨h.below.trans k.below, fun i t hi h1 h2 h3 h4 => by
    have e1 := h.old i t hi h1 h2 h3 h4
    have : tyOf b i = some t := by unfold tyOf at hi ⊢; rw [e1]; exact hi
    exact (k.old i t this h1 h2 h3 h4).trans e1⟩
theorem Keeps.of_below {base : Nat} {w w' : World} (h : Below w.heap.size w w') (hb : base ≤ w.heap.size) : Keeps base w w' :=
  ⟨h.mono hb, fun k _ hk _ _ _ _ => h.block k (tyOf_lt hk)⟩
theorem Keeps.of_grown {base : Nat} {w w' : World} {g : Nat} (h : w.grownBy w' (some g)) (hb : base ≤ w.heap.size) (hg : base ≤ g) (ht : ∀ t, tyOf w g = some t → t = 114 ∨ t = 125 ∨ t = 121 ∨ t = 2) : Keeps base w w' :=
  ⟨grown_below h hb (fun k hk => by injection hk with hk; omega), fun k t hk h1 h2 h3 h4 => by
    refine h.block k (tyOf_lt hk) (fun e => ?_)
    injection e with e
    subst e
    rcases ht t hk with h | h | h | h
    · exact h1 h
    · exact h2 h
    · exact h3 h
    · exact h4 h⟩

end Go.Proofs.YtoaiamgcegnjjaaGreatDoor
namespace Go.Proofs.YtoaiamgcegnjjaaGreatDoor
open Go.RowKit Go.Maps Go.WideMaps
set_option maxRecDepth 100000

theorem gby_of_below {w w' : World} (h : Below w.heap.size w w') : w.grownBy w' none := ⟨h.os, h.tape, h.output, h.size, fun k hk _ => h.block k hk⟩

/-- A table stays while only new blocks are made. -/
theorem TabR.grow {w w' : World} {base tb m : Nat} {T : TabS} {be bo : Nat} {kf : Int → Option Nat} {of_ rf : ByteArray → Option Nat} (h : TabR w base tb m T be bo kf of_ rf) (hb : Below w.heap.size w w') : TabR w' base tb m T be bo kf of_ rf := by
  have hg := gby_of_below hb
  refine { h with blk := h.blk.grown hg (by simp), imap := h.imap.kept hg (by simp), smap := h.smap.kept hg (by simp), ents := fun id g hk => ?_, objs := fun s g hs => ?_ }
  · obtain ⟨e, h1, h2, h3⟩ := h.ents id g hk
    exact ⟨e, h1, h2, h3.kept hg (by simp) (by simp)⟩
  · obtain ⟨o, h1, h2⟩ := h.objs s g hs
    exact ⟨o, h1, h2.kept hg (by simp) (by simp)⟩

theorem TabR.lows {w : World} {base tb m : Nat} {T : TabS} {be bo : Nat} {kf : Int → Option Nat} {of_ rf : ByteArray → Option Nat} (h : TabR w base tb m T be bo kf of_ rf) : base ≤ w.heap.size := by
  have := h.blk.lt; have := h.low.1; omega

theorem tab_cells {w : World} {tb be bo : Nat} {n : Int} (h : Blk w tb 114 #[.int .i64 n, .map (some be), .map (some bo)]) :
    w.cell? ⟨tb, 0, none⟩ = some (.int .i64 n) ∧ w.cell? ⟨tb, 1, none⟩ = some (.map (some be)) ∧ w.cell? ⟨tb, 2, none⟩ = some (.map (some bo)) := by
  refine ⟨?_, ?_, ?_⟩ <;> rw [h.cell] <;> rfl

def newObj : ObjS := { mom := -1, told := 0, ids := [] }
def TabS.setObj (T : TabS) (s : ByteArray) (o : ObjS) : TabS := { T with objs := fun u => if u = s then some o else T.objs u }

theorem object_there {w : World} {base tb m : Nat} {T : TabS} {be bo : Nat} {kf : Int → Option Nat} {of_ rf : ByteArray → Option Nat} (h : TabR w base tb m T be bo kf of_ rf) {s : ByteArray} (hs : s.size ≤ maxLen) {g : Nat} (hg : of_ s = some g) :
    Calls Tryz.prog 84 #[.pointer (some ⟨tb, 0, none⟩), .string s] w fun e w' => e = .returned (.pointer (some ⟨g, 0, none⟩)) ∧ w = w' := by
  obtain ⟨c0, c1, c2⟩ := tab_cells h.blk
  have hl := h.smap.look hs
  rw [hg] at hl
  unfold ptrV at hl
  clear h hg
  go_enter Tryz.func84, Tryz.ntmps84
  go_wp2
  go_ret
  exact ⟨rfl, rfl⟩

theorem TabR.addObj {w w1 w' : World} {base tb m : Nat} {T : TabS} {be bo : Nat} {kf : Int → Option Nat} {of_ rf : ByteArray → Option Nat} (h : TabR w base tb m T be bo kf of_ rf) {s : ByteArray} (hg : of_ s = none) {g : Nat} (hgs : w.heap.size ≤ g)
    (hb : Below w.heap.size w w1) (hB : Blk w1 g 121 #[.int .i64 (-1), .int .i64 0, .slice none 0 0]) (hw : w1.grownBy w' (some bo)) (hm : SMap w' bo (m + 1) (fun y => if y = s then some g else of_ y)) :
    TabR w' base tb (m + 1) (T.setObj s newObj) be bo kf (fun y => if y = s then some g else of_ y) (fun y => if y = s then none else rf y) := by
  have h1 := h.grow hb
  have hm1 := h1.smap
  have hm1' := h1.imap
  have hbo : tyOf w1 bo = none := by
    obtain ⟨D, ⟨es, cl, hx, _⟩, _⟩ := hm1
    simp [tyOf, hx]
  have hlow := h.lows
  have nb : ∀ {g : Nat} {t : TypeId} {cs : Array Value}, Blk w1 g t cs → some bo ≠ some g := fun hx e => hm1.no_blk hx (by injection e)
  have hno := h.noobj s hg
  refine { blk := h1.blk.grown hw (nb h1.blk), low := h.low, ne := h.ne, imap := (h1.imap.kept hw (by simpa using h.ne)).mono (by omega), smap := hm, ents := fun id g hk => ?_, noent := h.noent, objs := fun u g' hs => ?_, noobj := fun u hu => ?_, kinj := h.kinj, oinj := fun u v g' hu hv => ?_, rinj := fun u v r hu hv h1' h2' => ?_, ids := fun u o ho => ?_, eobj := fun i e he => ?_, told := fun u o ho => ?_, idlt := h.idlt, next := ⟨h.next.1, by have := h.next.2; simp only [TabS.setObj]; omega⟩ }
  · obtain ⟨e, h2, h3, h4⟩ := h1.ents id g hk
    obtain ⟨A, n, c, hA, hn, hc, hbk, _⟩ := h4.cells
    exact ⟨e, h2, h3, h4.kept hw (nb hbk) (fun k hk => by injection hk with hk; subst hk; rw [hbo]; simp)⟩
  · by_cases e : u = s
    · subst e
      simp only [if_pos, Option.some.injEq] at hs
      subst hs
      refine ⟨newObj, by simp [TabS.setObj], ⟨by omega, none, 0, 0, hB.grown hw (nb hB), Nat.le_refl _, World.ownsRow_nil _ _ _ _, by simp [Value.ownBlock]⟩⟩
    · simp only [if_neg e] at hs ⊢
      obtain ⟨o, h2, h3⟩ := h1.objs u g' hs
      obtain ⟨A, n, c, hbk, _, h5, h6⟩ := h3.cells
      refine ⟨o, by simp [TabS.setObj, e, h2], h3.kept hw (nb hbk) (fun k hk e' => ?_)⟩
      injection hk with hk
      subst hk
      rw [← h6] at e'
      have := own_ty h5 e'
      rw [hbo] at this
      cases this
  · by_cases e : u = s
    · subst e; simp at hu
    · simp only [if_neg e] at hu
      simp [TabS.setObj, e, h.noobj u hu]
  · have old : ∀ x gx, of_ x = some gx → gx < w.heap.size := fun x gx hx => by
      obtain ⟨o, _, ho⟩ := h.objs x gx hx
      obtain ⟨A, n, c, hbk, _⟩ := ho.cells
      exact hbk.lt
    by_cases e1 : u = s <;> by_cases e2 : v = s
    · rw [e1, e2]
    · simp only [if_pos e1, if_neg e2, Option.some.injEq] at hu hv
      have := old v g' hv; omega
    · simp only [if_neg e1, if_pos e2, Option.some.injEq] at hu hv
      have := old u g' hu; omega
    · simp only [if_neg e1, if_neg e2] at hu hv
      exact h.oinj u v g' hu hv
  · by_cases e1 : u = s <;> by_cases e2 : v = s
    · rw [e1, e2]
    · simp [e1] at h1'
    · simp [e2] at h2'
    · simp only [if_neg e1, if_neg e2] at hu hv h1' h2'
      exact h.rinj u v r hu hv h1' h2'
  · by_cases e : u = s
    · subst e
      simp [TabS.setObj] at ho
      subst ho
      simp [newObj]
    · simp [TabS.setObj, e] at ho
      obtain ⟨a, b⟩ := h.ids u o ho
      exact ⟨by omega, b⟩
  · have := h.eobj i e he
    simp only [TabS.setObj]
    split
    · rfl
    · exact this
  · by_cases e : u = s
    · subst e
      simp [TabS.setObj] at ho
      subst ho
      rfl
    · simp [TabS.setObj, e] at ho
      exact h.told u o ho

theorem object_new {w : World} {base tb m : Nat} {T : TabS} {be bo : Nat} {kf : Int → Option Nat} {of_ rf : ByteArray → Option Nat} (h : TabR w base tb m T be bo kf of_ rf) {s : ByteArray} (hs : s.size ≤ maxLen) (hg : of_ s = none) (hm : m < 100000) :
    Calls Tryz.prog 84 #[.pointer (some ⟨tb, 0, none⟩), .string s] w fun e w' => ∃ g, e = .returned (.pointer (some ⟨g, 0, none⟩)) ∧ Keeps base w w' ∧
      TabR w' base tb (m + 1) (T.setObj s newObj) be bo kf (fun y => if y = s then some g else of_ y) (fun y => if y = s then none else rf y) := by
  obtain ⟨c0, c1, c2⟩ := tab_cells h.blk
  have hl := h.smap.look hs
  rw [hg] at hl
  unfold ptrV at hl
  have hn := run_eql_map_nil (P := Tryz.prog) w 112 9 118 (some bo) Tryz.underlying112
  have hb : Below w.heap.size w (w.alloc (.cells #[.int .i64 (-1), .int .i64 0, .slice none 0 0] 121)) := (Below.refl _ _).alloc (Nat.le_refl _) _
  obtain ⟨w1, hrun, hm1, hg1⟩ := (h.grow hb).smap.put (by unfold maxLen; omega) hs w.heap.size
  have hfin := h.addObj hg (Nat.le_refl _) hb (Blk.new _ _ _) hg1 hm1
  have hty : tyOf (w.alloc (.cells #[.int .i64 (-1), .int .i64 0, .slice none 0 0] 121)) bo = none := by
    obtain ⟨D, ⟨es, cl, hx, _⟩, _⟩ := (h.grow hb).smap
    simp [tyOf, hx]
  have hk : Keeps base w w1 := (Keeps.of_below hb h.lows).trans (Keeps.of_grown hg1 (by have := h.lows; simp; omega) h.low.2.2 (fun t ht => by rw [hty] at ht; cases ht))
  have hlt := h.blk.lt
  have HF := Lib.hid hfin
  have HK := Lib.hid hk
  clear h hg hfin hk hm1 hg1 hb hty
  go_enter Tryz.func84, Tryz.ntmps84
  go_wp2
  go_ret
  exact ⟨_, rfl, HK.out, HF.out⟩

theorem TabR.mono {w : World} {base tb m m' : Nat} {T : TabS} {be bo : Nat} {kf : Int → Option Nat} {of_ rf : ByteArray → Option Nat} (h : TabR w base tb m T be bo kf of_ rf) (hm : m ≤ m') : TabR w base tb m' T be bo kf of_ rf :=
  { h with imap := h.imap.mono hm, smap := h.smap.mono hm, ids := fun s o ho => ⟨Nat.le_trans (h.ids s o ho).1 hm, (h.ids s o ho).2⟩, next := ⟨h.next.1, by have := h.next.2; omega⟩ }

def TabS.withObj (T : TabS) (s : ByteArray) : TabS := match T.objs s with | some _ => T | none => T.setObj s newObj

theorem object_any {w : World} {base tb m : Nat} {T : TabS} {be bo : Nat} {kf : Int → Option Nat} {of_ rf : ByteArray → Option Nat} (h : TabR w base tb m T be bo kf of_ rf) {s : ByteArray} (hs : s.size ≤ maxLen) (hm : m < 100000) :
    Calls Tryz.prog 84 #[.pointer (some ⟨tb, 0, none⟩), .string s] w fun e w' => ∃ g of' rf', e = .returned (.pointer (some ⟨g, 0, none⟩)) ∧ Keeps base w w' ∧ w.heap.size ≤ w'.heap.size ∧ of' s = some g ∧ (∀ g', of_ s = some g' → of' s = some g') ∧ TabR w' base tb (m + 1) (T.withObj s) be bo kf of' rf' := by
  cases hg : of_ s with
  | some g =>
    refine (object_there h hs hg).mono fun e w' ⟨he, hw⟩ => ?_
    subst hw
    obtain ⟨o, ho, _⟩ := h.objs s g hg
    refine ⟨g, of_, rf, he, Keeps.refl _ _, Nat.le_refl _, hg, (fun _ h' => hg.trans h'), ?_⟩
    unfold TabS.withObj
    rw [ho]
    exact h.mono (by omega)
  | none =>
    refine (object_new h hs hg hm).mono fun e w' ⟨g, he, hk, ht⟩ => ?_
    refine ⟨g, (fun y => if y = s then some g else of_ y), (fun y => if y = s then none else rf y), he, hk, hk.below.size, by simp, (fun g' hg' => by cases hg'), ?_⟩
    unfold TabS.withObj
    rw [h.noobj s hg]
    exact ht

end Go.Proofs.YtoaiamgcegnjjaaGreatDoor
