/- Appends to rows of one's own, and the contracts of small functions that copy or count. No condition. -/
import Derived.Test.YtoaiamgcegnjjaaGreatDoorD
import Derived.KernelRfl
import Derived.Maps.AppendAt
namespace Go.Proofs.YtoaiamgcegnjjaaGreatDoor
open Go.RowKit
set_option maxRecDepth 100000

theorem addr_add (b o j : Nat) : (⟨b, o, none⟩ : Addr).add j = ⟨b, o + j, none⟩ := by
  unfold Addr.add; split <;> simp_all

theorem own_form {w : World} {base e size : Nat} {v : Value} {n : Nat} {xs : List Value} (h : w.ownsRow base e size v n xs) : ∃ A c, v = .slice A n c ∧ n ≤ c := by
  rcases h.2 with ⟨rfl, rfl⟩ | ⟨g, cap, cur, rfl, _, _, hnc, _⟩
  · exact ⟨_, _, rfl, Nat.le_refl _⟩
  · exact ⟨_, _, rfl, hnc⟩
theorem own_rd {w : World} {base e size : Nat} {A : Option Addr} {n c : Nat} {xs : List Value} (h : w.ownsRow base e size (.slice A n c) n xs) : Rd w w.heap.size size A n xs := by
  refine ⟨h.1, fun hn => ?_⟩
  rcases h.2 with ⟨hv, rfl⟩ | ⟨g, cap, cur, hv, _, hg, _⟩
  · omega
  · injection hv with hA
    subst hA
    refine ⟨g, 0, rfl, (Array.getElem?_eq_some_iff.1 hg).1, fun j hj => ?_⟩
    have := h.cells (g := g) rfl j xs[j] (List.getElem?_eq_getElem hj)
    rw [addr_add] at this
    exact this

/-- An append onto a row of one's own, from a slice that reads as a list, nil let in. -/
theorem run_append_rd {P : Program} (w : World) (base : Nat) (t ty e : TypeId) (i : TypeInfo) (z : Value) (size bytes : Nat) (ht : P.underlying t = some (.slice e)) (hi : P.info? e = some i) (hz : i.zero = some z)
    (hsize : i.size = size) (hby : i.bytes = bytes) (hzs : z.cells.size = size) (hsz : 0 < size)
    (v : Value) (n : Nat) (xs : List Value) (hown : w.ownsRow base e size v n xs)
    (A : Option Addr) (m c B : Nat) (news : List Value) (hr : Rd w B size A m news) (h1 : ∀ u ∈ news, u.oneCell' = true)
    (h63 : n + m ≤ maxLen) (hbytes : (n + m) * bytes ≤ 140737488355328) (hbase : base ≤ w.heap.size) :
    ∃ A' c' w', (Builtin.append_ #[t, t] ty #[v, .slice A m c]).run P w = .ok (.slice A' (n + m) c') w' ∧ w'.ownsRow base e size (.slice A' (n + m) c') (n + m) (xs ++ news) ∧ w.grownBy w' v.ownBlock ∧
      n + m ≤ c' ∧ ((Value.slice A' (n + m) c').ownBlock = v.ownBlock ∨ (Value.slice A' (n + m) c').ownBlock = some w.heap.size) := by
  have fin : ∀ v' w', (Builtin.append_ #[t, t] ty #[v, .slice A m c]).run P w = .ok v' w' → w'.ownsRow base e size v' (n + m) (xs ++ news) → w.grownBy w' v.ownBlock → (v'.ownBlock = v.ownBlock ∨ v'.ownBlock = some w.heap.size) →
      ∃ A' c' w', (Builtin.append_ #[t, t] ty #[v, .slice A m c]).run P w = .ok (.slice A' (n + m) c') w' ∧ w'.ownsRow base e size (.slice A' (n + m) c') (n + m) (xs ++ news) ∧ w.grownBy w' v.ownBlock ∧
      n + m ≤ c' ∧ ((Value.slice A' (n + m) c').ownBlock = v.ownBlock ∨ (Value.slice A' (n + m) c').ownBlock = some w.heap.size) := by
    intro v' w' h h2 h3 h4
    obtain ⟨A', c', rfl, hc⟩ := own_form h2
    exact ⟨A', c', w', h, h2, h3, hc, h4⟩
  by_cases hm : m = 0
  · subst hm
    have hn : news = [] := List.eq_nil_of_length_eq_zero (by simpa using hr.1)
    subst hn
    refine fin v w ?_ (by simpa using hown) ⟨rfl, rfl, rfl, Nat.le_refl _, fun _ _ _ => rfl⟩ (.inl rfl)
    rcases hown.2 with ⟨rfl, rfl⟩ | ⟨g, cap, cur, rfl, _, _, hnc, _⟩ <;> cases A <;>
      simp [*, Builtin.append_, run_underlying ht, sizeOf, typeInfo, Builtin.lenOf, Builtin.firstCells, loadCells, loadCellsFrom, storeCells]
  · obtain ⟨b, o, rfl, hb, hc⟩ := hr.2 (by omega)
    obtain ⟨v', w', hrun, ho, hg, _, hv⟩ := run_append_own_at (P := P) w base t ty e i z size bytes ht hi hz hsize hby hzs hsz v n xs hown ⟨b, o, none⟩ m c news hr.1
      (fun j u hu => by obtain ⟨hj, rfl⟩ := List.getElem?_eq_some_iff.1 hu; rw [addr_add]; exact hc j hj) h1 h63 hbytes hbase
    exact fin v' w' hrun ho hg hv

/-- .. at the operation. -/
theorem wpList_append_rd {P : Program} (w : World) {ops : Array Oper} {rest : List Oper} {o : Oper} {a : Act} {Q : Exit → Act → World → Prop} (hgd : o.guard = none) (s x : Operand) (t : TypeId)
    (ho : o.op = .call { callee := .builtin .append, args := #[s, x], argTypes := #[t, t] })
    (base : Nat) (e : TypeId) (i : TypeInfo) (z : Value) (size bytes : Nat) (ht : P.underlying t = some (.slice e)) (hi : P.info? e = some i) (hz : i.zero = some z)
    (hsize : i.size = size) (hby : i.bytes = bytes) (hzs : z.cells.size = size) (hsz : 0 < size)
    (v : Value) (n : Nat) (xs : List Value) (hs : a.eval s = v) (hown : w.ownsRow base e size v n xs)
    (A : Option Addr) (m c B : Nat) (news : List Value) (hx : a.eval x = .slice A m c) (hr : Rd w B size A m news) (h1 : ∀ u ∈ news, u.oneCell' = true)
    (h63 : n + m ≤ maxLen) (hbytes : (n + m) * bytes ≤ 140737488355328) (hbase : base ≤ w.heap.size)
    (h : ∀ A' c' w', w'.ownsRow base e size (.slice A' (n + m) c') (n + m) (xs ++ news) → w.grownBy w' v.ownBlock → n + m ≤ c' → ((Value.slice A' (n + m) c').ownBlock = v.ownBlock ∨ (Value.slice A' (n + m) c').ownBlock = some w.heap.size) → wpList P ops Q rest (a.put o.dst (.slice A' (n + m) c')) w') :
    wpList P ops Q (o :: rest) a w := by
  refine wpList_plain hgd fun K hK => ?_
  obtain ⟨A', c', w', hrun, h2, h3, h4, h5⟩ := run_append_rd (P := P) w base t o.type e i z size bytes ht hi hz hsize hby hzs hsz v n xs hown A m c B news hr h1 h63 hbytes hbase
  unfold Oper.wp execOp
  simp only [ho, resolve, invoke, builtin, Sem.run_bind, Sem.run_pure, Result.andThen_ok, List.map_toArray, List.map_cons, List.map_nil, hs, hx, hrun]
  exact hK _ _ (h A' c' w' h2 h3 h4 h5)

theorem info9 : (Tryz.prog.info? 9).map (fun i => (i.zero, i.size, i.bytes)) = some (some (.string ByteArray.empty), 1, 16) := by kernel_rfl

theorem oneCell_strings (ks : List ByteArray) : ∀ u ∈ ks.map Value.string, u.oneCell' = true := by
  intro u hu
  obtain ⟨x, _, rfl⟩ := List.mem_map.1 hu
  rfl

theorem grown_below {w w' : World} {row : Option Nat} (hg : w.grownBy w' row) {B : Nat} (hB : B ≤ w.heap.size) (hr : ∀ k, row = some k → B ≤ k) : Below B w w' := (Below.refl B w).grown hg hB hr

theorem Blk.grown {w w' : World} {g : Nat} {t : TypeId} {cs : Array Value} {row : Option Nat} (h : Blk w g t cs) (hb : w.grownBy w' row) (hg : row ≠ some g) : Blk w' g t cs := (hb.block g h.lt (fun e => hg e.symm)).trans h
theorem Blk.free' {w : World} {g : Nat} {t : TypeId} {cs : Array Value} (h : Blk w g t cs) : ∀ i, w.frozen? ⟨g, i, none⟩ = false := fun i => h.free i

theorem own_base {w : World} {base base' e size : Nat} {v : Value} {n : Nat} {xs : List Value} (h : w.ownsRow base e size v n xs) (hb : base' ≤ base) : w.ownsRow base' e size v n xs := by
  refine ⟨h.1, ?_⟩
  rcases h.2 with h | ⟨g, cap, cur, hv, hbg, hg, r⟩
  · exact .inl h
  · exact .inr ⟨g, cap, cur, hv, Nat.le_trans hb hbg, hg, r⟩

theorem own_set {w : World} {base e size : Nat} {v : Value} {n : Nat} {xs : List Value} (h : w.ownsRow base e size v n xs) {b o : Nat} (hb : b < base) (u : Value) : (w.setCell ⟨b, o, none⟩ u).ownsRow base e size v n xs :=
  ownsRow_setCell_below h (a := ⟨b, o, none⟩) hb u
theorem below_set {B : Nat} {a w : World} (h : Below B a w) {b o : Nat} (hp : B ≤ b) (u : Value) : Below B a (w.setCell ⟨b, o, none⟩ u) := h.setCell (p := ⟨b, o, none⟩) hp u

set_option maxHeartbeats 400000 in
theorem copied_any (t : ByteArray) (wk : Bool) (mo le ha fr wh er : Int) (A : Option Addr) (n c : Nat) (ten : ByteArray) (kp : Bool) (ks : List ByteArray) (w : World)
    (hk : Strs w w.heap.size A n ks) (hn : n ≤ 1000) :
    Calls Tryz.prog 45 #[.agg (metaC t wk mo le ha fr wh er A n c ten kp)] w fun e w' => (∃ A' c', e = .returned (.agg (metaC t wk mo le ha fr wh er A' n c' ten kp)) ∧ w'.ownsRow w.heap.size 9 1 (.slice A' n c') n (ks.map Value.string) ∧ n ≤ c') ∧ Below w.heap.size w w' := by
  obtain ⟨i0, hi, hz0, hz1, hz2⟩ := info_parts info9
  have hk2 := hk.below (((Below.refl w.heap.size w).alloc (Nat.le_refl _) (.cells (metaC t wk mo le ha fr wh er A n c ten kp) 39)).alloc (by simp) (.cells (metaC ByteArray.empty false 0 0 0 0 0 0 none 0 0 ByteArray.empty false) 39)) (Nat.le_refl _)
  have HK := Lib.hid hk2
  clear hk hk2
  have k0 : Blk ((w.alloc (.cells (metaC t wk mo le ha fr wh er A n c ten kp) 39)).alloc (.cells (metaC ByteArray.empty false 0 0 0 0 0 0 none 0 0 ByteArray.empty false) 39)) w.heap.size 39 (metaC t wk mo le ha fr wh er A n c ten kp) := (Blk.new w 39 _).alloc _
  have k1 : Blk ((w.alloc (.cells (metaC t wk mo le ha fr wh er A n c ten kp) 39)).alloc (.cells (metaC ByteArray.empty false 0 0 0 0 0 0 none 0 0 ByteArray.empty false) 39)) (w.heap.size + 1) 39 (metaC ByteArray.empty false 0 0 0 0 0 0 none 0 0 ByteArray.empty false) := by
    have := Blk.new (w.alloc (.cells (metaC t wk mo le ha fr wh er A n c ten kp) 39)) 39 (metaC ByteArray.empty false 0 0 0 0 0 0 none 0 0 ByteArray.empty false)
    simpa using this
  have K0 := Lib.hid k0
  have K1 := Lib.hid k1
  clear k0 k1
  go_enter Tryz.func45, Tryz.ntmps45
  go_wp2_with (at_builtin; refine wpList_append_rd _ rfl _ _ 37 rfl (w.heap.size + 2) 9 i0 (.string ByteArray.empty) 1 16 Tryz.underlying37 hi hz0 hz1 hz2 rfl (by decide) (.slice none 0 0) 0 [] rfl (World.ownsRow_nil _ _ _ _) A n c _ _ rfl HK.out (oneCell_strings ks) (by unfold maxLen; omega) (by omega) (by simp) ?_; intro A' c' w1 hown hgrow hnc hat; have bk0 := K0.out.grown hgrow (by simp [Value.ownBlock]); have bk1 := K1.out.grown hgrow (by simp [Value.ownBlock]); obtain ⟨a0, a1, a2, a3, a4, a5, a6, a7, a8, a9, a10⟩ := metaCells bk0; obtain ⟨b0, b1, b2, b3, b4, b5, b6, b7, b8, b9, b10⟩ := metaCells bk1; have f0 := bk0.free'; have f1 := bk1.free'; have hsz := hgrow.size; have HB0 := Lib.hid bk0; have HB1 := Lib.hid bk1; have HO := Lib.hid hown; have HG := Lib.hid hgrow; have HA := Lib.hid hat; clear bk0 bk1 hown hgrow hat)
  have hown := HO.out
  simp only [Nat.zero_add, List.nil_append] at hown hnc
  have hbel : Below w.heap.size w w1 := (((Below.refl w.heap.size w).alloc (Nat.le_refl _) _).alloc (by simp) _).trans (grown_below HG.out (by simp; omega) (fun k hk => by simp [Value.ownBlock] at hk))
  refine bodyPost_ret (v := .agg (metaC t wk mo le ha fr wh er A' n c' ten kp)) ?_ rfl ⟨⟨A', c', rfl, ?_, hnc⟩, ?_⟩
  · simp [results, Tryz.results45, go_sem, b0, b1, b2, b3, b4, b5, b6, b7, b8, b9, b10]
  · refine own_base (base := w.heap.size + 2) ?_ (by omega)
    iterate 12 (refine own_set ?_ (by omega) _)
    exact hown
  · iterate 12 (refine below_set ?_ (by omega) _)
    exact hbel

end Go.Proofs.YtoaiamgcegnjjaaGreatDoor
