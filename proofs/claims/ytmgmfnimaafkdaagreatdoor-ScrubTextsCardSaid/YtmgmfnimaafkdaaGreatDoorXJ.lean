/- What the rows over reports want: a slice that came in is opened to its rows; a report is opened to its four slices. No condition.  -/
import Derived.Test.YtmgmfnimaafkdaaGreatDoorUO
import Derived.Test.YtmgmfnimaafkdaaGreatDoorXG
import Derived.SizedLaws
namespace Go.Proofs.YtmgmfnimaafkdaaGreatDoor
open Go.ChangeShapes Go.WideShapes Go.ChangeAt Go.WideMaps Go.WideElems Go.RowKit Go.Deep
set_option maxRecDepth 100000

theorem Tryz.cells73 : Tryz.prog.cellsOf 73 = 2 := by kernel_rfl
theorem Tryz.cells81 : Tryz.prog.cellsOf 81 = 1 := by kernel_rfl
theorem Tryz.cells83 : Tryz.prog.cellsOf 83 = 1 := by kernel_rfl
theorem Tryz.cells96 : Tryz.prog.cellsOf 96 = 4 := by kernel_rfl
section
variable {H : Type} {enc : TypeId × Value → H}
/-- the wrap of a row with a condition of its own, the world's shape kept, the reach handed on -/
theorem handed_and_sized {a : Assume} {C : Checked} {os : Os} {f : FuncId} {fn : Func} {s : ChangeSpec} {conds : List PathCond} {apart fresh handsOn again : Bool} {X : World → Array Value → Prop}
    (hX : ∀ (w w' : World) (args : Array Value), w.heap = w'.heap → X w args → X w' args)
    (own : ownKnob C.prog.godebug = none) (started : os.Started) (noInit : C.prog.inits.idxOf? f = none) (hfn : C.prog.funcs[f]? = some fn)
    (witness : ∃ (w : World) (tape : Tape) (i : Input), w.os = os ∧ (w.forCall tape i).Shaped C.prog ∧ i.vars = [] ∧ Input.okWide C.prog (w.forCall tape i) .any w.heap.size f i ∧
      ((s.pre enc C.prog fn conds apart (w.forCall tape i).memory i.args ∧ X (w.forCall tape i).memory i.args) ∧ sizedMet enc C.prog fn (OpenSpec.ofChange s) apart (w.forCall tape i).memory i.args) ∧ a.holds C.prog (lone (Frame.enter C.prog f i.args .normal) [] (w.forCall tape i)))
    (contract : ∀ (W : World) (base : Nat) (args : Array Value) (ds gs : List (DataW H)) (before : List MemPlace),
      (∀ (j : Nat) t v, fn.params[j]? = some t → args[j]? = some v → Value.okWide C.prog W .any base t v) →
      DataW.Whole enc C.prog fn.params.toList s.vars apart W args.toList ds gs before →
      (DataW.weightsEach C.prog (fn.params.toList ++ (OpenSpec.ofChange s).bare.plain.varTypes C.prog) (ds ++ gs)).all (· ≤ reachBytes) = true →
      W.ShapedOpen C.prog → X W args →
      Calls C.prog f args W fun e W' => ∃ v, e = .returned v ∧ s.post enc C.prog fn apart fresh handsOn again W args v W') :
    ReturnsInHanded a C os f .any (fun w args => (s.pre enc C.prog fn conds apart w args ∧ X w args) ∧ sizedMet enc C.prog fn (OpenSpec.ofChange s) apart w args) (s.post enc C.prog fn apart fresh handsOn again) := by
  refine returnsInHanded_of_calls own started noInit witness ?_
  intro w tape i _ hsh _ hok hpre _
  obtain ⟨_, _, _, fn', hfn', _, _, _, _, hval⟩ := hok
  have e : fn' = fn := Option.some.inj (hfn'.symm.trans hfn)
  subst e
  obtain ⟨⟨⟨ds, gs, before, hw, hc⟩, hx⟩, hz⟩ := hpre
  have hw' := DataW.Whole.of_heap (w' := w.forCall tape i) (by rfl) hw
  refine (contract (w.forCall tape i) w.heap.size i.args ds gs before hval hw' (hz.weights hw) hsh (hX _ _ _ (by rfl) hx)).mono fun e W' ⟨v, he, hp⟩ => ?_
  subst he
  exact ChangeSpec.post_blind hp
/-- one field of a struct that reads, its weights among the struct's -/
theorem fldW {P : Program} {w : World} {base : Nat} {spare : Nat → Bool} {held : Bool} {t : TypeId} {fs : Array Field} {fuel : Nat} {cs : List Value} {x : DataW H × List MemPlace} (ht : P.underlying t = some (.struct fs)) (h : DataW.trod enc P w base spare held fuel t cs = some x) (i T o k : Nat) (hf : (fs[i]?).map (fun f => (f.type, f.offset)) = some (T, o)) (hc : P.cellsOf T = k) :
    ∃ n y, DataW.trod enc P w base spare held n T ((cs.drop o).take k) = some y ∧ ∀ q ∈ y.1.weights P T, q ∈ x.1.weights P t := by
  obtain ⟨xs, n, _, hx, _, hlen, hg⟩ := DataW.trod_struct ht h
  cases hfi : fs[i]? with
  | none => rw [hfi] at hf; cases hf
  | some f =>
    rw [hfi] at hf
    simp only [Option.map_some, Option.some.injEq, Prod.mk.injEq] at hf
    obtain ⟨rfl, rfl⟩ := hf
    subst hc
    have := hg i f hfi
    have hi : i < xs.length := by rw [hlen]; exact (Array.getElem?_eq_some_iff.1 hfi).1
    rw [List.getElem?_eq_getElem hi] at this
    refine ⟨n, _, this, fun q hq => ?_⟩
    rw [hx]
    simp only [DataW.weights, ht]
    exact DataW.weights_mem_each (j := i) (t := f.type) (by simp [hfi]) (d := xs[i].1) (by simp [hi]) q hq
end
section
variable {H : Type} {enc : TypeId × Value → H} {w : World} {base : Nat} {spare : Nat → Bool} {held : Bool}
theorem read_slice {α : Type} {T e k : Nat} (hT : Tryz.prog.underlying T = some (.slice e)) (ce : Tryz.prog.cellsOf e = k) (hk : 0 < k) (f : α → List Value) (hf : ∀ a, (f a).length = k) (Q : α → Prop)
    (hd : ∀ {fuel : Nat} {cs : List Value} {x : DataW H × List MemPlace}, DataW.trod enc Tryz.prog w base spare held fuel e cs = some x → ∃ q, cs = f q ∧ Q q)
    {fuel : Nat} {v : Value} {x : DataW H × List MemPlace} (h : DataW.trod enc Tryz.prog w base spare held fuel T [v] = some x) :
    ∃ A c, ∃ l : List α, v = .slice A l.length c ∧ Rd w w.heap.size k A l.length (l.flatMap f) ∧ (∀ a ∈ l, Q a) ∧ ((∀ q ∈ x.1.weights Tryz.prog T, q ≤ reachBytes) → l.length * Tryz.prog.bytesOf e ≤ reachBytes) := by
  rcases open_slice hT h with ⟨hc, _⟩ | ⟨a, len, cap, m, n, D, Pl, hc, _, hl, hm, hmm, hxx, hi⟩
  · injection hc with hc
    exact ⟨none, 0, [], hc, ⟨by simp, fun h => absurd h (by simp)⟩, (fun a ha => by cases ha), fun _ => by simp⟩
  · injection hc with hc
    have hle : len ≤ m := by rw [hmm]; split <;> omega
    rw [ce] at hi
    have hall : ∀ i, i < len → ∃ q : α, (∀ j, j < k → w.cell? (a.add (i * k + j)) = (f q)[j]?) ∧ Q q := fun i him => by
      obtain ⟨cs', hcs, ht⟩ := hi i (by omega)
      obtain ⟨_, hcl, hat⟩ := World.cells?_some hcs
      obtain ⟨q, hcs', hq⟩ := hd ht
      refine ⟨q, fun j hj => ?_, hq⟩
      have := hat j hj
      rw [hcs'] at this
      refine Eq.trans ?_ this
      rw [addr_add_add]
    obtain ⟨l, hll, hlp⟩ := list_of len hall
    subst hll
    refine ⟨some a, cap, l, hc, ⟨flat_len f k hf l, fun hn => ?_⟩, fun q hq => ?_, fun hw => ?_⟩
    · have h0 := (hlp 0 (by omega)).1 0 hk
      have hsome : ∃ u, (f (l[0]'(by omega)))[0]? = some u := ⟨_, List.getElem?_eq_getElem (by rw [hf]; exact hk)⟩
      obtain ⟨u, hu⟩ := hsome
      rw [hu] at h0
      obtain ⟨b, off, spot⟩ := a
      have hspot : spot = none := by simpa [Addr.add] using World.cell?_spot h0
      subst hspot
      refine ⟨b, off, rfl, ?_, fun j hj => ?_⟩
      · simpa [Addr.add] using cell_lt h0
      · have hj' := hj
        rw [flat_len f k hf] at hj
        have hq : j / k < l.length := (Nat.div_lt_iff_lt_mul hk).2 hj
        have hr : j % k < k := Nat.mod_lt _ hk
        have hg := flat_get f k hf l (j / k) (j % k) hq hr
        have hjj : j / k * k + j % k = j := Nat.div_add_mod' j k
        rw [hjj] at hg
        have hc2 := (hlp (j / k) hq).1 (j % k) hr
        rw [hjj, addr_add, ← hg] at hc2
        rw [hc2]
        exact List.getElem?_eq_getElem _
    · obtain ⟨i, hi', rfl⟩ := List.mem_iff_getElem.1 hq
      exact (hlp i hi').2
    · refine Nat.le_trans (Nat.mul_le_mul_right _ hle) (hw _ ?_)
      rw [hxx]
      simp only [DataW.weights, hT, List.length_map, List.length_range]
      rw [Nat.add_sub_cancel' hle]
      exact List.mem_cons_self
theorem wf_i64 {a : Int} (h : (Lit.int .i64 a).wf = true) : inI a := by
  have m1 : IntKind.i64.min = -9223372036854775808 := rfl
  have m2 : IntKind.i64.max = 9223372036854775807 := rfl
  simp [Lit.wf, m1, m2] at h
  exact ⟨by omega, by omega⟩
theorem read_name {fuel : Nat} {cs : List Value} {x : DataW H × List MemPlace} (h : DataW.trod enc Tryz.prog w base spare held fuel 73 cs = some x) : ∃ q : NameV, cs = nameRow q ∧ inI q.1 ∧ inI q.2 := by
  have hl : cs.length = 2 := (fld_len Tryz.underlying73 h).trans Tryz.cells73
  match cs, hl with
  | [c0, c1], _ =>
    obtain ⟨_, _, h0⟩ := fld Tryz.underlying73 h 0 2 0 _ rfl Tryz.cells2
    obtain ⟨_, _, h1⟩ := fld Tryz.underlying73 h 1 2 1 _ rfl Tryz.cells2
    obtain ⟨a, e0, _, w0⟩ := DataW.trod_int Tryz.underlying2 h0
    obtain ⟨b, e1, _, w1⟩ := DataW.trod_int Tryz.underlying2 h1
    simp at e0 e1
    subst e0; subst e1
    exact ⟨(a, b), rfl, wf_i64 w0, wf_i64 w1⟩
theorem read_num {fuel : Nat} {cs : List Value} {x : DataW H × List MemPlace} (h : DataW.trod enc Tryz.prog w base spare held fuel 2 cs = some x) : ∃ q : Int, cs = [Value.int .i64 q] ∧ inI q := by
  obtain ⟨a, e0, _, w0⟩ := DataW.trod_int Tryz.underlying2 h
  exact ⟨a, e0, wf_i64 w0⟩
theorem flat_nums (l : List Int) : (l.flatMap fun q => [Value.int .i64 q]) = numVs l := by
  induction l with
  | nil => rfl
  | cons a l ih => simp only [List.flatMap_cons, ih]; rfl
theorem read_names {fuel : Nat} {v : Value} {x : DataW H × List MemPlace} (h : DataW.trod enc Tryz.prog w base spare held fuel 81 [v] = some x) : ∃ A c, ∃ l : List NameV, v = .slice A l.length c ∧ Rd w w.heap.size 2 A l.length (nameRows l) ∧ (∀ a ∈ l, inI a.1 ∧ inI a.2) ∧ ((∀ q ∈ x.1.weights Tryz.prog 81, q ≤ reachBytes) → l.length ≤ reachBytes) := by
  obtain ⟨A, c, l, h1, h2, h3, h4⟩ := read_slice Tryz.underlying81 Tryz.cells73 (by decide) nameRow (fun _ => rfl) _ (fun h => read_name h) h
  exact ⟨A, c, l, h1, h2, h3, fun hq => by have := h4 hq; rw [show Tryz.prog.bytesOf 73 = 16 by kernel_rfl] at this; omega⟩
theorem read_nums {fuel : Nat} {v : Value} {x : DataW H × List MemPlace} (h : DataW.trod enc Tryz.prog w base spare held fuel 83 [v] = some x) : ∃ A c, ∃ l : List Int, v = .slice A l.length c ∧ Rd w w.heap.size 1 A l.length (numVs l) ∧ (∀ a ∈ l, inI a) ∧ ((∀ q ∈ x.1.weights Tryz.prog 83, q ≤ reachBytes) → l.length ≤ reachBytes) := by
  obtain ⟨A, c, l, h1, h2, h3, h4⟩ := read_slice Tryz.underlying83 Tryz.cells2 (by decide) (fun q : Int => [Value.int .i64 q]) (fun _ => rfl) _ (fun h => read_num h) h
  rw [flat_nums] at h2
  exact ⟨A, c, l, h1, h2, h3, fun hq => by have := h4 hq; rw [show Tryz.prog.bytesOf 2 = 8 by kernel_rfl] at this; omega⟩
theorem read_report {fuel : Nat} {cs : List Value} {x : DataW H × List MemPlace} (h : DataW.trod enc Tryz.prog w base spare held fuel 96 cs = some x) : ∃ A1 c1 A2 c2 A3 c3 A4 c4, ∃ (g b : List NameV) (ls bs : List Int), cs = [.slice A1 g.length c1, .slice A2 b.length c2, .slice A3 ls.length c3, .slice A4 bs.length c4] ∧
    Rd w w.heap.size 2 A1 g.length (nameRows g) ∧ Rd w w.heap.size 2 A2 b.length (nameRows b) ∧ Rd w w.heap.size 1 A3 ls.length (numVs ls) ∧ Rd w w.heap.size 1 A4 bs.length (numVs bs) ∧
    (∀ a ∈ g, inI a.1 ∧ inI a.2) ∧ (∀ a ∈ b, inI a.1 ∧ inI a.2) ∧ (∀ a ∈ ls, inI a) ∧ (∀ a ∈ bs, inI a) ∧
    ((∀ q ∈ x.1.weights Tryz.prog 96, q ≤ reachBytes) → g.length ≤ reachBytes ∧ b.length ≤ reachBytes ∧ ls.length ≤ reachBytes ∧ bs.length ≤ reachBytes) := by
  have hl : cs.length = 4 := (fld_len Tryz.underlying96 h).trans Tryz.cells96
  match cs, hl with
  | [c0, c1, c2, c3], _ =>
    obtain ⟨_, _, h0, k0⟩ := fldW Tryz.underlying96 h 0 81 0 _ rfl Tryz.cells81
    obtain ⟨_, _, h1, k1⟩ := fldW Tryz.underlying96 h 1 81 1 _ rfl Tryz.cells81
    obtain ⟨_, _, h2, k2⟩ := fldW Tryz.underlying96 h 2 83 2 _ rfl Tryz.cells83
    obtain ⟨_, _, h3, k3⟩ := fldW Tryz.underlying96 h 3 83 3 _ rfl Tryz.cells83
    clear h
    simp only [List.drop_zero, List.drop_succ_cons, List.take_succ_cons, List.take_zero] at h0 h1 h2 h3
    obtain ⟨A1, c1, g, rfl, a1, b1, z1⟩ := read_names h0
    obtain ⟨A2, c2, b, rfl, a2, b2, z2⟩ := read_names h1
    obtain ⟨A3, c3, ls, rfl, a3, b3, z3⟩ := read_nums h2
    obtain ⟨A4, c4, bs, rfl, a4, b4, z4⟩ := read_nums h3
    exact ⟨A1, c1, A2, c2, A3, c3, A4, c4, g, b, ls, bs, rfl, a1, a2, a3, a4, b1, b2, b3, b4, fun hq => ⟨z1 fun q h => hq q (k0 q h), z2 fun q h => hq q (k1 q h), z3 fun q h => hq q (k2 q h), z4 fun q h => hq q (k3 q h)⟩⟩
end
end Go.Proofs.YtmgmfnimaafkdaaGreatDoor
