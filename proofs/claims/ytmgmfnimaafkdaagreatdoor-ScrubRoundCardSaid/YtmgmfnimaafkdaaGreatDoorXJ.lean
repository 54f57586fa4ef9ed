/- What the rows over reports want: a slice that came in is opened to its rows; a report is opened to its four slices. No condition. -/
import Derived.Test.YtmgmfnimaafkdaaGreatDoorUO
import Derived.Test.YtmgmfnimaafkdaaGreatDoorXG
import Derived.SizedLaws
namespace Go.Proofs.YtmgmfnimaafkdaaGreatDoor
open Go.ChangeShapes Go.WideShapes Go.ChangeAt Go.WideMaps Go.WideElems Go.RowKit Go.Deep
set_option maxRecDepth 100000

theorem Tryz.cells73 : Tryz.prog.cellsOf 73 = 2 := by kernel_rfl
section
variable {H : Type} {enc : TypeId × Value → H}
end
section
variable {H : Type} {enc : TypeId × Value → H} {w : World} {base : Nat} {spare : Nat → Bool} {held : Bool}
theorem read_slice {α : Type} {T e k : Nat} (hT : Tryz.prog.underlying T = some (.slice e)) (ce : Tryz.prog.cellsOf e = k) (hk : 0 < k) (f : α → List Value) (hf : ∀ a, (f a).length = k) (Q : α → Prop)
  (hd : ∀ {fuel : Nat} {cs : List Value} {x : DataW H × List MemPlace}, DataW.trod enc Tryz.prog w base spare held fuel e cs = some x → ∃ q, cs = f q ∧ Q q)
  {fuel : Nat} {v : Value} {x : DataW H × List MemPlace} (h : DataW.trod enc Tryz.prog w base spare held fuel T [v] = some x) :
  ∃ A c, ∃ l : List α, v = .slice A l.length c ∧ Rd w w.heap.size k A l.length (l.flatMap f) ∧ (∀ a ∈ l, Q a) ∧ ((∀ q ∈ x.1.weights Tryz.prog T, q ≤ reachBytes) → l.length * Tryz.prog.bytesOf e ≤ reachBytes) := by
 rcases open_slice hT h with ⟨hc, _⟩ | ⟨a, len, cap, m, n, D, Pl, hc, _, hl, hm, hmm, hxx, hi⟩
 ·injection hc with hc
  exact ⟨none, 0, [], hc, ⟨by simp, fun h => absurd h (by simp)⟩, (fun a ha => by cases ha), fun _ => by simp⟩
 ·injection hc with hc
  have hle : len ≤ m := by rw [hmm]; split <;> omega
  rw [ce] at hi
  have hall : ∀ i, i < len → ∃ q : α, (∀ j, j < k → w.cell? (a.add (i * k + j)) = (f q)[j]?) ∧ Q q := fun i him => by
   obtain ⟨cs', hcs, ht⟩ := hi i (by omega)
   obtain ⟨_, hcl, hat⟩ := World.cells?_some hcs
   obtain ⟨q, hcs', hq⟩ := hd ht
   refine ⟨q, fun j hj => ?_, hq⟩
   have := hat j hj
   rw [hcs'] at this
   refine Eq.trans ?_ this
   rw [addr_add_add]
  obtain ⟨l, hll, hlp⟩ := list_of len hall
  subst hll
  refine ⟨some a, cap, l, hc, ⟨flat_len f k hf l, fun hn => ?_⟩, fun q hq => ?_, fun hw => ?_⟩
  ·have h0 := (hlp 0 (by omega)).1 0 hk
   have hsome : ∃ u, (f (l[0]'(by omega)))[0]? = some u := ⟨_, List.getElem?_eq_getElem (by rw [hf]; exact hk)⟩
   obtain ⟨u, hu⟩ := hsome
   rw [hu] at h0
   obtain ⟨b, off, spot⟩ := a
   have hspot : spot = none := by simpa [Addr.add] using World.cell?_spot h0
   subst hspot
   refine ⟨b, off, rfl, ?_, fun j hj => ?_⟩
   ·simpa [Addr.add] using cell_lt h0
   ·have hj' := hj
    rw [flat_len f k hf] at hj
    have hq : j / k < l.length := (Nat.div_lt_iff_lt_mul hk).2 hj
    have hr : j % k < k := Nat.mod_lt _ hk
    have hg := flat_get f k hf l (j / k) (j % k) hq hr
    have hjj : j / k * k + j % k = j := Nat.div_add_mod' j k
    rw [hjj] at hg
    have hc2 := (hlp (j / k) hq).1 (j % k) hr
    rw [hjj, addr_add, ← hg] at hc2
    rw [hc2]
    exact List.getElem?_eq_getElem _
  ·obtain ⟨i, hi', rfl⟩ := List.mem_iff_getElem.1 hq
   exact (hlp i hi').2
  ·refine Nat.le_trans (Nat.mul_le_mul_right _ hle) (hw _ ?_)
   rw [hxx]
   simp only [DataW.weights, hT, List.length_map, List.length_range]
   rw [Nat.add_sub_cancel' hle]
   exact List.mem_cons_self
theorem wf_i64 {a : Int} (h : (Lit.int .i64 a).wf = true) : inI a := by
 have m1 : IntKind.i64.min = -9223372036854775808 := rfl
 have m2 : IntKind.i64.max = 9223372036854775807 := rfl
 simp [Lit.wf, m1, m2] at h
 exact ⟨by omega, by omega⟩
theorem read_name {fuel : Nat} {cs : List Value} {x : DataW H × List MemPlace} (h : DataW.trod enc Tryz.prog w base spare held fuel 73 cs = some x) : ∃ q : NameV, cs = nameRow q ∧ inI q.1 ∧ inI q.2 := by
 have hl : cs.length = 2 := (fld_len Tryz.underlying73 h).trans Tryz.cells73
 match cs, hl with
 | [c0, c1], _ =>
  obtain ⟨_, _, h0⟩ := fld Tryz.underlying73 h 0 2 0 _ rfl Tryz.cells2
  obtain ⟨_, _, h1⟩ := fld Tryz.underlying73 h 1 2 1 _ rfl Tryz.cells2
  obtain ⟨a, e0, _, w0⟩ := DataW.trod_int Tryz.underlying2 h0
  obtain ⟨b, e1, _, w1⟩ := DataW.trod_int Tryz.underlying2 h1
  simp at e0 e1
  subst e0; subst e1
  exact ⟨(a, b), rfl, wf_i64 w0, wf_i64 w1⟩
end
end Go.Proofs.YtmgmfnimaafkdaaGreatDoor
