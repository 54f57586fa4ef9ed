/- What the rows over acts want: a slice of acts that came in is opened to its cells. No condition.  -/
import Derived.Test.YtmgmfnimaafkdaaGreatDoorUM
import Derived.Test.YtmgmfnimaafkdaaGreatDoorUA
import Derived.Deep.Slices
namespace Go.Proofs.YtmgmfnimaafkdaaGreatDoor
open Go.ChangeShapes Go.WideShapes Go.ChangeAt Go.WideMaps Go.WideElems Go.RowKit Go.Deep
set_option maxRecDepth 100000

theorem list_of {α : Type} {P : Nat → α → Prop} : ∀ (n : Nat), (∀ i, i < n → ∃ x, P i x) → ∃ l : List α, l.length = n ∧ ∀ i (h : i < l.length), P i l[i]
  | 0, _ => ⟨[], rfl, fun i h => absurd h (by simp)⟩
  | n + 1, h => by
    obtain ⟨l, hl, hp⟩ := list_of n (fun i hi => h i (by omega))
    obtain ⟨x, hx⟩ := h n (by omega)
    refine ⟨l ++ [x], by simp [hl], fun i hi => ?_⟩
    by_cases hil : i < l.length
    · rw [List.getElem_append_left hil]
      exact hp i hil
    · have : i = n := by simp at hi; omega
      subst this
      rw [List.getElem_append_right (by omega)]
      simpa [hl] using hx
theorem addr_add_add (a : Addr) (i j : Nat) : a.add (i + j) = (a.add i).add j := by
  obtain ⟨b, off, spot⟩ := a
  by_cases hi : i = 0 <;> by_cases hj : j = 0 <;> simp [Addr.add, hi, hj, Nat.add_assoc]
section
variable {H : Type} {enc : TypeId × Value → H} {w : World} {base : Nat} {spare : Nat → Bool} {held : Bool}
theorem read_acts {fuel : Nat} {v : Value} {x : DataW H × List MemPlace} (h : DataW.trod enc Tryz.prog w base spare held fuel 45 [v] = some x) :
    ∃ A n c, ∃ l : List ActW, v = .slice A n c ∧ Rd w w.heap.size 5 A n (l.flatMap ActW.cells) ∧ ∀ a ∈ l, a.sz < 65536 ∧ a.b < 256 := by
  rcases open_slice Tryz.underlying45 h with ⟨hc, _⟩ | ⟨a, len, cap, m, n, D, Pl, hc, _, hl, hm, hmm, _, hi⟩
  · injection hc with hc
    exact ⟨none, 0, 0, [], hc, ⟨rfl, fun h => absurd h (by omega)⟩, fun a ha => by cases ha⟩
  · injection hc with hc
    have hle : len ≤ m := by rw [hmm]; split <;> omega
    rw [Tryz.cells55] at hi
    have hall : ∀ i, i < len → ∃ q : ActW, (∀ j, j < 5 → w.cell? (a.add (i * 5 + j)) = q.cells[j]?) ∧ q.sz < 65536 ∧ q.b < 256 := fun i him => by
      obtain ⟨cs', hcs, ht⟩ := hi i (by omega)
      obtain ⟨_, hcl, hat⟩ := World.cells?_some hcs
      obtain ⟨k, v, n, sz, b, hcs', h1, h2⟩ := read_act ht
      refine ⟨⟨k, v, n, sz, b⟩, fun j hj => ?_, h1, h2⟩
      have := hat j hj
      rw [hcs'] at this
      refine Eq.trans ?_ this
      rw [addr_add_add]
    obtain ⟨l, hll, hlp⟩ := list_of len hall
    refine ⟨some a, len, cap, l, hc, ⟨by rw [flat_len ActW.cells 5 ActW.cells_len, hll], fun hn => ?_⟩, fun q hq => ?_⟩
    · have h0 := (hlp 0 (by omega)).1 0 (by omega)
      have hsome : (l[0]'(by omega)).cells[0]? = some (.int .i64 (l[0]'(by omega)).k) := rfl
      rw [hsome] at h0
      obtain ⟨b, off, spot⟩ := a
      have hspot : spot = none := by simpa [Addr.add] using World.cell?_spot h0
      subst hspot
      refine ⟨b, off, rfl, ?_, fun j hj => ?_⟩
      · simpa [Addr.add] using cell_lt h0
      · rw [flat_len ActW.cells 5 ActW.cells_len, hll] at hj
        have hq : j / 5 < l.length := by omega
        have hg := flat_get ActW.cells 5 ActW.cells_len l (j / 5) (j % 5) hq (by omega)
        have hjj : j / 5 * 5 + j % 5 = j := by omega
        rw [hjj] at hg
        have hc2 := (hlp (j / 5) hq).1 (j % 5) (by omega)
        rw [hjj, addr_add, ← hg] at hc2
        rw [hc2]
        exact List.getElem?_eq_getElem _
    · obtain ⟨i, hi', rfl⟩ := List.mem_iff_getElem.1 hq
      exact (hlp i hi').2
end
end Go.Proofs.YtmgmfnimaafkdaaGreatDoor
