/- What the rows over acts want: a slice of acts that came in is opened to its cells. No condition. -/
import Derived.Test.YtoaiamgcegnjjaaGreatDoorLL
import Derived.Test.YtoaiamgcegnjjaaGreatDoorT
import Derived.Deep.Slices
namespace Go.Proofs.YtoaiamgcegnjjaaGreatDoor
open Go.ChangeShapes Go.WideShapes Go.ChangeAt Go.WideMaps Go.WideElems Go.RowKit Go.Deep
set_option maxRecDepth 100000

theorem list_of {α : Type} {P : Nat → α → Prop} : ∀ (n : Nat), (∀ i, i < n → ∃ x, P i x) → ∃ l : List α, l.length = n ∧ ∀ i (h : i < l.length), P i l[i]
  | 0, _ => ⟨[], rfl, fun i h => absurd h (by simp)⟩
  | n + 1, h => by
    obtain ⟨l, hl, hp⟩ := list_of n (fun i hi => h i (by omega))
    obtain ⟨x, hx⟩ := h n (by omega)
    refine ⟨l ++ [x], by simp [hl], fun i hi => ?_⟩
    by_cases hil : i < l.length
    · rw [List.getElem_append_left hil]
      exact hp i hil
    · have : i = n := by simp at hi; omega
      subst this
      rw [List.getElem_append_right (by omega)]
      simpa [hl] using hx

theorem addr_add_add (a : Addr) (i j : Nat) : a.add (i + j) = (a.add i).add j := by
  obtain ⟨b, off, spot⟩ := a
  by_cases hi : i = 0 <;> by_cases hj : j = 0 <;> simp [Addr.add, hi, hj, Nat.add_assoc]

section
variable {H : Type} {enc : TypeId × Value → H} {w : World} {base : Nat} {spare : Nat → Bool} {held : Bool}
theorem read_acts {fuel : Nat} {v : Value} {x : DataW H × List MemPlace} (h : DataW.trod enc Tryz.prog w base spare held fuel 22 [v] = some x) :
    ∃ A n c, ∃ l : List ActS, v = .slice A n c ∧ n ≤ maxLen ∧ Rd w w.heap.size 25 A n (l.flatMap ActS.cells) ∧ ∀ a ∈ l, a.Ok w w.heap.size := by
  rcases open_slice Tryz.underlying22 h with ⟨hc, _⟩ | ⟨a, len, cap, m, n, D, Pl, hc, _, hl, hm, hmm, _, hi⟩
  · injection hc with hc
    exact ⟨none, 0, 0, [], hc, Nat.zero_le _, ⟨rfl, fun h => absurd h (by omega)⟩, fun a ha => by cases ha⟩
  · injection hc with hc
    have hle : len ≤ m := by rw [hmm]; split <;> omega
    rw [Tryz.cells47] at hi
    have hall : ∀ i, i < len → ∃ q : ActS, (∀ j, j < 25 → w.cell? (a.add (i * 25 + j)) = q.cells[j]?) ∧ q.Ok w w.heap.size := fun i him => by
      obtain ⟨cs', hcs, ht⟩ := hi i (by omega)
      obtain ⟨_, hcl, hat⟩ := World.cells?_some hcs
      obtain ⟨kd, obj, st, M, A, n', c, sf, sto, age, ti, mo, ge, id, f, t, hv, ln, hcs', hnc, hcm, hst, hM, wa, wo, wkd, w1, w2, w3, w4, w5, w6, w7, w8⟩ := read_act ht
      refine ⟨⟨kd, obj, st, M, A, n', c, sf, sto, age, ti, mo, ge, id, f, t, hv, ln⟩, fun j hj => ?_, ⟨hst, hnc, hM, wo, ?_, w4⟩⟩
      · have := hat j hj
        rw [hcs'] at this
        refine Eq.trans ?_ this
        rw [addr_add_add]
      · have h2 : IntKind.u8.min ≤ kd ∧ kd ≤ IntKind.u8.max := by simpa [Lit.wf] using wkd
        exact ⟨h2.1, h2.2⟩
    obtain ⟨l, hll, hlp⟩ := list_of len hall
    refine ⟨some a, len, cap, l, hc, by omega, ⟨by rw [flat_len ActS.cells 25 ActS.cells_len, hll], fun hn => ?_⟩, fun q hq => ?_⟩
    · have h0 := (hlp 0 (by omega)).1 0 (by omega)
      have hsome : (l[0]'(by omega)).cells[0]? = some (.int .u8 (l[0]'(by omega)).kd) := rfl
      rw [hsome] at h0
      obtain ⟨b, off, spot⟩ := a
      have hspot : spot = none := by simpa [Addr.add] using World.cell?_spot h0
      subst hspot
      refine ⟨b, off, rfl, ?_, fun j hj => ?_⟩
      · simpa [Addr.add] using cell_lt h0
      · rw [flat_len ActS.cells 25 ActS.cells_len, hll] at hj
        have hq : j / 25 < l.length := by omega
        have hg := flat_get ActS.cells 25 ActS.cells_len l (j / 25) (j % 25) hq (by omega)
        have hjj : j / 25 * 25 + j % 25 = j := by omega
        rw [hjj] at hg
        have hc2 := (hlp (j / 25) hq).1 (j % 25) (by omega)
        rw [hjj, addr_add, ← hg] at hc2
        rw [hc2]
        exact List.getElem?_eq_getElem _
    · obtain ⟨i, hi', rfl⟩ := List.mem_iff_getElem.1 hq
      exact (hlp i hi').2
end

theorem readable22 : Tryz.prog.readableRec 22 = true := by kernel_rfl
theorem row22 : 22 < Tryz.prog.types.size := of_decide_eq_true (by kernel_rfl)


section
variable {H : Type} {enc : TypeId × Value → H} {w : World} {base : Nat} {spare : Nat → Bool} {held : Bool}
/-- who asks -/
theorem read_ask {fuel : Nat} {cs : List Value} {x : DataW H × List MemPlace} (h : DataW.trod enc Tryz.prog w base spare held fuel 63 cs = some x) : ∃ (obj : ByteArray) (ti mo ge : Int), cs = [.string obj, .int .i64 ti, .int .i64 mo, .int .i64 ge] ∧ obj.size ≤ maxLen ∧ Wf ti ∧ Wf mo ∧ Wf ge := by
  have hl : cs.length = 4 := (fld_len Tryz.underlying63 h).trans (by kernel_rfl)
  match cs, hl with
  | [c0, c1, c2, c3], _ =>
    obtain ⟨_, _, h0⟩ := fld Tryz.underlying63 h 0 9 0 _ rfl Tryz.cells9
    obtain ⟨_, _, h1⟩ := fld Tryz.underlying63 h 1 45 1 _ rfl Tryz.cells45
    clear h
    simp only [List.drop_zero, List.drop_succ_cons, List.take_succ_cons, List.take_zero] at h0 h1
    obtain ⟨obj, rfl, w0⟩ := read_str9 h0
    obtain ⟨ti, mo, ge, rfl, rfl, rfl, w1, w2, w3⟩ := read_asked h1
    exact ⟨obj, ti, mo, ge, rfl, w0, w1, w2, w3⟩
theorem read_u8 {fuel : Nat} {c : Value} {x : DataW H × List MemPlace} (h : DataW.trod enc Tryz.prog w base spare held fuel 5 [c] = some x) : ∃ n : Int, c = .int .u8 n ∧ 0 ≤ n ∧ n ≤ 255 := by
  obtain ⟨n, e, _, hw⟩ := DataW.trod_int Tryz.underlying5 h
  simp only [List.cons.injEq, and_true] at e
  have h2 : IntKind.u8.min ≤ n ∧ n ≤ IntKind.u8.max := by simpa [Lit.wf] using hw
  exact ⟨n, e, h2.1, h2.2⟩
end
theorem readable63 : Tryz.prog.readableRec 63 = true := by kernel_rfl
theorem row63 : 63 < Tryz.prog.types.size := of_decide_eq_true (by kernel_rfl)
theorem readable5 : Tryz.prog.readableRec 5 = true := by kernel_rfl
theorem row5 : 5 < Tryz.prog.types.size := of_decide_eq_true (by kernel_rfl)
end Go.Proofs.YtoaiamgcegnjjaaGreatDoor
