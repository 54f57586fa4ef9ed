/- Purges that came in are opened to their cells. No condition. -/
import Derived.Test.YtoaiamgcegnjjaaGreatDoorUR
import Derived.Test.YtoaiamgcegnjjaaGreatDoorVF
namespace Go.Proofs.YtoaiamgcegnjjaaGreatDoor
open Go.ChangeShapes Go.WideShapes Go.ChangeAt Go.WideMaps Go.WideElems Go.RowKit Go.Deep
set_option maxRecDepth 100000
theorem Tryz.cells59 : Tryz.prog.cellsOf 59 = 1 := by kernel_rfl
theorem Tryz.cells142 : Tryz.prog.cellsOf 142 = 2 := by kernel_rfl
section
variable {H : Type} {enc : TypeId × Value → H} {w : World} {base : Nat} {spare : Nat → Bool} {held : Bool}
theorem read_pg {fuel : Nat} {cs : List Value} {x : DataW H × List MemPlace} (h : DataW.trod enc Tryz.prog w base spare held fuel 142 cs = some x) : ∃ p : PgM, cs = p.cells ∧ p.n ≤ p.c ∧ p.n ≤ 9223372036854775807 ∧ Strs w w.heap.size p.A p.n p.keys := by
  have hl : cs.length = 2 := (fld_len Tryz.underlying142 h).trans Tryz.cells142
  match cs, hl with
  | [c0, c1], _ =>
    obtain ⟨_, _, h0⟩ := fld Tryz.underlying142 h 0 37 0 _ rfl Tryz.cells37
    obtain ⟨_, _, h1⟩ := fld Tryz.underlying142 h 1 4 1 _ rfl Tryz.cells4
    clear h
    simp only [List.drop_zero, List.drop_succ_cons, List.take_succ_cons, List.take_zero] at h0 h1
    obtain ⟨A, n, c, ks, rfl, hnc, hcm, hst, _⟩ := read_strs h0
    obtain ⟨hd, rfl⟩ := read_bool4 h1
    exact ⟨⟨ks, hd, A, n, c⟩, rfl, hnc, by unfold maxLen at hcm; show n ≤ _; omega, hst⟩
theorem read_pgs {fuel : Nat} {v : Value} {x : DataW H × List MemPlace} (h : DataW.trod enc Tryz.prog w base spare held fuel 59 [v] = some x) :
    ∃ A n c, ∃ l : List PgM, v = .slice A n c ∧ n ≤ maxLen ∧ Rd w w.heap.size 2 A n (l.flatMap PgM.cells) ∧ ∀ p ∈ l, p.n ≤ p.c ∧ p.n ≤ 9223372036854775807 ∧ Strs w w.heap.size p.A p.n p.keys := by
  rcases open_slice Tryz.underlying59 h with ⟨hc, _⟩ | ⟨a, len, cap, m, n, D, Pl, hc, _, hl, hm, hmm, _, hi⟩
  · injection hc with hc
    exact ⟨none, 0, 0, [], hc, Nat.zero_le _, ⟨rfl, fun h => absurd h (by omega)⟩, fun a ha => by cases ha⟩
  · injection hc with hc
    have hle : len ≤ m := by rw [hmm]; split <;> omega
    rw [Tryz.cells142] at hi
    have hall : ∀ i, i < len → ∃ q : PgM, (∀ j, j < 2 → w.cell? (a.add (i * 2 + j)) = q.cells[j]?) ∧ (q.n ≤ q.c ∧ q.n ≤ 9223372036854775807 ∧ Strs w w.heap.size q.A q.n q.keys) := fun i him => by
      obtain ⟨cs', hcs, ht⟩ := hi i (by omega)
      obtain ⟨_, hcl, hat⟩ := World.cells?_some hcs
      obtain ⟨q, hcs', hq⟩ := read_pg ht
      refine ⟨q, fun j hj => ?_, hq⟩
      have := hat j hj
      rw [hcs'] at this
      refine Eq.trans ?_ this
      rw [addr_add_add]
    obtain ⟨l, hll, hlp⟩ := list_of len hall
    refine ⟨some a, len, cap, l, hc, by omega, ⟨by rw [flat_len PgM.cells 2 PgM.cells_len, hll], fun hn => ?_⟩, fun q hq => ?_⟩
    · have h0 := (hlp 0 (by omega)).1 0 (by omega)
      have hsome : (l[0]'(by omega)).cells[0]? = some (.slice (l[0]'(by omega)).A (l[0]'(by omega)).n (l[0]'(by omega)).c) := rfl
      rw [hsome] at h0
      obtain ⟨b, off, spot⟩ := a
      have hspot : spot = none := by simpa [Addr.add] using World.cell?_spot h0
      subst hspot
      refine ⟨b, off, rfl, ?_, fun j hj => ?_⟩
      · simpa [Addr.add] using cell_lt h0
      · rw [flat_len PgM.cells 2 PgM.cells_len, hll] at hj
        have hq : j / 2 < l.length := by omega
        have hg := flat_get PgM.cells 2 PgM.cells_len l (j / 2) (j % 2) hq (by omega)
        have hjj : j / 2 * 2 + j % 2 = j := by omega
        rw [hjj] at hg
        have hc2 := (hlp (j / 2) hq).1 (j % 2) (by omega)
        rw [hjj, addr_add, ← hg] at hc2
        rw [hc2]
        exact List.getElem?_eq_getElem _
    · obtain ⟨i, hi', rfl⟩ := List.mem_iff_getElem.1 hq
      exact (hlp i hi').2
theorem read_purged {fuel : Nat} {cs : List Value} {x : DataW H × List MemPlace} (h : DataW.trod enc Tryz.prog w base spare held fuel 61 cs = some x) :
    ∃ (fl : Int) (A : Option Addr) (n c : Nat) (l : List PgM), cs = [.int .i64 fl, .slice A n c] ∧ n ≤ maxLen ∧ Rd w w.heap.size 2 A n (l.flatMap PgM.cells) ∧ ∀ p ∈ l, p.n ≤ p.c ∧ p.n ≤ 9223372036854775807 ∧ Strs w w.heap.size p.A p.n p.keys := by
  have hl : cs.length = 2 := (fld_len Tryz.underlying61 h).trans (by kernel_rfl)
  match cs, hl with
  | [c0, c1], _ =>
    obtain ⟨_, _, h0⟩ := fld Tryz.underlying61 h 0 2 0 _ rfl Tryz.cells2
    obtain ⟨_, _, h1⟩ := fld Tryz.underlying61 h 1 59 1 _ rfl Tryz.cells59
    clear h
    simp only [List.drop_zero, List.drop_succ_cons, List.take_succ_cons, List.take_zero] at h0 h1
    obtain ⟨fl, rfl, _⟩ := read_int2 h0
    obtain ⟨A, n, c, l, rfl, hn, hr, hk⟩ := read_pgs h1
    exact ⟨fl, A, n, c, l, rfl, hn, hr, hk⟩
end
theorem readable61 : Tryz.prog.readableRec 61 = true := by kernel_rfl
theorem row61 : 61 < Tryz.prog.types.size := of_decide_eq_true (by kernel_rfl)
end Go.Proofs.YtoaiamgcegnjjaaGreatDoor
