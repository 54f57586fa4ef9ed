/- What the rows over calls want: a slice of calls that came in is opened to its cells. No condition. -/
import Derived.Test.YtmgmfnimaafkdaaGreatDoorXJ
import Derived.Test.YtmgmfnimaafkdaaGreatDoorXS
namespace Go.Proofs.YtmgmfnimaafkdaaGreatDoor
open Go.ChangeShapes Go.WideShapes Go.ChangeAt Go.WideMaps Go.WideElems Go.RowKit Go.Deep
set_option maxRecDepth 100000

theorem Tryz.cells43 : Tryz.prog.cellsOf 43 = 1 := by kernel_rfl
theorem Tryz.cells186 : Tryz.prog.cellsOf 186 = 5 := by kernel_rfl
theorem flat_u8 (l : List UInt8) : (l.flatMap fun u => [u8v u]) = l.map u8v := by
 induction l with
 | nil => rfl
 | cons a l ih => simp only [List.flatMap_cons, ih, List.map_cons]; rfl
section
variable {H : Type} {enc : TypeId × Value → H} {w : World} {base : Nat} {spare : Nat → Bool} {held : Bool}
theorem read_u8 {fuel : Nat} {cs : List Value} {x : DataW H × List MemPlace} (h : DataW.trod enc Tryz.prog w base spare held fuel 5 cs = some x) : ∃ u : UInt8, cs = [u8v u] ∧ True := by
 obtain ⟨a, e, _, wf⟩ := DataW.trod_int Tryz.underlying5 h
 have m3 : IntKind.u8.min = 0 := rfl
 have m4 : IntKind.u8.max = 255 := rfl
 simp [Lit.wf, m3, m4] at wf
 obtain ⟨n, rfl⟩ : ∃ n : Nat, a = n := ⟨a.toNat, by omega⟩
 refine ⟨UInt8.ofNat n, ?_, trivial⟩
 rw [e]
 unfold u8v
 have : (UInt8.ofNat n).toNat = n := by simp; omega
 rw [this]
theorem read_cap {T e : TypeId} (hT : Tryz.prog.underlying T = some (.slice e)) {fuel : Nat} {A : Option Addr} {n c : Nat} {x : DataW H × List MemPlace} (h : DataW.trod enc Tryz.prog w base spare held fuel T [.slice A n c] = some x) : n ≤ c := by
 rcases open_slice hT h with ⟨hc, _⟩ | ⟨a, len, cap, m, k, D, Pl, hc, _, hl, _⟩
 ·injection hc with hc
  injection hc with _ h2 h3
  omega
 ·injection hc with hc
  injection hc with _ h2 h3
  omega
theorem read_op {fuel : Nat} {cs : List Value} {x : DataW H × List MemPlace} (h : DataW.trod enc Tryz.prog w base spare held fuel 186 cs = some x) : ∃ q : OpW, cs = q.cells ∧ OpOK w q := by
 have hl : cs.length = 5 := (fld_len Tryz.underlying186 h).trans Tryz.cells186
 match cs, hl with
 | [c0, c1, c2, c3, c4], _ =>
  obtain ⟨_, _, h0⟩ := fld Tryz.underlying186 h 0 5 0 _ rfl Tryz.cells5
  obtain ⟨_, _, h1⟩ := fld Tryz.underlying186 h 1 2 1 _ rfl Tryz.cells2
  obtain ⟨_, _, h2⟩ := fld Tryz.underlying186 h 2 2 2 _ rfl Tryz.cells2
  obtain ⟨_, _, h3⟩ := fld Tryz.underlying186 h 3 3 3 _ rfl Tryz.cells3
  obtain ⟨_, _, h4⟩ := fld Tryz.underlying186 h 4 43 4 _ rfl Tryz.cells43
  clear h
  simp only [List.drop_zero, List.drop_succ_cons, List.take_succ_cons, List.take_zero] at h0 h1 h2 h3 h4
  obtain ⟨k, e0, _, w0⟩ := DataW.trod_int Tryz.underlying5 h0
  obtain ⟨v, e1, _, w1⟩ := DataW.trod_int Tryz.underlying2 h1
  obtain ⟨n, e2, _, w2⟩ := DataW.trod_int Tryz.underlying2 h2
  obtain ⟨b, e3, _, w3⟩ := DataW.trod_int Tryz.underlying3 h3
  simp at e0 e1 e2 e3
  subst e0; subst e1; subst e2; subst e3
  obtain ⟨A, c, bs, rfl, hrd, _, _⟩ := read_slice under43 Tryz.cells5 (by decide) (fun u : UInt8 => [u8v u]) (fun _ => rfl) (fun _ => True) (fun h => read_u8 h) h4
  rw [flat_u8] at hrd
  have m3 : IntKind.u8.min = 0 := rfl
  have m4 : IntKind.u8.max = 255 := rfl
  simp [Lit.wf, m3, m4] at w0
  obtain ⟨k', rfl⟩ : ∃ k' : Nat, k = k' := ⟨k.toNat, by omega⟩
  exact ⟨⟨k', v, n, b, A, c, bs⟩, rfl, by simp only; omega, w1, w2, wf_i64 w3, ByL.of_rd hrd nR0, read_cap under43 h4⟩
theorem read_ops {T fuel : Nat} (hT : Tryz.prog.underlying T = some (.slice 186)) {v : Value} {x : DataW H × List MemPlace} (h : DataW.trod enc Tryz.prog w base spare held fuel T [v] = some x) :
  ∃ A c, ∃ l : List OpW, v = .slice A l.length c ∧ Rd w w.heap.size 5 A l.length (l.flatMap OpW.cells) ∧ ∀ o ∈ l, OpOK w o := by
 obtain ⟨A, c, l, h1, h2, h3, _⟩ := read_slice hT Tryz.cells186 (by decide) OpW.cells OpW.cells_len (OpOK w) (fun h => read_op h) h
 exact ⟨A, c, l, h1, h2, h3⟩
end
end Go.Proofs.YtmgmfnimaafkdaaGreatDoor
