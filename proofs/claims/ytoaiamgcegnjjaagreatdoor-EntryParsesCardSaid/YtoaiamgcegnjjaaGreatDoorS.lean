/- Structs that came in are opened to their cells. No condition. -/
import Derived.Test.YtoaiamgcegnjjaaGreatDoorME
import Derived.ProofKit
import Derived.SliceStrings
namespace Go.Proofs.YtoaiamgcegnjjaaGreatDoor
open Go.RowKit Go.ChangeShapes Go.WideShapes
set_option maxRecDepth 100000

theorem Tryz.cells2 : Tryz.prog.cellsOf 2 = 1 := by kernel_rfl
theorem Tryz.cells3 : Tryz.prog.cellsOf 3 = 1 := by kernel_rfl
theorem Tryz.cells4 : Tryz.prog.cellsOf 4 = 1 := by kernel_rfl
theorem Tryz.cells5 : Tryz.prog.cellsOf 5 = 1 := by kernel_rfl
theorem Tryz.cells9 : Tryz.prog.cellsOf 9 = 1 := by kernel_rfl
theorem Tryz.cells36 : Tryz.prog.cellsOf 36 = 2 := by kernel_rfl
theorem Tryz.cells37 : Tryz.prog.cellsOf 37 = 1 := by kernel_rfl
theorem Tryz.cells39 : Tryz.prog.cellsOf 39 = 11 := by kernel_rfl
theorem Tryz.cells41 : Tryz.prog.cellsOf 41 = 2 := by kernel_rfl
theorem Tryz.cells43 : Tryz.prog.cellsOf 43 = 15 := by kernel_rfl
theorem Tryz.cells45 : Tryz.prog.cellsOf 45 = 3 := by kernel_rfl
theorem Tryz.cells47 : Tryz.prog.cellsOf 47 = 25 := by kernel_rfl

/-- a number that its kind can hold -/
def Wf (x : Int) : Prop := (Lit.int .i64 x).wf = true

section
variable {H : Type} {enc : TypeId × Value → H} {P : Program} {w : World} {base : Nat} {spare : Nat → Bool} {held : Bool}

/-- one field of a struct that reads -/
theorem fld {t : TypeId} {fs : Array Field} {fuel : Nat} {cs : List Value} {x : DataW H × List MemPlace} (ht : P.underlying t = some (.struct fs)) (h : DataW.trod enc P w base spare held fuel t cs = some x) (i T o k : Nat) (hf : (fs[i]?).map (fun f => (f.type, f.offset)) = some (T, o)) (hc : P.cellsOf T = k) :
    ∃ n y, DataW.trod enc P w base spare held n T ((cs.drop o).take k) = some y := by
  obtain ⟨xs, n, _, _, _, hlen, hg⟩ := DataW.trod_struct ht h
  cases hfi : fs[i]? with
  | none => rw [hfi] at hf; cases hf
  | some f =>
    rw [hfi] at hf
    simp only [Option.map_some, Option.some.injEq, Prod.mk.injEq] at hf
    obtain ⟨rfl, rfl⟩ := hf
    subst hc
    have := hg i f hfi
    have hi : i < xs.length := by rw [hlen]; exact (Array.getElem?_eq_some_iff.1 hfi).1
    rw [List.getElem?_eq_getElem hi] at this
    exact ⟨n, _, this⟩
theorem fld_len {t : TypeId} {fs : Array Field} {fuel : Nat} {cs : List Value} {x : DataW H × List MemPlace} (ht : P.underlying t = some (.struct fs)) (h : DataW.trod enc P w base spare held fuel t cs = some x) : cs.length = P.cellsOf t := by
  obtain ⟨xs, n, _, _, hl, _⟩ := DataW.trod_struct ht h
  exact hl

theorem cell_lt {w : World} {a : Addr} {v : Value} (h : w.cell? a = some v) : a.block < w.heap.size := by
  by_cases hb : a.block < w.heap.size
  · exact hb
  · unfold World.cell? at h
    rw [Array.getElem?_eq_none (by omega)] at h
    simp at h

/-- a slice of strings that came in -/
theorem read_strs {fuel : Nat} {c : Value} {x : DataW H × List MemPlace} (h : DataW.trod enc Tryz.prog w base spare held fuel 37 [c] = some x) :
    ∃ A n cap ks, c = .slice A n cap ∧ n ≤ cap ∧ cap ≤ maxLen ∧ Strs w w.heap.size A n ks ∧ ∀ s ∈ ks, s.size ≤ maxLen := by
  rcases open_strings Tryz.underlying37 Tryz.underlying9 Tryz.cells9 h with ⟨hc, _⟩ | ⟨a, len, cap, ss, hc, _, hl, hm, hz, _, hcell, hs⟩
  · injection hc with hc
    exact ⟨none, 0, 0, [], hc, Nat.le_refl _, Nat.zero_le _, Rd.nil, by simp⟩
  · injection hc with hc
    have hle : len ≤ ss.length := by rw [hz]; split <;> omega
    refine ⟨some a, len, cap, ss.take len, hc, hl, hm, ⟨by simp; omega, fun hn => ?_⟩, fun s hs' => hs s (List.mem_of_mem_take hs')⟩
    have h0 := hcell 0 (by omega)
    obtain ⟨b, off, spot⟩ := a
    have hspot : spot = none := by simpa [Addr.add] using World.cell?_spot h0
    subst hspot
    refine ⟨b, off, rfl, ?_, fun j hj => ?_⟩
    · simpa [Addr.add] using cell_lt h0
    · have hj' : j < len ∧ j < ss.length := by simp at hj; omega
      have := hcell j hj'.2
      rw [addr_add] at this
      rw [this]
      simp [hj'.2]

theorem read_tag {fuel : Nat} {c0 c1 : Value} {x : DataW H × List MemPlace} (h : DataW.trod enc Tryz.prog w base spare held fuel 36 [c0, c1] = some x) :
    ∃ (s : ByteArray) (b : Bool), c0 = .string s ∧ c1 = .bool b ∧ s.size ≤ maxLen := by
  obtain ⟨_, _, h0⟩ := fld Tryz.underlying36 h 0 9 0 _ rfl Tryz.cells9
  obtain ⟨_, _, h1⟩ := fld Tryz.underlying36 h 1 4 1 _ rfl Tryz.cells4
  simp only [List.drop_zero, List.drop_succ_cons, List.take_succ_cons, List.take_zero] at h0 h1
  obtain ⟨s, e0, _, hs⟩ := DataW.trod_string Tryz.underlying9 h0
  obtain ⟨b, e1, _⟩ := DataW.trod_bool Tryz.underlying4 h1
  simp only [List.cons.injEq, and_true] at e0 e1
  exact ⟨s, b, e0, e1, hs⟩

theorem read_int2 {fuel : Nat} {c : Value} {x : DataW H × List MemPlace} (h : DataW.trod enc Tryz.prog w base spare held fuel 2 [c] = some x) : ∃ n : Int, c = .int .i64 n ∧ Wf n := by
  obtain ⟨n, e, _, hw⟩ := DataW.trod_int Tryz.underlying2 h
  simp only [List.cons.injEq, and_true] at e
  exact ⟨n, e, hw⟩
theorem read_str9 {fuel : Nat} {c : Value} {x : DataW H × List MemPlace} (h : DataW.trod enc Tryz.prog w base spare held fuel 9 [c] = some x) : ∃ s : ByteArray, c = .string s ∧ s.size ≤ maxLen := by
  obtain ⟨n, e, _, hw⟩ := DataW.trod_string Tryz.underlying9 h
  simp only [List.cons.injEq, and_true] at e
  exact ⟨n, e, hw⟩
theorem read_bool4 {fuel : Nat} {c : Value} {x : DataW H × List MemPlace} (h : DataW.trod enc Tryz.prog w base spare held fuel 4 [c] = some x) : ∃ b : Bool, c = .bool b := by
  obtain ⟨n, e, _⟩ := DataW.trod_bool Tryz.underlying4 h
  simp only [List.cons.injEq, and_true] at e
  exact ⟨n, e⟩

/-- the numbers of a Meta can be held, its texts are short enough -/
structure MetaS.Fits (M : MetaS) : Prop where
  t : M.t.size ≤ maxLen
  mo : Wf M.mo
  le : Wf M.le
  ha : Wf M.ha
  fr : Wf M.fr
  wh : Wf M.wh
  er : Wf M.er
  ks : ∀ s ∈ M.ks, s.size ≤ maxLen
  ten : M.ten.size ≤ maxLen

theorem read_meta {fuel : Nat} {cs : List Value} {x : DataW H × List MemPlace} (h : DataW.trod enc Tryz.prog w base spare held fuel 39 cs = some x) :
    ∃ (M : MetaS) (A : Option Addr) (n c : Nat), cs = (metaC M.t M.wk M.mo M.le M.ha M.fr M.wh M.er A n c M.ten M.kp).toList ∧ n ≤ c ∧ c ≤ maxLen ∧ Strs w w.heap.size A n M.ks ∧ M.Fits := by
  have hl := (fld_len Tryz.underlying39 h).trans Tryz.cells39
  match cs, hl with
  | [c0, c1, c2, c3, c4, c5, c6, c7, c8, c9, c10], _ =>
    obtain ⟨_, _, h0⟩ := fld Tryz.underlying39 h 0 36 0 _ rfl Tryz.cells36
    obtain ⟨_, _, h1⟩ := fld Tryz.underlying39 h 1 2 2 _ rfl Tryz.cells2
    obtain ⟨_, _, h2⟩ := fld Tryz.underlying39 h 2 2 3 _ rfl Tryz.cells2
    obtain ⟨_, _, h3⟩ := fld Tryz.underlying39 h 3 2 4 _ rfl Tryz.cells2
    obtain ⟨_, _, h4⟩ := fld Tryz.underlying39 h 4 2 5 _ rfl Tryz.cells2
    obtain ⟨_, _, h5⟩ := fld Tryz.underlying39 h 5 2 6 _ rfl Tryz.cells2
    obtain ⟨_, _, h6⟩ := fld Tryz.underlying39 h 6 2 7 _ rfl Tryz.cells2
    obtain ⟨_, _, h7⟩ := fld Tryz.underlying39 h 7 37 8 _ rfl Tryz.cells37
    obtain ⟨_, _, h8⟩ := fld Tryz.underlying39 h 8 9 9 _ rfl Tryz.cells9
    obtain ⟨_, _, h9⟩ := fld Tryz.underlying39 h 9 4 10 _ rfl Tryz.cells4
    clear h
    simp only [List.drop_zero, List.drop_succ_cons, List.take_succ_cons, List.take_zero] at h0 h1 h2 h3 h4 h5 h6 h7 h8 h9
    obtain ⟨t, wk, rfl, rfl, ht⟩ := read_tag h0
    obtain ⟨mo, rfl, w1⟩ := read_int2 h1
    obtain ⟨le, rfl, w2⟩ := read_int2 h2
    obtain ⟨ha, rfl, w3⟩ := read_int2 h3
    obtain ⟨fr, rfl, w4⟩ := read_int2 h4
    obtain ⟨wh, rfl, w5⟩ := read_int2 h5
    obtain ⟨er, rfl, w6⟩ := read_int2 h6
    obtain ⟨A, n, c, ks, rfl, hnc, hcm, hst, hks⟩ := read_strs h7
    obtain ⟨ten, rfl, w8⟩ := read_str9 h8
    obtain ⟨kp, rfl⟩ := read_bool4 h9
    exact ⟨⟨t, wk, mo, le, ha, fr, wh, er, ks, ten, kp⟩, A, n, c, rfl, hnc, hcm, hst, ⟨ht, w1, w2, w3, w4, w5, w6, hks, w8⟩⟩

theorem read_span {fuel : Nat} {c0 c1 : Value} {x : DataW H × List MemPlace} (h : DataW.trod enc Tryz.prog w base spare held fuel 41 [c0, c1] = some x) : ∃ f t : Int, c0 = .int .i64 f ∧ c1 = .int .i64 t ∧ Wf f ∧ Wf t := by
  obtain ⟨_, _, h0⟩ := fld Tryz.underlying41 h 0 2 0 _ rfl Tryz.cells2
  obtain ⟨_, _, h1⟩ := fld Tryz.underlying41 h 1 2 1 _ rfl Tryz.cells2
  simp only [List.drop_zero, List.drop_succ_cons, List.take_succ_cons, List.take_zero] at h0 h1
  obtain ⟨f, rfl, w0⟩ := read_int2 h0
  obtain ⟨t, rfl, w1⟩ := read_int2 h1
  exact ⟨f, t, rfl, rfl, w0, w1⟩

theorem read_asked {fuel : Nat} {c0 c1 c2 : Value} {x : DataW H × List MemPlace} (h : DataW.trod enc Tryz.prog w base spare held fuel 45 [c0, c1, c2] = some x) : ∃ a b c : Int, c0 = .int .i64 a ∧ c1 = .int .i64 b ∧ c2 = .int .i64 c ∧ Wf a ∧ Wf b ∧ Wf c := by
  obtain ⟨_, _, h0⟩ := fld Tryz.underlying45 h 0 2 0 _ rfl Tryz.cells2
  obtain ⟨_, _, h1⟩ := fld Tryz.underlying45 h 1 2 1 _ rfl Tryz.cells2
  obtain ⟨_, _, h2⟩ := fld Tryz.underlying45 h 2 2 2 _ rfl Tryz.cells2
  simp only [List.drop_zero, List.drop_succ_cons, List.take_succ_cons, List.take_zero] at h0 h1 h2
  obtain ⟨f, rfl, w0⟩ := read_int2 h0
  obtain ⟨t, rfl, w1⟩ := read_int2 h1
  obtain ⟨u, rfl, w2⟩ := read_int2 h2
  exact ⟨f, t, u, rfl, rfl, rfl, w0, w1, w2⟩

theorem read_reply {fuel : Nat} {cs : List Value} {x : DataW H × List MemPlace} (h : DataW.trod enc Tryz.prog w base spare held fuel 43 cs = some x) :
    ∃ (st : Int) (M : MetaS) (A : Option Addr) (n c : Nat) (sf sto age : Int), cs = (replyC st M A n c sf sto age).toList ∧ n ≤ c ∧ c ≤ maxLen ∧ Strs w w.heap.size A n M.ks ∧ M.Fits ∧ Wf age := by
  have hl := (fld_len Tryz.underlying43 h).trans Tryz.cells43
  match cs, hl with
  | [c0, c1, c2, c3, c4, c5, c6, c7, c8, c9, c10, c11, c12, c13, c14], _ =>
    obtain ⟨_, _, h0⟩ := fld Tryz.underlying43 h 0 3 0 _ rfl Tryz.cells3
    obtain ⟨_, _, h1⟩ := fld Tryz.underlying43 h 1 39 1 _ rfl Tryz.cells39
    obtain ⟨_, _, h2⟩ := fld Tryz.underlying43 h 2 41 12 _ rfl Tryz.cells41
    obtain ⟨_, _, h3⟩ := fld Tryz.underlying43 h 3 2 14 _ rfl Tryz.cells2
    clear h
    simp only [List.drop_zero, List.drop_succ_cons, List.take_succ_cons, List.take_zero] at h0 h1 h2 h3
    obtain ⟨st, e0, _, _⟩ := DataW.trod_int Tryz.underlying3 h0
    simp only [List.cons.injEq, and_true] at e0
    obtain ⟨M, A, n, c, e1, hnc, hcm, hst, hM⟩ := read_meta h1
    simp only [List.cons.injEq, and_true] at e1
    obtain ⟨rfl, rfl, rfl, rfl, rfl, rfl, rfl, rfl, rfl, rfl, rfl⟩ := e1
    obtain ⟨sf, sto, rfl, rfl, _, _⟩ := read_span h2
    obtain ⟨age, rfl, wa⟩ := read_int2 h3
    subst e0
    exact ⟨st, M, A, n, c, sf, sto, age, rfl, hnc, hcm, hst, hM, wa⟩

theorem read_act {fuel : Nat} {cs : List Value} {x : DataW H × List MemPlace} (h : DataW.trod enc Tryz.prog w base spare held fuel 47 cs = some x) :
    ∃ (kd : Int) (obj : ByteArray) (st : Int) (M : MetaS) (A : Option Addr) (n c : Nat) (sf sto age ti mo ge id f t hv ln : Int), cs = (actC kd obj st M A n c sf sto age ti mo ge id f t hv ln).toList ∧ n ≤ c ∧ c ≤ maxLen ∧ Strs w w.heap.size A n M.ks ∧ M.Fits ∧ Wf age ∧
      obj.size ≤ maxLen ∧ (Lit.int .u8 kd).wf = true ∧ Wf ti ∧ Wf mo ∧ Wf ge ∧ Wf id ∧ Wf f ∧ Wf t ∧ Wf hv ∧ Wf ln := by
  have hl := (fld_len Tryz.underlying47 h).trans Tryz.cells47
  match cs, hl with
  | [c0, c1, c2, c3, c4, c5, c6, c7, c8, c9, c10, c11, c12, c13, c14, c15, c16, c17, c18, c19, c20, c21, c22, c23, c24], _ =>
    obtain ⟨_, _, h0⟩ := fld Tryz.underlying47 h 0 5 0 _ rfl Tryz.cells5
    obtain ⟨_, _, h1⟩ := fld Tryz.underlying47 h 1 9 1 _ rfl Tryz.cells9
    obtain ⟨_, _, h2⟩ := fld Tryz.underlying47 h 2 43 2 _ rfl Tryz.cells43
    obtain ⟨_, _, h3⟩ := fld Tryz.underlying47 h 3 45 17 _ rfl Tryz.cells45
    obtain ⟨_, _, h4⟩ := fld Tryz.underlying47 h 4 2 20 _ rfl Tryz.cells2
    obtain ⟨_, _, h5⟩ := fld Tryz.underlying47 h 5 41 21 _ rfl Tryz.cells41
    obtain ⟨_, _, h6⟩ := fld Tryz.underlying47 h 6 2 23 _ rfl Tryz.cells2
    obtain ⟨_, _, h7⟩ := fld Tryz.underlying47 h 7 2 24 _ rfl Tryz.cells2
    clear h
    simp only [List.drop_zero, List.drop_succ_cons, List.take_succ_cons, List.take_zero] at h0 h1 h2 h3 h4 h5 h6 h7
    obtain ⟨kd, e0, _, wkd⟩ := DataW.trod_int Tryz.underlying5 h0
    simp only [List.cons.injEq, and_true] at e0
    obtain ⟨obj, rfl, wo⟩ := read_str9 h1
    obtain ⟨st, M, A, n, c, sf, sto, age, e1, hnc, hcm, hst, hM, wa⟩ := read_reply h2
    simp only [List.cons.injEq, and_true] at e1
    obtain ⟨rfl, rfl, rfl, rfl, rfl, rfl, rfl, rfl, rfl, rfl, rfl, rfl, rfl, rfl, rfl⟩ := e1
    obtain ⟨ti, mo, ge, rfl, rfl, rfl, w1, w2, w3⟩ := read_asked h3
    obtain ⟨id, rfl, w4⟩ := read_int2 h4
    obtain ⟨f, t, rfl, rfl, w5, w6⟩ := read_span h5
    obtain ⟨hv, rfl, w7⟩ := read_int2 h6
    obtain ⟨ln, rfl, w8⟩ := read_int2 h7
    subst e0
    exact ⟨kd, obj, st, M, A, n, c, sf, sto, age, ti, mo, ge, id, f, t, hv, ln, rfl, hnc, hcm, hst, hM, wa, wo, wkd, w1, w2, w3, w4, w5, w6, w7, w8⟩
end
end Go.Proofs.YtoaiamgcegnjjaaGreatDoor
