/- The reference's Same, of what is the same; the law's back. No condition. -/
import Derived.Test.YtoaiamgcegnjjaaGreatDoorMN
import Derived.Test.YtoaiamgcegnjjaaGreatDoorY2
namespace Go.Proofs.YtoaiamgcegnjjaaGreatDoor
open Go.RowKit Go.Maps Go.WideMaps Go.Sort
set_option maxRecDepth 100000

theorem meta_cells {w : World} {g : Nat} {M : MetaS} {A : Option Addr} {n c : Nat} {ty : TypeId} (h : Blk w g ty (metaC M.t M.wk M.mo M.le M.ha M.fr M.wh M.er A n c M.ten M.kp)) :
    w.cell? ⟨g, 0, none⟩ = some (.string M.t) ∧ w.cell? ⟨g, 1, none⟩ = some (.bool M.wk) ∧ w.cell? ⟨g, 2, none⟩ = some (.int .i64 M.mo) ∧ w.cell? ⟨g, 3, none⟩ = some (.int .i64 M.le) ∧ w.cell? ⟨g, 4, none⟩ = some (.int .i64 M.ha) ∧ w.cell? ⟨g, 5, none⟩ = some (.int .i64 M.fr) ∧ w.cell? ⟨g, 6, none⟩ = some (.int .i64 M.wh) ∧ w.cell? ⟨g, 7, none⟩ = some (.int .i64 M.er) ∧ w.cell? ⟨g, 8, none⟩ = some (.slice A n c) ∧ w.cell? ⟨g, 9, none⟩ = some (.string M.ten) ∧ w.cell? ⟨g, 10, none⟩ = some (.bool M.kp) := by
  refine ⟨?_, ?_, ?_, ?_, ?_, ?_, ?_, ?_, ?_, ?_, ?_⟩ <;> rw [h.cell] <;> rfl

set_option maxHeartbeats 1000000 in
theorem rmsame_any (M : MetaS) (A A' : Option Addr) (n c c' : Nat) (w : World) (h : Rd w w.heap.size 1 A n (M.ks.map Value.string)) (h' : Rd w w.heap.size 1 A' n (M.ks.map Value.string)) (hn : n ≤ 10000) :
    Calls Tryz.prog 105 #[.agg (metaC M.t M.wk M.mo M.le M.ha M.fr M.wh M.er A n c M.ten M.kp), .agg (metaC M.t M.wk M.mo M.le M.ha M.fr M.wh M.er A' n c' M.ten M.kp)] w fun e w' => e = .returned (.bool true) ∧ Below w.heap.size w w' := by
  have hl : M.ks.length = n := by have := h.1; simp at this; omega
  have HL := Lib.hid hl
  have hb0 : Below w.heap.size w ((w.alloc (.cells (metaC M.t M.wk M.mo M.le M.ha M.fr M.wh M.er A n c M.ten M.kp) 39)).alloc (.cells (metaC M.t M.wk M.mo M.le M.ha M.fr M.wh M.er A' n c' M.ten M.kp) 39)) := ((Below.refl _ _).alloc (Nat.le_refl _) _).alloc (by simp) _
  have k0 : Blk ((w.alloc (.cells (metaC M.t M.wk M.mo M.le M.ha M.fr M.wh M.er A n c M.ten M.kp) 39)).alloc (.cells (metaC M.t M.wk M.mo M.le M.ha M.fr M.wh M.er A' n c' M.ten M.kp) 39)) w.heap.size 39 (metaC M.t M.wk M.mo M.le M.ha M.fr M.wh M.er A n c M.ten M.kp) := (Blk.new w 39 _).alloc _
  have k1 : Blk ((w.alloc (.cells (metaC M.t M.wk M.mo M.le M.ha M.fr M.wh M.er A n c M.ten M.kp) 39)).alloc (.cells (metaC M.t M.wk M.mo M.le M.ha M.fr M.wh M.er A' n c' M.ten M.kp) 39)) (w.heap.size + 1) 39 (metaC M.t M.wk M.mo M.le M.ha M.fr M.wh M.er A' n c' M.ten M.kp) := new2 w _ 39 _
  have HR := Lib.hid h
  have HR' := Lib.hid h'
  clear h h' hl
  go_enter Tryz.func105, Tryz.ntmps105
  go_upto_region 1 with fail
  generalize (w.alloc (.cells (metaC M.t M.wk M.mo M.le M.ha M.fr M.wh M.er A n c M.ten M.kp) 39)).alloc (.cells (metaC M.t M.wk M.mo M.le M.ha M.fr M.wh M.er A' n c' M.ten M.kp) 39) = w1 at *
  obtain ⟨x0, x1, x2, x3, x4, x5, x6, x7, x8, x9, x10⟩ := meta_cells k0
  obtain ⟨y0, y1, y2, y3, y4, y5, y6, y7, y8, y9, y10⟩ := meta_cells k1
  have HB0 := Lib.hid hb0
  have K0 := Lib.hid k0
  have K1 := Lib.hid k1
  have hs1 := hb0.size
  clear hb0 k0 k1
  go_cut [75] (fun z wy => z = .bool false ∧ wy = w1)
  case first =>
    go_wp2_with fail
    go_meet
    exact ⟨rfl, rfl⟩
  case rest =>
    obtain ⟨rfl, rfl⟩ := hcut
    clear x0 x1 x2 x3 x4 x5 x6 x7 x9 x10 y0 y1 y2 y3 y4 y5 y6 y7 y9 y10 x8 y8
    go_wp2_with fail
    go_loopw [5] (fun i wr => ∃ k : Nat, k ≤ n ∧ i = .int .i64 k ∧ Below wc.heap.size wc wr) (fun i _ => n - (intOf i).toNat)
    case atStart => exact ⟨0, Nat.zero_le _, rfl, Below.refl _ _⟩
    case round =>
      obtain ⟨k, hk, rfl, hb⟩ := hrel
      have HB := Lib.hid hb
      have HBW := Lib.hid (HB0.out.trans (hb.mono hs1))
      have x8 : wr.cell? ⟨w.heap.size, 8, none⟩ = some (.slice A n c) := ((K0.out.below hb K0.out.lt).cell 8).trans rfl
      have y8 : wr.cell? ⟨w.heap.size + 1, 8, none⟩ = some (.slice A' n c') := ((K1.out.below hb K1.out.lt).cell 8).trans rfl
      clear hb
      by_cases hlt : k < n
      · have hk' : k < M.ks.length := by have := HL.out; omega
        obtain ⟨b, o, rfl, hb, hx⟩ := (HR.out.below HBW.out (Nat.le_refl _)).2 (by omega)
        obtain ⟨b', o', rfl, hb', hy⟩ := (HR'.out.below HBW.out (Nat.le_refl _)).2 (by omega)
        have x0 := hx k (by simpa using hk')
        have y0 := hy k (by simpa using hk')
        rw [List.getElem_map] at x0 y0
        clear hx hy
        generalize M.ks[k] = p at *
        have i1 : (0 : Int) ≤ (k : Int) := by omega
        have i2 : (k : Int) < (n : Int) := by omega
        go_wp2_with fail
        go_quiet (fail)
        go_wp2_with fail
        go_roundw
        case rel => exact ⟨k + 1, by omega, by go_num, below_drewN HB.out _⟩
        case measure => simp [intOf]; omega
      · obtain rfl : k = n := by omega
        go_wp2_with fail
        go_ret
        exact ⟨rfl, HBW.out⟩

/-- the two entries are told the same -/
def RE.told (a b : RE) : Prop := a.id = b.id ∧ a.obj = b.obj ∧ a.M = b.M ∧ a.said = b.said ∧ a.mom = b.mom ∧ a.gen = b.gen ∧ a.last = b.last

theorem row54_cells {w : World} {g : Nat} {r : RM} (h : Blk w g 54 r.row) :
    w.cell? ⟨g, 0, none⟩ = some (.int .i64 r.e.id) ∧ w.cell? ⟨g, 1, none⟩ = some (.string r.e.obj) ∧ w.cell? ⟨g, 2, none⟩ = some (.string r.e.M.t) ∧ w.cell? ⟨g, 3, none⟩ = some (.bool r.e.M.wk) ∧ w.cell? ⟨g, 4, none⟩ = some (.int .i64 r.e.M.mo) ∧ w.cell? ⟨g, 5, none⟩ = some (.int .i64 r.e.M.le) ∧ w.cell? ⟨g, 6, none⟩ = some (.int .i64 r.e.M.ha) ∧
    w.cell? ⟨g, 7, none⟩ = some (.int .i64 r.e.M.fr) ∧ w.cell? ⟨g, 8, none⟩ = some (.int .i64 r.e.M.wh) ∧ w.cell? ⟨g, 9, none⟩ = some (.int .i64 r.e.M.er) ∧ w.cell? ⟨g, 10, none⟩ = some (.slice r.kA r.kn r.kc) ∧ w.cell? ⟨g, 11, none⟩ = some (.string r.e.M.ten) ∧ w.cell? ⟨g, 12, none⟩ = some (.bool r.e.M.kp) ∧ w.cell? ⟨g, 13, none⟩ = some (.int .i64 r.e.said) ∧ w.cell? ⟨g, 14, none⟩ = some (.int .i64 r.e.mom) ∧ w.cell? ⟨g, 15, none⟩ = some (.int .i64 r.e.gen) ∧ w.cell? ⟨g, 16, none⟩ = some (.bool r.e.last) := by
  refine ⟨?_, ?_, ?_, ?_, ?_, ?_, ?_, ?_, ?_, ?_, ?_, ?_, ?_, ?_, ?_, ?_, ?_⟩ <;> rw [h.cell] <;> rfl

set_option maxHeartbeats 2000000 in
theorem rsame_any (r s : RM) (w : World) (ht : r.e.told s.e) (h : Rd w w.heap.size 1 r.kA r.kn (r.e.M.ks.map Value.string)) (h' : Rd w w.heap.size 1 s.kA s.kn (s.e.M.ks.map Value.string)) (hn : r.kn ≤ 10000) :
    Calls Tryz.prog 41 #[.agg r.row, .agg s.row] w fun e w' => e = .returned (.bool true) ∧ Below w.heap.size w w' := by
  obtain ⟨⟨id, obj, M, said, mom, gen, last, has⟩, kA, kn, kc, hA, hn', hc⟩ := r
  obtain ⟨⟨id', obj', M', said', mom', gen', last', has'⟩, kA', kn', kc', hA', hn'', hc'⟩ := s
  obtain ⟨h1, h2, h3, h4, h5, h6, h7⟩ := ht
  dsimp only at h1 h2 h3 h4 h5 h6 h7 h h' hn
  subst h1 h2 h3 h4 h5 h6 h7
  have hkk : kn' = kn := by have h1 := h.1; have h2 := h'.1; omega
  subst hkk
  generalize hR : (⟨⟨id, obj, M, said, mom, gen, last, has⟩, kA, kn', kc, hA, hn', hc⟩ : RM) = R
  generalize hS : (⟨⟨id, obj, M, said, mom, gen, last, has'⟩, kA', kn', kc', hA', hn'', hc'⟩ : RM) = S
  have hb0 : Below w.heap.size w ((w.alloc (.cells R.row 54)).alloc (.cells S.row 54)) := ((Below.refl _ _).alloc (Nat.le_refl _) _).alloc (by simp) _
  have k0 : Blk ((w.alloc (.cells R.row 54)).alloc (.cells S.row 54)) w.heap.size 54 R.row := (Blk.new w 54 _).alloc _
  have k1 : Blk ((w.alloc (.cells R.row 54)).alloc (.cells S.row 54)) (w.heap.size + 1) 54 S.row := new2 w _ 54 _
  have HR := Lib.hid h
  have HR' := Lib.hid h'
  clear h h'
  go_enter Tryz.func41, Tryz.ntmps41
  go_upto_region 1 with fail
  generalize (w.alloc (.cells R.row 54)).alloc (.cells S.row 54) = w1 at *
  obtain ⟨x0, x1, x2, x3, x4, x5, x6, x7, x8, x9, x10, x11, x12, x13, x14, x15, x16⟩ := row54_cells k0
  obtain ⟨y0, y1, y2, y3, y4, y5, y6, y7, y8, y9, y10, y11, y12, y13, y14, y15, y16⟩ := row54_cells k1
  have HB0 := Lib.hid hb0
  have K0 := Lib.hid k0
  have K1 := Lib.hid k1
  clear hb0 k0 k1
  have HRR := Lib.hid hR
  have HSS := Lib.hid hS
  rw [← hR] at x0 x1 x2 x3 x4 x5 x6 x7 x8 x9 x10 x11 x12 x13 x14 x15 x16
  rw [← hS] at y0 y1 y2 y3 y4 y5 y6 y7 y8 y9 y10 y11 y12 y13 y14 y15 y16
  dsimp only at x0 x1 x2 x3 x4 x5 x6 x7 x8 x9 x10 x11 x12 x13 x14 x15 x16 y0 y1 y2 y3 y4 y5 y6 y7 y8 y9 y10 y11 y12 y13 y14 y15 y16
  clear hR hS
  go_wp2_with fail
  refine (rmsame_any M kA kA' kn' kc kc' w1 (HR.out.below HB0.out HB0.out.size) (HR'.out.below HB0.out HB0.out.size) hn).mono ?_
  rintro en w2 ⟨rfl, hb2⟩
  have HB2 := Lib.hid (HB0.out.trans (hb2.mono HB0.out.size))
  clear x0 x1 x2 x3 x4 x5 x6 x7 x8 x9 x10 x11 x12 x13 x14 x15 x16 y0 y1 y2 y3 y4 y5 y6 y7 y8 y9 y10 y11 y12 y13 y14 y15 y16
  obtain ⟨-, -, -, -, -, -, -, -, -, -, -, -, -, x13, x14, x15, x16⟩ := row54_cells (K0.out.below hb2 K0.out.lt)
  obtain ⟨-, -, -, -, -, -, -, -, -, -, -, -, -, y13, y14, y15, y16⟩ := row54_cells (K1.out.below hb2 K1.out.lt)
  rw [← HRR.out] at x13 x14 x15 x16
  rw [← HSS.out] at y13 y14 y15 y16
  dsimp only at x13 x14 x15 x16 y13 y14 y15 y16
  clear hb2
  go_wp2_with fail
  go_ret
  exact ⟨by simp, HB2.out⟩
end Go.Proofs.YtoaiamgcegnjjaaGreatDoor
