/- The law's log: purges as the program, and the reference, have them. No condition. -/
import Derived.Test.YtoaiamgcegnjjaaGreatDoorVE
import Derived.Test.YtoaiamgcegnjjaaGreatDoorVB
namespace Go.Proofs.YtoaiamgcegnjjaaGreatDoor
open Go.RowKit Go.Maps Go.WideMaps Go.Sort
set_option maxRecDepth 100000

theorem built144 (r : LineM) : Tryz.prog.builtSlice 144 1 [(0, .agg r.cs)] = some r.cs := by kernel_rfl
theorem built145 (r : LineM) : Tryz.prog.builtSlice 145 1 [(0, .agg r.cs)] = some r.cs := by kernel_rfl

/-- a purge without its number, in memory -/
structure PgM where
  keys : List ByteArray
  hard : Bool
  A : Option Addr
  n : Nat
  c : Nat
abbrev PgM.cs (p : PgM) : Array Value := #[.slice p.A p.n p.c, .bool p.hard]
def PgM.cells (p : PgM) : List Value := p.cs.toList
theorem PgM.cells_len (p : PgM) : p.cells.length = 2 := rfl

abbrev zero67 : Array Value := #[.slice none 0 0, .int .i64 0]

/-- what log has built so far -/
structure LgW (W wr : World) (B : Nat) (v1 : Array Value) (fl : Int) (ms : List LineM) (LA : Option Addr) (lc : Nat) (PA : Option Addr) (pc : Nat) : Prop where
  below : Below W.heap.size W wr
  box : Blk wr W.heap.size 61 v1
  res : Blk wr (W.heap.size + 1) 67 zero67
  pur : Blk wr (W.heap.size + 1 + 1) 67 #[.slice PA ms.length pc, .int .i64 fl]
  ownL : wr.ownsRow (W.heap.size + 3) 144 3 (.slice LA ms.length lc) ms.length (ms.flatMap LineM.cells)
  ownP : wr.ownsRow (W.heap.size + 3) 145 3 (.slice PA ms.length pc) ms.length (ms.flatMap LineM.cells)
  keys : ∀ r ∈ ms, r.n ≤ 40 ∧ r.n ≤ r.c ∧ Strs W B r.A r.n r.l.keys
  nos : ∀ i (h : i < ms.length), ms[i].l.no = fl + i + 1
theorem LgW.to {W wr wy : World} {B : Nat} {v1 : Array Value} {fl : Int} {ms : List LineM} {LA : Option Addr} {lc : Nat} {PA : Option Addr} {pc : Nat} (h : LgW W wr B v1 fl ms LA lc PA pc) (hb : Below wr.heap.size wr wy) : LgW W wy B v1 fl ms LA lc PA pc :=
  { h with below := h.below.trans (hb.mono h.below.size), box := h.box.below hb h.box.lt, res := h.res.below hb h.res.lt, pur := h.pur.below hb h.pur.lt, ownL := own_kept h.ownL (gby_of_below hb) (fun g hg e => by cases e), ownP := own_kept h.ownP (gby_of_below hb) (fun g hg e => by cases e) }
theorem LgW.rise {W wr : World} {B : Nat} {v1 : Array Value} {fl : Int} {ms : List LineM} {LA : Option Addr} {lc : Nat} {PA : Option Addr} {pc : Nat} (h : LgW W wr B v1 fl ms LA lc PA pc) : Rise (ms.map (·.l)) := by
  unfold Rise
  rw [List.pairwise_map, List.pairwise_iff_getElem]
  intro i j hi hj hij
  rw [h.nos i hi, h.nos j hj]
  omega
/-- a line more -/
theorem LgW.push {W wr w3 w4 : World} {B : Nat} {v1 : Array Value} {fl : Int} {ms : List LineM} {LA LA2 : Option Addr} {lc lc2 : Nat} {PA PA2 : Option Addr} {pc pc2 : Nat} {q : LineM} (h : LgW W wr B v1 fl ms LA lc PA pc)
    (ho3 : w3.ownsRow (W.heap.size + 3) 144 3 (.slice LA2 (ms.length + 1) lc2) (ms.length + 1) (ms.flatMap LineM.cells ++ q.cs.toList)) (hg3 : wr.grownBy w3 (Value.slice LA ms.length lc).ownBlock)
    (ho4 : w4.ownsRow (W.heap.size + 3) 145 3 (.slice PA2 (ms.length + 1) pc2) (ms.length + 1) (ms.flatMap LineM.cells ++ q.cs.toList)) (hg4 : w3.grownBy w4 (Value.slice PA ms.length pc).ownBlock)
    (hq : q.n ≤ 40 ∧ q.n ≤ q.c ∧ Strs W B q.A q.n q.l.keys) (hno : q.l.no = fl + ms.length + 1) :
    LgW W (w4.setCell ⟨W.heap.size + 1 + 1, 0, none⟩ (.slice PA2 (ms.length + 1) pc2)) B v1 fl (ms ++ [q]) LA2 lc2 PA2 pc2 := by
  have e : (ms ++ [q]).length = ms.length + 1 := by simp
  have hlt := h.pur.lt
  have n3 : ∀ g, g < W.heap.size + 3 → (Value.slice LA ms.length lc).ownBlock ≠ some g := fun g hg e' => by
    have := (h.ownL.lt _ e').1
    omega
  have n4 : ∀ g, g < W.heap.size + 3 → (Value.slice PA ms.length pc).ownBlock ≠ some g := fun g hg e' => by
    have := (h.ownP.lt _ e').1
    omega
  have hs3 := hg3.size
  have ownP3 := own_kept h.ownP hg3 (fun g hg' e' => by
    have t1 := own_ty h.ownP hg'
    have t2 := own_ty h.ownL e'
    rw [t1] at t2
    simp at t2)
  have ho3' := own_kept ho3 hg4 (fun g hg' e' => by
    have t1 := own_ty ho3 hg'
    have t2 := own_ty ownP3 e'
    rw [t1] at t2
    simp at t2)
  have hb3 : Below W.heap.size W w3 := h.below.trans (grown_below hg3 (by omega) (fun g hg => by have := (h.ownL.lt g hg).1; omega))
  have hb4 : Below W.heap.size W w4 := hb3.trans (grown_below hg4 (by have := hb3.size; omega) (fun g hg => by have := (h.ownP.lt g hg).1; omega))
  refine ⟨below_set hb4 (by omega) _, ((h.box.grown hg3 (n3 _ (by omega))).grown hg4 (n4 _ (by omega))).far (by omega) _, ((h.res.grown hg3 (n3 _ (by omega))).grown hg4 (n4 _ (by omega))).far (by omega) _, ?_, ?_, ?_, fun r hr => ?_, fun i hi => ?_⟩
  · rw [e]
    exact ((h.pur.grown hg3 (n3 _ (by omega))).grown hg4 (n4 _ (by omega))).set 0 _
  · rw [e, List.flatMap_append]
    have := own_set ho3' (b := W.heap.size + 1 + 1) (o := 0) (by omega) (.slice PA2 (ms.length + 1) pc2)
    simpa [LineM.cells] using this
  · rw [e, List.flatMap_append]
    have := own_set ho4 (b := W.heap.size + 1 + 1) (o := 0) (by omega) (.slice PA2 (ms.length + 1) pc2)
    simpa [LineM.cells] using this
  · rw [List.mem_append, List.mem_singleton] at hr
    rcases hr with hr | rfl
    · exact h.keys r hr
    · exact hq
  · by_cases hil : i < ms.length
    · rw [List.getElem_append_left hil]
      exact h.nos i hil
    · have : i = ms.length := by simp at hi; omega
      subst this
      rw [List.getElem_append_right (by omega)]
      simpa using hno

/-- what log leaves -/
def LogPost (W : World) (fl : Int) (e : Ending) (w' : World) : Prop :=
  ∃ po PA pn pc ok, e = .returned (.tuple #[.pointer po, .agg #[.slice PA pn pc, .int .i64 fl], .bool ok]) ∧ Below W.heap.size W w' ∧ (ok = true → ∃ lb ms ms', po = some ⟨lb, 0, none⟩ ∧ LogAt w' w'.heap.size lb fl ms' ∧ PurR w' w'.heap.size PA pn ms ∧ ms'.map (·.l) = ms.map (·.l) ∧ Rise (ms.map (·.l)))

set_option maxHeartbeats 8000000 in
theorem log_any (A : Option Addr) (n c : Nat) (ps : List PgM) (fl : Int) (B : Nat) (W : World) (hr : Rd W B 2 A n (ps.flatMap PgM.cells)) (hk : ∀ p ∈ ps, p.n ≤ p.c ∧ p.n ≤ 9223372036854775807 ∧ Strs W B p.A p.n p.keys) (hB : B ≤ W.heap.size) (hn : n ≤ 9223372036854775807) :
    Calls Tryz.prog 18 #[.agg #[.int .i64 fl, .slice A n c]] W (LogPost W fl) := by
  obtain ⟨i0, hi0, hz00, hz01, hz02⟩ := info_parts info144
  obtain ⟨i5, hi5, hz50, hz51, hz52⟩ := info_parts info145
  have hpr : PR W W.heap.size 2 A n (ps.flatMap PgM.cells) := PR.of_old (hr.below (Below.refl _ _) hB) (Nat.le_refl _)
  obtain ⟨hl, hrow⟩ := hpr.row PgM.cells_len (by decide)
  have HLEN : Hid (ps.length = n) := by show ps.length = n; omega
  have HROW := Lib.hid hrow
  have HKEY := Lib.hid hk
  have hlg : LgW W (((W.alloc (.cells #[.int .i64 fl, .slice A n c] 61)).alloc (.cells zero67 67)).alloc (.cells #[.slice none 0 0, .int .i64 fl] 67)) B #[.int .i64 fl, .slice A n c] fl [] none 0 none 0 := by
    refine ⟨(((Below.refl _ _).alloc (Nat.le_refl _) _).alloc (by simp) _).alloc (by simp; omega) _, ((Blk.new W 61 _).alloc _).alloc _, (new2 W _ 67 _).alloc _, ?_, by simpa using World.ownsRow_nil _ _ 144 3, by simpa using World.ownsRow_nil _ _ 145 3, (fun r hr => by cases hr), fun i h => absurd h (by simp)⟩
    have := new2 (W.alloc (.cells #[.int .i64 fl, .slice A n c] 61)) (.cells zero67 67) 67 #[.slice none 0 0, .int .i64 fl]
    simpa using this
  clear hr hk hpr hl hrow
  go_enter Tryz.func18, Tryz.ntmps18
  go_upto_region 2 with fail
  generalize ((W.alloc (.cells #[.int .i64 fl, .slice A n c] 61)).alloc (.cells zero67 67)).alloc (.cells #[.slice none 0 0, .int .i64 fl] 67) = w0 at *
  have HLG := Lib.hid hlg
  have c0 : w0.cell? ⟨W.heap.size, 0, none⟩ = some (.int .i64 fl) := (hlg.box.cell 0).trans rfl
  have c1 : w0.cell? ⟨W.heap.size, 1, none⟩ = some (.slice A n c) := (hlg.box.cell 1).trans rfl
  -- the ways out that say no
  have OUT : Hid (∀ (wz : World) (ms : List LineM) (LA : Option Addr) (lc : Nat) (PA : Option Addr) (pc : Nat) (po : Option Addr), LgW W wz B #[.int .i64 fl, .slice A n c] fl ms LA lc PA pc → wz.cell? ⟨W.heap.size + 1 + 1, 0, none⟩ = some (.slice PA ms.length pc) ∧ wz.cell? ⟨W.heap.size + 1 + 1, 1, none⟩ = some (.int .i64 fl) ∧ (∀ i, wz.frozen? ⟨W.heap.size + 1, i, none⟩ = false) ∧ wz.cell? ⟨W.heap.size + 1, 0, none⟩ = some (.slice none 0 0) ∧ wz.cell? ⟨W.heap.size + 1, 1, none⟩ = some (.int .i64 0) ∧ LogPost W fl (.returned (.tuple #[.pointer po, .agg #[.slice PA ms.length pc, .int .i64 fl], .bool false])) ((wz.drew.setCell ⟨W.heap.size + 1, 0, none⟩ (.slice PA ms.length pc)).setCell ⟨W.heap.size + 1, 1, none⟩ (.int .i64 fl))) := by
    show ∀ (wz : World), _
    intro wz ms LA lc PA pc po h
    refine ⟨(h.pur.cell 0).trans rfl, (h.pur.cell 1).trans rfl, h.res.free', (h.res.cell 0).trans rfl, (h.res.cell 1).trans rfl, po, PA, ms.length, pc, false, rfl, below_set (below_set h.below.drew (by omega) _) (by omega) _, fun hh => by cases hh⟩
  have OUT0 := Lib.hid (OUT.out w0 [] none 0 none 0 none hlg)
  obtain ⟨o0, o1, of, r0, r1, _⟩ := OUT.out w0 [] none 0 none 0 none hlg
  clear hlg
  by_cases h1 : fl < 0
  · go_upto_region 4 with fail
    go_region
    all_goals
      go_wp2_with fail
      refine bodyPost_ret (v := .tuple #[.pointer none, .agg #[.slice none 0 0, .int .i64 fl], .bool false]) ?_ rfl OUT0.out.2.2.2.2.2
      simp [results, Tryz.results18, go_sem, r0, r1]
  by_cases h2 : (1000 : Int) < fl
  · go_upto_region 4 with fail
    go_region
    all_goals
      go_wp2_with fail
      refine bodyPost_ret (v := .tuple #[.pointer none, .agg #[.slice none 0 0, .int .i64 fl], .bool false]) ?_ rfl OUT0.out.2.2.2.2.2
      simp [results, Tryz.results18, go_sem, r0, r1]
  by_cases h3 : 20 < n
  · go_upto_region 4 with fail
    go_region
    all_goals
      go_wp2_with fail
      refine bodyPost_ret (v := .tuple #[.pointer none, .agg #[.slice none 0 0, .int .i64 fl], .bool false]) ?_ rfl OUT0.out.2.2.2.2.2
      simp [results, Tryz.results18, go_sem, r0, r1]
  clear o0 o1 of r0 r1 OUT0
  go_wp2_with fail
  go_loopw [6, 35] (fun l i wr => ∃ (ms : List LineM) (LA : Option Addr) (lc : Nat) (PA : Option Addr) (pc : Nat), ms.length ≤ n ∧ i = .int .i64 ms.length ∧ l = .slice LA ms.length lc ∧ LgW W wr B #[.int .i64 fl, .slice A n c] fl ms LA lc PA pc) (fun _ i _ => n - (intOf i).toNat)
  case atStart => exact ⟨[], none, 0, none, 0, Nat.zero_le _, rfl, rfl, HLG.out⟩
  case round =>
    obtain ⟨ms, LA, lc, PA, pc, hk, rfl, rfl, hlg⟩ := hrel
    have HLG := Lib.hid hlg
    have hsr := hlg.below.size
    have hres := hlg.pur.lt
    have c0 : wr.cell? ⟨W.heap.size, 0, none⟩ = some (.int .i64 fl) := (hlg.box.cell 0).trans rfl
    clear hlg
    generalize hkk : ms.length = k at *
    have HKK := Lib.hid hkk
    by_cases hlt : k < n
    · have hkm : k < ps.length := by have := HLEN.out; omega
      obtain ⟨b, o, rfl, hbl, hra⟩ := HROW.out k hkm
      obtain ⟨hq1, hq2, hq3⟩ := HKEY.out ps[k] (List.getElem_mem hkm)
      generalize ps[k] = p at *
      have HQ3 := Lib.hid hq3
      have d0 : wr.cell? ⟨b, o + k * 2, none⟩ = some (.slice p.A p.n p.c) := (HLG.out.below.cell (p := ⟨b, o + k * 2, none⟩) hbl).trans (hra 0 _ rfl)
      have d1 : wr.cell? ⟨b, o + k * 2 + 1, none⟩ = some (.bool p.hard) := (HLG.out.below.cell (p := ⟨b, o + k * 2 + 1, none⟩) hbl).trans (hra 1 _ rfl)
      have i1 : (0 : Int) ≤ (k : Int) := by omega
      have i2 : (k : Int) < (n : Int) := by omega
      clear hra hq3
      go_upto_region 8 with fail
      have hbx : Below wr.heap.size wr (wr.alloc (.cells p.cs 142)) := (Below.refl _ _).alloc (Nat.le_refl _) _
      have kx : Blk (wr.alloc (.cells p.cs 142)) wr.heap.size 142 p.cs := Blk.new _ _ _
      generalize wr.alloc (.cells p.cs 142) = wx at *
      have hlgx := HLG.out.to hbx
      have HLGX := Lib.hid hlgx
      have x0 : wx.cell? ⟨wr.heap.size, 0, none⟩ = some (.slice p.A p.n p.c) := (kx.cell 0).trans rfl
      have x1 : wx.cell? ⟨wr.heap.size, 1, none⟩ = some (.bool p.hard) := (kx.cell 1).trans rfl
      have KX := Lib.hid kx
      have hsx := kx.lt
      have OUTX := Lib.hid (OUT.out wx ms LA lc PA pc none hlgx)
      obtain ⟨o0, o1, of, r0, r1, _⟩ := OUT.out wx ms LA lc PA pc none hlgx
      rw [hkk] at o0
      have OX : Hid (LogPost W fl (.returned (.tuple #[.pointer none, .agg #[.slice PA k pc, .int .i64 fl], .bool false])) ((wx.drew.setCell ⟨W.heap.size + 1, 0, none⟩ (.slice PA k pc)).setCell ⟨W.heap.size + 1, 1, none⟩ (.int .i64 fl))) := by
        have := OUTX.out.2.2.2.2.2
        rw [hkk] at this
        exact this
      clear hbx kx hlgx d0 d1 c0 OUTX hkk
      by_cases h40 : 40 < p.n
      · go_upto_region 9 with fail
        go_region
        all_goals
          go_wp2_with fail
          refine bodyPost_ret (v := .tuple #[.pointer none, .agg #[.slice PA k pc, .int .i64 fl], .bool false]) ?_ rfl OX.out
          simp [results, Tryz.results18, go_sem, r0, r1]
      have HSX : Hid (Strs wx B p.A p.n p.keys) := HQ3.out.below (HLGX.out.below.mono hB) (Nat.le_refl _)
      have hpl := HSX.out.len
      generalize hgx : wr.heap.size = gx at *
      clear hgx
      generalize wr = wA at *
      go_wp2_with fail
      go_loop [48] (fun i => ∃ j : Nat, j ≤ p.n ∧ i = .int .i64 j) (fun i => p.n - (intOf i).toNat)
      case atStart => exact ⟨0, Nat.zero_le _, rfl⟩
      case round =>
        obtain ⟨j, hj, rfl⟩ := hrel
        by_cases hlj : j < p.n
        · obtain ⟨b2, o2, hA2, _, hc2⟩ := HSX.out.at_ (by omega)
          have hjk : j < p.keys.length := by omega
          have hcj := hc2 j hjk
          rw [hA2]
          rw [hA2] at x0
          generalize p.keys[j] = key at *
          have j1 : (0 : Int) ≤ (j : Int) := by omega
          have j2 : (j : Int) < (p.n : Int) := by omega
          clear hc2 hA2
          by_cases h300 : (300 : Int) < (key.size : Int)
          · go_upto_region 14 with fail
            go_region
            all_goals
              go_wp2_with fail
              refine bodyPost_ret (v := .tuple #[.pointer none, .agg #[.slice PA k pc, .int .i64 fl], .bool false]) ?_ rfl OX.out
              simp [results, Tryz.results18, go_sem, r0, r1]
          · go_wp2_with fail
            exact ⟨⟨j + 1, by omega, by go_num⟩, by simp [intOf]; omega⟩
        · obtain rfl : j = p.n := by omega
          have c0 : wx.cell? ⟨W.heap.size, 0, none⟩ = some (.int .i64 fl) := (HLGX.out.box.cell 0).trans rfl
          have OWNL : Hid (wx.ownsRow (W.heap.size + 3) 144 3 (.slice LA k lc) k (ms.flatMap LineM.cells)) := by
            have := HLGX.out.ownL
            rw [HKK.out] at this
            exact this
          have OWNP : Hid (wx.ownsRow (W.heap.size + 3) 145 3 (.slice PA k pc) k (ms.flatMap LineM.cells)) := by
            have := HLGX.out.ownP
            rw [HKK.out] at this
            exact this
          clear r0 r1 of o0 o1
          go_upto_region 18 with (refine wpList_push rfl rfl 140 144 _ _ 69 rfl rfl rfl (W.heap.size + 3) i0 (.agg #[.int .i64 0, .slice none 0 0, .bool false]) 3 40 Tryz.underlying140 hi0 hz00 hz01 hz02 rfl (by decide) (.slice LA k lc) k (ms.flatMap LineM.cells) rfl rfl OWNL.out (.agg #[.int .i64 (fl + k + 1), .slice p.A p.n p.c, .bool p.hard]) rfl #[.int .i64 (fl + k + 1), .slice p.A p.n p.c, .bool p.hard] (built144 ⟨⟨fl + k + 1, p.keys, p.hard⟩, p.A, p.n, p.c⟩) rfl (one_line ⟨⟨fl + k + 1, p.keys, p.hard⟩, p.A, p.n, p.c⟩) (by unfold maxLen; omega) (by omega) (by omega) ?_; intro A3 c3 w3 hown3 hgrow3 hnc3; have HO3 := Lib.hid hown3; have HG3 := Lib.hid hgrow3; clear hown3 hgrow3)
          have hs3 := HG3.out.size
          have nb3 : ∀ g, g < W.heap.size + 3 → (Value.slice LA k lc).ownBlock ≠ some g := fun g hg e' => by
            have := (OWNL.out.lt _ e').1
            omega
          have k3 : Blk w3 (W.heap.size + 1 + 1) 67 #[.slice PA k pc, .int .i64 fl] := by
            have h := HLGX.out.pur
            rw [HKK.out] at h
            exact h.grown HG3.out (nb3 _ (by omega))
          have kx3 := KX.out.grown HG3.out (own_ne OWNL.out KX.out (by decide))
          have OWNP3 := Lib.hid (own_kept OWNP.out HG3.out (fun g hg' e' => by
            have t1 := own_ty OWNP.out hg'
            have t2 := own_ty OWNL.out e'
            rw [t1] at t2
            simp at t2))
          have nb4 : ∀ g, g < W.heap.size + 3 → (Value.slice PA k pc).ownBlock ≠ some g := fun g hg e' => by
            have := (OWNP.out.lt _ e').1
            omega
          have NB4 := Lib.hid nb4
          have K3 := Lib.hid k3
          have t0 : w3.cell? ⟨W.heap.size + 1 + 1, 0, none⟩ = some (.slice PA k pc) := (k3.cell 0).trans rfl
          have x0 : w3.cell? ⟨gx, 0, none⟩ = some (.slice p.A p.n p.c) := (kx3.cell 0).trans rfl
          have x1 : w3.cell? ⟨gx, 1, none⟩ = some (.bool p.hard) := (kx3.cell 1).trans rfl
          have hs3 : W.heap.size + 3 ≤ w3.heap.size := by have := k3.lt; omega
          clear nb3 nb4 k3 kx3 c0
          go_upto_region 19 with (refine wpList_push rfl rfl 65 145 _ _ 79 rfl rfl rfl (W.heap.size + 3) i5 (.agg #[.int .i64 0, .slice none 0 0, .bool false]) 3 40 Tryz.underlying65 hi5 hz50 hz51 hz52 rfl (by decide) (.slice PA k pc) k (ms.flatMap LineM.cells) rfl rfl OWNP3.out (.agg #[.int .i64 (fl + k + 1), .slice p.A p.n p.c, .bool p.hard]) rfl #[.int .i64 (fl + k + 1), .slice p.A p.n p.c, .bool p.hard] (built145 ⟨⟨fl + k + 1, p.keys, p.hard⟩, p.A, p.n, p.c⟩) rfl (one_line ⟨⟨fl + k + 1, p.keys, p.hard⟩, p.A, p.n, p.c⟩) (by unfold maxLen; omega) (by omega) (by omega) ?_; intro A4 c4 w4 hown4 hgrow4 hnc4; have HO4 := Lib.hid hown4; have HG4 := Lib.hid hgrow4; have K4 := Lib.hid (K3.out.grown hgrow4 (NB4.out _ (by omega))); have u0 : w4.cell? ⟨W.heap.size + 1 + 1, 0, none⟩ = some (.slice PA k pc) := (K4.out.cell 0).trans rfl; have uf := K4.out.free'; clear hown4 hgrow4)
          have HN : Hid (LgW W (w4.setCell ⟨W.heap.size + 1 + 1, 0, none⟩ (.slice A4 (k + 1) c4)) B #[.int .i64 fl, .slice (some ⟨b, o, none⟩) n c] fl (ms ++ [⟨⟨fl + k + 1, p.keys, p.hard⟩, p.A, p.n, p.c⟩]) A3 c3 A4 c4) := by
            have := HLGX.out.push (q := ⟨⟨fl + k + 1, p.keys, p.hard⟩, p.A, p.n, p.c⟩) (LA2 := A3) (lc2 := c3) (PA2 := A4) (pc2 := c4) (w3 := w3) (w4 := w4) (by rw [HKK.out]; exact HO3.out) (by rw [HKK.out]; exact HG3.out) (by rw [HKK.out]; exact HO4.out) (by rw [HKK.out]; exact HG4.out) ⟨by show p.n ≤ 40; omega, hq1, HQ3.out⟩ (by rw [HKK.out])
            rw [HKK.out] at this
            exact this
          have HLN : Hid ((ms ++ [(⟨⟨fl + k + 1, p.keys, p.hard⟩, p.A, p.n, p.c⟩ : LineM)]).length = k + 1) := by
            show (ms ++ [(⟨⟨fl + k + 1, p.keys, p.hard⟩, p.A, p.n, p.c⟩ : LineM)]).length = k + 1
            rw [List.length_append, HKK.out]
            rfl
          clear u0 uf t0 x0 x1
          go_wp2_with fail
          go_roundw
          case rel => exact ⟨ms ++ [⟨⟨fl + k + 1, p.keys, p.hard⟩, p.A, p.n, p.c⟩], A3, c3, A4, c4, by rw [HLN.out]; omega, by rw [HLN.out]; go_num, by rw [HLN.out], HN.out⟩
          case measure => simp [intOf]; omega
    · obtain rfl : k = n := by omega
      have hownL : wr.ownsRow (W.heap.size + 3) 144 3 (.slice LA k lc) k (ms.flatMap LineM.cells) := by
        have := HLG.out.ownL
        rw [hkk] at this
        exact this
      have CL := Lib.hid (pload_any LA k lc ms fl wr.heap.size wr (own_rd hownL) (fun r hr => ⟨(HLG.out.keys r hr).1, (HLG.out.keys r hr).2.1, (HLG.out.keys r hr).2.2.below (HLG.out.below.mono hB) (by omega)⟩) (Nat.le_refl _) ⟨by omega, by omega⟩ (by omega))
      clear hownL
      go_wp2_with fail
      refine CL.out.mono ?_
      rintro en w2 ⟨hcase, hb2⟩
      have hlg2 := HLG.out.to hb2
      have HLG2 := Lib.hid hlg2
      have hs2 := hb2.size
      rcases hcase with rfl | ⟨ms', A', c', rfl, hld, hm20, hmm⟩
      · have OUTX := OUT.out w2 ms LA lc PA pc none hlg2
        rw [hkk] at OUTX
        obtain ⟨o0, o1, of, r0, r1, ox⟩ := OUTX
        have OX := Lib.hid ox
        clear hb2 hlg2 CL hkk c0 ox
        go_wp2_with fail
        go_region
        all_goals
          go_wp2_with fail
          refine bodyPost_ret (v := .tuple #[.pointer none, .agg #[.slice PA k pc, .int .i64 fl], .bool false]) ?_ rfl OX.out
          simp [results, Tryz.results18, go_sem, r0, r1]
      · have OUTX := OUT.out w2 ms LA lc PA pc none hlg2
        rw [hkk] at OUTX
        obtain ⟨o0, o1, of, r0, r1, _⟩ := OUTX
        have OX : Hid (LogPost W fl (.returned (.tuple #[.pointer (some ⟨wr.heap.size, 0, none⟩), .agg #[.slice PA k pc, .int .i64 fl], .bool true])) ((w2.drew.setCell ⟨W.heap.size + 1, 0, none⟩ (.slice PA k pc)).setCell ⟨W.heap.size + 1, 1, none⟩ (.int .i64 fl))) := by
          have hbW : Below W.heap.size W ((w2.drew.setCell ⟨W.heap.size + 1, 0, none⟩ (.slice PA k pc)).setCell ⟨W.heap.size + 1, 1, none⟩ (.int .i64 fl)) := below_set (below_set hlg2.below.drew (by omega) _) (by omega) _
          have hszw : ((w2.drew.setCell ⟨W.heap.size + 1, 0, none⟩ (.slice PA k pc)).setCell ⟨W.heap.size + 1, 1, none⟩ (.int .i64 fl)).heap.size = w2.heap.size := by simp
          refine ⟨_, PA, k, pc, true, rfl, hbW, fun _ => ⟨wr.heap.size, ms, ms', rfl, hld.log2 (by omega) (by omega) _ _, ⟨?_, fun r hr => ?_, by omega⟩, hmm, hlg2.rise⟩⟩
          · have ho := hlg2.ownP
            rw [hkk] at ho
            exact own_rd (own_set (own_set ho.drew (b := W.heap.size + 1) (o := 0) (by omega) _) (by omega) _)
          · obtain ⟨g1, g2, g3⟩ := hlg2.keys r hr
            exact ⟨by omega, g3.below (hbW.mono hB) (by rw [hszw]; omega)⟩
        clear hb2 hlg2 CL hkk c0 hld hmm
        go_wp2_with fail
        go_region
        all_goals
          go_wp2_with fail
          refine bodyPost_ret (v := .tuple #[.pointer (some ⟨wr.heap.size, 0, none⟩), .agg #[.slice PA k pc, .int .i64 fl], .bool true]) ?_ rfl OX.out
          simp [results, Tryz.results18, go_sem, r0, r1]
end Go.Proofs.YtoaiamgcegnjjaaGreatDoor
