/- purge.Load of any lines. No condition but the bounds that it names. -/
import Derived.Test.YtoaiamgcegnjjaaGreatDoorVD
namespace Go.Proofs.YtoaiamgcegnjjaaGreatDoor
open Go.RowKit Go.Maps Go.WideMaps Go.Sort
set_option maxRecDepth 100000

theorem info144 : (Tryz.prog.info? 144).map (fun i => (i.zero, i.size, i.bytes)) = some (some (.agg #[.int .i64 0, .slice none 0 0, .bool false]), 3, 40) := by kernel_rfl
theorem info145 : (Tryz.prog.info? 145).map (fun i => (i.zero, i.size, i.bytes)) = some (some (.agg #[.int .i64 0, .slice none 0 0, .bool false]), 3, 40) := by kernel_rfl
theorem one_line (r : LineM) : ∀ u ∈ r.cs.toList, u.oneCell' = true := by simp [Value.oneCell']

/-- the log that is built -/
structure LdW (w wr : World) (fl : Int) (ms : List LineM) (A : Option Addr) (c : Nat) : Prop where
  blk : Blk wr w.heap.size 201 #[.int .i64 fl, .slice A ms.length c]
  cap : ms.length ≤ c
  own : wr.ownsRow (w.heap.size + 1) 144 3 (.slice A ms.length c) ms.length (ms.flatMap LineM.cells)
  keys : ∀ r ∈ ms, r.n ≤ 1000 ∧ wr.ownsRow (w.heap.size + 1) 9 1 (.slice r.A r.n r.c) r.n (r.l.keys.map Value.string)
  below : Below w.heap.size w wr
theorem LdW.to {w wr wy : World} {fl : Int} {ms : List LineM} {A : Option Addr} {c : Nat} (h : LdW w wr fl ms A c) (hb : Below wr.heap.size wr wy) : LdW w wy fl ms A c :=
  ⟨h.blk.below hb h.blk.lt, h.cap, own_kept h.own (gby_of_below hb) (fun g hg e => by cases e), fun r hr => ⟨(h.keys r hr).1, own_kept (h.keys r hr).2 (gby_of_below hb) (fun g hg e => by cases e)⟩, h.below.trans (hb.mono h.below.size)⟩
/-- a line more -/
theorem LdW.push {w wr w4 : World} {fl : Int} {ms : List LineM} {A A2 : Option Addr} {c c2 : Nat} {q : LineM} (h : LdW w wr fl ms A c) (hq : q.n ≤ 1000 ∧ wr.ownsRow (w.heap.size + 1) 9 1 (.slice q.A q.n q.c) q.n (q.l.keys.map Value.string))
    (ho : w4.ownsRow (w.heap.size + 1) 144 3 (.slice A2 (ms.length + 1) c2) (ms.length + 1) (ms.flatMap LineM.cells ++ q.cs.toList)) (hg : wr.grownBy w4 (Value.slice A ms.length c).ownBlock) (hc : ms.length + 1 ≤ c2) :
    LdW w (w4.setCell ⟨w.heap.size, 1, none⟩ (.slice A2 (ms.length + 1) c2)) fl (ms ++ [q]) A2 c2 := by
  have e : (ms ++ [q]).length = ms.length + 1 := by simp
  have hlb := h.blk.lt
  have ne : ∀ {n : Nat} {v : Value} {xs : List Value}, wr.ownsRow (w.heap.size + 1) 9 1 v n xs → w4.ownsRow (w.heap.size + 1) 9 1 v n xs := fun hx => own_kept hx hg (fun g hg' e' => by
    have t1 := own_ty hx hg'
    have t2 := own_ty h.own e'
    rw [t1] at t2
    simp at t2)
  have hnb : (Value.slice A ms.length c).ownBlock ≠ some w.heap.size := fun e' => by
    have := (h.own.lt _ e').1
    omega
  refine ⟨?_, by rw [e]; exact hc, ?_, fun r hr => ?_, below_set (h.below.trans (grown_below hg (by omega) (fun g hg => by have := (h.own.lt g hg).1; omega))) (Nat.le_refl _) _⟩
  · rw [e]
    exact (h.blk.grown hg hnb).set 1 _
  · rw [e, List.flatMap_append]
    have := own_set ho (b := w.heap.size) (o := 1) (by omega) (.slice A2 (ms.length + 1) c2)
    simpa [LineM.cells] using this
  · rw [List.mem_append, List.mem_singleton] at hr
    rcases hr with hr | rfl
    · exact ⟨(h.keys r hr).1, own_set (ne (h.keys r hr).2) (by omega) _⟩
    · exact ⟨hq.1, own_set (ne hq.2) (by omega) _⟩

/-- the log, whatever is written below it -/
theorem LdW.log2 {w wr : World} {fl : Int} {ms : List LineM} {A : Option Addr} {c : Nat} (h : LdW w wr fl ms A c) (hl : ms.length ≤ 1000) {b o1 o2 : Nat} (hb : b < w.heap.size) (u1 u2 : Value) :
    LogAt ((wr.drew.setCell ⟨b, o1, none⟩ u1).setCell ⟨b, o2, none⟩ u2) ((wr.drew.setCell ⟨b, o1, none⟩ u1).setCell ⟨b, o2, none⟩ u2).heap.size w.heap.size fl ms := by
  have hk := (h.blk.drew.far (b := b) (o := o1) (by omega) u1).far (b := b) (o := o2) (by omega) u2
  have ho : ∀ {e sz n : Nat} {v : Value} {xs : List Value}, wr.ownsRow (w.heap.size + 1) e sz v n xs → ((wr.drew.setCell ⟨b, o1, none⟩ u1).setCell ⟨b, o2, none⟩ u2).ownsRow (w.heap.size + 1) e sz v n xs := fun hx => own_set (own_set hx.drew (by omega) _) (by omega) _
  exact ⟨hk.lt, ⟨A, ms.length, c, hl, hk, own_rd (ho h.own)⟩, fun r hr => ⟨(h.keys r hr).1, own_rd (ho (h.keys r hr).2)⟩⟩

def LoadPost (w : World) (fl : Int) (ms : List LineM) (e : Ending) (w' : World) : Prop :=
  (e = .returned (.tuple #[.pointer none, .int .i64 2]) ∨ ∃ ms' A c, e = .returned (.tuple #[.pointer (some ⟨w.heap.size, 0, none⟩), .int .i64 0]) ∧ LdW w w' fl ms' A c ∧ ms'.length ≤ 20 ∧ ms'.map (·.l) = ms.map (·.l)) ∧ Below w.heap.size w w'

set_option maxHeartbeats 4000000 in
theorem pload_any (A : Option Addr) (n c : Nat) (ms : List LineM) (fl : Int) (B : Nat) (w : World) (hr : Rd w B 3 A n (ms.flatMap LineM.cells)) (hk : ∀ r ∈ ms, r.n ≤ 40 ∧ r.n ≤ r.c ∧ Strs w B r.A r.n r.l.keys) (hB : B ≤ w.heap.size) (hf : 0 ≤ fl ∧ fl ≤ 1000) (hn : n ≤ 20) :
    Calls Tryz.prog 64 #[.slice A n c, .int .i64 fl] w (LoadPost w fl ms) := by
  obtain ⟨i0, hi, hz0, hz1, hz2⟩ := info_parts info144
  have hpr : PR w w.heap.size 3 A n (ms.flatMap LineM.cells) := PR.of_old (hr.below (Below.refl _ _) hB) (Nat.le_refl _)
  obtain ⟨hl, hrow⟩ := hpr.row LineM.cells_len (by decide)
  have HLEN : Hid (ms.length = n) := by show ms.length = n; omega
  have HROW := Lib.hid hrow
  have HKEY := Lib.hid hk
  have hb0 : Below w.heap.size w (w.alloc (.cells #[.int .i64 fl, .slice none 0 0] 201)) := (Below.refl _ _).alloc (Nat.le_refl _) _
  have hld : LdW w (w.alloc (.cells #[.int .i64 fl, .slice none 0 0] 201)) fl [] none 0 := ⟨Blk.new _ _ _, by simp, by simpa using World.ownsRow_nil _ _ 144 3, (fun r hr => by cases hr), hb0⟩
  clear hr hk hpr hl hrow
  have f0 : ¬ fl < 0 := by omega
  have f1 : ¬ (1099511627776 : Int) < fl := by omega
  go_enter Tryz.func64, Tryz.ntmps64
  go_upto_region 4 with fail
  generalize w.alloc (.cells #[.int .i64 fl, .slice none 0 0] 201) = w0 at *
  have HLD := Lib.hid hld
  clear hld hb0
  go_wp2_with fail
  go_loopw [20] (fun i wr => ∃ (k : Nat) (A2 : Option Addr) (c2 : Nat) (out : List LineM), k ≤ n ∧ i = .int .i64 k ∧ out.length = k ∧ out.map (·.l) = (ms.take k).map (·.l) ∧ LdW w wr fl out A2 c2) (fun i _ => n - (intOf i).toNat)
  case atStart => exact ⟨0, none, 0, [], Nat.zero_le _, rfl, rfl, rfl, HLD.out⟩
  case round =>
    obtain ⟨k, A2, c2, out, hk, rfl, hol, hmap, hld⟩ := hrel
    have HLD := Lib.hid hld
    have HOL := Lib.hid hol
    have HMAP := Lib.hid hmap
    have hsr := hld.below.size
    have hlb := hld.blk.lt
    clear hmap hld
    by_cases hlt : k < n
    · have hkm : k < ms.length := by have := HLEN.out; omega
      obtain ⟨b, o, rfl, hbl, hra⟩ := HROW.out k hkm
      have hst : (ms.take (k + 1)).map (·.l) = (ms.take k).map (·.l) ++ [ms[k].l] := by rw [List.take_succ_eq_append_getElem hkm, List.map_append]; rfl
      obtain ⟨hq1, hq2, hq3⟩ := HKEY.out ms[k] (List.getElem_mem hkm)
      generalize ms[k] = q at *
      obtain ⟨⟨no, ks, hd⟩, qA, qn, qc⟩ := q
      dsimp only at hst hq1 hq2 hq3
      have HST := Lib.hid hst
      have HQ3 := Lib.hid hq3
      have d0 : wr.cell? ⟨b, o + k * 3, none⟩ = some (.int .i64 no) := (HLD.out.below.cell (p := ⟨b, o + k * 3, none⟩) hbl).trans (hra 0 _ rfl)
      have d1 : wr.cell? ⟨b, o + k * 3 + 1, none⟩ = some (.slice qA qn qc) := (HLD.out.below.cell (p := ⟨b, o + k * 3 + 1, none⟩) hbl).trans (hra 1 _ rfl)
      have d2 : wr.cell? ⟨b, o + k * 3 + 2, none⟩ = some (.bool hd) := (HLD.out.below.cell (p := ⟨b, o + k * 3 + 2, none⟩) hbl).trans (hra 2 _ rfl)
      have i1 : (0 : Int) ≤ (k : Int) := by omega
      have i2 : (k : Int) < (n : Int) := by omega
      clear hst hra hq3
      go_upto_region 7 with fail
      have hbx : Below wr.heap.size wr (wr.alloc (.cells #[.int .i64 no, .slice qA qn qc, .bool hd] 144)) := (Below.refl _ _).alloc (Nat.le_refl _) _
      have kx : Blk (wr.alloc (.cells #[.int .i64 no, .slice qA qn qc, .bool hd] 144)) wr.heap.size 144 #[.int .i64 no, .slice qA qn qc, .bool hd] := Blk.new _ _ _
      generalize wr.alloc (.cells #[.int .i64 no, .slice qA qn qc, .bool hd] 144) = wx at *
      have HLDx := Lib.hid (HLD.out.to hbx)
      have HBX := Lib.hid hbx
      have KX := Lib.hid kx
      have x0 : wx.cell? ⟨wr.heap.size, 0, none⟩ = some (.int .i64 no) := (kx.cell 0).trans rfl
      have x1 : wx.cell? ⟨wr.heap.size, 1, none⟩ = some (.slice qA qn qc) := (kx.cell 1).trans rfl
      have x2 : wx.cell? ⟨wr.heap.size, 2, none⟩ = some (.bool hd) := (kx.cell 2).trans rfl
      have hsx := kx.lt
      have CR := Lib.hid (pright_any ⟨⟨no, ks, hd⟩, qA, qn, qc⟩ B wx (HQ3.out.below (HLDx.out.below.mono hB) (Nat.le_refl _)) hq2 (by show qn ≤ 1000; omega) (by omega))
      clear hbx kx d0 d1 d2
      go_wp2_with fail
      refine CR.out.mono ?_
      rintro en w2 ⟨⟨bb, rfl⟩, hb2⟩
      have HLD2 := Lib.hid (HLDx.out.to hb2)
      have k2 := KX.out.below hb2 KX.out.lt
      have K2 := Lib.hid k2
      have y0 : w2.cell? ⟨wr.heap.size, 0, none⟩ = some (.int .i64 no) := (k2.cell 0).trans rfl
      have y1 : w2.cell? ⟨wr.heap.size, 1, none⟩ = some (.slice qA qn qc) := (k2.cell 1).trans rfl
      have y2 : w2.cell? ⟨wr.heap.size, 2, none⟩ = some (.bool hd) := (k2.cell 2).trans rfl
      have hs2 := hb2.size
      clear hb2 k2 CR x0 x1 x2
      cases bb with
      | false =>
        go_wp2_with fail
        go_ret2
        exact ⟨.inl rfl, HLD2.out.below⟩
      | true =>
        by_cases hne : no = fl + k + 1
        case neg =>
          go_wp2_with fail
          go_ret2
          exact ⟨.inl rfl, HLD2.out.below⟩
        subst hne
        go_upto_region 9 with fail
        have hlb2 : w.heap.size < w2.heap.size := HLD2.out.blk.lt
        have sk : ∀ wy, Below w2.heap.size w2 wy → wy.cell? ⟨w.heap.size, 1, none⟩ = some (.slice A2 k c2) ∧ (∀ i, wy.frozen? ⟨w.heap.size, i, none⟩ = false) := fun wy hb => by
          have h := (HLD2.out.to hb).blk
          refine ⟨?_, h.free'⟩
          have := h.cell 1
          rw [this]
          show some (Value.slice A2 out.length c2) = _
          rw [HOL.out]
        have SK := Lib.hid sk
        have C0 := Lib.hid (pcopied_any ⟨⟨(fl + k + 1), ks, hd⟩, qA, qn, qc⟩ w2.drew (HQ3.out.below ((HLD2.out.below.mono hB).drew) (by show B ≤ w2.heap.size; omega)) (by show qn ≤ 1000; omega))
        obtain ⟨c40, f40⟩ := SK.out _ (Below.refl _ _).drew
        have z0 : w2.drew.cell? ⟨wr.heap.size, 0, none⟩ = some (.int .i64 (fl + k + 1)) := y0
        have z1 : w2.drew.cell? ⟨wr.heap.size, 1, none⟩ = some (.slice qA qn qc) := y1
        have z2 : w2.drew.cell? ⟨wr.heap.size, 2, none⟩ = some (.bool hd) := y2
        have O3 : Hid (∀ w3, Below w2.heap.size w2 w3 → w3.ownsRow (w.heap.size + 1) 144 3 (.slice A2 k c2) k (out.flatMap LineM.cells)) := by
          show ∀ w3, Below w2.heap.size w2 w3 → _
          intro w3 hb
          have := (HLD2.out.to hb).own
          rw [HOL.out] at this
          exact this
        have fin : ∀ (w3 w4 : World) (A3 A4 : Option Addr) (c3 c4 : Nat), Below w2.heap.size w2 w3 → w3.ownsRow w2.heap.size 9 1 (.slice A3 qn c3) qn (ks.map Value.string) → w4.ownsRow (w.heap.size + 1) 144 3 (.slice A4 (k + 1) c4) (k + 1) (out.flatMap LineM.cells ++ [.int .i64 (fl + k + 1), .slice A3 qn c3, .bool hd]) → (w3.alloc (.cells #[.int .i64 (fl + k + 1), .slice A3 qn c3, .bool hd] 144)).grownBy w4 (Value.slice A2 k c2).ownBlock → k + 1 ≤ c4 → ∃ A5 c5 out', out'.length = k + 1 ∧ out'.map (·.l) = (ms.take (k + 1)).map (·.l) ∧ LdW w (w4.setCell ⟨w.heap.size, 1, none⟩ (.slice A4 (k + 1) c4)) fl out' A5 c5 := fun w3 w4 A3 A4 c3 c4 hb ho3 ho4 hg hc => by
          have h3 := (HLD2.out.to hb).to ((Below.refl w3.heap.size w3).alloc (Nat.le_refl _) (.cells #[.int .i64 (fl + k + 1), .slice A3 qn c3, .bool hd] 144))
          have ho3' := own_base (ho3.alloc (.cells #[.int .i64 (fl + k + 1), .slice A3 qn c3, .bool hd] 144)) (show w.heap.size + 1 ≤ w2.heap.size by omega)
          have := h3.push (q := ⟨⟨(fl + k + 1), ks, hd⟩, A3, qn, c3⟩) (A2 := A4) (c2 := c4) ⟨by show qn ≤ 1000; omega, ho3'⟩ (by rw [HOL.out]; exact ho4) (by rw [HOL.out]; exact hg) (by rw [HOL.out]; exact hc)
          rw [HOL.out] at this
          refine ⟨A4, c4, out ++ [⟨⟨(fl + k + 1), ks, hd⟩, A3, qn, c3⟩], by simp [HOL.out], ?_, this⟩
          rw [List.map_append, HMAP.out, HST.out]
          rfl
        have FIN := Lib.hid fin
        clear sk fin y0 y1 y2
        go_region_law (first
          | (go_simp; go_at_call 127; refine C0.out.mono ?_; rintro en w3 ⟨⟨A3, c3, rfl, ho3, hc3⟩, hb3⟩; (have HB3 : Hid (Below w2.heap.size w2 w3) := (Below.refl _ _).drew.trans hb3); (have HO3 : Hid (w3.ownsRow w2.heap.size 9 1 (.slice A3 qn c3) qn (ks.map Value.string)) := ho3); (have HB4 := Lib.hid (HB3.out.alloc HB3.out.size (.cells #[.int .i64 (fl + k + 1), .slice A3 qn c3, .bool hd] 144))); (obtain ⟨c41, f41⟩ := SK.out w3 HB3.out); (obtain ⟨c42, f42⟩ := SK.out _ HB4.out); clear ho3 hb3)
          | ((refine step_append_rd _ (by rfl) _ _ _ (by rfl) (w.heap.size + 1) 144 i0 (.agg #[.int .i64 0, .slice none 0 0, .bool false]) 3 40 Tryz.underlying140 hi hz0 hz1 hz2 rfl (by decide) (.slice A2 k c2) k (out.flatMap LineM.cells) (by rfl) ((O3.out w3 HB3.out).alloc _) (some ⟨w3.heap.size, 0, none⟩) 1 1 _ [.int .i64 (fl + k + 1), .slice A3 qn c3, .bool hd] (by rfl) (Blk.new w3 144 _).rd (one_line ⟨⟨(fl + k + 1), ks, hd⟩, A3, qn, c3⟩) (by unfold maxLen; omega) (by omega) (by have := HB4.out.size; omega) ?_; intro A4 c4 w4 hown4 hgrow4 hnc4; have HF4 := Lib.hid (FIN.out w3 w4 A3 A4 c3 c4 HB3.out HO3.out hown4 hgrow4 hnc4); have HBK4 := Lib.hid ((HLD2.out.to HB4.out).blk.grown hgrow4 (fun e => by have := ((O3.out w3 HB3.out).lt _ e).1; omega)); have f43 := HBK4.out.free'; have c43 : w4.cell? ⟨w.heap.size, 1, none⟩ = some (.slice A2 out.length c2) := (HBK4.out.cell 1).trans rfl; clear hown4 hgrow4)))
        all_goals
          (obtain ⟨A5, c5, out', ho1, ho2, hld5⟩ := HF4.out)
          have HLD5 := Lib.hid hld5
          have HO1 := Lib.hid ho1
          have HO2 := Lib.hid ho2
          clear hld5 ho1 ho2
          go_wp2_with fail
          go_roundw
          case rel => exact ⟨k + 1, A5, c5, out', by omega, by go_num, HO1.out, HO2.out, HLD5.out⟩
          case measure => simp [intOf]; omega
    · obtain rfl : k = n := by omega
      have HF : Hid (out.map (·.l) = ms.map (·.l)) := by
        have := HMAP.out
        rw [List.take_of_length_le (by have := HLEN.out; omega)] at this
        exact this
      go_wp2_with fail
      go_ret2
      exact ⟨.inr ⟨out, A2, c2, rfl, HLD.out, by have := HOL.out; omega, HF.out⟩, HLD.out.below⟩
end Go.Proofs.YtoaiamgcegnjjaaGreatDoor
