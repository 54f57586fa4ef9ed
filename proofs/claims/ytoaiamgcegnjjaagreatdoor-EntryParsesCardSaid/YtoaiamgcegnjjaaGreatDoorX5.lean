/- Set.Or. No condition but on lengths. -/
import Derived.Test.YtoaiamgcegnjjaaGreatDoorMJ
import Derived.Laws.MakeOwn
namespace Go.Proofs.YtoaiamgcegnjjaaGreatDoor
open Go.RowKit Go.Maps Go.WideMaps Go.Sort
set_option maxRecDepth 100000

theorem mergeS_nil_right (l : List (Int × Int)) : mergeS l [] = l := by cases l <;> simp [mergeS]
theorem mergeS_nil_left (t : List (Int × Int)) : mergeS [] t = t := by simp [mergeS]
/-- is the next one of the first list? -/
def fromL (l t : List (Int × Int)) (a b : Nat) : Bool := match t[b]?, l[a]? with
  | none, _ => true
  | some y, some x => decide (x.1 ≤ y.1)
  | some _, none => false
theorem merge_left {l t : List (Int × Int)} {a b : Nat} (ha : a < l.length) (h : fromL l t a b = true) : mergeS (l.drop a) (t.drop b) = l[a] :: mergeS (l.drop (a + 1)) (t.drop b) := by
  rw [List.drop_eq_getElem_cons ha]
  unfold fromL at h
  by_cases hb : b < t.length
  · rw [List.getElem?_eq_getElem hb, List.getElem?_eq_getElem ha] at h
    rw [List.drop_eq_getElem_cons hb]
    simp only [mergeS]
    rw [if_pos (by simpa using h)]
  · rw [List.drop_of_length_le (l := t) (by omega), mergeS_nil_right, mergeS_nil_right]
theorem merge_right {l t : List (Int × Int)} {a b : Nat} (hb : b < t.length) (h : fromL l t a b = false) : mergeS (l.drop a) (t.drop b) = t[b] :: mergeS (l.drop a) (t.drop (b + 1)) := by
  rw [List.drop_eq_getElem_cons hb]
  unfold fromL at h
  rw [List.getElem?_eq_getElem hb] at h
  by_cases ha : a < l.length
  · rw [List.getElem?_eq_getElem ha] at h
    rw [List.drop_eq_getElem_cons ha]
    simp only [mergeS]
    rw [if_neg (by simpa using h)]
  · rw [List.drop_of_length_le (l := l) (by omega), mergeS_nil_left, mergeS_nil_left]
theorem fromL_lt {l t : List (Int × Int)} {a b : Nat} (h : fromL l t a b = true) (hl : a < l.length ∨ b < t.length) : a < l.length := by
  by_cases ha : a < l.length
  · exact ha
  · exfalso
    have hb : b < t.length := by omega
    unfold fromL at h
    rw [List.getElem?_eq_getElem hb, List.getElem?_eq_none (by omega)] at h
    cases h
theorem fromL_lt' {l t : List (Int × Int)} {a b : Nat} (h : fromL l t a b = false) : b < t.length := by
  by_cases hb : b < t.length
  · exact hb
  · exfalso
    unfold fromL at h
    rw [List.getElem?_eq_none (by omega)] at h
    cases h

structure OrW (w wr : World) (l t : List (Int × Int)) (v1 v2 : Value) (a b : Nat) (out : List (Int × Int)) (A : Option Addr) (c : Nat) : Prop where
  cap : a + b ≤ c
  len : out.length = a + b
  own : wr.ownsRow (w.heap.size + 3) 41 2 (.slice A (a + b) c) (a + b) (spanCells out)
  seq : out ++ mergeS (l.drop a) (t.drop b) = mergeS l t
  below : Below w.heap.size w wr
  b0 : Blk wr w.heap.size 95 #[v1]
  b1 : Blk wr (w.heap.size + 1) 95 #[v2]
  b2 : Blk wr (w.heap.size + 1 + 1) 95 #[.slice none 0 0]

set_option maxHeartbeats 2000000 in
theorem or_any (A : Option Addr) (n c : Nat) (l : List (Int × Int)) (A2 : Option Addr) (n2 c2 : Nat) (t : List (Int × Int)) (w : World) (h : Rd w w.heap.size 2 A n (spanCells l)) (h2 : Rd w w.heap.size 2 A2 n2 (spanCells t)) (hn : n ≤ 2000) (hn2 : n2 ≤ 2000) :
    Calls Tryz.prog 91 #[.agg #[.slice A n c], .agg #[.slice A2 n2 c2]] w fun e w' => (∃ A' c', e = .returned (.agg #[.slice A' (gatherS (mergeS l t)).length c']) ∧ w'.ownsRow w.heap.size 41 2 (.slice A' (gatherS (mergeS l t)).length c') (gatherS (mergeS l t)).length (spanCells (gatherS (mergeS l t))) ∧ (gatherS (mergeS l t)).length ≤ c') ∧ Below w.heap.size w w' := by
  obtain ⟨i0, hi0, hz0, hz1, hz2⟩ := info_parts info41
  have HL1 := Lib.hid h.span.1
  have HL2 := Lib.hid h2.span.1
  have HR1 := Lib.hid h
  have HR2 := Lib.hid h2
  clear h h2
  have hb0 : Below w.heap.size w (((w.alloc (.cells #[.slice A n c] 95)).alloc (.cells #[.slice A2 n2 c2] 95)).alloc (.cells #[.slice none 0 0] 95)) := (((Below.refl _ _).alloc (Nat.le_refl _) _).alloc (by simp) _).alloc (by simp; omega) _
  have k0 : Blk (((w.alloc (.cells #[.slice A n c] 95)).alloc (.cells #[.slice A2 n2 c2] 95)).alloc (.cells #[.slice none 0 0] 95)) w.heap.size 95 #[.slice A n c] := ((Blk.new w 95 _).alloc _).alloc _
  have k1 : Blk (((w.alloc (.cells #[.slice A n c] 95)).alloc (.cells #[.slice A2 n2 c2] 95)).alloc (.cells #[.slice none 0 0] 95)) (w.heap.size + 1) 95 #[.slice A2 n2 c2] := (new2 w _ 95 _).alloc _
  have k2 : Blk (((w.alloc (.cells #[.slice A n c] 95)).alloc (.cells #[.slice A2 n2 c2] 95)).alloc (.cells #[.slice none 0 0] 95)) (w.heap.size + 1 + 1) 95 #[.slice none 0 0] := by
    have := new2 (w.alloc (.cells #[.slice A n c] 95)) (.cells #[.slice A2 n2 c2] 95) 95 #[.slice none 0 0]
    simpa using this
  have hs0 : (((w.alloc (.cells #[.slice A n c] 95)).alloc (.cells #[.slice A2 n2 c2] 95)).alloc (.cells #[.slice none 0 0] 95)).heap.size = w.heap.size + 3 := by simp
  go_enter Tryz.func91, Tryz.ntmps91
  go_upto_region 1 with fail
  generalize ((w.alloc (.cells #[.slice A n c] 95)).alloc (.cells #[.slice A2 n2 c2] 95)).alloc (.cells #[.slice none 0 0] 95) = w0 at *
  have c0 : w0.cell? ⟨w.heap.size, 0, none⟩ = some (.slice A n c) := (k0.cell 0).trans rfl
  have c1 : w0.cell? ⟨w.heap.size + 1, 0, none⟩ = some (.slice A2 n2 c2) := (k1.cell 0).trans rfl
  have hmk := run_make (P := Tryz.prog) w0 52 41 i0 _ under52 hi0 hz0 .i64 .i64 0 ((n : Int) + (n2 : Int)) (by omega) (by omega) (by rw [hz2]; omega) (by omega)
  have hst : OrW w (w0.alloc (.cells (madeCells (Value.agg #[.int .i64 0, .int .i64 0]).cells (((n : Int) + (n2 : Int)).toNat * i0.size)) 41)) l t (.slice A n c) (.slice A2 n2 c2) 0 0 [] (some ⟨w0.heap.size, 0, none⟩) ((n : Int) + (n2 : Int)).toNat := by
    refine ⟨by omega, rfl, ?_, by simp, hb0.alloc (by omega) _, k0.alloc _, k1.alloc _, k2.alloc _⟩
    have := World.ownsRow_made (base := w.heap.size + 3) (e := 41) (size := 2) w0 (madeCells (Value.agg #[.int .i64 0, .int .i64 0]).cells (((n : Int) + (n2 : Int)).toNat * i0.size)) ((n : Int) + (n2 : Int)).toNat (by omega) (by unfold maxLen; omega) (by rw [size_madeCells, hz1])
    simpa [spanCells] using this
  generalize hm : (w0.alloc (.cells (madeCells (Value.agg #[.int .i64 0, .int .i64 0]).cells (((n : Int) + (n2 : Int)).toNat * i0.size)) 41)) = wm at *
  generalize hcc : ((n : Int) + (n2 : Int)).toNat = cc at *
  have HST := Lib.hid hst
  clear hst k0 k1 k2 hb0 hm hcc hs0
  go_wp2_with fail
  go_loopw [5, 6, 7] (fun v i j wr => ∃ (a b : Nat) (out : List (Int × Int)) (B : Option Addr) (d : Nat), a ≤ n ∧ b ≤ n2 ∧ i = .int .i64 a ∧ j = .int .i64 b ∧ v = .slice B (a + b) d ∧ OrW w wr l t (.slice A n c) (.slice A2 n2 c2) a b out B d) (fun _ i j _ => (n - (intOf i).toNat) + (n2 - (intOf j).toNat))
  case atStart => exact ⟨0, 0, [], _, _, Nat.zero_le _, Nat.zero_le _, rfl, rfl, rfl, HST.out⟩
  case round =>
    obtain ⟨a, b, out, B, d, ha, hb, rfl, rfl, rfl, hor⟩ := hrel
    have e0 : wr.cell? ⟨w.heap.size, 0, none⟩ = some (.slice A n c) := (hor.b0.cell 0).trans rfl
    have e1 : wr.cell? ⟨w.heap.size + 1, 0, none⟩ = some (.slice A2 n2 c2) := (hor.b1.cell 0).trans rfl
    have hszr := hor.b2.lt
    have HO := Lib.hid hor
    clear hor HST c0 c1
    by_cases hmore : a < n ∨ b < n2
    · go_upto_region 3 with fail
      go_cut [27] (fun x wy => x = .bool true ∧ wy = wr)
      case first =>
        by_cases han : a < n
        · go_wp2_with fail
          go_meet
          exact ⟨rfl, rfl⟩
        · have hbn : b < n2 := by omega
          go_wp2_with fail
          go_meet
          exact ⟨by simp, rfl⟩
      case rest =>
        obtain ⟨rfl, rfl⟩ := hcut
        generalize wc = wv at *
        go_upto_region 4 with fail
        go_cut [54] (fun x wy => x = .bool (fromL l t a b) ∧ ∃ q, wy = wv.drewN q)
        case first =>
          by_cases hbn : b < n2
          · obtain ⟨b2, o2, rfl, hb2, y0, y1⟩ := (HR2.out.below HO.out.below (Nat.le_refl _)).span.2 b (by have := HL2.out; omega)
            have q1 : ((b : Int) == (n2 : Int)) = false := by simp; omega
            have i1 : (0 : Int) ≤ (b : Int) := by omega
            have i2 : (b : Int) < (n2 : Int) := by omega
            by_cases han : a < n
            · obtain ⟨b1, o1, rfl, hb1, x0, x1⟩ := (HR1.out.below HO.out.below (Nat.le_refl _)).span.2 a (by have := HL1.out; omega)
              have i3 : (0 : Int) ≤ (a : Int) := by omega
              have i4 : (a : Int) < (n : Int) := by omega
              have d1 : decide (a < n) = true := decide_eq_true han
              have hla : a < l.length := by have := HL1.out; omega
              have hlb : b < t.length := by have := HL2.out; omega
              have HF : Hid (decide ((l[a]).1 ≤ (t[b]).1) = fromL l t a b) := by
                show decide ((l[a]).1 ≤ (t[b]).1) = fromL l t a b
                unfold fromL
                rw [List.getElem?_eq_getElem (by have := HL2.out; omega), List.getElem?_eq_getElem (by have := HL1.out; omega)]
              go_wp2_with fail
              go_quiet (fail)
              go_wp2_with fail
              go_meet
              exact ⟨by rw [HF.out], _, rfl⟩
            · have d1 : decide (a < n) = false := decide_eq_false han
              have HF : Hid (false = fromL l t a b) := by
                show _ = fromL l t a b
                unfold fromL
                rw [List.getElem?_eq_getElem (by have := HL2.out; omega), List.getElem?_eq_none (by have := HL1.out; omega)]
              go_wp2_with fail
              go_quiet (fail)
              go_wp2_with fail
              go_meet
              exact ⟨by rw [← HF.out], _, rfl⟩
          · obtain rfl : b = n2 := by omega
            have q1 : ((b : Int) == (b : Int)) = true := by simp
            have HF : Hid (true = fromL l t a b) := by
              show _ = fromL l t a b
              unfold fromL
              rw [List.getElem?_eq_none (by have := HL2.out; omega)]
            go_wp2_with fail
            go_quiet (fail)
            go_wp2_with fail
            go_meet
            exact ⟨by rw [← HF.out], _, rfl⟩
        case rest =>
          obtain ⟨rfl, q0, rfl⟩ := hcut
          have hown : (wv.drewN q0).ownsRow (w.heap.size + 3) 41 2 (.slice B (a + b) d) (a + b) (spanCells out) := HO.out.own
          have hbel : Below w.heap.size w (wv.drewN q0) := below_drewN HO.out.below _
          have kk0 : Blk (wv.drewN q0) w.heap.size 95 #[.slice A n c] := HO.out.b0
          have kk1 : Blk (wv.drewN q0) (w.heap.size + 1) 95 #[.slice A2 n2 c2] := HO.out.b1
          have kk2 : Blk (wv.drewN q0) (w.heap.size + 1 + 1) 95 #[.slice none 0 0] := HO.out.b2
          have hsz2 : w.heap.size + 1 + 1 < (wv.drewN q0).heap.size := kk2.lt
          generalize wv.drewN q0 = w2 at *
          have g0 : w2.cell? ⟨w.heap.size, 0, none⟩ = some (.slice A n c) := (kk0.cell 0).trans rfl
          have g1 : w2.cell? ⟨w.heap.size + 1, 0, none⟩ = some (.slice A2 n2 c2) := (kk1.cell 0).trans rfl
          have HOWN := Lib.hid hown
          have HB := Lib.hid hbel
          have HK0 := Lib.hid kk0
          have HK1 := Lib.hid kk1
          have HK2 := Lib.hid kk2
          clear hown hbel kk0 kk1 kk2 e0 e1
          cases ht : fromL l t a b
          · have HT := Lib.hid ht
            clear ht
            have hlb : b < t.length := fromL_lt' HT.out
            have hidx : b < n2 := by have := HL2.out; omega
            obtain ⟨bb, oo, rfl, hbb, x0, x1⟩ := (HR2.out.below HB.out (Nat.le_refl _)).span.2 b hlb
            have own3 : (w2.alloc (.cells #[.int .i64 t[b].1, .int .i64 t[b].2] 41)).ownsRow (w.heap.size + 3) 41 2 (.slice B (a + b) d) (a + b) (spanCells out) := HOWN.out.alloc _
            have rd3 : Rd (w2.alloc (.cells #[.int .i64 t[b].1, .int .i64 t[b].2] 41)) (w2.alloc (.cells #[.int .i64 t[b].1, .int .i64 t[b].2] 41)).heap.size 2 (some ⟨w2.heap.size, 0, none⟩) 1 (spanCells [t[b]]) := (Blk.new w2 41 _).rd
            have OWN3 := Lib.hid own3
            have RD3 := Lib.hid rd3
            have HSEQ : Hid ((out ++ [t[b]]) ++ mergeS (l.drop (a)) (t.drop (b + 1)) = mergeS l t) := by
              show (out ++ [t[b]]) ++ mergeS (l.drop (a)) (t.drop (b + 1)) = mergeS l t
              rw [← HO.out.seq, merge_right hlb HT.out]
              simp
            clear own3 rd3
            go_wp2_with (first
              | (refine wpList_one rfl 52 41 _ rfl w2.heap.size rfl (some 71) rfl under52 (.agg #[.int .i64 t[b].1, .int .i64 t[b].2]) rfl #[.int .i64 t[b].1, .int .i64 t[b].2] (built41 _ _) ?_)
              | (at_builtin; refine wpList_append_rd _ rfl _ _ 52 rfl (w.heap.size + 3) 41 i0 (.agg #[.int .i64 0, .int .i64 0]) 2 16 under52 hi0 hz0 hz1 hz2 rfl (by decide) (.slice B (a + b) d) (a + b) (spanCells out) rfl OWN3.out (some ⟨w2.heap.size, 0, none⟩) 1 1 _ _ rfl RD3.out (spanCells_one [t[b]]) (by unfold maxLen; omega) (by omega) (by simp; omega) ?_; intro A9 c9 w5 hown hgrow hnc hat; have HOW := Lib.hid hown; have HGR := Lib.hid hgrow; have HNC := Lib.hid hnc; clear hown hgrow hat hnc))
            go_roundw
            case rel =>
              have hlow := fun g (hg : (Value.slice B (a + b) d).ownBlock = some g) => (OWN3.out.lt g hg).1
              have e : a + (b + 1) = a + b + 1 := by omega
              refine ⟨a, b + 1, out ++ [t[b]], A9, c9, by omega, by omega, by go_num, by go_num, by rw [e], ⟨by rw [e]; exact HNC.out, by rw [e, List.length_append, HO.out.len]; rfl, by rw [e, spanCells_append]; exact HOW.out, HSEQ.out, ?_, ?_, ?_, ?_⟩⟩
              · exact (HB.out.alloc HB.out.size _).trans (grown_below HGR.out (by simp; omega) (fun g hg => by have := hlow g hg; omega))
              · exact (HK0.out.alloc _).grown HGR.out (fun e => by have := hlow _ e; omega)
              · exact (HK1.out.alloc _).grown HGR.out (fun e => by have := hlow _ e; omega)
              · exact (HK2.out.alloc _).grown HGR.out (fun e => by have := hlow _ e; omega)
            case measure => simp [intOf]; omega
          · have HT := Lib.hid ht
            clear ht
            have hla : a < l.length := fromL_lt HT.out (by have := HL1.out; have := HL2.out; omega)
            have hidx : a < n := by have := HL1.out; omega
            obtain ⟨bb, oo, rfl, hbb, x0, x1⟩ := (HR1.out.below HB.out (Nat.le_refl _)).span.2 a hla
            have own3 : (w2.alloc (.cells #[.int .i64 l[a].1, .int .i64 l[a].2] 41)).ownsRow (w.heap.size + 3) 41 2 (.slice B (a + b) d) (a + b) (spanCells out) := HOWN.out.alloc _
            have rd3 : Rd (w2.alloc (.cells #[.int .i64 l[a].1, .int .i64 l[a].2] 41)) (w2.alloc (.cells #[.int .i64 l[a].1, .int .i64 l[a].2] 41)).heap.size 2 (some ⟨w2.heap.size, 0, none⟩) 1 (spanCells [l[a]]) := (Blk.new w2 41 _).rd
            have OWN3 := Lib.hid own3
            have RD3 := Lib.hid rd3
            have HSEQ : Hid ((out ++ [l[a]]) ++ mergeS (l.drop (a + 1)) (t.drop (b)) = mergeS l t) := by
              show (out ++ [l[a]]) ++ mergeS (l.drop (a + 1)) (t.drop (b)) = mergeS l t
              rw [← HO.out.seq, merge_left hla HT.out]
              simp
            clear own3 rd3
            go_wp2_with (first
              | (refine wpList_one rfl 52 41 _ rfl w2.heap.size rfl (some 61) rfl under52 (.agg #[.int .i64 l[a].1, .int .i64 l[a].2]) rfl #[.int .i64 l[a].1, .int .i64 l[a].2] (built41 _ _) ?_)
              | (at_builtin; refine wpList_append_rd _ rfl _ _ 52 rfl (w.heap.size + 3) 41 i0 (.agg #[.int .i64 0, .int .i64 0]) 2 16 under52 hi0 hz0 hz1 hz2 rfl (by decide) (.slice B (a + b) d) (a + b) (spanCells out) rfl OWN3.out (some ⟨w2.heap.size, 0, none⟩) 1 1 _ _ rfl RD3.out (spanCells_one [l[a]]) (by unfold maxLen; omega) (by omega) (by simp; omega) ?_; intro A9 c9 w5 hown hgrow hnc hat; have HOW := Lib.hid hown; have HGR := Lib.hid hgrow; have HNC := Lib.hid hnc; clear hown hgrow hat hnc))
            go_roundw
            case rel =>
              have hlow := fun g (hg : (Value.slice B (a + b) d).ownBlock = some g) => (OWN3.out.lt g hg).1
              have e : a + 1 + b = a + b + 1 := by omega
              refine ⟨a + 1, b, out ++ [l[a]], A9, c9, by omega, by omega, by go_num, by go_num, by rw [e], ⟨by rw [e]; exact HNC.out, by rw [e, List.length_append, HO.out.len]; rfl, by rw [e, spanCells_append]; exact HOW.out, HSEQ.out, ?_, ?_, ?_, ?_⟩⟩
              · exact (HB.out.alloc HB.out.size _).trans (grown_below HGR.out (by simp; omega) (fun g hg => by have := hlow g hg; omega))
              · exact (HK0.out.alloc _).grown HGR.out (fun e => by have := hlow _ e; omega)
              · exact (HK1.out.alloc _).grown HGR.out (fun e => by have := hlow _ e; omega)
              · exact (HK2.out.alloc _).grown HGR.out (fun e => by have := hlow _ e; omega)
            case measure => simp [intOf]; omega
    · obtain rfl : a = n := by omega
      obtain rfl : b = n2 := by omega
      go_wp2_with fail
      have hrd : Rd wr wr.heap.size 2 B (a + b) (spanCells out) := own_rd HO.out.own
      refine (gather_any B (a + b) d out _ hrd (by omega)).mono ?_
      rintro en w2 ⟨⟨A', c', rfl, hown, hcap⟩, hb2⟩
      have hseq : out = mergeS l t := by
        have := HO.out.seq
        rw [List.drop_of_length_le (by have := HL1.out; omega), List.drop_of_length_le (by have := HL2.out; omega), mergeS_nil_left, List.append_nil] at this
        exact this
      subst hseq
      have kr2 := HO.out.b2.below hb2 hszr
      have f2 := kr2.free'
      have r0 : w2.cell? ⟨w.heap.size + 1 + 1, 0, none⟩ = some (.slice none 0 0) := (kr2.cell 0).trans rfl
      have HOW := Lib.hid hown
      have HB2 := Lib.hid hb2
      have KR2 := Lib.hid kr2
      clear hown hb2 kr2 e0 e1
      go_wp2_with fail
      have kf := KR2.out.set 0 (.slice A' (gatherS (mergeS l t)).length c')
      refine bodyPost_ret (v := .agg #[.slice A' (gatherS (mergeS l t)).length c']) (results_cell_row Tryz.results91 _ _ (w.heap.size + 1 + 1) 95 _ (0, 0) _ rfl kf Tryz.underlying95 rfl size95) rfl ⟨⟨A', c', rfl, ?_, hcap⟩, ?_⟩
      · exact own_base (own_set HOW.out (b := w.heap.size + 1 + 1) (o := 0) (by omega) _) (by omega)
      · exact below_set (HO.out.below.trans (HB2.out.mono (by omega))) (by omega) _
end Go.Proofs.YtoaiamgcegnjjaaGreatDoor
