/- A report's text, by the program. -/
import Derived.Test.YtmgmfnimaafkdaaGreatDoorXF
import Derived.Test.YtmgmfnimaafkdaaGreatDoorVT
namespace Go.Proofs.YtmgmfnimaafkdaaGreatDoor
open Go.RowKit Go.Maps
set_option maxRecDepth 100000

def goodW : List UInt8 := [103, 111, 111, 100]
def badW : List UInt8 := [98, 97, 100]
def lostW : List UInt8 := [108, 111, 115, 116]
def bareW : List UInt8 := [98, 97, 114, 101]
def namesText (wd : List UInt8) (l : List NameV) : List UInt8 := l.flatMap fun n => lineB wd [n.1, n.2]
def numsText (wd : List UInt8) (l : List Int) : List UInt8 := l.flatMap fun v => lineB wd [v]
def textS (g b : List NameV) (ls bs : List Int) : List UInt8 := namesText goodW g ++ namesText badW b ++ numsText lostW ls ++ numsText bareW bs
def inI (x : Int) : Prop := -9223372036854775808 ≤ x ∧ x ≤ 9223372036854775807
theorem line_len (wd : List UInt8) (l : List Int) (hn : ∀ x ∈ l, inI x) : (lineB wd l).length ≤ wd.length + 22 * l.length + 1 := by
 have := items_len l hn
 unfold lineB
 simp only [List.length_append, List.length_cons, List.length_nil]
 omega
theorem namesText_len (wd : List UInt8) (hw : wd.length ≤ 10) : ∀ (l : List NameV), (∀ n ∈ l, inI n.1 ∧ inI n.2) → (namesText wd l).length ≤ 60 * l.length
 | [], _ => by simp [namesText]
 | n :: l, h => by
  have ih := namesText_len wd hw l (fun x hx => h x (List.mem_cons_of_mem _ hx))
  have h1 := line_len wd [n.1, n.2] (fun x hx => by simp at hx; rcases hx with rfl | rfl; exact (h n (by simp)).1; exact (h n (by simp)).2)
  unfold namesText at ih ⊢
  simp only [List.flatMap_cons, List.length_append, List.length_cons, List.length_nil] at h1 ih ⊢
  omega
theorem numsText_len (wd : List UInt8) (hw : wd.length ≤ 10) : ∀ (l : List Int), (∀ n ∈ l, inI n) → (numsText wd l).length ≤ 60 * l.length
 | [], _ => by simp [numsText]
 | n :: l, h => by
  have ih := numsText_len wd hw l (fun x hx => h x (List.mem_cons_of_mem _ hx))
  have h1 := line_len wd [n] (fun x hx => by simp at hx; subst hx; exact h _ (by simp))
  unfold numsText at ih ⊢
  simp only [List.flatMap_cons, List.length_append, List.length_cons, List.length_nil] at h1 ih ⊢
  omega
theorem namesText_snoc (wd : List UInt8) (l : List NameV) (n : NameV) : namesText wd (l ++ [n]) = namesText wd l ++ lineB wd [n.1, n.2] := by simp [namesText]
theorem numsText_snoc (wd : List UInt8) (l : List Int) (n : Int) : numsText wd (l ++ [n]) = numsText wd l ++ lineB wd [n] := by simp [numsText]
theorem rd_name {w : World} {B n : Nat} {A : Option Addr} {l : List NameV} (h : Rd w B 2 A n (nameRows l)) (i : Nat) (hi : i < l.length) (hn : n = l.length) : ∃ b o, A = some ⟨b, o, none⟩ ∧ b < B ∧ w.cell? ⟨b, o + i * 2, none⟩ = some (.int .i64 l[i].1) ∧ w.cell? ⟨b, o + i * 2 + 1, none⟩ = some (.int .i64 l[i].2) := by
 obtain ⟨b, o, rfl, hb, hc⟩ := h.2 (by omega)
 have hp := pair_cells (fun x : NameV => Value.int .i64 x.1) (fun x => .int .i64 x.2) l i hi
 obtain ⟨p1, p2⟩ := hp
 have l1 : i * 2 < (nameRows l).length := by rw [nameRows_len]; omega
 have l2 : i * 2 + 1 < (nameRows l).length := by rw [nameRows_len]; omega
 refine ⟨b, o, rfl, hb, ?_, ?_⟩
 ·rw [hc _ l1, ← p1]; exact (List.getElem?_eq_getElem l1).symm
 ·rw [Nat.add_assoc, hc _ l2, ← p2]; exact (List.getElem?_eq_getElem l2).symm
theorem rd_num {w : World} {B n : Nat} {A : Option Addr} {l : List Int} (h : Rd w B 1 A n (numVs l)) (i : Nat) (hi : i < l.length) (hn : n = l.length) : ∃ b o, A = some ⟨b, o, none⟩ ∧ b < B ∧ w.cell? ⟨b, o + i, none⟩ = some (.int .i64 l[i]) := by
 obtain ⟨b, o, rfl, hb, hc⟩ := h.2 (by omega)
 refine ⟨b, o, rfl, hb, ?_⟩
 rw [hc i (by unfold numVs; simpa using hi)]
 simp [numVs]
set_option maxHeartbeats 16000000 in
theorem text_any {w : World} (g b : List NameV) (ls bs : List Int) (A1 A2 A3 A4 : Option Addr) (c1 c2 c3 c4 : Nat) (h1 : Rd w w.heap.size 2 A1 g.length (nameRows g)) (h2 : Rd w w.heap.size 2 A2 b.length (nameRows b)) (h3 : Rd w w.heap.size 1 A3 ls.length (numVs ls)) (h4 : Rd w w.heap.size 1 A4 bs.length (numVs bs))
  (b1 : ∀ n ∈ g, inI n.1 ∧ inI n.2) (b2 : ∀ n ∈ b, inI n.1 ∧ inI n.2) (b3 : ∀ n ∈ ls, inI n) (b4 : ∀ n ∈ bs, inI n) (hT : TabsB w.heap.size w) (hl : g.length + b.length + ls.length + bs.length ≤ 60) :
  Calls Tryz.prog 50 #[.agg #[.slice A1 g.length c1, .slice A2 b.length c2, .slice A3 ls.length c3, .slice A4 bs.length c4]] w fun e w' => e = .returned (.string ⟨(textS g b ls bs).toArray⟩) ∧ Below w.heap.size w w' := by
 have H1 := hZ9 h1
 have H2 := hZ9 h2
 have H3 := hZ9 h3
 have H4 := hZ9 h4
 have B1 := hZ9 b1
 have B2 := hZ9 b2
 have B3 := hZ9 b3
 have B4 := hZ9 b4
 have hK := hZ9 (Blk.new w 96 #[.slice A1 g.length c1, .slice A2 b.length c2, .slice A3 ls.length c3, .slice A4 bs.length c4])
 have HB0 : Hid (Below w.heap.size w (w.alloc (.cells #[.slice A1 g.length c1, .slice A2 b.length c2, .slice A3 ls.length c3, .slice A4 bs.length c4] 96))) := bR0.alloc nR0 _
 have HT := hZ9 (show ∀ wy, Below w.heap.size w wy → Tb wy from fun wy hy => (hT wy hy).2)
 clear h1 h2 h3 h4 b1 b2 b3 b4 hT
 go_enter Tryz.func50, Tryz.ntmps50
 go_upto_region 1 with fail
 generalize w.alloc (.cells #[.slice A1 g.length c1, .slice A2 b.length c2, .slice A3 ls.length c3, .slice A4 bs.length c4] 96) = w1 at *
 have hw1 := HB0.out.size
 obtain ⟨X, hX⟩ : ∃ X, X = w.heap.size := ⟨_, rfl⟩
 have hX1 : X < w1.heap.size := by rw [hX]; exact hK.out.lt
 rw [← hX] at hK ⊢
 obtain ⟨B, hBe⟩ : ∃ B, B = w1.heap.size := ⟨_, rfl⟩
 have hwB : w.heap.size ≤ B := by omega
 have HX := hZ9 hX
 have HBE := hZ9 hBe
 go_upto_region 2 with fail
 have HBU : Hid (Lib.IsBuilderF 196 5 B B (Lib.byteCells []) (w1.alloc (.cells #[.pointer none, .slice none 0 0] 196))) := by
  show Lib.IsBuilderF _ _ _ _ _ _
  rw [hBe]
  exact Lib.IsBuilderF.of (Lib.fresh_isBuilder 196 5 w1)
 have HB2 : Hid (Below B w1 (w1.alloc (.cells #[.pointer none, .slice none 0 0] 196))) := bR0.alloc (by omega) _
 rw [← hBe]
 clear hX hBe
 generalize w1.alloc (.cells #[.pointer none, .slice none 0 0] 196) = w2 at *
 have hK2 := hZ9 (hK.out.below HB2.out (by have := HBE.out; omega))
 have HW2 : Hid (Below w.heap.size w w2) := HB0.out.trans (HB2.out.mono hwB)
 have hs2 : B ≤ w2.heap.size := by have := HB2.out.size; have := HBE.out; omega
 have hXB : X < B := by have := HBE.out; omega
 clear HB2 HB0 hK
 have tl1 := namesText_len goodW (by decide) g B1.out
 have tl2 := namesText_len badW (by decide) b B2.out
 have tl3 := numsText_len lostW (by decide) ls B3.out
 have k0 : w2.cell? ⟨X, 0, none⟩ = some (.slice A1 g.length c1) := hK2.out.cell 0
 have kl1 := hK2.out.lt
 go_wp2_with fail
 go_loopw [17] (fun i wr => ∃ j : Nat, j ≤ g.length ∧ i = .int .i64 (j : Nat) ∧ Lib.IsBuilderF 196 5 B B (Lib.byteCells ([] ++ namesText goodW (g.take j))) wr ∧ Below B w2 wr) (fun i _ => g.length - (intOf i).toNat)
 case atStart => exact ⟨0, Nat.zero_le _, rfl, by rw [List.take_zero]; simpa [namesText] using HBU.out, bR0⟩
 case round =>
  obtain ⟨j, hj, rfl, hu, hb⟩ := hrel
  have hbw : Below w.heap.size w wr := HW2.out.trans (hb.mono hwB)
  have hwr : B ≤ wr.heap.size := Nat.le_trans hs2 hb.size
  by_cases hlt : j < g.length
  ·obtain ⟨bb, oo, hA, hbl, q0', q1'⟩ := rd_name H1.out j hlt rfl
   have q0 := (hbw.cell (p := ⟨bb, oo + j * 2, none⟩) hbl).trans q0'
   have q1 := (hbw.cell (p := ⟨bb, oo + j * 2 + 1, none⟩) hbl).trans q1'
   have htk : g.take (j + 1) = g.take j ++ [g[j]] := List.take_succ_eq_append_getElem hlt
   have hin := B1.out g[j] (List.getElem_mem _)
   have hlen := namesText_len goodW (by decide) (g.take j) (fun n hn => B1.out n (List.mem_of_mem_take hn))
   rw [List.length_take] at hlen
   subst hA
   clear q0' q1'
   generalize g[j] = x at *
   obtain ⟨n1, n2⟩ := x
   simp only at q0 q1 hin
   have hbx : Below wr.heap.size wr ((wr.alloc (.cells #[.int .i64 n1, .int .i64 n2] 73)).alloc (.cells #[.int .i64 n1, .int .i64 n2] 2)) := (bR0.alloc nR0 _).alloc (by simp) _
   have hsx : Blk ((wr.alloc (.cells #[.int .i64 n1, .int .i64 n2] 73)).alloc (.cells #[.int .i64 n1, .int .i64 n2] 2)) (wr.heap.size + 1) 2 (numVs [n1, n2]).toArray := Blk.new_eq0 (by simp)
   have hacc : ([] ++ namesText goodW (g.take j)).length ≤ 3600 := by simp only [List.length_append, List.length_nil]; omega
   have LN := hZ9 (show Calls Tryz.prog 97 #[.string ⟨(goodW).toArray⟩, .slice (some ⟨(wr.heap.size + 1), 0, none⟩) 2 2, .pointer (some ⟨B, 0, none⟩)] ((wr.alloc (.cells #[.int .i64 n1, .int .i64 n2] 73)).alloc (.cells #[.int .i64 n1, .int .i64 n2] 2)) fun e w' => e = .returned (.tuple #[]) ∧ Lib.IsBuilderF 196 5 B B (Lib.byteCells ([] ++ namesText goodW (g.take (j + 1)))) w' ∧ Below B w2 w' from
    (line_any goodW [n1, n2] (builderF_below hu hbx) (Nat.le_trans hwr hbx.size) hsx (by omega) (by simp) (fun y hy => by simp at hy; rcases hy with rfl | rfl; exact hin.1; exact hin.2) (fun wy hy => HT.out wy ((hbw.trans (hbx.mono (Nat.le_trans hwB hwr))).trans (hy.mono hwB))) (by omega) (by decide)).mono fun e w' ⟨e1, e2, e3⟩ => ⟨e1, by rw [htk, namesText_snoc, ← List.append_assoc]; exact e2, (hb.trans (hbx.mono hwr)).trans e3⟩)
   have j1 : (j : Int) < (g.length : Int) := by omega
   have j2 : (0 : Int) ≤ (j : Int) := by omega
   clear hu hb htk hlen hin hbx hsx hacc hbw
   go_wp2_with (go_at_call 97; refine LN.out.mono ?_; rintro en w5 ⟨rfl, h5, h6⟩; (have HU5 := hZ9 h5); (have HB5 := hZ9 h6); clear h5 h6)
   go_roundw
   case rel => exact ⟨j + 1, by omega, by go_num, HU5.out, HB5.out⟩
   case measure => simp [intOf]; omega
  ·obtain rfl : j = g.length := by omega
   rw [List.take_length] at hu
   rw [List.nil_append] at hu
   have HU2 := hZ9 hu
   have HW3 := hZ9 hbw
   have hK3 := hZ9 (hK2.out.below hb hXB)
   have hs3 := hwr
   clear hu hb hbw hwr k0 kl1
   obtain ⟨w3, hwe⟩ : ∃ q, q = wr := ⟨_, rfl⟩
   rw [← hwe] at HU2 HW3 hK3 hs3 ⊢
   clear hwe
   have k1 : w3.cell? ⟨X, 1, none⟩ = some (.slice A2 b.length c2) := hK3.out.cell 1
   have kl2 := hK3.out.lt
   go_wp2_with fail
   go_loopw [32] (fun i wr => ∃ j : Nat, j ≤ b.length ∧ i = .int .i64 (j : Nat) ∧ Lib.IsBuilderF 196 5 B B (Lib.byteCells (namesText goodW g ++ namesText badW (b.take j))) wr ∧ Below B w3 wr) (fun i _ => b.length - (intOf i).toNat)
   case atStart => exact ⟨0, Nat.zero_le _, rfl, by rw [List.take_zero]; simpa [namesText] using HU2.out, bR0⟩
   case round =>
    obtain ⟨j, hj, rfl, hu, hb⟩ := hrel
    have hbw : Below w.heap.size w wr := HW3.out.trans (hb.mono hwB)
    have hwr : B ≤ wr.heap.size := Nat.le_trans hs3 hb.size
    by_cases hlt : j < b.length
    ·obtain ⟨bb, oo, hA, hbl, q0', q1'⟩ := rd_name H2.out j hlt rfl
     have q0 := (hbw.cell (p := ⟨bb, oo + j * 2, none⟩) hbl).trans q0'
     have q1 := (hbw.cell (p := ⟨bb, oo + j * 2 + 1, none⟩) hbl).trans q1'
     have htk : b.take (j + 1) = b.take j ++ [b[j]] := List.take_succ_eq_append_getElem hlt
     have hin := B2.out b[j] (List.getElem_mem _)
     have hlen := namesText_len badW (by decide) (b.take j) (fun n hn => B2.out n (List.mem_of_mem_take hn))
     rw [List.length_take] at hlen
     subst hA
     clear q0' q1'
     generalize b[j] = x at *
     obtain ⟨n1, n2⟩ := x
     simp only at q0 q1 hin
     have hbx : Below wr.heap.size wr ((wr.alloc (.cells #[.int .i64 n1, .int .i64 n2] 73)).alloc (.cells #[.int .i64 n1, .int .i64 n2] 2)) := (bR0.alloc nR0 _).alloc (by simp) _
     have hsx : Blk ((wr.alloc (.cells #[.int .i64 n1, .int .i64 n2] 73)).alloc (.cells #[.int .i64 n1, .int .i64 n2] 2)) (wr.heap.size + 1) 2 (numVs [n1, n2]).toArray := Blk.new_eq0 (by simp)
     have hacc : (namesText goodW g ++ namesText badW (b.take j)).length ≤ 3600 := by simp only [List.length_append]; omega
     have LN := hZ9 (show Calls Tryz.prog 97 #[.string ⟨(badW).toArray⟩, .slice (some ⟨(wr.heap.size + 1), 0, none⟩) 2 2, .pointer (some ⟨B, 0, none⟩)] ((wr.alloc (.cells #[.int .i64 n1, .int .i64 n2] 73)).alloc (.cells #[.int .i64 n1, .int .i64 n2] 2)) fun e w' => e = .returned (.tuple #[]) ∧ Lib.IsBuilderF 196 5 B B (Lib.byteCells (namesText goodW g ++ namesText badW (b.take (j + 1)))) w' ∧ Below B w3 w' from
      (line_any badW [n1, n2] (builderF_below hu hbx) (Nat.le_trans hwr hbx.size) hsx (by omega) (by simp) (fun y hy => by simp at hy; rcases hy with rfl | rfl; exact hin.1; exact hin.2) (fun wy hy => HT.out wy ((hbw.trans (hbx.mono (Nat.le_trans hwB hwr))).trans (hy.mono hwB))) (by omega) (by decide)).mono fun e w' ⟨e1, e2, e3⟩ => ⟨e1, by rw [htk, namesText_snoc, ← List.append_assoc]; exact e2, (hb.trans (hbx.mono hwr)).trans e3⟩)
     have j1 : (j : Int) < (b.length : Int) := by omega
     have j2 : (0 : Int) ≤ (j : Int) := by omega
     clear hu hb htk hlen hin hbx hsx hacc hbw
     go_wp2_with (go_at_call 97; refine LN.out.mono ?_; rintro en w5 ⟨rfl, h5, h6⟩; (have HU5 := hZ9 h5); (have HB5 := hZ9 h6); clear h5 h6)
     go_roundw
     case rel => exact ⟨j + 1, by omega, by go_num, HU5.out, HB5.out⟩
     case measure => simp [intOf]; omega
    ·obtain rfl : j = b.length := by omega
     rw [List.take_length] at hu
     have HU3 := hZ9 hu
     have HW4 := hZ9 hbw
     have hK4 := hZ9 (hK3.out.below hb hXB)
     have hs4 := hwr
     clear hu hb hbw hwr k1 kl2
     obtain ⟨w4, hwe⟩ : ∃ q, q = wr := ⟨_, rfl⟩
     rw [← hwe] at HU3 HW4 hK4 hs4 ⊢
     clear hwe
     have k2 : w4.cell? ⟨X, 2, none⟩ = some (.slice A3 ls.length c3) := hK4.out.cell 2
     have kl3 := hK4.out.lt
     go_wp2_with fail
     go_loopw [47] (fun i wr => ∃ j : Nat, j ≤ ls.length ∧ i = .int .i64 (j : Nat) ∧ Lib.IsBuilderF 196 5 B B (Lib.byteCells (namesText goodW g ++ namesText badW b ++ numsText lostW (ls.take j))) wr ∧ Below B w4 wr) (fun i _ => ls.length - (intOf i).toNat)
     case atStart => exact ⟨0, Nat.zero_le _, rfl, by rw [List.take_zero]; simpa [numsText] using HU3.out, bR0⟩
     case round =>
      obtain ⟨j, hj, rfl, hu, hb⟩ := hrel
      have hbw : Below w.heap.size w wr := HW4.out.trans (hb.mono hwB)
      have hwr : B ≤ wr.heap.size := Nat.le_trans hs4 hb.size
      by_cases hlt : j < ls.length
      ·obtain ⟨bb, oo, hA, hbl, q0'⟩ := rd_num H3.out j hlt rfl
       have q0 := (hbw.cell (p := ⟨bb, oo + j, none⟩) hbl).trans q0'
       have htk : ls.take (j + 1) = ls.take j ++ [ls[j]] := List.take_succ_eq_append_getElem hlt
       have hin := B3.out ls[j] (List.getElem_mem _)
       have hlen := numsText_len lostW (by decide) (ls.take j) (fun n hn => B3.out n (List.mem_of_mem_take hn))
       rw [List.length_take] at hlen
       subst hA
       clear q0'
       generalize ls[j] = x at *
       have hbx : Below wr.heap.size wr (wr.alloc (.cells #[.int .i64 x] 2)) := bR0.alloc nR0 _
       have hsx : Blk (wr.alloc (.cells #[.int .i64 x] 2)) wr.heap.size 2 (numVs [x]).toArray := Blk.new _ _ _
       have hacc : (namesText goodW g ++ namesText badW b ++ numsText lostW (ls.take j)).length ≤ 3600 := by simp only [List.length_append]; omega
       have LN := hZ9 (show Calls Tryz.prog 97 #[.string ⟨(lostW).toArray⟩, .slice (some ⟨wr.heap.size, 0, none⟩) 1 1, .pointer (some ⟨B, 0, none⟩)] (wr.alloc (.cells #[.int .i64 x] 2)) fun e w' => e = .returned (.tuple #[]) ∧ Lib.IsBuilderF 196 5 B B (Lib.byteCells (namesText goodW g ++ namesText badW b ++ numsText lostW (ls.take (j + 1)))) w' ∧ Below B w4 w' from
        (line_any lostW [x] (builderF_below hu hbx) (Nat.le_trans hwr hbx.size) hsx (fun e => by have h5 := (builderF_below hu hbx); rcases h5 with ⟨_, _, h6, _⟩ | ⟨_, _, h6, _⟩ <;> (rw [← e] at h6; unfold Blk at hsx; rw [hsx] at h6; injection h6 with h6; injection h6 with _ h6; exact absurd h6 (by decide))) (by simp) (fun y hy => by simp at hy; subst hy; exact hin) (fun wy hy => HT.out wy ((hbw.trans (hbx.mono (Nat.le_trans hwB hwr))).trans (hy.mono hwB))) (by omega) (by decide)).mono fun e w' ⟨e1, e2, e3⟩ => ⟨e1, by rw [htk, numsText_snoc, ← List.append_assoc]; exact e2, (hb.trans (hbx.mono hwr)).trans e3⟩)
       have j1 : (j : Int) < (ls.length : Int) := by omega
       have j2 : (0 : Int) ≤ (j : Int) := by omega
       clear hu hb htk hlen hin hbx hsx hacc hbw
       go_wp2_with (go_at_call 97; refine LN.out.mono ?_; rintro en w5 ⟨rfl, h5, h6⟩; (have HU5 := hZ9 h5); (have HB5 := hZ9 h6); clear h5 h6)
       go_roundw
       case rel => exact ⟨j + 1, by omega, by go_num, HU5.out, HB5.out⟩
       case measure => simp [intOf]; omega
      ·obtain rfl : j = ls.length := by omega
       rw [List.take_length] at hu
       have HU4 := hZ9 hu
       have HW5 := hZ9 hbw
       have hK5 := hZ9 (hK4.out.below hb hXB)
       have hs5 := hwr
       clear hu hb hbw hwr k2 kl3
       obtain ⟨w5, hwe⟩ : ∃ q, q = wr := ⟨_, rfl⟩
       rw [← hwe] at HU4 HW5 hK5 hs5 ⊢
       clear hwe
       have k3 : w5.cell? ⟨X, 3, none⟩ = some (.slice A4 bs.length c4) := hK5.out.cell 3
       have kl4 := hK5.out.lt
       go_wp2_with fail
       go_loopw [59] (fun i wr => ∃ j : Nat, j ≤ bs.length ∧ i = .int .i64 (j : Nat) ∧ Lib.IsBuilderF 196 5 B B (Lib.byteCells (namesText goodW g ++ namesText badW b ++ numsText lostW ls ++ numsText bareW (bs.take j))) wr ∧ Below B w5 wr) (fun i _ => bs.length - (intOf i).toNat)
       case atStart => exact ⟨0, Nat.zero_le _, rfl, by rw [List.take_zero]; simpa [numsText] using HU4.out, bR0⟩
       case round =>
        obtain ⟨j, hj, rfl, hu, hb⟩ := hrel
        have hbw : Below w.heap.size w wr := HW5.out.trans (hb.mono hwB)
        have hwr : B ≤ wr.heap.size := Nat.le_trans hs5 hb.size
        by_cases hlt : j < bs.length
        ·obtain ⟨bb, oo, hA, hbl, q0'⟩ := rd_num H4.out j hlt rfl
         have q0 := (hbw.cell (p := ⟨bb, oo + j, none⟩) hbl).trans q0'
         have htk : bs.take (j + 1) = bs.take j ++ [bs[j]] := List.take_succ_eq_append_getElem hlt
         have hin := B4.out bs[j] (List.getElem_mem _)
         have hlen := numsText_len bareW (by decide) (bs.take j) (fun n hn => B4.out n (List.mem_of_mem_take hn))
         rw [List.length_take] at hlen
         subst hA
         clear q0'
         generalize bs[j] = x at *
         have hbx : Below wr.heap.size wr (wr.alloc (.cells #[.int .i64 x] 2)) := bR0.alloc nR0 _
         have hsx : Blk (wr.alloc (.cells #[.int .i64 x] 2)) wr.heap.size 2 (numVs [x]).toArray := Blk.new _ _ _
         have hacc : (namesText goodW g ++ namesText badW b ++ numsText lostW ls ++ numsText bareW (bs.take j)).length ≤ 3600 := by simp only [List.length_append]; omega
         have LN := hZ9 (show Calls Tryz.prog 97 #[.string ⟨(bareW).toArray⟩, .slice (some ⟨wr.heap.size, 0, none⟩) 1 1, .pointer (some ⟨B, 0, none⟩)] (wr.alloc (.cells #[.int .i64 x] 2)) fun e w' => e = .returned (.tuple #[]) ∧ Lib.IsBuilderF 196 5 B B (Lib.byteCells (namesText goodW g ++ namesText badW b ++ numsText lostW ls ++ numsText bareW (bs.take (j + 1)))) w' ∧ Below B w5 w' from
          (line_any bareW [x] (builderF_below hu hbx) (Nat.le_trans hwr hbx.size) hsx (fun e => by have h5 := (builderF_below hu hbx); rcases h5 with ⟨_, _, h6, _⟩ | ⟨_, _, h6, _⟩ <;> (rw [← e] at h6; unfold Blk at hsx; rw [hsx] at h6; injection h6 with h6; injection h6 with _ h6; exact absurd h6 (by decide))) (by simp) (fun y hy => by simp at hy; subst hy; exact hin) (fun wy hy => HT.out wy ((hbw.trans (hbx.mono (Nat.le_trans hwB hwr))).trans (hy.mono hwB))) (by omega) (by decide)).mono fun e w' ⟨e1, e2, e3⟩ => ⟨e1, by rw [htk, numsText_snoc, ← List.append_assoc]; exact e2, (hb.trans (hbx.mono hwr)).trans e3⟩)
         have j1 : (j : Int) < (bs.length : Int) := by omega
         have j2 : (0 : Int) ≤ (j : Int) := by omega
         clear hu hb htk hlen hin hbx hsx hacc hbw
         go_wp2_with (go_at_call 97; refine LN.out.mono ?_; rintro en w5 ⟨rfl, h5, h6⟩; (have HU5 := hZ9 h5); (have HB5 := hZ9 h6); clear h5 h6)
         go_roundw
         case rel => exact ⟨j + 1, by omega, by go_num, HU5.out, HB5.out⟩
         case measure => simp [intOf]; omega
        ·obtain rfl : j = bs.length := by omega
         rw [List.take_length] at hu
         have SB := hZ9 (show Calls Tryz.prog 101 #[.pointer (some ⟨B, 0, none⟩)] wr fun e w' => e = .returned (.string ⟨(textS g b ls bs).toArray⟩) ∧ Below B wr w' from (Any.Builder_String_any_k Tryz.lays169 Tryz.Builder_Extra_169 B B (textS g b ls bs) wr hu hwr).mono fun e w' ⟨e1, e2, e3, e4⟩ => ⟨e1, e3⟩)
         have HBW := hZ9 hbw
         clear hu hb hbw
         go_wp2_with (go_at_call 101; refine SB.out.mono ?_; rintro en w9 ⟨rfl, h9⟩; (have HB9 := hZ9 h9); clear h9)
         go_ret
         exact ⟨rfl, HBW.out.trans (HB9.out.mono hwB)⟩
end Go.Proofs.YtmgmfnimaafkdaaGreatDoor
