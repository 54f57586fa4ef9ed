/- A report's text, by the reference. -/
import Derived.Test.YtmgmfnimaafkdaaGreatDoorXG
import Derived.Test.YtmgmfnimaafkdaaGreatDoorXE
import Derived.StillTailTactics
namespace Go.Proofs.YtmgmfnimaafkdaaGreatDoor
open Go.RowKit Go.Maps
set_option maxRecDepth 100000

set_option maxHeartbeats 16000000 in
theorem rtext_any {w : World} (g b : List NameV) (ls bs : List Int) (A1 A2 A3 A4 : Option Addr) (c1 c2 c3 c4 : Nat) (h1 : Rd w w.heap.size 2 A1 g.length (nameRows g)) (h2 : Rd w w.heap.size 2 A2 b.length (nameRows b)) (h3 : Rd w w.heap.size 1 A3 ls.length (numVs ls)) (h4 : Rd w w.heap.size 1 A4 bs.length (numVs bs))
  (b1 : ∀ n ∈ g, inI n.1 ∧ inI n.2) (b2 : ∀ n ∈ b, inI n.1 ∧ inI n.2) (b3 : ∀ n ∈ ls, inI n) (b4 : ∀ n ∈ bs, inI n) (hl : g.length + b.length + ls.length + bs.length ≤ 60) :
  Calls Tryz.prog 51 #[.slice A1 g.length c1, .slice A2 b.length c2, .slice A3 ls.length c3, .slice A4 bs.length c4] w fun e w' => e = .returned (.string ⟨(textS g b ls bs).toArray⟩) ∧ Below w.heap.size w w' := by
 have H1 := hZ9 h1
 have H2 := hZ9 h2
 have H3 := hZ9 h3
 have H4 := hZ9 h4
 have B1 := hZ9 b1
 have B2 := hZ9 b2
 have B3 := hZ9 b3
 have B4 := hZ9 b4
 have tl1 := namesText_len goodW (by decide) g b1
 have tl2 := namesText_len badW (by decide) b b2
 have tl3 := numsText_len lostW (by decide) ls b3
 clear h1 h2 h3 h4 b1 b2 b3 b4
 have hb0 : Below w.heap.size w w := bR0
 go_enter Tryz.func51, Tryz.ntmps51
 go_wp2_with fail
 go_loopw [9, 20] (fun t i wr => ∃ j : Nat, j ≤ g.length ∧ i = .int .i64 (j : Nat) ∧ t = .string ⟨([] ++ namesText goodW (g.take j)).toArray⟩ ∧ Below w.heap.size w wr) (fun _ i _ => g.length - (intOf i).toNat)
 case atStart => exact ⟨0, Nat.zero_le _, rfl, by rw [List.take_zero]; rfl, hb0⟩
 case round =>
  obtain ⟨j, hj, rfl, rfl, hb⟩ := hrel
  have hsz := hb.size
  by_cases hlt : j < g.length
  ·obtain ⟨bb, oo, hA, hbl, q0', q1'⟩ := rd_name H1.out j hlt rfl
   have q0 := (hb.cell (p := ⟨bb, oo + j * 2, none⟩) hbl).trans q0'
   have q1 := (hb.cell (p := ⟨bb, oo + j * 2 + 1, none⟩) hbl).trans q1'
   have htk : g.take (j + 1) = g.take j ++ [g[j]] := List.take_succ_eq_append_getElem hlt
   have hin := B1.out g[j] (List.getElem_mem _)
   have hlen := namesText_len goodW (by decide) (g.take j) (fun n hn => B1.out n (List.mem_of_mem_take hn))
   rw [List.length_take] at hlen
   subst hA
   clear q0' q1'
   generalize g[j] = x at *
   obtain ⟨n1, n2⟩ := x
   simp only at q0 q1 hin
   obtain ⟨S, hS⟩ : ∃ S : List UInt8, S = [] ++ namesText goodW (g.take j) := ⟨_, rfl⟩
   have hSl : S.length ≤ 3600 := by rw [hS]; simp only [List.length_append, List.length_nil]; omega
   rw [← hS]
   obtain ⟨SB, hSB⟩ : ∃ SB : ByteArray, SB = ⟨S.toArray⟩ := ⟨_, rfl⟩
   have hSz : SB.size = S.length := by rw [hSB]; simp [ByteArray.size]
   rw [← hSB]
   have HD1 := hZ9 (fun wy => rdig_any n1 hin.1.1 hin.1.2 wy)
   have HD2 := hZ9 (fun wy => rdig_any n2 hin.2.1 hin.2.2 wy)
   have y1 := itoaB_size hin.1.1 hin.1.2
   have y2 := itoaB_size hin.2.1 hin.2.2
   obtain ⟨d1, e1⟩ : ∃ d1, d1 = itoaB n1 := ⟨_, rfl⟩
   obtain ⟨d2, e2⟩ : ∃ d2, d2 = itoaB n2 := ⟨_, rfl⟩
   rw [← e1] at HD1 y1
   rw [← e2] at HD2 y2
   obtain ⟨p1, r1⟩ : ∃ p1 : ByteArray, ⟨#[103, 111, 111, 100, 32]⟩ ++ d1 = p1 := ⟨_, rfl⟩
   obtain ⟨p2, r2⟩ : ∃ p2 : ByteArray, p1 ++ ⟨#[32]⟩ = p2 := ⟨_, rfl⟩
   obtain ⟨p3, r3⟩ : ∃ p3 : ByteArray, p2 ++ d2 = p3 := ⟨_, rfl⟩
   obtain ⟨p4, r4⟩ : ∃ p4 : ByteArray, p3 ++ ⟨#[10]⟩ = p4 := ⟨_, rfl⟩
   obtain ⟨p5, r5⟩ : ∃ p5 : ByteArray, SB ++ p4 = p5 := ⟨_, rfl⟩
   have z1 : p1.size = 5 + d1.size := by rw [← r1, ByteArray.size_append]; rfl
   have z2 : p2.size = p1.size + 1 := by rw [← r2, ByteArray.size_append]; rfl
   have z3 : p3.size = p2.size + d2.size := by rw [← r3, ByteArray.size_append]
   have z4 : p4.size = p3.size + 1 := by rw [← r4, ByteArray.size_append]; rfl
   have f1 : ¬ (9223372036854775807 < 5 + d1.size) := by omega
   have f2 : ¬ (9223372036854775807 < p1.size + 1) := by omega
   have f3 : ¬ (9223372036854775807 < p2.size + d2.size) := by omega
   have f4 : ¬ (9223372036854775807 < p3.size + 1) := by omega
   have f5 : ¬ (9223372036854775807 < SB.size + p4.size) := by omega
   have HE := hZ9 (show p5 = ⟨([] ++ namesText goodW (g.take (j + 1))).toArray⟩ from by rw [htk, namesText_snoc, ← List.append_assoc, ← hS, ← r5, ← r4, ← r3, ← r2, ← r1, e1, e2, hSB]; apply ByteArray.ext; simp [itoaB, lineB, itemB, goodW])
   have HB0 := hZ9 (show Below w.heap.size w (wr.alloc (.cells #[.int .i64 n1, .int .i64 n2] 105)) from hb.alloc hsz _)
   have HX := hZ9 (Blk.new wr 105 #[.int .i64 n1, .int .i64 n2])
   have j1 : (j : Int) < (g.length : Int) := by omega
   have j2 : (0 : Int) ≤ (j : Int) := by omega
   clear hb htk hlen hin hS hSl hSB e1 e2 z1 z2 z3 z4 y1 y2 hSz
   go_upto_region 5 with fail
   generalize wr.alloc (.cells #[.int .i64 n1, .int .i64 n2] 105) = wx at *
   have sx := HB0.out.size
   have SK := hZ9 (show ∀ wy, Below wx.heap.size wx wy → wy.cell? ⟨wr.heap.size, 0, none⟩ = some (.int .i64 n1) ∧ wy.cell? ⟨wr.heap.size, 1, none⟩ = some (.int .i64 n2) from fun wy hy => ⟨(HX.out.below hy HX.out.lt).cell 0, (HX.out.below hy HX.out.lt).cell 1⟩)
   have S0 := hZ9 (SK.out _ bR0.drew)
   have HDR : Hid (Below wx.heap.size wx wx.drew) := bR0.drew
   go_region_held3 (fun wy => wy.cell? ⟨wr.heap.size, 0, none⟩ = some (.int .i64 n1) ∧ wy.cell? ⟨wr.heap.size, 1, none⟩ = some (.int .i64 n2))
    (first | exact S0.out | exact SK.out _ HC2.out | exact SK.out _ HC1.out)
    (first
     | ((fail_if_success (have := HC1)); go_at_call 102; refine (HD1.out _).mono ?_; rintro en w5 ⟨rfl, h5⟩; (have HC1 : Hid (Below wx.heap.size wx w5) := HDR.out.trans h5); clear h5)
     | ((fail_if_success (have := HC1)); go_at_call 102; refine (HD2.out _).mono ?_; rintro en w5 ⟨rfl, h5⟩; (have HC1 : Hid (Below wx.heap.size wx w5) := HDR.out.trans h5); clear h5)
     | (go_at_call 102; refine (HD2.out _).mono ?_; rintro en w6 ⟨rfl, h6⟩; (have HC2 : Hid (Below wx.heap.size wx w6) := HC1.out.trans (h6.mono HC1.out.size)); clear h6)
     | (go_at_call 102; refine (HD1.out _).mono ?_; rintro en w6 ⟨rfl, h6⟩; (have HC2 : Hid (Below wx.heap.size wx w6) := HC1.out.trans (h6.mono HC1.out.size)); clear h6))
   all_goals
    go_wp2_with fail
    go_roundw
    case rel => exact ⟨j + 1, by omega, by go_num, by rw [HE.out], HB0.out.trans (HC2.out.mono sx)⟩
    case measure => simp [intOf]; omega
  ·obtain rfl : j = g.length := by omega
   rw [List.take_length]
   rw [List.nil_append]
   clear hsz hj hlt
   have hb1 := hb
   clear hb
   go_wp2_with fail
   go_loopw [9, 39] (fun t i wr => ∃ j : Nat, j ≤ b.length ∧ i = .int .i64 (j : Nat) ∧ t = .string ⟨(namesText goodW g ++ namesText badW (b.take j)).toArray⟩ ∧ Below w.heap.size w wr) (fun _ i _ => b.length - (intOf i).toNat)
   case atStart => exact ⟨0, Nat.zero_le _, rfl, by rw [List.take_zero]; simp [namesText], hb1⟩
   case round =>
    obtain ⟨j, hj, rfl, rfl, hb⟩ := hrel
    have hsz := hb.size
    by_cases hlt : j < b.length
    ·obtain ⟨bb, oo, hA, hbl, q0', q1'⟩ := rd_name H2.out j hlt rfl
     have q0 := (hb.cell (p := ⟨bb, oo + j * 2, none⟩) hbl).trans q0'
     have q1 := (hb.cell (p := ⟨bb, oo + j * 2 + 1, none⟩) hbl).trans q1'
     have htk : b.take (j + 1) = b.take j ++ [b[j]] := List.take_succ_eq_append_getElem hlt
     have hin := B2.out b[j] (List.getElem_mem _)
     have hlen := namesText_len badW (by decide) (b.take j) (fun n hn => B2.out n (List.mem_of_mem_take hn))
     rw [List.length_take] at hlen
     subst hA
     clear q0' q1'
     generalize b[j] = x at *
     obtain ⟨n1, n2⟩ := x
     simp only at q0 q1 hin
     obtain ⟨S, hS⟩ : ∃ S : List UInt8, S = namesText goodW g ++ namesText badW (b.take j) := ⟨_, rfl⟩
     have hSl : S.length ≤ 3600 := by rw [hS]; simp only [List.length_append]; omega
     rw [← hS]
     obtain ⟨SB, hSB⟩ : ∃ SB : ByteArray, SB = ⟨S.toArray⟩ := ⟨_, rfl⟩
     have hSz : SB.size = S.length := by rw [hSB]; simp [ByteArray.size]
     rw [← hSB]
     have HD1 := hZ9 (fun wy => rdig_any n1 hin.1.1 hin.1.2 wy)
     have HD2 := hZ9 (fun wy => rdig_any n2 hin.2.1 hin.2.2 wy)
     have y1 := itoaB_size hin.1.1 hin.1.2
     have y2 := itoaB_size hin.2.1 hin.2.2
     obtain ⟨d1, e1⟩ : ∃ d1, d1 = itoaB n1 := ⟨_, rfl⟩
     obtain ⟨d2, e2⟩ : ∃ d2, d2 = itoaB n2 := ⟨_, rfl⟩
     rw [← e1] at HD1 y1
     rw [← e2] at HD2 y2
     obtain ⟨p1, r1⟩ : ∃ p1 : ByteArray, ⟨#[98, 97, 100, 32]⟩ ++ d1 = p1 := ⟨_, rfl⟩
     obtain ⟨p2, r2⟩ : ∃ p2 : ByteArray, p1 ++ ⟨#[32]⟩ = p2 := ⟨_, rfl⟩
     obtain ⟨p3, r3⟩ : ∃ p3 : ByteArray, p2 ++ d2 = p3 := ⟨_, rfl⟩
     obtain ⟨p4, r4⟩ : ∃ p4 : ByteArray, p3 ++ ⟨#[10]⟩ = p4 := ⟨_, rfl⟩
     obtain ⟨p5, r5⟩ : ∃ p5 : ByteArray, SB ++ p4 = p5 := ⟨_, rfl⟩
     have z1 : p1.size = 4 + d1.size := by rw [← r1, ByteArray.size_append]; rfl
     have z2 : p2.size = p1.size + 1 := by rw [← r2, ByteArray.size_append]; rfl
     have z3 : p3.size = p2.size + d2.size := by rw [← r3, ByteArray.size_append]
     have z4 : p4.size = p3.size + 1 := by rw [← r4, ByteArray.size_append]; rfl
     have f1 : ¬ (9223372036854775807 < 4 + d1.size) := by omega
     have f2 : ¬ (9223372036854775807 < p1.size + 1) := by omega
     have f3 : ¬ (9223372036854775807 < p2.size + d2.size) := by omega
     have f4 : ¬ (9223372036854775807 < p3.size + 1) := by omega
     have f5 : ¬ (9223372036854775807 < SB.size + p4.size) := by omega
     have HE := hZ9 (show p5 = ⟨(namesText goodW g ++ namesText badW (b.take (j + 1))).toArray⟩ from by rw [htk, namesText_snoc, ← List.append_assoc, ← hS, ← r5, ← r4, ← r3, ← r2, ← r1, e1, e2, hSB]; apply ByteArray.ext; simp [itoaB, lineB, itemB, badW])
     have HB0 := hZ9 (show Below w.heap.size w (wr.alloc (.cells #[.int .i64 n1, .int .i64 n2] 105)) from hb.alloc hsz _)
     have HX := hZ9 (Blk.new wr 105 #[.int .i64 n1, .int .i64 n2])
     have j1 : (j : Int) < (b.length : Int) := by omega
     have j2 : (0 : Int) ≤ (j : Int) := by omega
     clear hb htk hlen hin hS hSl hSB e1 e2 z1 z2 z3 z4 y1 y2 hSz
     go_upto_region 10 with fail
     generalize wr.alloc (.cells #[.int .i64 n1, .int .i64 n2] 105) = wx at *
     have sx := HB0.out.size
     have SK := hZ9 (show ∀ wy, Below wx.heap.size wx wy → wy.cell? ⟨wr.heap.size, 0, none⟩ = some (.int .i64 n1) ∧ wy.cell? ⟨wr.heap.size, 1, none⟩ = some (.int .i64 n2) from fun wy hy => ⟨(HX.out.below hy HX.out.lt).cell 0, (HX.out.below hy HX.out.lt).cell 1⟩)
     have S0 := hZ9 (SK.out _ bR0.drew)
     have HDR : Hid (Below wx.heap.size wx wx.drew) := bR0.drew
     go_region_held3 (fun wy => wy.cell? ⟨wr.heap.size, 0, none⟩ = some (.int .i64 n1) ∧ wy.cell? ⟨wr.heap.size, 1, none⟩ = some (.int .i64 n2))
      (first | exact S0.out | exact SK.out _ HC2.out | exact SK.out _ HC1.out)
      (first
       | ((fail_if_success (have := HC1)); go_at_call 102; refine (HD1.out _).mono ?_; rintro en w5 ⟨rfl, h5⟩; (have HC1 : Hid (Below wx.heap.size wx w5) := HDR.out.trans h5); clear h5)
       | ((fail_if_success (have := HC1)); go_at_call 102; refine (HD2.out _).mono ?_; rintro en w5 ⟨rfl, h5⟩; (have HC1 : Hid (Below wx.heap.size wx w5) := HDR.out.trans h5); clear h5)
       | (go_at_call 102; refine (HD2.out _).mono ?_; rintro en w6 ⟨rfl, h6⟩; (have HC2 : Hid (Below wx.heap.size wx w6) := HC1.out.trans (h6.mono HC1.out.size)); clear h6)
       | (go_at_call 102; refine (HD1.out _).mono ?_; rintro en w6 ⟨rfl, h6⟩; (have HC2 : Hid (Below wx.heap.size wx w6) := HC1.out.trans (h6.mono HC1.out.size)); clear h6))
     all_goals
      go_wp2_with fail
      go_roundw
      case rel => exact ⟨j + 1, by omega, by go_num, by rw [HE.out], HB0.out.trans (HC2.out.mono sx)⟩
      case measure => simp [intOf]; omega
    ·obtain rfl : j = b.length := by omega
     rw [List.take_length]
     clear hsz hj hlt
     have hb2 := hb
     clear hb
     go_wp2_with fail
     go_loopw [9, 58] (fun t i wr => ∃ j : Nat, j ≤ ls.length ∧ i = .int .i64 (j : Nat) ∧ t = .string ⟨(namesText goodW g ++ namesText badW b ++ numsText lostW (ls.take j)).toArray⟩ ∧ Below w.heap.size w wr) (fun _ i _ => ls.length - (intOf i).toNat)
     case atStart => exact ⟨0, Nat.zero_le _, rfl, by rw [List.take_zero]; simp [numsText], hb2⟩
     case round =>
      obtain ⟨j, hj, rfl, rfl, hb⟩ := hrel
      have hsz := hb.size
      by_cases hlt : j < ls.length
      ·obtain ⟨bb, oo, hA, hbl, q0'⟩ := rd_num H3.out j hlt rfl
       have q0 := (hb.cell (p := ⟨bb, oo + j, none⟩) hbl).trans q0'
       have htk : ls.take (j + 1) = ls.take j ++ [ls[j]] := List.take_succ_eq_append_getElem hlt
       have hin := B3.out ls[j] (List.getElem_mem _)
       have hlen := numsText_len lostW (by decide) (ls.take j) (fun n hn => B3.out n (List.mem_of_mem_take hn))
       rw [List.length_take] at hlen
       subst hA
       clear q0'
       generalize ls[j] = x at *
       obtain ⟨S, hS⟩ : ∃ S : List UInt8, S = namesText goodW g ++ namesText badW b ++ numsText lostW (ls.take j) := ⟨_, rfl⟩
       have hSl : S.length ≤ 3600 := by rw [hS]; simp only [List.length_append]; omega
       rw [← hS]
       obtain ⟨SB, hSB⟩ : ∃ SB : ByteArray, SB = ⟨S.toArray⟩ := ⟨_, rfl⟩
       have hSz : SB.size = S.length := by rw [hSB]; simp [ByteArray.size]
       rw [← hSB]
       have HD1 := hZ9 (fun wy => rdig_any x hin.1 hin.2 wy)
       have y1 := itoaB_size hin.1 hin.2
       obtain ⟨d1, e1⟩ : ∃ d1, d1 = itoaB x := ⟨_, rfl⟩
       rw [← e1] at HD1 y1
       obtain ⟨p1, r1⟩ : ∃ p1 : ByteArray, ⟨#[108, 111, 115, 116, 32]⟩ ++ d1 = p1 := ⟨_, rfl⟩
       obtain ⟨p4, r4⟩ : ∃ p4 : ByteArray, p1 ++ ⟨#[10]⟩ = p4 := ⟨_, rfl⟩
       obtain ⟨p5, r5⟩ : ∃ p5 : ByteArray, SB ++ p4 = p5 := ⟨_, rfl⟩
       have z1 : p1.size = 5 + d1.size := by rw [← r1, ByteArray.size_append]; rfl
       have z4 : p4.size = p1.size + 1 := by rw [← r4, ByteArray.size_append]; rfl
       have f1 : ¬ (9223372036854775807 < 5 + d1.size) := by omega
       have f4 : ¬ (9223372036854775807 < p1.size + 1) := by omega
       have f5 : ¬ (9223372036854775807 < SB.size + p4.size) := by omega
       have HE := hZ9 (show p5 = ⟨(namesText goodW g ++ namesText badW b ++ numsText lostW (ls.take (j + 1))).toArray⟩ from by rw [htk, numsText_snoc, ← List.append_assoc, ← hS, ← r5, ← r4, ← r1, e1, hSB]; apply ByteArray.ext; simp [itoaB, lineB, itemB, lostW])
       have HB0 := hZ9 hb
       have j1 : (j : Int) < (ls.length : Int) := by omega
       have j2 : (0 : Int) ≤ (j : Int) := by omega
       clear hb htk hlen hin hS hSl hSB e1 z1 z4 y1 hSz
       go_wp2_with (go_at_call 102; refine (HD1.out _).mono ?_; rintro en w5 ⟨rfl, h5⟩; (have HC1 := hZ9 (HB0.out.trans (h5.mono hsz))); clear h5)
       go_roundw
       case rel => exact ⟨j + 1, by omega, by go_num, by rw [HE.out], HC1.out⟩
       case measure => simp [intOf]; omega
      ·obtain rfl : j = ls.length := by omega
       rw [List.take_length]
       clear hsz hj hlt
       have hb3 := hb
       clear hb
       go_wp2_with fail
       go_loopw [9, 71] (fun t i wr => ∃ j : Nat, j ≤ bs.length ∧ i = .int .i64 (j : Nat) ∧ t = .string ⟨(namesText goodW g ++ namesText badW b ++ numsText lostW ls ++ numsText bareW (bs.take j)).toArray⟩ ∧ Below w.heap.size w wr) (fun _ i _ => bs.length - (intOf i).toNat)
       case atStart => exact ⟨0, Nat.zero_le _, rfl, by rw [List.take_zero]; simp [numsText], hb3⟩
       case round =>
        obtain ⟨j, hj, rfl, rfl, hb⟩ := hrel
        have hsz := hb.size
        by_cases hlt : j < bs.length
        ·obtain ⟨bb, oo, hA, hbl, q0'⟩ := rd_num H4.out j hlt rfl
         have q0 := (hb.cell (p := ⟨bb, oo + j, none⟩) hbl).trans q0'
         have htk : bs.take (j + 1) = bs.take j ++ [bs[j]] := List.take_succ_eq_append_getElem hlt
         have hin := B4.out bs[j] (List.getElem_mem _)
         have hlen := numsText_len bareW (by decide) (bs.take j) (fun n hn => B4.out n (List.mem_of_mem_take hn))
         rw [List.length_take] at hlen
         subst hA
         clear q0'
         generalize bs[j] = x at *
         obtain ⟨S, hS⟩ : ∃ S : List UInt8, S = namesText goodW g ++ namesText badW b ++ numsText lostW ls ++ numsText bareW (bs.take j) := ⟨_, rfl⟩
         have hSl : S.length ≤ 3600 := by rw [hS]; simp only [List.length_append]; omega
         rw [← hS]
         obtain ⟨SB, hSB⟩ : ∃ SB : ByteArray, SB = ⟨S.toArray⟩ := ⟨_, rfl⟩
         have hSz : SB.size = S.length := by rw [hSB]; simp [ByteArray.size]
         rw [← hSB]
         have HD1 := hZ9 (fun wy => rdig_any x hin.1 hin.2 wy)
         have y1 := itoaB_size hin.1 hin.2
         obtain ⟨d1, e1⟩ : ∃ d1, d1 = itoaB x := ⟨_, rfl⟩
         rw [← e1] at HD1 y1
         obtain ⟨p1, r1⟩ : ∃ p1 : ByteArray, ⟨#[98, 97, 114, 101, 32]⟩ ++ d1 = p1 := ⟨_, rfl⟩
         obtain ⟨p4, r4⟩ : ∃ p4 : ByteArray, p1 ++ ⟨#[10]⟩ = p4 := ⟨_, rfl⟩
         obtain ⟨p5, r5⟩ : ∃ p5 : ByteArray, SB ++ p4 = p5 := ⟨_, rfl⟩
         have z1 : p1.size = 5 + d1.size := by rw [← r1, ByteArray.size_append]; rfl
         have z4 : p4.size = p1.size + 1 := by rw [← r4, ByteArray.size_append]; rfl
         have f1 : ¬ (9223372036854775807 < 5 + d1.size) := by omega
         have f4 : ¬ (9223372036854775807 < p1.size + 1) := by omega
         have f5 : ¬ (9223372036854775807 < SB.size + p4.size) := by omega
         have HE := hZ9 (show p5 = ⟨(namesText goodW g ++ namesText badW b ++ numsText lostW ls ++ numsText bareW (bs.take (j + 1))).toArray⟩ from by rw [htk, numsText_snoc, ← List.append_assoc, ← hS, ← r5, ← r4, ← r1, e1, hSB]; apply ByteArray.ext; simp [itoaB, lineB, itemB, bareW])
         have HB0 := hZ9 hb
         have j1 : (j : Int) < (bs.length : Int) := by omega
         have j2 : (0 : Int) ≤ (j : Int) := by omega
         clear hb htk hlen hin hS hSl hSB e1 z1 z4 y1 hSz
         go_wp2_with (go_at_call 102; refine (HD1.out _).mono ?_; rintro en w5 ⟨rfl, h5⟩; (have HC1 := hZ9 (HB0.out.trans (h5.mono hsz))); clear h5)
         go_roundw
         case rel => exact ⟨j + 1, by omega, by go_num, by rw [HE.out], HC1.out⟩
         case measure => simp [intOf]; omega
        ·obtain rfl : j = bs.length := by omega
         rw [List.take_length]
         have HB := hZ9 hb
         clear hb
         go_wp2_with fail
         go_ret
         exact ⟨rfl, HB.out⟩
end Go.Proofs.YtmgmfnimaafkdaaGreatDoor
