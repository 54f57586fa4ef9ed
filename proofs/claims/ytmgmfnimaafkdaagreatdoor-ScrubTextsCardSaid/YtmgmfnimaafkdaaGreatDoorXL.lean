/- A report's text says itself: the law's own walk.  -/
import Derived.Test.YtmgmfnimaafkdaaGreatDoorXI
import Derived.Test.YtmgmfnimaafkdaaGreatDoorXH
import Derived.Test.YtmgmfnimaafkdaaGreatDoorXD
import Derived.Deep.RegionHeld3
namespace Go.Proofs.YtmgmfnimaafkdaaGreatDoor
open Go.RowKit Go.Maps
set_option maxRecDepth 100000

theorem tabs_up {w wy : World} (h : TabsB w.heap.size w) (hy : Below w.heap.size w wy) : TabsB wy.heap.size wy := fun w' hw => h.below hy w' (hw.mono hy.size)
set_option maxHeartbeats 16000000 in
theorem scrubTexts_any {w : World} (hT : TabsB w.heap.size w) (hb2 : 2 < w.heap.size) (g b : List NameV) (ls bs : List Int) (A1 A2 A3 A4 : Option Addr) (c1 c2 c3 c4 : Nat) (h1 : Rd w w.heap.size 2 A1 g.length (nameRows g)) (h2 : Rd w w.heap.size 2 A2 b.length (nameRows b)) (h3 : Rd w w.heap.size 1 A3 ls.length (numVs ls)) (h4 : Rd w w.heap.size 1 A4 bs.length (numVs bs))
    (b1 : ∀ n ∈ g, inI n.1 ∧ inI n.2) (b2 : ∀ n ∈ b, inI n.1 ∧ inI n.2) (b3 : ∀ n ∈ ls, inI n) (b4 : ∀ n ∈ bs, inI n)
    (z1 : (g.length : Int) ≤ 4611686018427387903 / 2) (z2 : (b.length : Int) ≤ 4611686018427387903 / 2) (z3 : (ls.length : Int) ≤ 4611686018427387903 / 2) (z4 : (bs.length : Int) ≤ 4611686018427387903 / 2) :
    Calls Tryz.prog 13 #[.agg #[.slice A1 g.length c1, .slice A2 b.length c2, .slice A3 ls.length c3, .slice A4 bs.length c4]] w fun e w' => e = .returned (.bool true) ∧ Below w.heap.size w w' := by
  have HX := Lib.hid (Blk.new w 96 #[.slice A1 g.length c1, .slice A2 b.length c2, .slice A3 ls.length c3, .slice A4 bs.length c4])
  have HB0 : Hid (Below w.heap.size w (w.alloc (.cells #[.slice A1 g.length c1, .slice A2 b.length c2, .slice A3 ls.length c3, .slice A4 bs.length c4] 96))) := (Below.refl _ _).alloc (Nat.le_refl _) _
  have HT := Lib.hid hT
  have AW := Lib.hid (show ∀ wy : World, Below w.heap.size w wy → Calls Tryz.prog 41 #[] wy fun e w' => e = .returned (.bool true) ∧ Below w.heap.size w w' from fun wy hy =>
    (awake_any (tabs_up hT hy) (by have := hy.size; omega)).mono fun e w' ⟨q1, q2⟩ => ⟨q1, hy.trans (q2.mono hy.size)⟩)
  clear hT
  by_cases h60 : 60 < g.length + b.length + ls.length + bs.length
  · have h60' : (g.length : Int) + b.length + ls.length + bs.length > 60 := by omega
    clear h1 h2 h3 h4 b1 b2 b3 b4
    go_enter Tryz.func13, Tryz.ntmps13
    go_upto_region 1 with fail
    generalize w.alloc (.cells #[.slice A1 g.length c1, .slice A2 b.length c2, .slice A3 ls.length c3, .slice A4 bs.length c4] 96) = w1 at *
    have q0 : w1.cell? ⟨w.heap.size, 0, none⟩ = some (.slice A1 g.length c1) := HX.out.cell 0
    have q1 : w1.cell? ⟨w.heap.size, 1, none⟩ = some (.slice A2 b.length c2) := HX.out.cell 1
    have q2 : w1.cell? ⟨w.heap.size, 2, none⟩ = some (.slice A3 ls.length c3) := HX.out.cell 2
    have q3 : w1.cell? ⟨w.heap.size, 3, none⟩ = some (.slice A4 bs.length c4) := HX.out.cell 3
    go_wp2_with (go_at_call 41; refine (AW.out _ HB0.out).mono ?_; rintro en w2 ⟨rfl, hb⟩; (have HB1 := Lib.hid hb); clear hb)
    go_ret
    exact ⟨rfl, HB1.out⟩
  · have h60' : ¬ ((g.length : Int) + b.length + ls.length + bs.length > 60) := by omega
    have hle : g.length + b.length + ls.length + bs.length ≤ 60 := by omega
    have L44 := Lib.hid (show ∀ (wy : World) (l : List NameV) (A : Option Addr) (c : Nat), Below w.heap.size w wy → Rd w w.heap.size 2 A l.length (nameRows l) → l.length ≤ 60 → Calls Tryz.prog 44 #[.slice A l.length c] wy fun e w' => ∃ A' c', e = .returned (.slice A' l.length c') ∧ Sl w' 105 2 A' l.length (nameRows l) ∧ Below wy.heap.size wy w' from fun wy l A c hy hr hl =>
      lnames_any l A c (hr.below hy hy.size) (by omega))
    have T50 := Lib.hid (show ∀ (wy : World), Below w.heap.size w wy → Calls Tryz.prog 50 #[.agg #[.slice A1 g.length c1, .slice A2 b.length c2, .slice A3 ls.length c3, .slice A4 bs.length c4]] wy fun e w' => e = .returned (.string ⟨(textS g b ls bs).toArray⟩) ∧ Below wy.heap.size wy w' from fun wy hy =>
      text_any g b ls bs A1 A2 A3 A4 c1 c2 c3 c4 (h1.below hy hy.size) (h2.below hy hy.size) (h3.below hy hy.size) (h4.below hy hy.size) b1 b2 b3 b4 (tabs_up HT.out hy) hle)
    have T51 := Lib.hid (show ∀ (wy : World) (B1 B2 : Option Addr) (e1 e2 : Nat), Below w.heap.size w wy → Sl wy 105 2 B1 g.length (nameRows g) → Sl wy 105 2 B2 b.length (nameRows b) → Calls Tryz.prog 51 #[.slice B1 g.length e1, .slice B2 b.length e2, .slice A3 ls.length c3, .slice A4 bs.length c4] wy fun e w' => e = .returned (.string ⟨(textS g b ls bs).toArray⟩) ∧ Below wy.heap.size wy w' from fun wy B1 B2 e1 e2 hy k1 k2 =>
      rtext_any g b ls bs B1 B2 A3 A4 e1 e2 c3 c4 (sl_rd k1) (sl_rd k2) (h3.below hy hy.size) (h4.below hy hy.size) b1 b2 b3 b4 hle)
    have H1 := Lib.hid h1
    have H2 := Lib.hid h2
    have lg : g.length ≤ 60 := by omega
    have lb : b.length ≤ 60 := by omega
    clear h1 h2 h3 h4 b1 b2 b3 b4
    go_enter Tryz.func13, Tryz.ntmps13
    go_upto_region 1 with fail
    generalize w.alloc (.cells #[.slice A1 g.length c1, .slice A2 b.length c2, .slice A3 ls.length c3, .slice A4 bs.length c4] 96) = w1 at *
    have q0 : w1.cell? ⟨w.heap.size, 0, none⟩ = some (.slice A1 g.length c1) := HX.out.cell 0
    have q1 : w1.cell? ⟨w.heap.size, 1, none⟩ = some (.slice A2 b.length c2) := HX.out.cell 1
    have q2 : w1.cell? ⟨w.heap.size, 2, none⟩ = some (.slice A3 ls.length c3) := HX.out.cell 2
    have q3 : w1.cell? ⟨w.heap.size, 3, none⟩ = some (.slice A4 bs.length c4) := HX.out.cell 3
    go_upto_region 3 with fail
    clear q0 q1 q2 q3 h60 h60'
    go_cut [38] (fun v38 wx => v38 = .bool false ∧ Below w.heap.size w wx)
    case first =>
      have SK := Lib.hid (show ∀ wy, Below w1.heap.size w1 wy → wy.cell? ⟨w.heap.size, 0, none⟩ = some (.slice A1 g.length c1) ∧ wy.cell? ⟨w.heap.size, 1, none⟩ = some (.slice A2 b.length c2) ∧ wy.cell? ⟨w.heap.size, 2, none⟩ = some (.slice A3 ls.length c3) ∧ wy.cell? ⟨w.heap.size, 3, none⟩ = some (.slice A4 bs.length c4) from fun wy hy => by
        have h1 := HX.out.below hy HX.out.lt
        exact ⟨h1.cell 0, h1.cell 1, h1.cell 2, h1.cell 3⟩)
      have hsz := HB0.out.size
      have HBL := Lib.hid ((Below.refl w1.heap.size w1).drew)
      have HBW := Lib.hid (HB0.out.trans (HBL.out.mono hsz))
      clear hle z1 z2 z3 z4 hb2
      go_region_held3 (fun wy => wy.cell? ⟨w.heap.size, 0, none⟩ = some (.slice A1 g.length c1) ∧ wy.cell? ⟨w.heap.size, 1, none⟩ = some (.slice A2 b.length c2) ∧ wy.cell? ⟨w.heap.size, 2, none⟩ = some (.slice A3 ls.length c3) ∧ wy.cell? ⟨w.heap.size, 3, none⟩ = some (.slice A4 bs.length c4))
        (first | exact SK.out _ HBL.out)
        (first
          | (go_at_call 50; refine (T50.out _ HBW.out).mono ?_; rintro en w2 ⟨rfl, hb⟩; (have HBL := Lib.hid (HBL.out.trans (hb.mono HBL.out.size))); (have HBW := Lib.hid (HBW.out.trans (hb.mono HBW.out.size))); (try have HA1 := Lib.hid (HA1.out.below hb)); (try have HA2 := Lib.hid (HA2.out.below hb)); clear hb)
          | ((fail_if_success (have := HA1)); go_at_call 44; refine (L44.out _ _ _ _ HBW.out (by first | exact H1.out | exact H2.out) (by first | exact lg | exact lb)).mono ?_; rintro en w2 ⟨D1, d1, rfl, HA1, hb⟩; (have HA1 := Lib.hid HA1); (have HBL := Lib.hid (HBL.out.trans (hb.mono HBL.out.size))); (have HBW := Lib.hid (HBW.out.trans (hb.mono HBW.out.size))); clear hb)
          | (go_at_call 44; refine (L44.out _ _ _ _ HBW.out (by first | exact H1.out | exact H2.out) (by first | exact lg | exact lb)).mono ?_; rintro en w2 ⟨D2, d2, rfl, HA2, hb⟩; (have HA2 := Lib.hid HA2); (have HBL := Lib.hid (HBL.out.trans (hb.mono HBL.out.size))); (have HBW := Lib.hid (HBW.out.trans (hb.mono HBW.out.size))); (have HA1 := Lib.hid (HA1.out.below hb)); clear hb)
          | (go_at_call 51; refine (T51.out _ _ _ _ _ HBW.out (by first | exact HA1.out | exact HA2.out) (by first | exact HA2.out | exact HA1.out)).mono ?_; rintro en w2 ⟨rfl, hb⟩; (have HBL := Lib.hid (HBL.out.trans (hb.mono HBL.out.size))); (have HBW := Lib.hid (HBW.out.trans (hb.mono HBW.out.size))); clear hb))
      all_goals
        go_wp2_with fail
        go_meet
        exact ⟨by simp, HBW.out⟩
    case rest =>
      obtain ⟨rfl, hbx⟩ := hcut
      have HI : Hid ((Tryz.prog.info? 96).map (·.size) = some 4) := size96
      have HI7 : Hid ((Tryz.prog.info? 73).map (·.size) = some 2) := size73
      have HBX := Lib.hid hbx
      clear hbx HX HB0 H1 H2 L44 T50 T51 lg lb hle z1 z2 z3 z4 hb2
      go_upto_region 6 with (first
        | (go_at_call 42; refine (look_nil _).mono ?_; rintro en w2 ⟨rfl, hb⟩; (have HB2 := Lib.hid (HBX.out.trans (hb.mono HBX.out.size))); (have HN2 := Lib.hid (Blk.new w2 96 #[.slice none 0 0, .slice none 0 0, .slice none 0 0, .slice none 0 0])); clear hb HBX)
        | (refine wpList_store_row rfl 96 _ _ rfl w2.heap.size #[.slice none 0 0, .slice none 0 0, .slice none 0 0, .slice none 0 0] rfl rfl 96 _ HN2.out HI.out rfl (by simp [Value.oneCell']) ?_))
      have hs := World.setRow_alloc_new w2 #[.slice none 0 0, .slice none 0 0, .slice none 0 0, .slice none 0 0] #[.slice none 0 0, .slice none 0 0, .slice none 0 0, .slice none 0 0] 96
      rw [hs]
      have HB3 : Hid (Below w.heap.size w (w2.alloc (.cells #[.slice none 0 0, .slice none 0 0, .slice none 0 0, .slice none 0 0] 96))) := HB2.out.alloc HB2.out.size _
      clear hs HB2
      generalize w2.alloc (.cells #[.slice none 0 0, .slice none 0 0, .slice none 0 0, .slice none 0 0] 96) = w3 at *
      generalize w2.heap.size = G at *
      go_upto_region 7 with (first
        | (go_at_call 52; refine (heal_nil _).mono ?_; rintro en w4 ⟨rfl, hb⟩; (have HB4 := Lib.hid (HB3.out.trans (hb.mono HB3.out.size))); (have HN4 := Lib.hid (HN2.out.below hb HN2.out.lt)); (have HE4 := Lib.hid (Blk.new w4 96 #[.slice none 0 0, .slice none 0 0, .slice none 0 0, .slice none 0 0])); clear hb HB3)
        | (refine wpList_store_row rfl 96 _ _ rfl w4.heap.size #[.slice none 0 0, .slice none 0 0, .slice none 0 0, .slice none 0 0] rfl rfl 96 _ HE4.out HI.out rfl (by simp [Value.oneCell']) ?_))
      have hs := World.setRow_alloc_new w4 #[.slice none 0 0, .slice none 0 0, .slice none 0 0, .slice none 0 0] #[.slice none 0 0, .slice none 0 0, .slice none 0 0, .slice none 0 0] 96
      rw [hs]
      have HB5 : Hid (Below w.heap.size w (w4.alloc (.cells #[.slice none 0 0, .slice none 0 0, .slice none 0 0, .slice none 0 0] 96))) := HB4.out.alloc HB4.out.size _
      have HN5 := Lib.hid (HN4.out.alloc (.cells #[.slice none 0 0, .slice none 0 0, .slice none 0 0, .slice none 0 0] 96))
      clear hs HB4 HE4 HN4 HN2
      generalize w4.alloc (.cells #[.slice none 0 0, .slice none 0 0, .slice none 0 0, .slice none 0 0] 96) = w5 at *
      generalize w4.heap.size = G' at *
      go_upto_region 8 with (first
        | (go_at_call 45; refine (next_nil _).mono ?_; rintro en w6 ⟨rfl, hb⟩; (have HB6 := Lib.hid (HB5.out.trans (hb.mono HB5.out.size))); (have HN6 := Lib.hid (HN5.out.below hb HN5.out.lt)); (have HE6 := Lib.hid (Blk.new w6 73 #[.int .i64 0, .int .i64 0])); clear hb HB5)
        | (refine wpList_store_row rfl 73 _ _ rfl w6.heap.size #[.int .i64 3, .int .i64 4] rfl rfl 73 _ HE6.out HI7.out rfl (by simp [Value.oneCell']) ?_))
      have hs := World.setRow_alloc_new w6 #[.int .i64 0, .int .i64 0] #[.int .i64 3, .int .i64 4] 73
      rw [hs]
      have HB7 : Hid (Below w.heap.size w (w6.alloc (.cells #[.int .i64 3, .int .i64 4] 73))) := HB6.out.alloc HB6.out.size _
      have HN7 := Lib.hid (HN6.out.alloc (.cells #[.int .i64 3, .int .i64 4] 73))
      have HE7 := Lib.hid (Blk.new w6 73 #[.int .i64 3, .int .i64 4])
      clear hs HB6 HE6 HN6 HN5
      generalize w6.alloc (.cells #[.int .i64 3, .int .i64 4] 73) = w7 at *
      generalize w6.heap.size = G7 at *
      have q0 : w7.cell? ⟨G, 0, none⟩ = some (.slice none 0 0) := HN7.out.cell 0
      have q1 : w7.cell? ⟨G, 1, none⟩ = some (.slice none 0 0) := HN7.out.cell 1
      have q2 : w7.cell? ⟨G, 2, none⟩ = some (.slice none 0 0) := HN7.out.cell 2
      have q3 : w7.cell? ⟨G, 3, none⟩ = some (.slice none 0 0) := HN7.out.cell 3
      have r0 : w7.cell? ⟨G7, 0, none⟩ = some (.int .i64 3) := HE7.out.cell 0
      have r1 : w7.cell? ⟨G7, 1, none⟩ = some (.int .i64 4) := HE7.out.cell 1
      go_wp2_with (go_at_call 41; refine (AW.out _ HB7.out).mono ?_; rintro en w8 ⟨rfl, hb⟩; (have HB8 := Lib.hid hb); clear hb)
      go_ret
      exact ⟨rfl, HB8.out⟩
end Go.Proofs.YtmgmfnimaafkdaaGreatDoor
