/- The first example of the store's laws.  Of no store nothing is told.  -/
import Derived.Test.YtmgmfnimaafkdaaGreatDoorVW
import Derived.Test.YtmgmfnimaafkdaaGreatDoorVX
import Derived.Test.YtmgmfnimaafkdaaGreatDoorVF
import Derived.Test.YtmgmfnimaafkdaaGreatDoorVY
import Derived.Lib.SlBytesConst
namespace Go.Proofs.YtmgmfnimaafkdaaGreatDoor
open Go.RowKit Go.Maps Go.Shelf Go.Sort
set_option maxRecDepth 100000

/-- what the example goes through -/
structure AliveGo (s0 s1 s2 s3 s4 : StV) (x : SlotV) : Prop where
  o1 : ∃ d1 l1 sl mp d2 l2, OpenGo (newD 64 64) d1 l1 sl mp d2 l2 ∧ s0 = openEnd (newD 64 64) d1 l1 sl mp d2 l2
  k0 : StOK s0
  p1 : ∃ a l m1 mark t nn d1 d2 l2, PutGo s0 (1, 0) [49, 50, 51, 52, 53, 54, 55, 56] a l m1 mark t nn d1 d2 l2 ∧ s1 = putEnd t (1, 0) [49, 50, 51, 52, 53, 54, 55, 56] a l mark d2 l2
  y : syncS s1 = (0, s2)
  k2 : StOK s2
  p2 : ∃ a l m1 mark t nn d1 d2 l2, PutGo s2 (1, 1) [120] a l m1 mark t nn d1 d2 l2 ∧ s3 = putEnd t (1, 1) [120] a l mark d2 l2
  o2 : ∃ d1 l1 sl mp d2 l2, OpenGo (onD (cutD s3.d [] (-1))) d1 l1 sl mp d2 l2 ∧ s4 = openEnd (onD (cutD s3.d [] (-1))) d1 l1 sl mp d2 l2
  k4 : StOK s4
  fine : Fine s4.d 1000
  nm : s4.slices.map (·.1) = [(1, 0)]
  gx : getL s4.slices (1, 0) = some x
  xa : 0 ≤ x.at' ∧ x.at' ≤ 65536
  tx : tellsS s4.d x = (0, [49, 50, 51, 52, 53, 54, 55, 56])
theorem alive_go : ∃ s0 s1 s2 s3 s4 x, AliveGo s0 s1 s2 s3 s4 x := by
  have h := aliveY_true
  unfold aliveY at h
  simp only [Bool.and_eq_true] at h
  obtain ⟨h1, h⟩ := h
  obtain ⟨d1, l1, sl, mp, d2, l2, ho⟩ := openGo_of h1
  rw [ho.is] at h
  simp only [Bool.and_eq_true] at h
  obtain ⟨⟨k0, p1⟩, h⟩ := h
  obtain ⟨a, l, m1, mark, t, nn, e1, e2, f2, hp⟩ := putGo_of p1
  rw [hp.is] at h
  simp only at h
  rcases hy : syncS (putEnd t (1, 0) [49, 50, 51, 52, 53, 54, 55, 56] a l mark e2 f2) with ⟨ey, s2⟩
  rw [hy] at h
  cases ey with
  | succ e => cases h
  | zero =>
    simp only [Bool.and_eq_true] at h
    obtain ⟨⟨k2, p2⟩, h⟩ := h
    obtain ⟨a', l', m1', mark', t', nn', e1', e2', f2', hp'⟩ := putGo_of p2
    rw [hp'.is] at h
    simp only [Bool.and_eq_true] at h
    obtain ⟨h2, h⟩ := h
    obtain ⟨d1', l1', sl', mp', d2', l2', ho'⟩ := openGo_of h2
    rw [ho'.is] at h
    simp only [Bool.and_eq_true] at h
    obtain ⟨⟨⟨k4, f4⟩, nm⟩, h⟩ := h
    split at h
    · rename_i x hx
      simp only [Bool.and_eq_true, decide_eq_true_eq, beq_iff_eq] at h nm
      rw [getS_eq] at hx
      exact ⟨_, _, s2, _, _, x, ⟨d1, l1, sl, mp, d2, l2, ho, rfl⟩, stOK_of k0, ⟨a, l, m1, mark, t, nn, e1, e2, f2, hp, rfl⟩, hy, stOK_of k2, ⟨a', l', m1', mark', t', nn', e1', e2', f2', hp', rfl⟩, ⟨d1', l1', sl', mp', d2', l2', ho', rfl⟩, stOK_of k4, fine_of f4, nm, hx, h.1, h.2⟩
    · cases h
abbrev b8C : Array Value := #[.int .u8 49, .int .u8 50, .int .u8 51, .int .u8 52, .int .u8 53, .int .u8 54, .int .u8 55, .int .u8 56]
/-- a row of bytes, marked or not -/
theorem byt_marked (w : World) (l : List UInt8) (fr : Nat × Nat) : Byt (w.alloc (.cells (l.map u8v).toArray 5 fr)) (some ⟨w.heap.size, 0, none⟩) l := by
  have hb : (w.alloc (.cells (l.map u8v).toArray 5 fr)).heap[w.heap.size]? = some (.cells (l.map u8v).toArray 5 fr) := heap_alloc_new w _
  refine ⟨⟨by simp, fun _ => ⟨w.heap.size, 0, rfl, by simp, fun j hj => ?_⟩⟩, fun _ a ha => ?_⟩
  · rw [Nat.zero_add]
    simp only [World.cell?, hb]
    simp at hj
    simp [hj]
  · injection ha with ha
    subst ha
    unfold tyOf
    rw [hb]
theorem lit8 (w : World) (fr : Nat × Nat) : Byt (w.alloc (.cells b8C 5 fr)) (some ⟨w.heap.size, 0, none⟩) [49, 50, 51, 52, 53, 54, 55, 56] := byt_marked w [49, 50, 51, 52, 53, 54, 55, 56] fr
theorem lit1 (w : World) (fr : Nat × Nat) : Byt (w.alloc (.cells #[.int .u8 120] 5 fr)) (some ⟨w.heap.size, 0, none⟩) [120] := byt_marked w [120] fr
set_option maxHeartbeats 8000000 in
theorem alive_any {w : World} (hT : TabsB w.heap.size w) (hb2 : 2 < w.heap.size) : Calls Tryz.prog 14 #[] w fun e w' => e = .returned (.bool true) ∧ Below w.heap.size w w' := by
  obtain ⟨s0, s1, s2, s3, s4, x, G⟩ := alive_go
  obtain ⟨base, hbase⟩ : ∃ base, base = w.heap.size := ⟨_, rfl⟩
  rw [← hbase] at hT hb2 ⊢
  have HT := Lib.hid hT
  have NW := Lib.hid (show Calls Tryz.prog 15 #[.int .i64 64, .int .i64 64] w fun e w' => ∃ B, e = .returned (.tuple #[.pointer (some ⟨B, 0, none⟩), .int .i64 0]) ∧ Dsk w' base B (newD 64 64) ∧ Below base w w' from (diskNew_any 64 64 w).mono fun e w' ⟨h1, h2⟩ => by
    rcases h2 with ⟨_, h3⟩ | ⟨_, B, h3, h4⟩
    · exact absurd ⟨by decide, by decide, by decide, by decide⟩ h3
    · rw [hbase]; exact ⟨B, h3, h4, h1⟩)
  have O1 := Lib.hid (show ∀ (wy : World) (B : Nat), Dsk wy base B (newD 64 64) → Below base w wy → Calls Tryz.prog 16 #[.pointer (some ⟨B, 0, none⟩)] wy fun e w' => ∃ Sb m, e = .returned (.tuple #[.pointer (some ⟨Sb, 0, none⟩), .int .i64 0]) ∧ m.B = B ∧ StR w' base Sb s0 m ∧ Below base w w' from fun wy B hd hb => by
    obtain ⟨d1, l1, sl, mp, d2, l2, hg, rfl⟩ := G.o1
    exact (open_any hd (hT.below hb) hb2 hg).mono fun e w' ⟨Sb, m, h1, h2, h3, h4⟩ => ⟨Sb, m, h1, h2, h3, hb.trans h4.below⟩)
  have P1 := Lib.hid (show ∀ (wy wz : World) (Sb : Nat) (m : StM) (A : Option Addr) (c : Nat), StR wy base Sb s0 m → Below wy.heap.size wy wz → Below base w wy → Byt wz A [49, 50, 51, 52, 53, 54, 55, 56] → 8 ≤ c → Calls Tryz.prog 53 #[.pointer (some ⟨Sb, 0, none⟩), .agg #[.int .i64 1, .int .i64 0], .slice A 8 c] wz fun e w' => e = .returned (.int .i64 0) ∧ StR w' base Sb s1 m ∧ Below base w w' from fun wy wz Sb m A c hs hb hbw hby hc => by
    obtain ⟨a, l, m1, mark, t, nn, d1, d2, l2, hp, rfl⟩ := G.p1
    exact (putGo_any (hs.below hb) G.k0 hp A c hby hc).mono fun e w' ⟨h1, h2, h3⟩ => ⟨h1, h2, (hbw.trans (hb.mono hs.lt)).trans h3.below⟩)
  have SY := Lib.hid (show ∀ (wy : World) (Sb : Nat) (m : StM), StR wy base Sb s1 m → Below base w wy → Calls Tryz.prog 54 #[.pointer (some ⟨Sb, 0, none⟩)] wy fun e w' => e = .returned (.int .i64 0) ∧ StR w' base Sb s2 m ∧ Below base w w' from fun wy Sb m hs hbw => by
    have := storeSync_any hs
    rw [G.y] at this
    exact this.mono fun e w' ⟨h1, h2, h3⟩ => ⟨h1, h2, hbw.trans h3.below⟩)
  have P2 := Lib.hid (show ∀ (wy wz : World) (Sb : Nat) (m : StM) (A : Option Addr) (c : Nat), StR wy base Sb s2 m → Below wy.heap.size wy wz → Below base w wy → Byt wz A [120] → 1 ≤ c → Calls Tryz.prog 53 #[.pointer (some ⟨Sb, 0, none⟩), .agg #[.int .i64 1, .int .i64 1], .slice A 1 c] wz fun e w' => e = .returned (.int .i64 0) ∧ Dsk w' base m.B s3.d ∧ TabsB base w' ∧ Below base w w' from fun wy wz Sb m A c hs hb hbw hby hc => by
    obtain ⟨a, l, m1, mark, t, nn, d1, d2, l2, hp, rfl⟩ := G.p2
    exact (putGo_any (hs.below hb) G.k2 hp A c hby hc).mono fun e w' ⟨h1, h2, h3⟩ => ⟨h1, h2.dsk, h2.tab, (hbw.trans (hb.mono hs.lt)).trans h3.below⟩)
  have CU := Lib.hid (show ∀ (wy : World) (B : Nat), Dsk wy base B s3.d → Below base w wy → Calls Tryz.prog 23 #[.pointer (some ⟨B, 0, none⟩), .slice none 0 0, .int .i64 (-1)] wy fun e w' => e = .returned (.tuple #[]) ∧ Dsk w' base B (cutD s3.d [] (-1)) ∧ Below base w w' from fun wy B hd hb =>
    (diskCut0_any hd).mono fun e w' ⟨h1, h2, h3⟩ => ⟨h1, h2, hb.trans h3.below⟩)
  have ON := Lib.hid (show ∀ (wy : World) (B : Nat), Dsk wy base B (cutD s3.d [] (-1)) → Below base w wy → Calls Tryz.prog 24 #[.pointer (some ⟨B, 0, none⟩)] wy fun e w' => e = .returned (.tuple #[]) ∧ Dsk w' base B (onD (cutD s3.d [] (-1))) ∧ Below base w w' from fun wy B hd hb =>
    (diskOn_any hd).mono fun e w' ⟨h1, h2, h3⟩ => ⟨h1, h2, hb.trans h3.below⟩)
  have O2 := Lib.hid (show ∀ (wy : World) (B : Nat), Dsk wy base B (onD (cutD s3.d [] (-1))) → Below base w wy → Calls Tryz.prog 16 #[.pointer (some ⟨B, 0, none⟩)] wy fun e w' => ∃ Sb m, e = .returned (.tuple #[.pointer (some ⟨Sb, 0, none⟩), .int .i64 0]) ∧ StR w' base Sb s4 m ∧ Below base w w' from fun wy B hd hb => by
    obtain ⟨d1, l1, sl, mp, d2, l2, hg, rfl⟩ := G.o2
    exact (open_any hd (hT.below hb) hb2 hg).mono fun e w' ⟨Sb, m, h1, h2, h3, h4⟩ => ⟨Sb, m, h1, h3, hb.trans h4.below⟩)
  have hlen : s4.slices.length = 1 := by have := congrArg List.length G.nm; simpa using this
  have NA := Lib.hid (show ∀ (wy : World) (Sb : Nat) (m : StM), StR wy base Sb s4 m → Below base w wy → Calls Tryz.prog 35 #[.pointer (some ⟨Sb, 0, none⟩)] wy fun e w' => ∃ A c, e = .returned (.slice A 1 c) ∧ Sl w' 73 2 A 1 (nameRows [(1, 0)]) ∧ StR w' base Sb s4 m ∧ Below base w w' from fun wy Sb m hs hb => by
    have := names_any hs G.k4.srtS G.k4.num (by rw [hlen]; omega)
    rw [hlen, G.nm] at this
    exact this.mono fun e w' ⟨A, c, h1, h2, h3⟩ => ⟨A, c, h1, Sl.of_own h2, hs.below h3, hb.trans (h3.mono hs.lt)⟩)
  have GT := Lib.hid (show ∀ (wy : World) (Sb : Nat) (m : StM), StR wy base Sb s4 m → Below base w wy → Calls Tryz.prog 30 #[.pointer (some ⟨Sb, 0, none⟩), .agg #[.int .i64 1, .int .i64 0]] wy fun e w' => ∃ A c, e = .returned (.tuple #[.slice A 8 c, .int .i64 0]) ∧ Byt w' A [49, 50, 51, 52, 53, 54, 55, 56] ∧ Below wy.heap.size wy w' ∧ Below base w w' from fun wy Sb m hs hb => by
    have := get_any hs G.fine (1, 0) ⟨wfI_of (by decide), wfI_of (by decide)⟩ x G.gx x.at'.toNat (by have := G.xa; omega) (by have := G.xa; omega)
    refine this.mono fun e w' ⟨h1, h2⟩ => ?_
    rw [G.tx] at h1
    rcases h1 with ⟨_, A, c, h3, h4⟩ | ⟨h3, _⟩
    · exact ⟨A, c, h3, Byt.of_own h4, h2, hb.trans (h2.mono hs.lt)⟩
    · exact absurd rfl h3)
  have HBW : Hid (Below base w w) := Below.refl _ _
  clear hT G hlen hbase
  have kc := fun (w : World) (C : Array Value) (n c : Nat) => Lib.run_convert_bytes_const (P := Tryz.prog) w 43 5 C n c under43 Tryz.underlying5
  go_enter Tryz.func14, Tryz.ntmps14
  go_wp2_with (first
    | (go_at_call 15; refine NW.out.mono ?_; rintro en w1 ⟨B, rfl, hd, hb⟩; (have HD1 := Lib.hid hd); (have HB1 := Lib.hid hb); clear hd hb)
    | ((fail_if_success (have := HS2)); go_at_call 16; refine (O1.out _ _ HD1.out HB1.out).mono ?_; rintro en w2 ⟨Sb, m, rfl, hmb, hs, hb⟩; (have HS2 := Lib.hid hs); (have HB2 := Lib.hid hb); (have HMB := Lib.hid hmb); clear hmb hs hb)
    | ((fail_if_success (have := HS3)); go_at_call 53; refine (P1.out _ _ _ _ _ _ HS2.out ((Below.refl _ _).alloc (Nat.le_refl _) _) HB2.out (lit8 _ _) (by decide)).mono ?_; rintro en w3 ⟨rfl, hs, hb⟩; (have HS3 := Lib.hid hs); (have HB3 := Lib.hid hb); clear hs hb)
    | (go_at_call 54; refine (SY.out _ _ _ HS3.out HB3.out).mono ?_; rintro en w4 ⟨rfl, hs, hb⟩; (have HS4 := Lib.hid hs); (have HB4 := Lib.hid hb); clear hs hb)
    | (go_at_call 53; refine (P2.out _ _ _ _ _ _ HS4.out ((Below.refl _ _).alloc (Nat.le_refl _) _) HB4.out (lit1 _ _) (by decide)).mono ?_; rintro en w5 ⟨rfl, hd, ht, hb⟩; (have HD5 := Lib.hid hd); (have HB5 := Lib.hid hb); clear hd hb ht)
    | (go_at_call 23; refine (CU.out _ _ (HMB.out ▸ HD5.out) HB5.out).mono ?_; rintro en w6 ⟨rfl, hd, hb⟩; (have HD6 := Lib.hid hd); (have HB6 := Lib.hid hb); clear hd hb)
    | (go_at_call 24; refine (ON.out _ _ HD6.out HB6.out).mono ?_; rintro en w7 ⟨rfl, hd, hb⟩; (have HD7 := Lib.hid hd); (have HB7 := Lib.hid hb); clear hd hb)
    | (go_at_call 16; refine (O2.out _ _ HD7.out HB7.out).mono ?_; rintro en w8 ⟨Sb2, m2, rfl, hs, hb⟩; (have HS8 := Lib.hid hs); (have HB8 := Lib.hid hb); clear hs hb)
    | (go_at_call 35; refine (NA.out _ _ _ HS8.out HB8.out).mono ?_; rintro en w9 ⟨A9, c9, rfl, hn, hs, hb⟩; (have HN9 := Lib.hid hn); (have HS9 := Lib.hid hs); (have HB9 := Lib.hid hb); clear hn hs hb)
    | (go_at_call 30; refine (GT.out _ _ _ HS9.out HB9.out).mono ?_; rintro en wa ⟨Aa, ca, rfl, hy, hb, hb'⟩; (have HY := Lib.hid hy); (have HBA := Lib.hid hb'); (obtain ⟨b9, o9, hA9, hbl9, q0, q1⟩ := names_at (HN9.out.below hb) 0 (by decide) rfl); subst hA9; (have q0' : wa.cell? ⟨b9, o9, none⟩ = some (.int .i64 1) := q0); (have q1' : wa.cell? ⟨b9, o9 + 1, none⟩ = some (.int .i64 0) := q1); clear q0 q1; (have hcv : (convert 43 9 (.slice Aa 8 ca)).run Tryz.prog wa = .ok (.string ⟨#[49, 50, 51, 52, 53, 54, 55, 56]⟩) wa := strOf_run wa Aa ca _ hy (by decide)); clear hy hb hb'))
  go_ret
  exact ⟨rfl, HBA.out⟩
end Go.Proofs.YtmgmfnimaafkdaaGreatDoor
namespace Go.Proofs.YtmgmfnimaafkdaaGreatDoor
open Go.RowKit Go.Maps
set_option maxRecDepth 100000

theorem does_nil (j : Nat) (hj : j < 7) (v n : Int) (sz b : Nat) (hsz : sz < 65536) (w : World) :
    Calls Tryz.prog 20 #[.pointer none, .agg (actC j v n sz b)] w fun e w' => e = .returned (.int .i64 6) ∧ Below w.heap.size w w' := by
  have : j = 0 ∨ j = 1 ∨ j = 2 ∨ j = 3 ∨ j = 4 ∨ j = 5 ∨ j = 6 := by omega
  rcases this with rfl | rfl | rfl | rfl | rfl | rfl | rfl
  · exact does_nil0 v n sz b hsz w
  · exact does_nil1 v n sz b hsz w
  · exact does_nil2 v n sz b hsz w
  · exact does_nil3 v n sz b hsz w
  · exact does_nil4 v n sz b hsz w
  · exact does_nil5 v n sz b hsz w
  · exact does_nil6 v n sz b hsz w
theorem TabsB.mono {base base' : Nat} {w : World} (h : TabsB base w) (hb : base ≤ base') : TabsB base' w := fun w' hw => h w' (hw.mono hb)
set_option maxHeartbeats 4000000 in
theorem storeNil_any {w : World} (hT : TabsB w.heap.size w) (hb2 : 2 < w.heap.size) (k v n : Int) (sz b : Nat) (hsz : sz < 65536) :
    Calls Tryz.prog 7 #[.agg (actC k v n sz b)] w fun e w' => e = .returned (.bool true) ∧ Below w.heap.size w w' := by
  have HX := Lib.hid (Blk.new w 55 (actC k v n sz b))
  have HB0 : Hid (Below w.heap.size w (w.alloc (.cells (actC k v n sz b) 55))) := (Below.refl _ _).alloc (Nat.le_refl _) _
  have HT := Lib.hid hT
  have HDN := Lib.hid (fun (j : Nat) (hj : j < 7) (wy : World) => does_nil j hj v n sz b hsz wy)
  have HNM := Lib.hid (fun wy => actName_any v n wy)
  clear hT
  go_enter Tryz.func7, Tryz.ntmps7
  go_upto_region 1 with fail
  generalize w.alloc (.cells (actC k v n sz b) 55) = w1 at *
  have hw1 := HB0.out.size
  have HAL := Lib.hid (alive_any ((HT.out.below HB0.out).mono hw1) (by omega))
  go_wp2_with (go_at_call 14; refine HAL.out.mono ?_; rintro en w2 ⟨rfl, hb⟩; (have HB2 := Lib.hid (HB0.out.trans (hb.mono hw1))); (have HX2 := Lib.hid (HX.out.below hb HX.out.lt)); clear hb)
  go_loopw [4] (fun i wr => ∃ (j : Nat) (q : Int), j ≤ 7 ∧ i = .int .i64 j ∧ Blk wr w.heap.size 55 (actC q v n sz b) ∧ Below w.heap.size w wr) (fun i _ => 7 - (intOf i).toNat)
  case atStart => exact ⟨0, k, by omega, rfl, HX2.out, HB2.out⟩
  case round =>
    obtain ⟨j, q, hj, rfl, hx, hb⟩ := hrel
    have HXR := Lib.hid hx
    have HBR := Lib.hid hb
    have c0 : wr.cell? ⟨w.heap.size, 0, none⟩ = some (.int .i64 q) := hx.cell 0
    have f0 := hx.free 0
    have xl := hx.lt
    by_cases hj7 : j < 7
    · have hj7' : (j : Int) < 7 := by omega
      have s1 : Blk (wr.setCell ⟨w.heap.size, 0, none⟩ (.int .i64 j)) w.heap.size 55 (actC j v n sz b) := by
        have := hx.set 0 (.int .i64 j)
        simpa using this
      have hb1 : Below w.heap.size w (wr.setCell ⟨w.heap.size, 0, none⟩ (.int .i64 j)) := below_set hb (Nat.le_refl _) _
      have HS1 := Lib.hid s1
      have HBS := Lib.hid hb1
      have HD := Lib.hid (fun wy => HDN.out j hj7 wy)
      clear hx hb s1 hb1
      go_upto_region 8 with fail
      generalize wr.setCell ⟨w.heap.size, 0, none⟩ (.int .i64 j) = w3 at *
      have d0 : w3.cell? ⟨w.heap.size, 0, none⟩ = some (.int .i64 j) := HS1.out.cell 0
      have d1 : w3.cell? ⟨w.heap.size, 1, none⟩ = some (.int .i64 v) := HS1.out.cell 1
      have d2 : w3.cell? ⟨w.heap.size, 2, none⟩ = some (.int .i64 n) := HS1.out.cell 2
      have d3 : w3.cell? ⟨w.heap.size, 3, none⟩ = some (.int .u16 sz) := HS1.out.cell 3
      have d4 : w3.cell? ⟨w.heap.size, 4, none⟩ = some (.int .u8 b) := HS1.out.cell 4
      have dl := HS1.out.lt
      clear c0 f0 xl
      go_wp2_with (go_at_call 20; refine (HD.out _).mono ?_; rintro en w4 ⟨rfl, hb⟩; (have HB4 := Lib.hid (HBS.out.trans (hb.mono HBS.out.size))); (have HX4 := Lib.hid (HS1.out.below hb HS1.out.lt)); clear hb)
      go_roundw
      case rel => exact ⟨j + 1, j, by omega, by simp, HX4.out, HB4.out⟩
      case measure => simp [intOf]; omega
    · obtain rfl : j = 7 := by omega
      have c1 : wr.cell? ⟨w.heap.size, 1, none⟩ = some (.int .i64 v) := hx.cell 1
      have c2 : wr.cell? ⟨w.heap.size, 2, none⟩ = some (.int .i64 n) := hx.cell 2
      clear hx hb f0
      go_upto_region 11 with (first
        | (go_at_call 31; refine (HNM.out _).mono ?_; rintro en w4 ⟨rfl, hb⟩; (have HB4 := Lib.hid (HBR.out.trans (hb.mono HBR.out.size))); (have HX4 := Lib.hid (HXR.out.below hb HXR.out.lt)); clear hb)
        | (go_at_call 30; refine (get_nil v n _).mono ?_; rintro en w5 ⟨rfl, hb⟩; (have HB5 := Lib.hid (HB4.out.trans (hb.mono HB4.out.size))); (have HX5 := Lib.hid (HX4.out.below hb HX4.out.lt)); clear hb))
      have e1 : w5.cell? ⟨w.heap.size, 1, none⟩ = some (.int .i64 v) := HX5.out.cell 1
      have el := HX5.out.lt
      go_wp2_with (first
        | (go_at_call 33; refine (text_nil v _).mono ?_; rintro en w6 ⟨rfl, rfl⟩)
        | (go_at_call 35; refine (names_nil _).mono ?_; rintro en w6 ⟨rfl, rfl⟩)
        | (go_at_call 36; refine (notes_nil _).mono ?_; rintro en w6 ⟨rfl, rfl⟩)
        | (go_at_call 27; refine (marks_nil _).mono ?_; rintro en w6 ⟨rfl, rfl⟩)
        | (go_at_call 37; refine (sums_nil _).mono ?_; rintro en w6 ⟨rfl, rfl⟩))
      go_ret
      exact ⟨rfl, HB5.out⟩
end Go.Proofs.YtmgmfnimaafkdaaGreatDoor
