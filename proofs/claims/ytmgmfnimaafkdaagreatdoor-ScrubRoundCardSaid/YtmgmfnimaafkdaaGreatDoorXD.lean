/- The second example: the walk. -/
import Derived.Test.YtmgmfnimaafkdaaGreatDoorXB
import Derived.Test.YtmgmfnimaafkdaaGreatDoorXC
import Derived.Test.YtmgmfnimaafkdaaGreatDoorXA
import Derived.Test.YtmgmfnimaafkdaaGreatDoorUM
import Derived.Test.YtmgmfnimaafkdaaGreatDoorUH
import Derived.Lib.SlBytesConst
namespace Go.Proofs.YtmgmfnimaafkdaaGreatDoor
open Go.RowKit Go.Maps Go.Shelf Go.Sort
set_option maxRecDepth 100000

theorem byt_lit1 (w : World) (x : UInt8) (fr : Nat × Nat) : Byt (w.alloc (.cells #[u8v x] 5 fr)) (some ⟨w.heap.size, 0, none⟩) [x] := by
 have hb : (w.alloc (.cells #[u8v x] 5 fr)).heap[w.heap.size]? = some (.cells #[u8v x] 5 fr) := heap_alloc_new w _
 refine ⟨⟨by simp, fun _ => ⟨w.heap.size, 0, rfl, by simp, fun j hj => ?_⟩⟩, fun _ a ha => ?_⟩
 ·rw [Nat.zero_add]
  simp only [World.cell?, hb]
  simp at hj
  subst hj
  simp
 ·injection ha with ha
  subst ha
  unfold tyOf
  rw [hb]
set_option maxHeartbeats 16000000 in
theorem awake_any {w : World} (hT : TabsB w.heap.size w) (hb2 : 2 < w.heap.size) : Calls Tryz.prog 41 #[] w fun e w' => e = .returned (.bool true) ∧ Below w.heap.size w w' := by
 obtain ⟨s0, s1, s2, s3, s4, d5, t2, t3, G⟩ := awake_go
 obtain ⟨base, hbase⟩ : ∃ base, base = w.heap.size := ⟨_, rfl⟩
 rw [← hbase] at hT hb2 ⊢
 have NW := hZ9 (show Calls Tryz.prog 15 #[.int .i64 128, .int .i64 64] w fun e w' => ∃ B, e = .returned (.tuple #[.pointer (some ⟨B, 0, none⟩), .int .i64 0]) ∧ Dsk w' base B (newD 128 64) ∧ Below base w w' from (diskNew_any 128 64 w).mono fun e w' ⟨h1, h2⟩ => by
  rcases h2 with ⟨_, h3⟩ | ⟨_, B, h3, h4⟩
  ·exact absurd ⟨by decide, by decide, by decide, by decide⟩ h3
  ·rw [hbase]; exact ⟨B, h3, h4, h1⟩)
 have O1 := hZ9 (show ∀ (wy : World) (B : Nat), Dsk wy base B (newD 128 64) → Below base w wy → Calls Tryz.prog 16 #[.pointer (some ⟨B, 0, none⟩)] wy fun e w' => ∃ Sb m, e = .returned (.tuple #[.pointer (some ⟨Sb, 0, none⟩), .int .i64 0]) ∧ m.B = B ∧ StR w' base Sb s0 m ∧ Below base w w' from fun wy B hd hb => by
  obtain ⟨d1, l1, sl, mp, d2, l2, hgo, _⟩ := openGo_new (n := 128) (k := 64) (by kernel_rfl) (by omega)
  obtain ⟨d, ho⟩ := G.o
  rw [hgo.is] at ho
  injection ho with _ ho
  injection ho with _ ho
  injection ho with ho
  subst ho
  exact (open_any hd (hT.below hb) hb2 hgo).mono fun e w' ⟨Sb, m, h1, h2, h3, h4⟩ => ⟨Sb, m, h1, h2, h3, hb.trans h4.below⟩)
 have NT := hZ9 (show ∀ (wy : World) (Sb : Nat) (m : StM), StR wy base Sb s0 m → Below base w wy → Calls Tryz.prog 75 #[.pointer (some ⟨Sb, 0, none⟩), .int .i64 1, .string ⟨#[110]⟩] wy fun e w' => ∃ m', e = .returned (.int .i64 0) ∧ m'.B = m.B ∧ StR w' base Sb s1 m' ∧ Below base w w' from fun wy Sb m hs hb => by
  have := note_any hs (G.f0.ok G.a0 (by omega)) 1 [110]
  rw [G.n] at this
  exact this.mono fun e w' ⟨h1, m', h2, h3⟩ => ⟨m', h1, h3.B, h2, hb.trans h3.below⟩)
 have P1 := hZ9 (show ∀ (wy wz : World) (Sb : Nat) (m : StM) (A : Option Addr) (c : Nat), StR wy base Sb s1 m → Below wy.heap.size wy wz → Below base w wy → Byt wz A [97] → 1 ≤ c → Calls Tryz.prog 53 #[.pointer (some ⟨Sb, 0, none⟩), .agg #[.int .i64 1, .int .i64 0], .slice A 1 c] wz fun e w' => e = .returned (.int .i64 0) ∧ StR w' base Sb s2 m ∧ Below base w w' from fun wy wz Sb m A c hs hb hbw hby hc => by
  have := put_any (hs.below hb) G.a1 (G.f1.ok G.a1 (by omega)) (by omega) (by have := G.f1.waits; omega) (by have := G.f1.puts; omega) (1, 0) [97] A c hby.byl hc
  rw [G.p1] at this
  exact this.mono fun e w' ⟨h1, h2, h3⟩ => ⟨h1, h2, (hbw.trans (hb.mono hs.lt)).trans h3.below⟩)
 have P2 := hZ9 (show ∀ (wy wz : World) (Sb : Nat) (m : StM) (A : Option Addr) (c : Nat), StR wy base Sb s2 m → Below wy.heap.size wy wz → Below base w wy → Byt wz A [98] → 1 ≤ c → Calls Tryz.prog 53 #[.pointer (some ⟨Sb, 0, none⟩), .agg #[.int .i64 1, .int .i64 1], .slice A 1 c] wz fun e w' => e = .returned (.int .i64 0) ∧ StR w' base Sb s3 m ∧ Below base w w' from fun wy wz Sb m A c hs hb hbw hby hc => by
  have := put_any (hs.below hb) G.a2 (G.f2.ok G.a2 (by omega)) (by omega) (by have := G.f2.waits; omega) (by have := G.f2.puts; omega) (1, 1) [98] A c hby.byl hc
  rw [G.p2] at this
  exact this.mono fun e w' ⟨h1, h2, h3⟩ => ⟨h1, h2, (hbw.trans (hb.mono hs.lt)).trans h3.below⟩)
 have SY := hZ9 (show ∀ (wy : World) (Sb : Nat) (m : StM), StR wy base Sb s3 m → Below base w wy → Calls Tryz.prog 54 #[.pointer (some ⟨Sb, 0, none⟩)] wy fun e w' => e = .returned (.int .i64 0) ∧ StR w' base Sb s4 m ∧ Below base w w' from fun wy Sb m hs hbw => by
  have := storeSync_any hs
  rw [G.y] at this
  exact this.mono fun e w' ⟨h1, h2, h3⟩ => ⟨h1, h2, hbw.trans h3.below⟩)
 have RO := hZ9 (show ∀ (wy : World) (Sb : Nat) (m : StM), StR wy base Sb s4 m → Below base w wy → Calls Tryz.prog 39 #[.pointer (some ⟨m.B, 0, none⟩), .int .i64 32, .int .i64 200] wy fun e w' => e = .returned (.int .i64 0) ∧ StR w' base Sb { s4 with d := d5 } m ∧ Below base w w' from fun wy Sb m hs hbw => by
  have := diskRot_any hs.dsk 32 200
  rw [G.r] at this
  have hz : d5.size = s4.d.size := by have := rotD_size s4.d 32 200; rw [G.r] at this; exact this
  exact this.mono fun e w' ⟨h1, h2, h3, h4⟩ => ⟨h1, hs.rotted h3 h2 hz h4, hbw.trans h3.below⟩)
 have LK := hZ9 (show ∀ (wy : World) (Sb : Nat) (m : StM), StR wy base Sb { s4 with d := d5 } m → Below base w wy → Calls Tryz.prog 42 #[.pointer (some ⟨Sb, 0, none⟩)] wy fun e w' => ∃ A1 c1 b o c2 A3 c3 A4 c4, e = .returned (.agg #[.slice A1 1 c1, .slice (some ⟨b, o, none⟩) 1 c2, .slice A3 0 c3, .slice A4 0 c4]) ∧ w'.cell? ⟨b, o + 1, none⟩ = some (.int .i64 0) ∧ b < w'.heap.size ∧ Below base w w' from fun wy Sb m hs hbw => by
  have ok := G.f4
  have hnum : ∀ x ∈ s4.slices, NumOK x ∧ x.2.len ≤ 1048576 := fun x hx => by
   refine ⟨G.a5.nums x hx, ?_⟩
   obtain ⟨y, hy, e, ⟨a, mark, h1, h2, h3, h4, h5⟩, h6, h7⟩ := G.a5.side.mem x hx
   have : d5.lasts.length ≤ 65536 := G.a5.few
   rw [h1]
   simp only at h5 ⊢
   omega
  refine (look_any hs G.a5 hnum (by have := ok.sl; show s4.slices.length ≤ _; omega) (by have := ok.nt; show s4.notes.length ≤ _; omega)).mono fun e w' hq => ?_
  obtain ⟨A1, c1, A2, c2, A3, c3, A4, c4, h1, h2, h3, h4, h5, h6⟩ := hq
  rw [G.g, G.b, G.l, G.e] at h1
  rw [G.b] at h3
  obtain ⟨b, o, rfl, hb, _, q1⟩ := names_at h3 0 (by decide) rfl
  exact ⟨A1, c1, b, o, c2, A3, c3, A4, c4, h1, q1, hb, hbw.trans (h6.mono hs.lt)⟩)
 have HBW : Hid (Below base w w) := bR0
 have hbw0 : base ≤ w.heap.size := by omega
 clear hT G hbase
 have kc := fun (w : World) (C : Array Value) (n c : Nat) => Lib.run_convert_bytes_const (P := Tryz.prog) w 43 5 C n c under43 Tryz.underlying5
 go_enter Tryz.func41, Tryz.ntmps41
 go_wp2_with (first
  | (go_at_call 15; refine NW.out.mono ?_; rintro en w1 ⟨B, rfl, hd, hb⟩; (have HD1 := hZ9 hd); (have HB1 := hZ9 hb); clear hd hb)
  | (go_at_call 16; refine (O1.out _ _ HD1.out HB1.out).mono ?_; rintro en w2 ⟨Sb, m, rfl, hmb, hs, hb⟩; subst hmb; (have HS2 := hZ9 hs); (have HB2 := hZ9 hb); clear hs hb)
  | (go_at_call 75; refine (NT.out _ _ _ HS2.out HB2.out).mono ?_; rintro en w3 ⟨m3, rfl, hmb, hs, hb⟩; (have HS3 := hZ9 hs); (have HB3 := hZ9 hb); (have HMB := hZ9 hmb); clear hs hb hmb)
  | ((fail_if_success (have := HS4)); go_at_call 53; refine (P1.out _ _ _ _ _ _ HS3.out (bR0.alloc nR0 _) HB3.out (byt_lit1 _ 97 _) (by decide)).mono ?_; rintro en w4 ⟨rfl, hs, hb⟩; (have HS4 := hZ9 hs); (have HB4 := hZ9 hb); clear hs hb)
  | (go_at_call 53; refine (P2.out _ _ _ _ _ _ HS4.out (bR0.alloc nR0 _) HB4.out (byt_lit1 _ 98 _) (by decide)).mono ?_; rintro en w5 ⟨rfl, hs, hb⟩; (have HS5 := hZ9 hs); (have HB5 := hZ9 hb); clear hs hb)
  | (go_at_call 54; refine (SY.out _ _ _ HS5.out HB5.out).mono ?_; rintro en w6 ⟨rfl, hs, hb⟩; (have HS6 := hZ9 hs); (have HB6 := hZ9 hb); clear hs hb)
  | (go_at_call 39; refine (HMB.out ▸ RO.out _ _ _ HS6.out HB6.out).mono ?_; rintro en w7 ⟨rfl, hs, hb⟩; (have HS7 := hZ9 hs); (have HB7 := hZ9 hb); clear hs hb)
  | (go_at_call 42; refine (LK.out _ _ _ HS7.out HB7.out).mono ?_; rintro en w8 ⟨A1, c1, b, o, c2, A3, c3, A4, c4, rfl, hq, hbl, hb⟩; (have HB8 := hZ9 hb); clear hb))
 go_ret
 exact ⟨rfl, HB8.out.alloc (Nat.le_trans hbw0 HB8.out.size) _⟩
end Go.Proofs.YtmgmfnimaafkdaaGreatDoor
