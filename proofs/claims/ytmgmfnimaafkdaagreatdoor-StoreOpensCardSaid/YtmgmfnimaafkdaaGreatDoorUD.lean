/- The reference's Need, and its log that has no records.  The reference's log and store, opened where nothing was.  The reference's store, opened where nothing was.  The reference's Open, of a disk that has no store.  -/
import Derived.Test.YtmgmfnimaafkdaaGreatDoorVN
import Derived.Test.YtmgmfnimaafkdaaGreatDoorVH
import Derived.Test.YtmgmfnimaafkdaaGreatDoorVP
namespace Go.Proofs.YtmgmfnimaafkdaaGreatDoor
open Go.RowKit Go.Maps
set_option maxRecDepth 100000

def perP (s : Nat) : Nat := if s < 19 ∨ 4096 < s then 0 else s - 18
theorem per_any (s : Nat) (hs : s < 2 ^ 62) (w : World) : Calls Tryz.prog 126 #[.int .i64 s] w fun e w' => e = .returned (.int .i64 (perP s : Nat)) ∧ w = w' := by
  by_cases h1 : s < 19
  · have e : perP s = 0 := by unfold perP; rw [if_pos (.inl h1)]
    rw [e]
    have i1 : (s : Int) < 19 := by omega
    go_enter Tryz.func126, Tryz.ntmps126
    go_wp2_with fail
    go_ret
    exact ⟨rfl, rfl⟩
  · have i1 : ¬ (s : Int) < 19 := by omega
    by_cases h2 : 4096 < s
    · have e : perP s = 0 := by unfold perP; rw [if_pos (.inr h2)]
      rw [e]
      have i2 : (s : Int) > 4096 := by omega
      go_enter Tryz.func126, Tryz.ntmps126
      go_wp2_with fail
      go_ret
      exact ⟨rfl, rfl⟩
    · have e : perP s = s - 18 := by unfold perP; rw [if_neg (by omega)]
      rw [e]
      have i2 : ¬ (s : Int) > 4096 := by omega
      have i3 : ((s - 18 : Nat) : Int) = (s : Int) - 18 := by omega
      rw [i3]
      clear i3
      go_enter Tryz.func126, Tryz.ntmps126
      go_wp2_with fail
      go_ret
      exact ⟨rfl, rfl⟩
theorem needP_step {s n p k : Nat} (hp : perP s = p) (hp0 : p ≠ 0) (hn : n ≤ 2 ^ 30) (hk : 1 ≤ k) : k * p < n ↔ k < needP s n := by
  unfold perP at hp
  split at hp
  · omega
  · rename_i h
    unfold needP
    rw [if_neg (by omega), hp]
    have h1 : k < (n + p - 1) / p ↔ k * p < n := by
      rw [Nat.lt_iff_add_one_le, Nat.le_div_iff_mul_le (by omega), Nat.add_mul, Nat.one_mul]
      omega
    omega
theorem needP_small {s n : Nat} : needP s n ≤ 2 ^ 30 + 1 := by
  unfold needP
  split
  · omega
  · rename_i h
    have : (n + (s - 18) - 1) / (s - 18) ≤ n := by
      rcases Nat.eq_zero_or_pos n with h0 | h0
      · subst h0
        rw [Nat.div_eq_of_lt (by omega)]
        omega
      · refine Nat.div_le_of_le_mul ?_
        obtain ⟨k, hk⟩ : ∃ k, s - 18 = k + 1 := ⟨s - 19, by omega⟩
        rw [hk]
        obtain ⟨b', rfl⟩ : ∃ b', n = b' + 1 := ⟨n - 1, by omega⟩
        have e : (k + 1) * (b' + 1) = k * b' + k + b' + 1 := by
          rw [Nat.add_mul, Nat.mul_add]; omega
        rw [e]
        omega
    omega
theorem needP_none {s n : Nat} (h : perP s = 0 ∨ 2 ^ 30 < n) : needP s n = 0 := by
  unfold needP
  rw [if_pos]
  unfold perP at h
  rcases h with h | h
  · split at h <;> omega
  · omega
theorem needP_pos1 {s n : Nat} (h : perP s ≠ 0) (hn : n ≤ 2 ^ 30) : 1 ≤ needP s n := by
  unfold perP at h
  unfold needP
  split at h
  · omega
  · rw [if_neg (by omega)]; omega
set_option maxHeartbeats 4000000 in
theorem refNeed_any (s n : Nat) (hs : s < 2 ^ 62) (hn : n < 2 ^ 62) (w : World) :
    Calls Tryz.prog 67 #[.int .i64 s, .int .i64 n] w fun e w' => e = .returned (.int .i64 (needP s n : Nat)) ∧ w = w' := by
  have HP := Lib.hid (fun wy => per_any s hs wy)
  have i1 : ¬ (n : Int) < 0 := by omega
  by_cases hp : perP s = 0
  · rw [needP_none (.inl hp)]
    rw [hp] at HP
    go_enter Tryz.func67, Tryz.ntmps67
    go_wp2_with (go_at_call 126; refine (HP.out _).mono ?_; rintro en w' ⟨rfl, rfl⟩)
    go_ret
    exact ⟨rfl, rfl⟩
  · by_cases hb : 2 ^ 30 < n
    · rw [needP_none (.inr hb)]
      have hp' : ((perP s : Int) == 0) = false := by simp; omega
      have i2 : (n : Int) > 1073741824 := by omega
      go_enter Tryz.func67, Tryz.ntmps67
      go_wp2_with (go_at_call 126; refine (HP.out _).mono ?_; rintro en w' ⟨rfl, rfl⟩)
      go_ret
      exact ⟨rfl, rfl⟩
    · have hp' : ((perP s : Int) == 0) = false := by simp; omega
      have i2 : ¬ (n : Int) > 1073741824 := by omega
      have hpb : perP s ≤ 4078 := by unfold perP; split <;> omega
      have hN := needP_small (s := s) (n := n)
      have hN1 := needP_pos1 (n := n) hp (by omega)
      have HST := Lib.hid (fun k hk => needP_step (s := s) (n := n) (k := k) rfl hp (by omega) hk)
      obtain ⟨p, hpp⟩ : ∃ p, p = perP s := ⟨_, rfl⟩
      obtain ⟨M, hM⟩ : ∃ M, M = needP s n := ⟨_, rfl⟩
      rw [← hM] at hN hN1 ⊢
      rw [← hpp] at HP hp' hpb
      have HPP := Lib.hid hpp
      have HM := Lib.hid hM
      clear hpp hM hp
      go_enter Tryz.func67, Tryz.ntmps67
      go_wp2_with (go_at_call 126; refine (HP.out _).mono ?_; rintro en w' ⟨rfl, rfl⟩)
      go_loopw [6] (fun i wr => ∃ k : Nat, 1 ≤ k ∧ k ≤ M ∧ i = .int .i64 k ∧ wr = w) (fun i _ => M - (intOf i).toNat)
      case atStart => exact ⟨1, by omega, hN1, rfl, rfl⟩
      case round =>
        obtain ⟨k, hk1, hkM, rfl, rfl⟩ := hrel
        have hst := HST.out k hk1
        rw [← HPP.out, ← HM.out] at hst
        have hmul : k * p ≤ (2 ^ 30 + 1) * 4078 := Nat.mul_le_mul (by omega) hpb
        obtain ⟨kp, hkp⟩ : ∃ kp, kp = k * p := ⟨_, rfl⟩
        have hw : IntKind.i64.wrap ((k : Int) * (p : Int)) = (kp : Int) := by
          rw [← Int.natCast_mul, ← hkp, IntKind.wrap_i64]; omega
        rw [← hkp] at hst hmul
        clear hkp
        by_cases hlt : k < M
        · have h1 : (kp : Int) < n := by have := hst.2 hlt; omega
          clear hst
          go_wp2_with fail
          go_roundw
          case rel => exact ⟨k + 1, by omega, by omega, by simp, trivial⟩
          case measure => simp [intOf]; omega
        · have h1 : ¬ (kp : Int) < n := by
            have : ¬ kp < n := fun h => hlt (hst.1 h)
            omega
          obtain rfl : k = M := by omega
          clear hst
          go_wp2_with fail
          go_ret
          exact ⟨rfl, rfl⟩
end Go.Proofs.YtmgmfnimaafkdaaGreatDoor
namespace Go.Proofs.YtmgmfnimaafkdaaGreatDoor
open Go.RowKit Go.Maps
set_option maxRecDepth 100000

/-- the reference's log that has no records -/
abbrev logC (A : Option Addr) (c : Nat) (h s e : Int) : Array Value := #[.slice A 0 c, .int .i64 0, .int .i64 h, .int .i64 s, .int .i64 e]
theorem refRoom_any (A : Option Addr) (c h s : Nat) (e : Int) (hh : h < 2 ^ 40) (hs : s < 2 ^ 40) (w : World) :
    Calls Tryz.prog 124 #[.agg (logC A c h s e)] w fun en w' => en = .returned (.int .i64 ((h : Int) - (needP s 0 : Nat))) ∧ Below w.heap.size w w' := by
  have HX := Lib.hid (Blk.new w 36 (logC A c h s e))
  have HB : Hid (Below w.heap.size w (w.alloc (.cells (logC A c h s e) 36))) := (Below.refl _ _).alloc (Nat.le_refl _) _
  have HN := Lib.hid (show ∀ wy, Calls Tryz.prog 67 #[.int .i64 s, .int .i64 0] wy fun e w' => e = .returned (.int .i64 (needP s 0 : Nat)) ∧ wy = w' from fun wy => refNeed_any s 0 (by omega) (by omega) wy)
  have hn := needP_small (s := s) (n := 0)
  generalize needP s 0 = N at *
  have q1 : IntKind.i64.wrap ((h : Int) - (N : Int)) = (h : Int) - (N : Int) := by rw [IntKind.wrap_i64]; omega
  go_enter Tryz.func124, Tryz.ntmps124
  go_upto_region 1 with fail
  generalize w.alloc (.cells (logC A c h s e) 36) = w1 at *
  have S0 := Lib.hid (show w1.drew.cell? ⟨w.heap.size, 2, none⟩ = some (.int .i64 h) ∧ w1.drew.cell? ⟨w.heap.size, 3, none⟩ = some (.int .i64 s) from ⟨HX.out.drew.cell 2, HX.out.drew.cell 3⟩)
  go_region_held3 (fun wy => wy.cell? ⟨w.heap.size, 2, none⟩ = some (.int .i64 h) ∧ wy.cell? ⟨w.heap.size, 3, none⟩ = some (.int .i64 s))
    (first | exact S0.out)
    (first | (go_at_call 67; refine (HN.out _).mono ?_; rintro en w' ⟨rfl, rfl⟩))
  all_goals
    go_wp2_with fail
    go_ret
    exact ⟨rfl, HB.out.trans ((Below.refl _ _).drew.mono HB.out.size)⟩
theorem refNeedE_any (s : Nat) (A : Option Addr) (c : Nat) (w : World) : Calls Tryz.prog 125 #[.int .i64 s, .slice A 0 c] w fun e w' => e = .returned (.int .i64 0) ∧ w = w' := by
  go_enter Tryz.func125, Tryz.ntmps125
  go_wp2_with fail
  go_loopw [5, 6] (fun x i wr => x = .int .i64 0 ∧ i = .int .i64 0 ∧ wr = w) (fun _ _ _ => 0)
  case atStart => exact ⟨rfl, rfl, rfl⟩
  case round =>
    obtain ⟨rfl, rfl, rfl⟩ := hrel
    go_wp2_with fail
    go_ret
    exact ⟨rfl, rfl⟩
theorem refLeft_any (A : Option Addr) (c h s : Nat) (e : Int) (hh : h < 2 ^ 40) (hs : s < 2 ^ 40) (w : World) :
    Calls Tryz.prog 66 #[.agg (logC A c h s e)] w fun en w' => en = .returned (.int .i64 ((h : Int) - (needP s 0 : Nat))) ∧ Below w.heap.size w w' := by
  have HX := Lib.hid (Blk.new w 36 (logC A c h s e))
  have HB : Hid (Below w.heap.size w (w.alloc (.cells (logC A c h s e) 36))) := (Below.refl _ _).alloc (Nat.le_refl _) _
  have HR := Lib.hid (fun wy => refRoom_any A c h s e hh hs wy)
  have HN := Lib.hid (fun wy => refNeedE_any s A c wy)
  have hn := needP_small (s := s) (n := 0)
  generalize needP s 0 = N at *
  obtain ⟨z, hz⟩ : ∃ z : Int, z = (h : Int) - (N : Int) := ⟨_, rfl⟩
  have hzb : -1073741826 ≤ z ∧ z ≤ 1099511627776 := by omega
  rw [← hz] at HR ⊢
  clear hz
  have q1 : IntKind.i64.wrap z = z := by rw [IntKind.wrap_i64]; omega
  go_enter Tryz.func66, Tryz.ntmps66
  go_upto_region 1 with fail
  generalize w.alloc (.cells (logC A c h s e) 36) = w1 at *
  have hw1 := HB.out.size
  have SK := Lib.hid (show ∀ wy, Below w1.heap.size w1 wy → wy.cell? ⟨w.heap.size, 0, none⟩ = some (.slice A 0 c) ∧ wy.cell? ⟨w.heap.size, 1, none⟩ = some (.int .i64 0) ∧ wy.cell? ⟨w.heap.size, 2, none⟩ = some (.int .i64 h) ∧ wy.cell? ⟨w.heap.size, 3, none⟩ = some (.int .i64 s) ∧ wy.cell? ⟨w.heap.size, 4, none⟩ = some (.int .i64 e) from fun wy hy => by
    have hx := HX.out.below hy HX.out.lt
    exact ⟨hx.cell 0, hx.cell 1, hx.cell 2, hx.cell 3, hx.cell 4⟩)
  have S0 := Lib.hid (SK.out _ (Below.refl _ _).drew)
  go_region_held3 (fun wy => wy.cell? ⟨w.heap.size, 0, none⟩ = some (.slice A 0 c) ∧ wy.cell? ⟨w.heap.size, 1, none⟩ = some (.int .i64 0) ∧ wy.cell? ⟨w.heap.size, 2, none⟩ = some (.int .i64 h) ∧ wy.cell? ⟨w.heap.size, 3, none⟩ = some (.int .i64 s) ∧ wy.cell? ⟨w.heap.size, 4, none⟩ = some (.int .i64 e))
    (first | exact S0.out | exact SK.out _ HB3.out)
    (first
      | (go_at_call 125; refine (HN.out _).mono ?_; rintro en w' ⟨rfl, rfl⟩)
      | (go_at_call 124; refine (HR.out _).mono ?_; rintro en w3 ⟨rfl, hb⟩; (have HB3 : Hid (Below w1.heap.size w1 w3) := (Below.refl _ _).drew.trans hb); clear hb))
  all_goals
    go_wp2_with fail
    go_ret
    exact ⟨by simp, HB.out.trans (HB3.out.mono hw1)⟩
/-- on which disks the reference's log can stand -/
def OkLog (all s q : Nat) : Prop := 19 ≤ s ∧ 4 ≤ q ∧ needP s 0 + 1 ≤ q / 2 ∧ q ≤ all
set_option maxHeartbeats 4000000 in
theorem refOpenLog_any (all s q : Nat) (ha : all < 2 ^ 40) (hs : s < 2 ^ 40) (hq : q < 2 ^ 40) (w : World) :
    Calls Tryz.prog 65 #[.int .i64 all, .int .i64 s, .int .i64 0, .int .i64 q] w fun e w' => ((OkLog all s q ∧ e = .returned (.tuple #[.agg (logC none 0 (q / 2 : Nat) s 1), .int .i64 0])) ∨ (¬ OkLog all s q ∧ e = .returned (.tuple #[.agg (logC none 0 0 0 0), .int .i64 1]))) ∧ Below w.heap.size w w' := by
  have HI : Hid ((Tryz.prog.info? 36).map (·.size) = some 5) := show (Tryz.prog.info? 36).map (·.size) = some 5 from by kernel_rfl
  obtain ⟨h, hh⟩ : ∃ h, h = q / 2 := ⟨_, rfl⟩
  have hhi : (q : Int) / 2 = (h : Int) := by omega
  have HR := Lib.hid (fun wy => refRoom_any none 0 h s 1 (by omega) hs wy)
  have hn := needP_small (s := s) (n := 0)
  obtain ⟨N, hN⟩ : ∃ N, N = needP s 0 := ⟨_, rfl⟩
  have hok : OkLog all s q ↔ 19 ≤ s ∧ 4 ≤ q ∧ N + 1 ≤ h ∧ q ≤ all := by unfold OkLog; rw [hN, hh]
  rw [← hN] at HR hn
  rw [← hh]
  obtain ⟨ok, hok1⟩ : ∃ ok, ok = OkLog all s q := ⟨_, rfl⟩
  rw [← hok1] at hok ⊢
  have HOK := Lib.hid hok
  have HB1 : Hid (Below w.heap.size w ((w.alloc (.cells (logC none 0 0 0 0) 36)).alloc (.cells (logC none 0 h s 1) 36))) := ((Below.refl _ _).alloc (Nat.le_refl _) _).alloc (by simp) _
  have HX1 : Hid (Blk ((w.alloc (.cells (logC none 0 0 0 0) 36)).alloc (.cells (logC none 0 h s 1) 36)) w.heap.size 36 (logC none 0 0 0 0)) := (Blk.new _ _ _).alloc _
  have HX2 : Hid (Blk ((w.alloc (.cells (logC none 0 0 0 0) 36)).alloc (.cells (logC none 0 h s 1) 36)) (w.heap.size + 1) 36 (logC none 0 h s 1)) := Blk.new_eq0 (by simp)
  clear hN hh hok1 hok
  go_enter Tryz.func65, Tryz.ntmps65
  go_upto_region 2 with fail
  generalize (w.alloc (.cells (logC none 0 0 0 0) 36)).alloc (.cells (logC none 0 h s 1) 36) = w1 at *
  have hw1 := HB1.out.size
  have d0 : w1.cell? ⟨w.heap.size + 1, 0, none⟩ = some (.slice none 0 0) := HX2.out.cell 0
  have d1 : w1.cell? ⟨w.heap.size + 1, 1, none⟩ = some (.int .i64 0) := HX2.out.cell 1
  have d2 : w1.cell? ⟨w.heap.size + 1, 2, none⟩ = some (.int .i64 h) := HX2.out.cell 2
  have d3 : w1.cell? ⟨w.heap.size + 1, 3, none⟩ = some (.int .i64 s) := HX2.out.cell 3
  have d4 : w1.cell? ⟨w.heap.size + 1, 4, none⟩ = some (.int .i64 1) := HX2.out.cell 4
  have dl := HX2.out.lt
  have hnn : IntKind.i64.wrap ((all : Int) - 0) = (all : Int) := by rw [IntKind.wrap_i64]; omega
  have a0 : decide ((all : Int) < 0) = false := decide_eq_false (by omega)
  by_cases c1 : s < 19
  · have i1 : decide ((s : Int) < 19) = true := decide_eq_true (by omega)
    have HNO : Hid (¬ ok) := fun hk => by have := HOK.out.1 hk; omega
    clear c1
    have H1 : Hid ((logC none 0 0 0 0).all (·.oneCell') = true) := Lib.hid (by simp [Value.oneCell'])
    go_wp2_with (first
      | (go_at_call 124; refine (HR.out _).mono ?_; rintro en w3 ⟨rfl, hb⟩; (have HB3 := Lib.hid (HB1.out.trans (hb.mono hw1))); (have HG3 := Lib.hid (HX1.out.below hb HX1.out.lt)); (have HL3 := Lib.hid (HX2.out.below hb HX2.out.lt)); clear hb)
      | (refine wpList_store_row rfl 36 _ _ rfl w.heap.size (logC none 0 0 0 0) rfl rfl 36 (logC none 0 0 0 0) HX1.out HI.out rfl H1.out ?_))
    refine bodyPost_ret (v := .tuple #[.agg (logC none 0 0 0 0), .int .i64 1]) (results_cell_tmp Tryz.results65 _ _ w.heap.size 36 _ (0, 0) _ rfl (setRow_blk HX1.out _) Tryz.underlying36 rfl HI.out) rfl ?_
    exact ⟨.inr ⟨HNO.out, rfl⟩, HB1.out.trans (grown_below (setRow_gby _ _ _) HB1.out.size (fun k hk => by injection hk with hk; omega))⟩
  · have i1 : decide ((s : Int) < 19) = false := decide_eq_false (by omega)
    by_cases c2 : q < 4
    · have i2 : decide ((q : Int) < 4) = true := decide_eq_true (by omega)
      have HNO : Hid (¬ ok) := fun hk => by have := HOK.out.1 hk; omega
      clear c1 c2
      have H1 : Hid ((logC none 0 0 0 0).all (·.oneCell') = true) := Lib.hid (by simp [Value.oneCell'])
      go_wp2_with (first
        | (go_at_call 124; refine (HR.out _).mono ?_; rintro en w3 ⟨rfl, hb⟩; (have HB3 := Lib.hid (HB1.out.trans (hb.mono hw1))); (have HG3 := Lib.hid (HX1.out.below hb HX1.out.lt)); (have HL3 := Lib.hid (HX2.out.below hb HX2.out.lt)); clear hb)
        | (refine wpList_store_row rfl 36 _ _ rfl w.heap.size (logC none 0 0 0 0) rfl rfl 36 (logC none 0 0 0 0) HX1.out HI.out rfl H1.out ?_))
      refine bodyPost_ret (v := .tuple #[.agg (logC none 0 0 0 0), .int .i64 1]) (results_cell_tmp Tryz.results65 _ _ w.heap.size 36 _ (0, 0) _ rfl (setRow_blk HX1.out _) Tryz.underlying36 rfl HI.out) rfl ?_
      exact ⟨.inr ⟨HNO.out, rfl⟩, HB1.out.trans (grown_below (setRow_gby _ _ _) HB1.out.size (fun k hk => by injection hk with hk; omega))⟩
    · have i2 : decide ((q : Int) < 4) = false := decide_eq_false (by omega)
      by_cases c3 : h < N + 1
      · have i3 : decide ((h : Int) - (N : Int) < 1) = true := decide_eq_true (by omega)
        have HNO : Hid (¬ ok) := fun hk => by have := HOK.out.1 hk; omega
        clear c1 c2 c3
        have H1 : Hid ((logC none 0 0 0 0).all (·.oneCell') = true) := Lib.hid (by simp [Value.oneCell'])
        go_wp2_with (first
          | (go_at_call 124; refine (HR.out _).mono ?_; rintro en w3 ⟨rfl, hb⟩; (have HB3 := Lib.hid (HB1.out.trans (hb.mono hw1))); (have HG3 := Lib.hid (HX1.out.below hb HX1.out.lt)); (have HL3 := Lib.hid (HX2.out.below hb HX2.out.lt)); clear hb)
          | (refine wpList_store_row rfl 36 _ _ rfl w.heap.size (logC none 0 0 0 0) rfl rfl 36 (logC none 0 0 0 0) HG3.out HI.out rfl H1.out ?_))
        refine bodyPost_ret (v := .tuple #[.agg (logC none 0 0 0 0), .int .i64 1]) (results_cell_tmp Tryz.results65 _ _ w.heap.size 36 _ (0, 0) _ rfl (setRow_blk HG3.out _) Tryz.underlying36 rfl HI.out) rfl ?_
        exact ⟨.inr ⟨HNO.out, rfl⟩, HB3.out.trans (grown_below (setRow_gby _ _ _) HB3.out.size (fun k hk => by injection hk with hk; omega))⟩
      · have i3 : decide ((h : Int) - (N : Int) < 1) = false := decide_eq_false (by omega)
        by_cases c4 : all < q
        · have i4 : decide (all < q) = true := decide_eq_true (by omega)
          have HNO : Hid (¬ ok) := fun hk => by have := HOK.out.1 hk; omega
          clear c1 c2 c3 c4
          have H1 : Hid ((logC none 0 0 0 0).all (·.oneCell') = true) := Lib.hid (by simp [Value.oneCell'])
          go_wp2_with (first
            | (go_at_call 124; refine (HR.out _).mono ?_; rintro en w3 ⟨rfl, hb⟩; (have HB3 := Lib.hid (HB1.out.trans (hb.mono hw1))); (have HG3 := Lib.hid (HX1.out.below hb HX1.out.lt)); (have HL3 := Lib.hid (HX2.out.below hb HX2.out.lt)); clear hb)
            | (refine wpList_store_row rfl 36 _ _ rfl w.heap.size (logC none 0 0 0 0) rfl rfl 36 (logC none 0 0 0 0) HG3.out HI.out rfl H1.out ?_))
          refine bodyPost_ret (v := .tuple #[.agg (logC none 0 0 0 0), .int .i64 1]) (results_cell_tmp Tryz.results65 _ _ w.heap.size 36 _ (0, 0) _ rfl (setRow_blk HG3.out _) Tryz.underlying36 rfl HI.out) rfl ?_
          exact ⟨.inr ⟨HNO.out, rfl⟩, HB3.out.trans (grown_below (setRow_gby _ _ _) HB3.out.size (fun k hk => by injection hk with hk; omega))⟩
        · have i4 : decide (all < q) = false := decide_eq_false (by omega)
          have HYES : Hid ok := HOK.out.2 (by omega)
          clear c1 c2 c3 c4
          have H1 : Hid ((logC none 0 h s 1).all (·.oneCell') = true) := Lib.hid (by simp [Value.oneCell'])
          go_wp2_with (first
            | (go_at_call 124; refine (HR.out _).mono ?_; rintro en w3 ⟨rfl, hb⟩; (have HB3 := Lib.hid (HB1.out.trans (hb.mono hw1))); (have HG3 := Lib.hid (HX1.out.below hb HX1.out.lt)); (have HL3 := Lib.hid (HX2.out.below hb HX2.out.lt)); clear hb)
            | (refine wpList_load_row rfl 36 _ rfl (w.heap.size + 1) rfl 36 (logC none 0 h s 1) (0, 0) _ HL3.out Tryz.underlying36 rfl HI.out ?_)
            | (refine wpList_store_row rfl 36 _ _ rfl w.heap.size (logC none 0 h s 1) rfl rfl 36 (logC none 0 0 0 0) HG3.out HI.out rfl H1.out ?_))
          refine bodyPost_ret (v := .tuple #[.agg (logC none 0 h s 1), .int .i64 0]) (results_cell_tmp Tryz.results65 _ _ w.heap.size 36 _ (0, 0) _ rfl (setRow_blk HG3.out _) Tryz.underlying36 rfl HI.out) rfl ?_
          exact ⟨.inl ⟨HYES.out, rfl⟩, HB3.out.trans (grown_below (setRow_gby _ _ _) HB3.out.size (fun k hk => by injection hk with hk; omega))⟩
end Go.Proofs.YtmgmfnimaafkdaaGreatDoor
namespace Go.Proofs.YtmgmfnimaafkdaaGreatDoor
open Go.RowKit Go.Maps
set_option maxRecDepth 100000

theorem under46 : Tryz.prog.underlying 46 = some (.slice 4) := by kernel_rfl
theorem info4 : (Tryz.prog.info? 4).map (fun i => (i.zero, i.size, i.bytes)) = some (some (.bool false), 1, 1) := by kernel_rfl
def NewMapOut (w w' : World) (q r : Nat) (e : Ending) : Prop := (∃ M A c, e = .returned (.tuple #[.pointer (some ⟨M, 0, none⟩), .bool true]) ∧ w.heap.size ≤ M ∧ Blk w' M 236 #[.int .i64 q, .slice A r c] ∧ w'.ownsRow w.heap.size 4 1 (.slice A r c) r (List.replicate r (.bool true))) ∧ Below w.heap.size w w'
set_option maxHeartbeats 4000000 in
theorem refNewMap_any (q r : Nat) (hq : q ≤ 65536) (hr : r ≤ 65536) (w : World) :
    Calls Tryz.prog 68 #[.int .i64 q, .int .i64 r] w fun e w' => NewMapOut w w' q r e := by
  obtain ⟨i4, hi4, hz0, hz1, hz2⟩ := info_parts info4
  have a1 : decide ((q : Int) < 0) = false := decide_eq_false (by omega)
  have a2 : decide ((q : Int) > 1048576) = false := decide_eq_false (by omega)
  have a3 : decide ((r : Int) < 0) = false := decide_eq_false (by omega)
  have a4 : decide ((r : Int) > 1048576) = false := decide_eq_false (by omega)
  have HX := Lib.hid (Blk.new w 236 #[.int .i64 q, .slice none 0 0])
  have HB : Hid (Below w.heap.size w (w.alloc (.cells #[.int .i64 q, .slice none 0 0] 236))) := (Below.refl _ _).alloc (Nat.le_refl _) _
  go_enter Tryz.func68, Tryz.ntmps68
  go_upto_region 4 with fail
  generalize w.alloc (.cells #[.int .i64 q, .slice none 0 0] 236) = w1 at *
  obtain ⟨M, hM⟩ : ∃ M, M = w.heap.size := ⟨_, rfl⟩
  rw [← hM] at HX ⊢
  have hMl : w.heap.size ≤ M := by omega
  clear hM a1 a2 a3 a4
  go_wp2_with fail
  go_loopw [7] (fun i wr => ∃ (k : Nat) (A : Option Addr) (c : Nat), k ≤ r ∧ i = .int .i64 k ∧ Blk wr M 236 #[.int .i64 q, .slice A k c] ∧ wr.ownsRow w.heap.size 4 1 (.slice A k c) k (List.replicate k (.bool true)) ∧ Below w.heap.size w wr) (fun i _ => r - (intOf i).toNat)
  case atStart => exact ⟨0, none, 0, Nat.zero_le _, rfl, HX.out, own_nil _ _ _ _, HB.out⟩
  case round =>
    obtain ⟨k, A, c, hk, rfl, hx, ho, hb⟩ := hrel
    have HXR := Lib.hid hx
    have HO := Lib.hid ho
    have HBR := Lib.hid hb
    have hwr := hb.size
    by_cases hkr : k < r
    · have hkr' : (k : Int) < r := by omega
      have c1 : wr.cell? ⟨M, 1, none⟩ = some (.slice A k c) := hx.cell 1
      have xl := hx.lt
      have HRD : Hid (Rd (wr.alloc (.cells #[.bool true] 4)) (wr.alloc (.cells #[.bool true] 4)).heap.size 1 (some ⟨wr.heap.size, 0, none⟩) 1 [.bool true]) := sl_rd (Sl.of_blk (sz := 1) (n := 1) (xs := [.bool true]) (Blk.new wr 4 #[.bool true]) rfl)
      have HOW := Lib.hid (own_keep_alloc ho (.cells #[.bool true] 4))
      have H1C : Hid (∀ u ∈ ([.bool true] : List Value), u.oneCell' = true) := by
        show ∀ u ∈ ([.bool true] : List Value), u.oneCell' = true
        simp [Value.oneCell']
      have HXA := Lib.hid (hx.alloc (.cells #[.bool true] 4))
      have HBA := Lib.hid (hb.alloc hwr (.cells #[.bool true] 4))
      clear hx ho hb
      go_wp2_with (at_builtin; refine wpList_append_rd _ rfl _ _ 46 rfl w.heap.size 4 i4 _ 1 1 under46 hi4 hz0 hz1 hz2 rfl (by decide) (.slice A k c) k (List.replicate k (.bool true)) rfl HOW.out (some ⟨wr.heap.size, 0, none⟩) 1 1 _ [.bool true] rfl HRD.out H1C.out (by unfold maxLen; omega) (by omega) (by simp; omega) ?_; intro A4 c4 w4 hown4 hgr4 hnc4 _; (have HOWN4 := Lib.hid hown4); (have HGR4 := Lib.hid hgr4); (have hx4 := HXA.out.grown hgr4 (own_ne HOW.out HXA.out (by decide))); (have HX4 := Lib.hid hx4); (have e1 := hx4.cell 1); (have e2 := hx4.free 1); (have e3 := hx4.lt); clear hown4 hgr4 hx4)
      go_roundw
      case rel =>
        have k4 := keeps_own_grown HOW.out HGR4.out (by simp; omega)
        have hx5 : Blk (w4.setCell ⟨M, 1, none⟩ (.slice A4 (k + 1) c4)) M 236 #[.int .i64 q, .slice A4 (k + 1) c4] := by
          have := HX4.out.set 1 (.slice A4 (k + 1) c4)
          simpa using this
        have ho5 : (w4.setCell ⟨M, 1, none⟩ (.slice A4 (k + 1) c4)).ownsRow w.heap.size 4 1 (.slice A4 (k + 1) c4) (k + 1) (List.replicate (k + 1) (.bool true)) := by
          have k5 : Keeps w.heap.size [236] w4 (w4.setCell ⟨M, 1, none⟩ (.slice A4 (k + 1) c4)) := (Keeps.refl _ _ w4).set HX4.out hMl (by simp) _
          have := own_keeps HOWN4.out k5 (by decide)
          rw [List.replicate_succ']
          exact this
        exact ⟨k + 1, A4, c4, by omega, by simp, hx5, ho5, below_set (HBA.out.trans k4.below) hMl _⟩
      case measure => simp [intOf]; omega
    · obtain rfl : k = r := by omega
      have hkr' : ¬ (k : Int) < k := by omega
      clear hx ho hb
      go_wp2_with fail
      go_ret2
      exact ⟨⟨M, A, c, rfl, hMl, HXR.out, HO.out⟩, HBR.out⟩
/-- the reference's store that has nothing -/
abbrev refC (z : Int) (A : Option Addr) (c : Nat) (h s e : Int) (mp : Value) : Array Value := #[.int .i64 z, .slice none 0 0, .slice none 0 0, .slice none 0 0, .slice A 0 c, .int .i64 0, .int .i64 h, .int .i64 s, .int .i64 e, mp, .int .i64 0, .int .i64 0]
set_option maxHeartbeats 4000000 in
theorem refRecords_any (z : Int) (A : Option Addr) (c : Nat) (h s e : Int) (M : Nat) (w : World) :
    Calls Tryz.prog 128 #[.agg (refC z A c h s e (.pointer (some ⟨M, 0, none⟩)))] w fun en w' => en = .returned (.slice none 0 0) ∧ Below w.heap.size w w' := by
  have HX := Lib.hid (Blk.new w 39 (refC z A c h s e (.pointer (some ⟨M, 0, none⟩))))
  have HB : Hid (Below w.heap.size w (w.alloc (.cells (refC z A c h s e (.pointer (some ⟨M, 0, none⟩))) 39))) := (Below.refl _ _).alloc (Nat.le_refl _) _
  go_enter Tryz.func128, Tryz.ntmps128
  go_upto_region 1 with fail
  generalize w.alloc (.cells (refC z A c h s e (.pointer (some ⟨M, 0, none⟩))) 39) = w1 at *
  have c1 : w1.cell? ⟨w.heap.size, 1, none⟩ = some (.slice none 0 0) := HX.out.cell 1
  have c2 : w1.cell? ⟨w.heap.size, 2, none⟩ = some (.slice none 0 0) := HX.out.cell 2
  have c3 : w1.cell? ⟨w.heap.size, 3, none⟩ = some (.slice none 0 0) := HX.out.cell 3
  have xl := HX.out.lt
  go_wp2_with fail
  go_loopw [3, 13] (fun y i wr => y = .slice none 0 0 ∧ i = .int .i64 0 ∧ wr = w1) (fun _ _ _ => 0)
  case atStart => exact ⟨rfl, rfl, rfl⟩
  case round =>
    obtain ⟨rfl, rfl, rfl⟩ := hrel
    go_wp2_with fail
    go_loopw [3, 32] (fun y i wq => y = .slice none 0 0 ∧ i = .int .i64 0 ∧ wq = wr) (fun _ _ _ => 0)
    case atStart => exact ⟨rfl, rfl, rfl⟩
    case round =>
      obtain ⟨rfl, rfl, rfl⟩ := hrel
      go_wp2_with fail
      go_loopw [3, 45] (fun y i wq => y = .slice none 0 0 ∧ i = .int .i64 0 ∧ wq = wr) (fun _ _ _ => 0)
      case atStart => exact ⟨rfl, rfl, rfl⟩
      case round =>
        obtain ⟨rfl, rfl, rfl⟩ := hrel
        go_wp2_with fail
        go_ret
        exact ⟨rfl, HB.out⟩
def st36 (p v : Value) : Sem Unit := Instr.storeAt 36 p v
theorem st36_fold (p v : Value) : Instr.storeAt 36 p v = st36 p v := rfl
theorem size36 : (Tryz.prog.info? 36).map (·.size) = some 5 := by kernel_rfl
theorem run_st36 {w : World} {g : Nat} {cs v : Array Value} (hk : Blk w g 36 cs) (hs : cs.size = 5) (hv : v.size = 5) (h1 : v.all (·.oneCell') = true) : (st36 (.pointer (some ⟨g, 0, none⟩)) (.agg v)).run Tryz.prog w = .ok () (w.setRow g v) := by
  have := run_storeVar_row (P := Tryz.prog) w g 36 36 cs v hk (by rw [hv]; exact size36) (by omega) h1
  simp only [st36, Instr.storeAt, Instr.sureAddr, Sem.run_bind, Sem.run_pure, Result.andThen_ok, this]
set_option maxHeartbeats 4000000 in
/-- turned to nothing: there is room -/
theorem refTurnLog_any (A : Option Addr) (c h s : Nat) (e : Int) (hh : h < 2 ^ 40) (hs : s < 2 ^ 40) (he : 0 ≤ e ∧ e < 1099511627776) (hr : needP s 0 ≤ h) (w : World) :
    Calls Tryz.prog 127 #[.agg (logC A c h s e), .slice none 0 0] w fun en w' => (∃ A' c', en = .returned (.tuple #[.agg (logC A' c' h s (e + 1)), .int .i64 0])) ∧ Below w.heap.size w w' := by
  have HX : Hid (Blk ((w.alloc (.cells (logC A c h s e) 36)).alloc (.cells (logC none 0 0 0 0) 36)) w.heap.size 36 (logC A c h s e)) := (Blk.new _ _ _).alloc _
  have HG : Hid (Blk ((w.alloc (.cells (logC A c h s e) 36)).alloc (.cells (logC none 0 0 0 0) 36)) (w.heap.size + 1) 36 (logC none 0 0 0 0)) := Blk.new_eq0 (by simp)
  have HB : Hid (Below w.heap.size w ((w.alloc (.cells (logC A c h s e) 36)).alloc (.cells (logC none 0 0 0 0) 36))) := ((Below.refl _ _).alloc (Nat.le_refl _) _).alloc (by simp) _
  have HR := Lib.hid (fun wy => refRoom_any A c h s e hh hs wy)
  have HN := Lib.hid (fun wy => refNeedE_any s none 0 wy)
  have hn := needP_small (s := s) (n := 0)
  generalize needP s 0 = N at *
  have q1 : IntKind.i64.wrap (e + 1) = e + 1 := by rw [IntKind.wrap_i64]; omega
  have q2 : decide ((0 : Int) > (h : Int) - (N : Int)) = false := decide_eq_false (by omega)
  go_enter Tryz.func127, Tryz.ntmps127
  go_upto_region 1 with fail
  generalize (w.alloc (.cells (logC A c h s e) 36)).alloc (.cells (logC none 0 0 0 0) 36) = w1 at *
  have hw1 := HB.out.size
  go_wp2_with fail
  go_loopw [6] (fun i wr => i = .int .i64 0 ∧ wr = w1) (fun _ _ => 0)
  case atStart => exact ⟨rfl, rfl⟩
  case round =>
    obtain ⟨rfl, rfl⟩ := hrel
    have SK := Lib.hid (show ∀ wy, Below wr.heap.size wr wy → wy.cell? ⟨w.heap.size, 0, none⟩ = some (.slice A 0 c) ∧ wy.cell? ⟨w.heap.size, 1, none⟩ = some (.int .i64 0) ∧ wy.cell? ⟨w.heap.size, 2, none⟩ = some (.int .i64 h) ∧ wy.cell? ⟨w.heap.size, 3, none⟩ = some (.int .i64 s) ∧ wy.cell? ⟨w.heap.size, 4, none⟩ = some (.int .i64 e) from fun wy hy => by
      have hx := HX.out.below hy HX.out.lt
      exact ⟨hx.cell 0, hx.cell 1, hx.cell 2, hx.cell 3, hx.cell 4⟩)
    have S0 := Lib.hid (SK.out _ (Below.refl _ _).drew)
    go_upto_region 6 with fail
    go_cut [27] (fun v wx => v = .bool false ∧ Below wr.heap.size wr wx)
    case first =>
      go_region_held3 (fun wy => wy.cell? ⟨w.heap.size, 0, none⟩ = some (.slice A 0 c) ∧ wy.cell? ⟨w.heap.size, 1, none⟩ = some (.int .i64 0) ∧ wy.cell? ⟨w.heap.size, 2, none⟩ = some (.int .i64 h) ∧ wy.cell? ⟨w.heap.size, 3, none⟩ = some (.int .i64 s) ∧ wy.cell? ⟨w.heap.size, 4, none⟩ = some (.int .i64 e))
        (first | exact S0.out | exact SK.out _ HB3.out)
        (first
          | (go_at_call 125; refine (HN.out _).mono ?_; rintro en w' ⟨rfl, rfl⟩)
          | (go_at_call 124; refine (HR.out _).mono ?_; rintro en w3 ⟨rfl, hb⟩; (have HB3 : Hid (Below wr.heap.size wr w3) := (Below.refl _ _).drew.trans hb); clear hb))
      all_goals
        go_wp2_with fail
        go_meet
        exact ⟨rfl, HB3.out⟩
    case rest =>
      obtain ⟨rfl, hb3⟩ := hcut
      have HX3 := Lib.hid (HX.out.below hb3 HX.out.lt)
      have HG3 := Lib.hid (HG.out.below hb3 HG.out.lt)
      have HB3 := Lib.hid (HB.out.trans (hb3.mono hw1))
      have x0 : wc.cell? ⟨w.heap.size, 0, none⟩ = some (.slice A 0 c) := HX3.out.cell 0
      have f0 := HX3.out.free 0
      have xl := HX3.out.lt
      clear hb3 HX HG HB SK S0
      go_upto_region 9 with fail
      have HX5 : Hid (Blk ((wc.setCell ⟨w.heap.size, 0, none⟩ (.slice (some ⟨wc.heap.size, 0, none⟩) 0 0)).alloc (.cells #[] 247)) w.heap.size 36 (logC (some ⟨wc.heap.size, 0, none⟩) 0 h s e)) := by
        have := (HX3.out.set 0 (.slice (some ⟨wc.heap.size, 0, none⟩) 0 0)).alloc (.cells #[] 247)
        show Blk _ _ _ _
        simpa using this
      have hne : w.heap.size + 1 ≠ w.heap.size := by omega
      have HG5 := Lib.hid ((HG3.out.far hne (o := 0) (.slice (some ⟨wc.heap.size, 0, none⟩) 0 0)).alloc (.cells #[] 247))
      have HB5 := Lib.hid ((below_set (o := 0) HB3.out (Nat.le_refl _) (.slice (some ⟨wc.heap.size, 0, none⟩) 0 0)).alloc (by have := HB3.out.size; simpa [World.setCell] using this) (.cells #[] 247))
      clear x0 f0 xl HX3 HG3 HB3
      generalize (wc.setCell ⟨w.heap.size, 0, none⟩ (.slice (some ⟨wc.heap.size, 0, none⟩) 0 0)).alloc (.cells #[] 247) = w5 at *
      generalize wc.heap.size = g5 at *
      have x1 : w5.cell? ⟨w.heap.size, 1, none⟩ = some (.int .i64 0) := HX5.out.cell 1
      have f1 := HX5.out.free 1
      have f4 := HX5.out.free 4
      have x4 : w5.cell? ⟨w.heap.size, 4, none⟩ = some (.int .i64 e) := HX5.out.cell 4
      have xl := HX5.out.lt
      go_upto_region 11 with fail
      have HX6 : Hid (Blk ((w5.setCell ⟨w.heap.size, 1, none⟩ (.int .i64 0)).setCell ⟨w.heap.size, 4, none⟩ (.int .i64 (e + 1))) w.heap.size 36 (logC (some ⟨g5, 0, none⟩) 0 h s (e + 1))) := by
        have := (HX5.out.set 1 (.int .i64 0)).set 4 (.int .i64 (e + 1))
        show Blk _ _ _ _
        simpa using this
      have HG6 := Lib.hid ((HG5.out.far (o := 1) hne (.int .i64 0)).far (o := 4) hne (.int .i64 (e + 1)))
      have HB6 := Lib.hid (below_set (o := 4) (below_set (o := 1) HB5.out (Nat.le_refl _) (.int .i64 0)) (Nat.le_refl _) (.int .i64 (e + 1)))
      have HI : Hid ((Tryz.prog.info? 36).map (·.size) = some (logC (some ⟨g5, 0, none⟩) 0 h s (e + 1)).size) := size36
      have H1 : Hid ((logC (some ⟨g5, 0, none⟩) 0 h s (e + 1)).all (·.oneCell') = true) := Lib.hid (by simp [Value.oneCell'])
      clear x1 f1 f4 x4 xl HX5 HG5 HB5
      generalize (w5.setCell ⟨w.heap.size, 1, none⟩ (.int .i64 0)).setCell ⟨w.heap.size, 4, none⟩ (.int .i64 (e + 1)) = w6 at *
      go_wp2_with (first
        | (refine wpList_load_row rfl 36 _ rfl w.heap.size rfl 36 (logC (some ⟨g5, 0, none⟩) 0 h s (e + 1)) (0, 0) _ HX6.out Tryz.underlying36 rfl HI.out ?_)
        | (refine wpList_store_row rfl 36 _ _ rfl (w.heap.size + 1) (logC (some ⟨g5, 0, none⟩) 0 h s (e + 1)) rfl rfl 36 (logC none 0 0 0 0) HG6.out HI.out rfl H1.out ?_))
      refine bodyPost_ret (v := .tuple #[.agg (logC (some ⟨g5, 0, none⟩) 0 h s (e + 1)), .int .i64 0]) (results_cell_tmp Tryz.results127 _ _ (w.heap.size + 1) 36 _ (0, 0) _ rfl (setRow_blk HG6.out _) Tryz.underlying36 rfl HI.out) rfl ?_
      exact ⟨⟨_, _, rfl⟩, HB6.out.trans (grown_below (setRow_gby _ _ _) HB6.out.size (fun k hk => by injection hk with hk; omega))⟩
theorem Blk.fars {g b : Nat} {t : TypeId} {cs : Array Value} (hne : g ≠ b) : ∀ (vs : List Value) (w : World) (o : Nat), Blk w g t cs → Blk (w.setCells b o vs) g t cs
  | [], _, _, h => h
  | v :: vs, _, _, h => Blk.fars hne vs _ _ (h.far hne v)
theorem below_sets {B b : Nat} (hb : B ≤ b) : ∀ (vs : List Value) (a w : World) (o : Nat), Below B a w → Below B a (w.setCells b o vs)
  | [], _, _, _, h => h
  | v :: vs, a, _, o, h => below_sets hb vs a _ _ (below_set (o := o) h hb v)
theorem run_st36_mid (w : World) (b o : Nat) (cells : Array Value) (ht : w.there b o cells.size) (hs : cells.size = 5) (h1 : cells.all (·.oneCell') = true) : (st36 (.pointer (some ⟨b, o, none⟩)) (.agg cells)).run Tryz.prog w = .ok () (w.setCells b o cells.toList) :=
  run_storeAt_mid (P := Tryz.prog) w b o 36 cells ht (by rw [hs]; exact size36) h1
abbrev refZ : Array Value := #[.int .i64 0, .slice none 0 0, .slice none 0 0, .slice none 0 0, .slice none 0 0, .int .i64 0, .int .i64 0, .int .i64 0, .int .i64 0, .pointer none, .int .i64 0, .int .i64 0]
theorem size39 : (Tryz.prog.info? 39).map (·.size) = some 12 := by kernel_rfl
section
attribute [local go_sem ↓] st36_fold
set_option maxHeartbeats 8000000 in
theorem refTurned_any (z h s e M : Nat) (hh : h < 2 ^ 40) (hs : s < 2 ^ 40) (he : e < 1099511627776) (hr : needP s 0 ≤ h) (w : World) :
    Calls Tryz.prog 69 #[.agg (refC z none 0 h s e (.pointer (some ⟨M, 0, none⟩)))] w fun en w' => (∃ A c, en = .returned (.tuple #[.agg (refC z A c h s (e + 1 : Nat) (.pointer (some ⟨M, 0, none⟩))), .int .i64 0])) ∧ Below w.heap.size w w' := by
  have HX : Hid (Blk ((w.alloc (.cells (refC z none 0 h s e (.pointer (some ⟨M, 0, none⟩))) 39)).alloc (.cells refZ 39)) w.heap.size 39 (refC z none 0 h s e (.pointer (some ⟨M, 0, none⟩)))) := (Blk.new _ _ _).alloc _
  have HG : Hid (Blk ((w.alloc (.cells (refC z none 0 h s e (.pointer (some ⟨M, 0, none⟩))) 39)).alloc (.cells refZ 39)) (w.heap.size + 1) 39 refZ) := Blk.new_eq0 (by simp)
  have HB : Hid (Below w.heap.size w ((w.alloc (.cells (refC z none 0 h s e (.pointer (some ⟨M, 0, none⟩))) 39)).alloc (.cells refZ 39))) := ((Below.refl _ _).alloc (Nat.le_refl _) _).alloc (by simp) _
  have HRC := Lib.hid (fun wy => refRecords_any z none 0 h s e M wy)
  have HTU := Lib.hid (fun wy => refTurnLog_any none 0 h s e hh hs (by omega) hr wy)
  go_enter Tryz.func69, Tryz.ntmps69
  go_upto_region 1 with fail
  generalize (w.alloc (.cells (refC z none 0 h s e (.pointer (some ⟨M, 0, none⟩))) 39)).alloc (.cells refZ 39) = w1 at *
  have hw1 := HB.out.size
  have SK := Lib.hid (show ∀ wy, Below w1.heap.size w1 wy → wy.cell? ⟨w.heap.size, 0, none⟩ = some (.int .i64 z) ∧ wy.cell? ⟨w.heap.size, 1, none⟩ = some (.slice none 0 0) ∧ wy.cell? ⟨w.heap.size, 2, none⟩ = some (.slice none 0 0) ∧ wy.cell? ⟨w.heap.size, 3, none⟩ = some (.slice none 0 0) ∧ wy.cell? ⟨w.heap.size, 4, none⟩ = some (.slice none 0 0) ∧ wy.cell? ⟨w.heap.size, 5, none⟩ = some (.int .i64 0) ∧ wy.cell? ⟨w.heap.size, 6, none⟩ = some (.int .i64 h) ∧ wy.cell? ⟨w.heap.size, 7, none⟩ = some (.int .i64 s) ∧ wy.cell? ⟨w.heap.size, 8, none⟩ = some (.int .i64 e) ∧ wy.cell? ⟨w.heap.size, 9, none⟩ = some (.pointer (some ⟨M, 0, none⟩)) ∧ wy.cell? ⟨w.heap.size, 10, none⟩ = some (.int .i64 0) ∧ wy.cell? ⟨w.heap.size, 11, none⟩ = some (.int .i64 0) from fun wy hy => by
    have hx := HX.out.below hy HX.out.lt
    exact ⟨hx.cell 0, hx.cell 1, hx.cell 2, hx.cell 3, hx.cell 4, hx.cell 5, hx.cell 6, hx.cell 7, hx.cell 8, hx.cell 9, hx.cell 10, hx.cell 11⟩)
  have S0 := Lib.hid (SK.out _ (Below.refl _ _).drew)
  have BZ : Hid (Below w1.heap.size w1 (w1.alloc (.cells (logC none 0 0 0 0) 36)).drew) := ((Below.refl _ _).alloc (Nat.le_refl _) _).drew
  have HZ := Lib.hid ((Blk.new w1 36 (logC none 0 0 0 0)).drew)
  have hZs : w1.heap.size ≤ (w1.alloc (.cells (logC none 0 0 0 0) 36)).drew.heap.size := BZ.out.size
  go_cut [4, 5] (fun v4 v5 wx => ∃ A c g, v4 = .pointer (some ⟨g, 0, none⟩) ∧ v5 = .int .i64 0 ∧ w1.heap.size ≤ g ∧ Below w1.heap.size w1 wx ∧ Blk wx g 36 (logC A c h s (e + 1)))
  case first =>
    go_region_held3 (fun wy => wy.cell? ⟨w.heap.size, 0, none⟩ = some (.int .i64 z) ∧ wy.cell? ⟨w.heap.size, 1, none⟩ = some (.slice none 0 0) ∧ wy.cell? ⟨w.heap.size, 2, none⟩ = some (.slice none 0 0) ∧ wy.cell? ⟨w.heap.size, 3, none⟩ = some (.slice none 0 0) ∧ wy.cell? ⟨w.heap.size, 4, none⟩ = some (.slice none 0 0) ∧ wy.cell? ⟨w.heap.size, 5, none⟩ = some (.int .i64 0) ∧ wy.cell? ⟨w.heap.size, 6, none⟩ = some (.int .i64 h) ∧ wy.cell? ⟨w.heap.size, 7, none⟩ = some (.int .i64 s) ∧ wy.cell? ⟨w.heap.size, 8, none⟩ = some (.int .i64 e) ∧ wy.cell? ⟨w.heap.size, 9, none⟩ = some (.pointer (some ⟨M, 0, none⟩)) ∧ wy.cell? ⟨w.heap.size, 10, none⟩ = some (.int .i64 0) ∧ wy.cell? ⟨w.heap.size, 11, none⟩ = some (.int .i64 0))
      (first | exact S0.out | exact S5.out | exact SK.out _ HBW.out | exact SK.out _ HB4.out | exact SK.out _ BZ3.out | exact SK.out _ HB3.out | exact SK.out _ BZ.out | exact SK.out _ ((Below.refl _ _).drew.alloc (Nat.le_refl _) _))
      (first
        | (go_at_call 128; refine (HRC.out _).mono ?_; rintro en w3 ⟨rfl, hb⟩; (have HB3 : Hid (Below w1.heap.size w1 w3) := BZ.out.trans (hb.mono hZs)); (have HZ3 := Lib.hid (HZ.out.below hb HZ.out.lt)); clear hb)
        | (go_at_call 128; refine (HRC.out _).mono ?_; rintro en w3 ⟨rfl, hb⟩; (have HB3 : Hid (Below w1.heap.size w1 w3) := (Below.refl _ _).drew.trans hb); (have hs3 := HB3.out.size); (have BZ3 : Hid (Below w1.heap.size w1 (w3.alloc (.cells (logC none 0 0 0 0) 36))) := HB3.out.alloc HB3.out.size _); (have HZ3' : Hid (Blk (w3.alloc (.cells (logC none 0 0 0 0) 36)) w3.heap.size 36 (logC none 0 0 0 0)) := Blk.new _ _ _); clear hb)
        | (go_at_call 127; refine (HTU.out _).mono ?_; rintro en w4 ⟨⟨A4, c4, rfl⟩, hb⟩; (have HBW : Hid (Below w1.heap.size w1 w4) := HB3.out.trans (hb.mono HB3.out.size)); (have HZ4 := Lib.hid (HZ3.out.below hb HZ3.out.lt)); (have zs := run_st36 (v := logC A4 c4 h s (e + 1)) HZ4.out rfl rfl (by simp [Value.oneCell'])); (have HE5 : Hid (Below w1.heap.size w1 (w4.setRow w1.heap.size (logC A4 c4 h s (e + 1))) ∧ Blk (w4.setRow w1.heap.size (logC A4 c4 h s (e + 1))) w1.heap.size 36 (logC A4 c4 h s (e + 1)) ∧ w1.heap.size ≤ w1.heap.size) := ⟨HBW.out.trans (grown_below (setRow_gby _ _ _) HBW.out.size (fun k hk => by injection hk with hk; omega)), setRow_blk HZ4.out _, by omega⟩); (have S5 := Lib.hid (SK.out _ HE5.out.1)); clear hb)
        | (go_at_call 127; refine (HTU.out _).mono ?_; rintro en w4 ⟨⟨A4, c4, rfl⟩, hb⟩; (have HBW : Hid (Below w1.heap.size w1 w4) := BZ3.out.trans (hb.mono BZ3.out.size)); (have HZ4 := Lib.hid (HZ3'.out.below hb HZ3'.out.lt)); (have zs := run_st36 (v := logC A4 c4 h s (e + 1)) HZ4.out rfl rfl (by simp [Value.oneCell'])); (have HE5 : Hid (Below w1.heap.size w1 (w4.setRow w3.heap.size (logC A4 c4 h s (e + 1))) ∧ Blk (w4.setRow w3.heap.size (logC A4 c4 h s (e + 1))) w3.heap.size 36 (logC A4 c4 h s (e + 1)) ∧ w1.heap.size ≤ w3.heap.size) := ⟨HBW.out.trans (grown_below (setRow_gby _ _ _) HBW.out.size (fun k hk => by injection hk with hk; omega)), setRow_blk HZ4.out _, by omega⟩); (have S5 := Lib.hid (SK.out _ HE5.out.1)); clear hb)
        | (go_at_call 127; refine (HTU.out _).mono ?_; rintro en w4 ⟨⟨A4, c4, rfl⟩, hb⟩; (have HB4 : Hid (Below w1.heap.size w1 w4) := HB3.out.trans (hb.mono HB3.out.size)); (have hs4 := HB4.out.size); (have HBW : Hid (Below w1.heap.size w1 (w4.alloc (.cells (logC none 0 0 0 0) 36))) := HB4.out.alloc hs4 _); (have HZ4 : Hid (Blk (w4.alloc (.cells (logC none 0 0 0 0) 36)) w4.heap.size 36 (logC none 0 0 0 0)) := Blk.new _ _ _); (have zs := run_st36 (v := logC A4 c4 h s (e + 1)) HZ4.out rfl rfl (by simp [Value.oneCell'])); (have HE5 : Hid (Below w1.heap.size w1 ((w4.alloc (.cells (logC none 0 0 0 0) 36)).setRow w4.heap.size (logC A4 c4 h s (e + 1))) ∧ Blk ((w4.alloc (.cells (logC none 0 0 0 0) 36)).setRow w4.heap.size (logC A4 c4 h s (e + 1))) w4.heap.size 36 (logC A4 c4 h s (e + 1)) ∧ w1.heap.size ≤ w4.heap.size) := ⟨HBW.out.trans (grown_below (setRow_gby _ _ _) HBW.out.size (fun k hk => by injection hk with hk; omega)), setRow_blk HZ4.out _, by omega⟩); (have S5 := Lib.hid (SK.out _ HE5.out.1)); clear hb))
    all_goals
      go_wp2_with fail
      go_meet
      exact ⟨A4, c4, _, rfl, rfl, HE5.out.2.2, HE5.out.1, HE5.out.2.1⟩
  case rest =>
    obtain ⟨A4, c4, g, rfl, rfl, hgl, hb5, hx5⟩ := hcut
    have HXC := Lib.hid (HX.out.below hb5 HX.out.lt)
    have HGC := Lib.hid (HG.out.below hb5 HG.out.lt)
    have HBC := Lib.hid (HB.out.trans (hb5.mono hw1))
    have hne : w.heap.size + 1 ≠ w.heap.size := by omega
    have hc := hx5
    have x0 : wc.cell? ⟨g, 0, none⟩ = some (.slice A4 0 c4) := hx5.cell 0
    have x1 : wc.cell? ⟨g, 1, none⟩ = some (.int .i64 0) := hx5.cell 1
    have x2 : wc.cell? ⟨g, 2, none⟩ = some (.int .i64 h) := hx5.cell 2
    have x3 : wc.cell? ⟨g, 3, none⟩ = some (.int .i64 s) := hx5.cell 3
    have x4 : wc.cell? ⟨g, 4, none⟩ = some (.int .i64 (e + 1)) := hx5.cell 4
    have xl := hx5.lt
    have zs := run_st36_mid wc w.heap.size 4 #[.slice A4 0 c4, .int .i64 0, .int .i64 h, .int .i64 s, .int .i64 (e + 1)] (HXC.out.there 4 5 (by simp)) rfl (by simp [Value.oneCell'])
    have HX6 : Hid (Blk (wc.setCells w.heap.size 4 [.slice A4 0 c4, .int .i64 0, .int .i64 h, .int .i64 s, .int .i64 (e + 1)]) w.heap.size 39 (refC z A4 c4 h s (e + 1) (.pointer (some ⟨M, 0, none⟩)))) := by
      have := HXC.out.sets [.slice A4 0 c4, .int .i64 0, .int .i64 h, .int .i64 s, .int .i64 (e + 1)] 4
      show Blk _ _ _ _
      simpa [setA] using this
    have HG6 := Lib.hid (Blk.fars hne [.slice A4 0 c4, .int .i64 0, .int .i64 h, .int .i64 s, .int .i64 (e + 1)] wc 4 HGC.out)
    have HB6 := Lib.hid (below_sets (Nat.le_refl _) [.slice A4 0 c4, .int .i64 0, .int .i64 h, .int .i64 s, .int .i64 (e + 1)] w wc 4 HBC.out)
    clear hb5 hx5 hc SK S0 BZ HZ hZs
    go_upto_region 5 with fail
    have HI : Hid ((Tryz.prog.info? 39).map (·.size) = some (refC z A4 c4 h s (e + 1) (.pointer (some ⟨M, 0, none⟩))).size) := size39
    have H1 : Hid ((refC z A4 c4 h s (e + 1) (.pointer (some ⟨M, 0, none⟩))).all (·.oneCell') = true) := Lib.hid (by simp [Value.oneCell'])
    clear zs x0 x1 x2 x3 x4 xl HXC HGC HBC
    generalize wc.setCells w.heap.size 4 [.slice A4 0 c4, .int .i64 0, .int .i64 h, .int .i64 s, .int .i64 (e + 1)] = w6 at *
    go_wp2_with (first
      | (refine wpList_load_row rfl 39 _ rfl w.heap.size rfl 39 (refC z A4 c4 h s (e + 1) (.pointer (some ⟨M, 0, none⟩))) (0, 0) _ HX6.out Tryz.underlying39 rfl HI.out ?_)
      | (refine wpList_store_row rfl 39 _ _ rfl (w.heap.size + 1) (refC z A4 c4 h s (e + 1) (.pointer (some ⟨M, 0, none⟩))) rfl rfl 39 refZ HG6.out HI.out rfl H1.out ?_))
    refine bodyPost_ret (v := .tuple #[.agg (refC z A4 c4 h s (e + 1) (.pointer (some ⟨M, 0, none⟩))), .int .i64 0]) (results_cell_tmp Tryz.results69 _ _ (w.heap.size + 1) 39 _ (0, 0) _ rfl (setRow_blk HG6.out _) Tryz.underlying39 rfl HI.out) rfl ?_
    exact ⟨⟨_, _, rfl⟩, HB6.out.trans (grown_below (setRow_gby _ _ _) HB6.out.size (fun k hk => by injection hk with hk; omega))⟩
end
end Go.Proofs.YtmgmfnimaafkdaaGreatDoor
namespace Go.Proofs.YtmgmfnimaafkdaaGreatDoor
open Go.RowKit Go.Maps
set_option maxRecDepth 100000

theorem stands_iff {n k : Nat} (hk : k ≤ 4096) : standsB n k = true ↔ OkLog n k (n / 4) ∧ needP k 0 + needP k 201 ≤ n / 4 / 2 := by
  unfold standsB OkLog
  simp only [Bool.not_eq_true', Bool.or_eq_false_iff, decide_eq_false_iff_not, beq_eq_false_iff_ne]
  constructor
  · rintro ⟨⟨⟨h1, h2⟩, h3⟩, h4⟩
    obtain ⟨h5, _⟩ := needP_some h2
    omega
  · rintro ⟨⟨h1, h2, h3, h4⟩, h5⟩
    have : 1 ≤ needP k 201 := needP_pos (by omega) (by omega) (by omega)
    omega
def RefOpenOut (w w' : World) (n k : Nat) (e : Ending) : Prop := (∃ C : Array Value, C.size = 12 ∧ C.all (·.oneCell') = true ∧ e = .returned (.tuple #[.agg C, .int .i64 (if standsB n k then 0 else 1)])) ∧ Below w.heap.size w w'
set_option maxHeartbeats 8000000 in
theorem refOpen_any (n k : Nat) (hn : n ≤ 65536) (hk : k ≤ 4096) (w : World) :
    Calls Tryz.prog 17 #[.int .i64 n, .int .i64 k] w fun e w' => RefOpenOut w w' n k e := by
  have hst := stands_iff (n := n) hk
  obtain ⟨q, hq⟩ : ∃ q, q = n / 4 := ⟨_, rfl⟩
  have hqi : (n : Int) / 4 = (q : Int) := by omega
  have hqb : q ≤ 65536 := by omega
  have hqn : q ≤ n := by omega
  rw [← hq] at hst
  have HO := Lib.hid (fun wy => refOpenLog_any n k q (by omega) (by omega) (by omega) wy)
  obtain ⟨h, hh⟩ : ∃ h, h = q / 2 := ⟨_, rfl⟩
  rw [← hh] at HO hst
  have hhb : h ≤ 65536 := by omega
  have HL := Lib.hid (fun wy => refLeft_any none 0 h k 1 (by omega) (by omega) wy)
  have HN := Lib.hid (fun wy => refNeed_any k 201 (by omega) (by omega) wy)
  have hn0 := needP_small (s := k) (n := 0)
  have hn1 := needP_small (s := k) (n := 201)
  have HSZ : Hid ((Tryz.prog.info? 39).map (·.size) = some 12) := size39
  have HG : Hid (Blk (w.alloc (.cells refZ 39)) w.heap.size 39 refZ) := Blk.new _ _ _
  have HB : Hid (Below w.heap.size w (w.alloc (.cells refZ 39))) := (Below.refl _ _).alloc (Nat.le_refl _) _
  have H1Z : Hid (refZ.all (·.oneCell') = true) := Lib.hid (by simp [Value.oneCell'])
  by_cases hok : OkLog n k q
  · have HO1 := Lib.hid (show ∀ wy, Calls Tryz.prog 65 #[.int .i64 n, .int .i64 k, .int .i64 0, .int .i64 q] wy fun e w' => e = .returned (.tuple #[.agg (logC none 0 h k 1), .int .i64 0]) ∧ Below wy.heap.size wy w' from fun wy => (HO.out wy).mono fun e w' ⟨h1, h2⟩ => by
      rcases h1 with ⟨_, h1⟩ | ⟨h1, _⟩
      · exact ⟨h1, h2⟩
      · exact absurd hok h1)
    by_cases hlf : needP k 0 + needP k 201 ≤ h
    · have hs : standsB n k = true := hst.2 ⟨hok, hlf⟩
      have HT := Lib.hid (show ∀ wy M, Calls Tryz.prog 69 #[.agg (refC k none 0 h k (1 : Nat) (.pointer (some ⟨M, 0, none⟩)))] wy fun en w' => (∃ A c, en = .returned (.tuple #[.agg (refC k A c h k ((1 + 1 : Nat) : Int) (.pointer (some ⟨M, 0, none⟩))), .int .i64 0])) ∧ Below wy.heap.size wy w' from fun wy M => refTurned_any k h k 1 M (by omega) (by omega) (by omega) (by omega) wy)
      have HNM := Lib.hid (fun wy => refNewMap_any q (n - q) (by omega) (by omega) wy)
      obtain ⟨r, hr⟩ : ∃ r, r = n - q := ⟨_, rfl⟩
      have hri : (n : Int) - (q : Int) = (r : Int) := by omega
      rw [← hr] at HNM
      have hlf' : decide ((h : Int) - (needP k 0 : Nat) < (needP k 201 : Nat)) = false := decide_eq_false (by omega)
      generalize needP k 0 = N0 at *
      generalize needP k 201 = N1 at *
      have HPO := Lib.hid (show ∀ (C : Array Value) w', C.size = 12 → C.all (·.oneCell') = true → Below w.heap.size w w' → RefOpenOut w w' n k (.returned (.tuple #[.agg C, .int .i64 0])) from fun C w' h1 h2 h3 => ⟨⟨C, h1, h2, by rw [hs]; rfl⟩, h3⟩)
      clear hst hok hlf hr hq hh HO hs
      go_enter Tryz.func17, Tryz.ntmps17
      go_upto_region 1 with fail
      generalize w.alloc (.cells refZ 39) = w1 at *
      have hw1 := HB.out.size
      go_upto_region 2 with (go_at_call 65; refine (HO1.out _).mono ?_; rintro en w2 ⟨rfl, hb⟩; (have HB2 := Lib.hid (HB.out.trans (hb.mono hw1))); (have HG2 := Lib.hid (HG.out.below hb HG.out.lt)); clear hb)
      have HX3 := Lib.hid (Blk.new w2 36 (logC none 0 h k 1))
      have HB3 := Lib.hid (HB2.out.alloc HB2.out.size (.cells (logC none 0 h k 1) 36))
      have HG3 := Lib.hid (HG2.out.alloc (.cells (logC none 0 h k 1) 36))
      clear HG HB
      generalize w2.alloc (.cells (logC none 0 h k 1) 36) = w3 at *
      obtain ⟨g, hg⟩ : ∃ g, g = w2.heap.size := ⟨_, rfl⟩
      rw [← hg] at HX3 ⊢
      have hgl : w.heap.size ≤ g := by rw [hg]; exact HB2.out.size
      clear hg
      have hw3 := HB3.out.size
      have x0 : w3.cell? ⟨g, 0, none⟩ = some (.slice none 0 0) := HX3.out.cell 0
      have x1 : w3.cell? ⟨g, 1, none⟩ = some (.int .i64 0) := HX3.out.cell 1
      have x2 : w3.cell? ⟨g, 2, none⟩ = some (.int .i64 h) := HX3.out.cell 2
      have x3 : w3.cell? ⟨g, 3, none⟩ = some (.int .i64 k) := HX3.out.cell 3
      have x4 : w3.cell? ⟨g, 4, none⟩ = some (.int .i64 1) := HX3.out.cell 4
      have xl := HX3.out.lt
      go_upto_region 5 with (first
        | (go_at_call 66; refine (HL.out _).mono ?_; rintro en w4 ⟨rfl, hb⟩; (have HB4 := Lib.hid (HB3.out.trans (hb.mono hw3))); (have HG4 := Lib.hid (HG3.out.below hb HG3.out.lt)); (have HX4 := Lib.hid (HX3.out.below hb HX3.out.lt)); clear hb)
        | (go_at_call 67; refine (HN.out _).mono ?_; rintro en w' ⟨rfl, rfl⟩)
        | (go_at_call 68; refine (HNM.out _).mono ?_; rintro en w5 ⟨⟨M, AM, cM, rfl, _, _, _⟩, hb⟩; (have HB5 := Lib.hid (HB4.out.trans (hb.mono HB4.out.size))); (have HG5 := Lib.hid (HG4.out.below hb HG4.out.lt)); (have HX5 := Lib.hid (HX4.out.below hb HX4.out.lt)); clear hb))
      clear x0 x1 x2 x3 x4 xl
      have y0 : w5.cell? ⟨g, 0, none⟩ = some (.slice none 0 0) := HX5.out.cell 0
      have y1 : w5.cell? ⟨g, 1, none⟩ = some (.int .i64 0) := HX5.out.cell 1
      have y2 : w5.cell? ⟨g, 2, none⟩ = some (.int .i64 h) := HX5.out.cell 2
      have y3 : w5.cell? ⟨g, 3, none⟩ = some (.int .i64 k) := HX5.out.cell 3
      have y4 : w5.cell? ⟨g, 4, none⟩ = some (.int .i64 1) := HX5.out.cell 4
      have yl := HX5.out.lt
      go_upto_region 6 with fail
      have HX6 : Hid (Blk (w5.alloc (.cells (refC k none 0 h k (1 : Nat) (.pointer (some ⟨M, 0, none⟩))) 39)) w5.heap.size 39 (refC k none 0 h k (1 : Nat) (.pointer (some ⟨M, 0, none⟩)))) := Blk.new _ _ _
      have HG6 : Hid (Blk (w5.alloc (.cells (refC k none 0 h k (1 : Nat) (.pointer (some ⟨M, 0, none⟩))) 39)) w.heap.size 39 refZ) := HG5.out.alloc _
      have HB6 : Hid (Below w.heap.size w (w5.alloc (.cells (refC k none 0 h k (1 : Nat) (.pointer (some ⟨M, 0, none⟩))) 39))) := HB5.out.alloc HB5.out.size _
      clear y0 y1 y2 y3 y4 yl HX5 HG5
      have hwv : (w5.alloc (.cells #[.int .i64 k, .slice none 0 0, .slice none 0 0, .slice none 0 0, .slice none 0 0, .int .i64 0, .int .i64 h, .int .i64 k, .int .i64 1, .pointer (some ⟨M, 0, none⟩), .int .i64 0, .int .i64 0] 39)) = w5.alloc (.cells (refC k none 0 h k (1 : Nat) (.pointer (some ⟨M, 0, none⟩))) 39) := rfl
      rw [hwv]
      clear hwv
      generalize w5.alloc (.cells (refC k none 0 h k (1 : Nat) (.pointer (some ⟨M, 0, none⟩))) 39) = w6 at *
      have HT6 := Lib.hid (HT.out w6 M)
      have hw6 := HB6.out.size
      go_wp2_with (first
        | (refine wpList_load_row rfl 39 _ rfl w5.heap.size rfl 39 (refC k none 0 h k (1 : Nat) (.pointer (some ⟨M, 0, none⟩))) (0, 0) _ HX6.out Tryz.underlying39 rfl HSZ.out ?_)
        | (go_at_call 69; refine HT6.out.mono ?_; rintro en w7 ⟨⟨A7, c7, rfl⟩, hb⟩; (have HB7 := Lib.hid (HB6.out.trans (hb.mono hw6))); (have HG7 := Lib.hid (HG6.out.below hb HG6.out.lt)); (have H1 : Hid ((refC k A7 c7 h k ((1 + 1 : Nat) : Int) (.pointer (some ⟨M, 0, none⟩))).all (·.oneCell') = true) := Lib.hid (by simp [Value.oneCell'])); clear hb)
        | (refine wpList_store_row rfl 39 _ _ rfl w.heap.size (refC k A7 c7 h k ((1 + 1 : Nat) : Int) (.pointer (some ⟨M, 0, none⟩))) rfl rfl 39 refZ HG7.out HSZ.out rfl H1.out ?_))
      refine bodyPost_ret (v := .tuple #[.agg (refC k A7 c7 h k ((1 + 1 : Nat) : Int) (.pointer (some ⟨M, 0, none⟩))), .int .i64 0]) (results_cell_tmp Tryz.results17 _ _ w.heap.size 39 _ (0, 0) _ rfl (setRow_blk HG7.out _) Tryz.underlying39 rfl HSZ.out) rfl ?_
      exact HPO.out _ _ rfl H1.out (HB7.out.trans (grown_below (setRow_gby _ _ _) HB7.out.size (fun k hk => by injection hk with hk; omega)))
    · have hs : standsB n k = false := by
        cases hb : standsB n k with
        | false => rfl
        | true => exact absurd (hst.1 hb).2 hlf
      have hlf' : decide ((h : Int) - (needP k 0 : Nat) < (needP k 201 : Nat)) = true := decide_eq_true (by omega)
      generalize needP k 0 = N0 at *
      generalize needP k 201 = N1 at *
      have HPO := Lib.hid (show ∀ (C : Array Value) w', C.size = 12 → C.all (·.oneCell') = true → Below w.heap.size w w' → RefOpenOut w w' n k (.returned (.tuple #[.agg C, .int .i64 1])) from fun C w' h1 h2 h3 => ⟨⟨C, h1, h2, by rw [hs]; rfl⟩, h3⟩)
      clear hst hok hlf hq hh HO hs
      go_enter Tryz.func17, Tryz.ntmps17
      go_upto_region 1 with fail
      generalize w.alloc (.cells refZ 39) = w1 at *
      have hw1 := HB.out.size
      go_upto_region 2 with (go_at_call 65; refine (HO1.out _).mono ?_; rintro en w2 ⟨rfl, hb⟩; (have HB2 := Lib.hid (HB.out.trans (hb.mono hw1))); (have HG2 := Lib.hid (HG.out.below hb HG.out.lt)); clear hb)
      have HX3 := Lib.hid (Blk.new w2 36 (logC none 0 h k 1))
      have HB3 := Lib.hid (HB2.out.alloc HB2.out.size (.cells (logC none 0 h k 1) 36))
      have HG3 := Lib.hid (HG2.out.alloc (.cells (logC none 0 h k 1) 36))
      clear HG HB
      generalize w2.alloc (.cells (logC none 0 h k 1) 36) = w3 at *
      obtain ⟨g, hg⟩ : ∃ g, g = w2.heap.size := ⟨_, rfl⟩
      rw [← hg] at HX3 ⊢
      clear hg
      have hw3 := HB3.out.size
      have x0 : w3.cell? ⟨g, 0, none⟩ = some (.slice none 0 0) := HX3.out.cell 0
      have x1 : w3.cell? ⟨g, 1, none⟩ = some (.int .i64 0) := HX3.out.cell 1
      have x2 : w3.cell? ⟨g, 2, none⟩ = some (.int .i64 h) := HX3.out.cell 2
      have x3 : w3.cell? ⟨g, 3, none⟩ = some (.int .i64 k) := HX3.out.cell 3
      have x4 : w3.cell? ⟨g, 4, none⟩ = some (.int .i64 1) := HX3.out.cell 4
      have xl := HX3.out.lt
      go_wp2_with (first
        | (go_at_call 66; refine (HL.out _).mono ?_; rintro en w4 ⟨rfl, hb⟩; (have HB4 := Lib.hid (HB3.out.trans (hb.mono hw3))); (have HG4 := Lib.hid (HG3.out.below hb HG3.out.lt)); clear hb)
        | (go_at_call 67; refine (HN.out _).mono ?_; rintro en w' ⟨rfl, rfl⟩)
        | (refine wpList_store_row rfl 39 _ _ rfl w.heap.size refZ rfl rfl 39 refZ HG4.out HSZ.out rfl H1Z.out ?_))
      refine bodyPost_ret (v := .tuple #[.agg refZ, .int .i64 1]) (results_cell_tmp Tryz.results17 _ _ w.heap.size 39 _ (0, 0) _ rfl (setRow_blk HG4.out _) Tryz.underlying39 rfl HSZ.out) rfl ?_
      exact HPO.out _ _ rfl H1Z.out (HB4.out.trans (grown_below (setRow_gby _ _ _) HB4.out.size (fun k hk => by injection hk with hk; omega)))
  · have HO1 := Lib.hid (show ∀ wy, Calls Tryz.prog 65 #[.int .i64 n, .int .i64 k, .int .i64 0, .int .i64 q] wy fun e w' => e = .returned (.tuple #[.agg (logC none 0 0 0 0), .int .i64 1]) ∧ Below wy.heap.size wy w' from fun wy => (HO.out wy).mono fun e w' ⟨h1, h2⟩ => by
      rcases h1 with ⟨h1, _⟩ | ⟨_, h1⟩
      · exact absurd h1 hok
      · exact ⟨h1, h2⟩)
    have hs : standsB n k = false := by
      cases hb : standsB n k with
      | false => rfl
      | true => exact absurd (hst.1 hb).1 hok
    have HPO := Lib.hid (show ∀ (C : Array Value) w', C.size = 12 → C.all (·.oneCell') = true → Below w.heap.size w w' → RefOpenOut w w' n k (.returned (.tuple #[.agg C, .int .i64 1])) from fun C w' h1 h2 h3 => ⟨⟨C, h1, h2, by rw [hs]; rfl⟩, h3⟩)
    clear hst hok hq hh HO hs HL HN hn0 hn1
    go_enter Tryz.func17, Tryz.ntmps17
    go_upto_region 1 with fail
    generalize w.alloc (.cells refZ 39) = w1 at *
    have hw1 := HB.out.size
    go_upto_region 2 with (go_at_call 65; refine (HO1.out _).mono ?_; rintro en w2 ⟨rfl, hb⟩; (have HB2 := Lib.hid (HB.out.trans (hb.mono hw1))); (have HG2 := Lib.hid (HG.out.below hb HG.out.lt)); clear hb)
    have HB3 := Lib.hid (HB2.out.alloc HB2.out.size (.cells (logC none 0 0 0 0) 36))
    have HG3 := Lib.hid (HG2.out.alloc (.cells (logC none 0 0 0 0) 36))
    clear HG HB
    generalize w2.alloc (.cells (logC none 0 0 0 0) 36) = w3 at *
    go_wp2_with (refine wpList_store_row rfl 39 _ _ rfl w.heap.size refZ rfl rfl 39 refZ HG3.out HSZ.out rfl H1Z.out ?_)
    refine bodyPost_ret (v := .tuple #[.agg refZ, .int .i64 1]) (results_cell_tmp Tryz.results17 _ _ w.heap.size 39 _ (0, 0) _ rfl (setRow_blk HG3.out _) Tryz.underlying39 rfl HSZ.out) rfl ?_
    exact HPO.out _ _ rfl H1Z.out (HB3.out.trans (grown_below (setRow_gby _ _ _) HB3.out.size (fun k hk => by injection hk with hk; omega)))
end Go.Proofs.YtmgmfnimaafkdaaGreatDoor
