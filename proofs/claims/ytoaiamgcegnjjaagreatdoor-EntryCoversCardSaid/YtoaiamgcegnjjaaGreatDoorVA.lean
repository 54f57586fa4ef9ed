/- Small functions of layers 33, 34, 42: purge.key, right, copied; the reference's in, stale, State, Age. No condition but the bounds that each names. -/
import Derived.Test.YtoaiamgcegnjjaaGreatDoorUA
import Derived.Test.YtoaiamgcegnjjaaGreatDoorMG
import Derived.Lib.QuietBelow
namespace Go.Proofs.YtoaiamgcegnjjaaGreatDoor
open Go.RowKit Go.Maps Go.WideMaps Go.Sort
set_option maxRecDepth 100000

theorem rage_any (said now : Int) (w : World) : Calls Tryz.prog 78 #[.int .i64 said, .int .i64 now] w fun e w' => e = .returned (.int .i64 (ageOf said now)) ∧ w = w' := by
  have b1 := tickOf_bd now
  have b2 := tickOf_bd said
  go_enter Tryz.func78, Tryz.ntmps78
  go_wp2_with fail
  refine (rheld_any _ _).mono ?_
  rintro e w' ⟨rfl, rfl⟩
  go_wp2_with fail
  refine (rheld_any _ _).mono ?_
  rintro e w' ⟨rfl, rfl⟩
  go_wp2
  all_goals (go_ret; exact ⟨ret_int (by unfold ageOf; omega), rfl⟩)

def staleR (fr wh er old : Int) : Int := if 0 < wh ∧ old < fr + wh then 2 else if 0 < er ∧ old < fr + er then 3 else 4
theorem rstale_any (t : ByteArray) (wk : Bool) (mo le ha fr wh er : Int) (A : Option Addr) (n c : Nat) (ten : ByteArray) (kp : Bool) (old : Int) (w : World) (hf : 0 ≤ fr ∧ fr ≤ 1099511627776) (hw : 0 ≤ wh ∧ wh ≤ 1099511627776) (he : 0 ≤ er ∧ er ≤ 1099511627776) :
    Calls Tryz.prog 77 #[.agg (metaC t wk mo le ha fr wh er A n c ten kp), .int .i64 old] w fun e w' => e = .returned (.int .i64 (staleR fr wh er old)) ∧ Below w.heap.size w w' := by
  have hb0 : Below w.heap.size w (w.alloc (.cells (metaC t wk mo le ha fr wh er A n c ten kp) 39)) := (Below.refl _ _).alloc (Nat.le_refl _) _
  have HB := Lib.hid hb0
  have k0 : Blk (w.alloc (.cells (metaC t wk mo le ha fr wh er A n c ten kp) 39)) w.heap.size 39 (metaC t wk mo le ha fr wh er A n c ten kp) := Blk.new _ _ _
  have c5 : (w.alloc (.cells (metaC t wk mo le ha fr wh er A n c ten kp) 39)).cell? ⟨w.heap.size, 5, none⟩ = some (.int .i64 fr) := (k0.cell 5).trans rfl
  have c6 : (w.alloc (.cells (metaC t wk mo le ha fr wh er A n c ten kp) 39)).cell? ⟨w.heap.size, 6, none⟩ = some (.int .i64 wh) := (k0.cell 6).trans rfl
  have c7 : (w.alloc (.cells (metaC t wk mo le ha fr wh er A n c ten kp) 39)).cell? ⟨w.heap.size, 7, none⟩ = some (.int .i64 er) := (k0.cell 7).trans rfl
  clear hb0 k0
  go_enter Tryz.func77, Tryz.ntmps77
  go_upto_region 1 with fail
  generalize w.alloc (.cells (metaC t wk mo le ha fr wh er A n c ten kp) 39) = w1 at *
  go_wp2_with fail
  all_goals
    go_ret
    refine ⟨ret_int ?_, HB.out⟩
    unfold staleR
    (repeat' split) <;> omega

set_option maxHeartbeats 1000000 in
theorem rstate_any (t : ByteArray) (wk : Bool) (mo le ha fr wh er : Int) (A : Option Addr) (n c : Nat) (ten : ByteArray) (kp : Bool) (said now : Int) (w : World) :
    Calls Tryz.prog 76 #[.agg (metaC t wk mo le ha fr wh er A n c ten kp), .int .i64 said, .int .i64 now] w fun e w' => e = .returned (.int .i64 (stateOf fr wh er said now)) ∧ Below w.heap.size w w' := by
  have hb0 : Below w.heap.size w (w.alloc (.cells (metaC t wk mo le ha fr wh er A n c ten kp) 39)) := (Below.refl _ _).alloc (Nat.le_refl _) _
  have HB := Lib.hid hb0
  have k0 : Blk (w.alloc (.cells (metaC t wk mo le ha fr wh er A n c ten kp) 39)) w.heap.size 39 (metaC t wk mo le ha fr wh er A n c ten kp) := Blk.new _ _ _
  have b0 := ageOf_bd said now
  have b1 := tickOf_bd fr
  have b2 := tickOf_bd wh
  have b3 := tickOf_bd er
  have E1 : Hid (ageOf said now < tickOf fr → stateOf fr wh er said now = 1) := fun h => by unfold stateOf; rw [if_pos h]
  have E2 : Hid (¬ ageOf said now < tickOf fr → ageOf said now < tickOf fr + tickOf wh → stateOf fr wh er said now = 2) := fun h h2 => by unfold stateOf; rw [if_neg h, if_pos h2]
  have E3 : Hid (¬ ageOf said now < tickOf fr → ¬ ageOf said now < tickOf fr + tickOf wh → ageOf said now < tickOf fr + tickOf er → stateOf fr wh er said now = 3) := fun h h2 h3 => by unfold stateOf; rw [if_neg h, if_neg h2, if_pos h3]
  have E4 : Hid (¬ ageOf said now < tickOf fr → ¬ ageOf said now < tickOf fr + tickOf wh → ¬ ageOf said now < tickOf fr + tickOf er → stateOf fr wh er said now = 4) := fun h h2 h3 => by unfold stateOf; rw [if_neg h, if_neg h2, if_neg h3]
  clear hb0
  go_enter Tryz.func76, Tryz.ntmps76
  go_upto_region 1 with fail
  generalize w.alloc (.cells (metaC t wk mo le ha fr wh er A n c ten kp) 39) = w1 at *
  have c5 : w1.cell? ⟨w.heap.size, 5, none⟩ = some (.int .i64 fr) := (k0.cell 5).trans rfl
  have HK := Lib.hid k0
  clear k0
  go_wp2_with fail
  refine (rage_any _ _ _).mono ?_
  rintro e w' ⟨rfl, rfl⟩
  go_wp2_with fail
  refine (rheld_any _ _).mono ?_
  rintro e w' ⟨rfl, rfl⟩
  by_cases h1 : ageOf said now < tickOf fr
  · go_wp2_with fail
    go_ret
    exact ⟨ret_int (E1.out h1).symm, HB.out⟩
  go_upto_region 4 with fail
  have c133 : ∀ n d os, Calls Tryz.prog 133 #[.int .i64 n] (grow (redrawn w1 d) os) fun en w'' => en = .returned (.int .i64 (tickOf n)) ∧ ∃ p : Regrown, w'' = grow (redrawn w1 p.d) p.os := fun n d os => Calls.regrown_of ((rheld_any n _).mono fun e w' ⟨h, hw⟩ => ⟨h, by subst hw; exact Below.refl _ _⟩)
  go_cut [24] (fun a wy => a = .bool (decide (ageOf said now < tickOf fr + tickOf wh)) ∧ Below w1.heap.size w1 wy)
  case first =>
    have r5 := cell_regrown c5
    have r6 := cell_regrown (show w1.cell? ⟨w.heap.size, 6, none⟩ = some (.int .i64 wh) from (HK.out.cell 6).trans rfl)
    refine wp_region_quiet_below (by kernel_rfl) (by kernel_rfl) ?_
    repeat (go_big_quiet_step (exact c133 _ _ _))
    refine wpQuiet_nil ?_
    intro _ hw'
    obtain ⟨⟨dq, osq⟩, hw''⟩ := hw'
    subst hw''
    go_wp2_with fail
    all_goals
      go_meet
      exact ⟨by first | rfl | simp; omega, below_regrown w1 dq osq⟩
  case rest =>
    obtain ⟨rfl, hbx⟩ := hcut
    have HB2 := Lib.hid (HB.out.trans (hbx.mono HB.out.size))
    have HK2 := Lib.hid (HK.out.below hbx HK.out.lt)
    generalize wc = w2 at *
    clear hbx c133 c5
    by_cases h2 : ageOf said now < tickOf fr + tickOf wh
    · rw [decide_eq_true h2]
      go_wp2_with fail
      go_ret
      exact ⟨ret_int (E2.out h1 h2).symm, HB2.out⟩
    rw [decide_eq_false h2]
    go_upto_region 6 with fail
    have c133 : ∀ n d os, Calls Tryz.prog 133 #[.int .i64 n] (grow (redrawn w2 d) os) fun en w'' => en = .returned (.int .i64 (tickOf n)) ∧ ∃ p : Regrown, w'' = grow (redrawn w2 p.d) p.os := fun n d os => Calls.regrown_of ((rheld_any n _).mono fun e w' ⟨h, hw⟩ => ⟨h, by subst hw; exact Below.refl _ _⟩)
    have r5 := cell_regrown (show w2.cell? ⟨w.heap.size, 5, none⟩ = some (.int .i64 fr) from (HK2.out.cell 5).trans rfl)
    have r7 := cell_regrown (show w2.cell? ⟨w.heap.size, 7, none⟩ = some (.int .i64 er) from (HK2.out.cell 7).trans rfl)
    refine wp_region_quiet_below (by kernel_rfl) (by kernel_rfl) ?_
    repeat (go_big_quiet_step (exact c133 _ _ _))
    refine wpQuiet_nil ?_
    intro _ hw'
    obtain ⟨⟨dq, osq⟩, hw''⟩ := hw'
    subst hw''
    have HB3 := Lib.hid (HB2.out.trans ((below_regrown w2 dq osq).mono HB2.out.size))
    by_cases h3 : ageOf said now < tickOf fr + tickOf er
    · go_wp2_with fail
      go_ret
      exact ⟨ret_int (E3.out h1 h2 h3).symm, HB3.out⟩
    · go_wp2_with fail
      go_ret
      exact ⟨ret_int (E4.out h1 h2 h3).symm, HB3.out⟩

theorem pkey_any (s : ByteArray) (w : World) :
    Calls Tryz.prog 176 #[.string s] w fun e w' => e = .returned (.bool (keyOK s)) ∧ w = w' := by
  by_cases h1 : s.size < 1
  · go_enter Tryz.func176, Tryz.ntmps176
    go_wp2
    go_ret
    exact ⟨ret_bool (by simp [keyOK]; omega), rfl⟩
  by_cases h2 : 200 < s.size
  · go_enter Tryz.func176, Tryz.ntmps176
    go_wp2
    go_ret
    exact ⟨ret_bool (by simp [keyOK]; omega), rfl⟩
  go_enter Tryz.func176, Tryz.ntmps176
  go_wp2
  go_loop [14] (fun i => ∃ k : Nat, k ≤ s.size ∧ i = .int .i64 k ∧ upB seenB s k) (fun i => s.size - (intOf i).toNat)
  case atStart => exact ⟨0, Nat.zero_le _, rfl, upB_zero _ _⟩
  case round =>
    obtain ⟨k, hk, rfl, hall⟩ := hrel
    by_cases hlt : k < s.size
    · go_wp2
      case roundEnd =>
        refine ⟨⟨k + 1, by omega, by go_num, upB_succ hall hlt (seenB_t (by omega))⟩, by simp [intOf]; omega⟩
      all_goals
        go_ret
        refine ⟨ret_bool ?_, rfl⟩
        simp only [keyOK]
        rw [allB_false hlt (seenB_f (by omega))]; simp
    · go_wp2
      go_ret
      refine ⟨ret_bool ?_, rfl⟩
      simp only [keyOK]
      rw [upB_all hall hlt]; simp; omega

theorem rin42_any (A : Option Addr) (n c : Nat) (ks : List ByteArray) (s : ByteArray) (B : Nat) (w : World) (hr : Strs w B A n ks) (hn : n ≤ 9223372036854775807) :
    Calls Tryz.prog 71 #[.slice A n c, .string s] w fun e w' => e = .returned (.bool (inB ks s)) ∧ w = w' := by
  have hl := hr.len
  by_cases h0 : n = 0
  · subst h0
    have : ks = [] := List.eq_nil_of_length_eq_zero hl
    subst this
    clear hr hl
    go_enter Tryz.func71, Tryz.ntmps71
    go_wp2
    go_loop [5] (fun i => i = .int .i64 0) (fun _ => 0)
    case atStart => rfl
    case round =>
      subst hrel
      go_wp2
      go_ret
      exact ⟨rfl, rfl⟩
  obtain ⟨b, o, rfl, _, hc⟩ := hr.at_ (by omega)
  have HC := Lib.hid hc
  have HL := Lib.hid hl
  clear hc hr hl
  go_enter Tryz.func71, Tryz.ntmps71
  go_wp2
  go_loop [5] (fun i => ∃ k : Nat, k ≤ n ∧ i = .int .i64 k ∧ inB (ks.take k) s = false) (fun i => n - (intOf i).toNat)
  case atStart => exact ⟨0, Nat.zero_le _, rfl, rfl⟩
  case round =>
    obtain ⟨k, hk, rfl, hin⟩ := hrel
    have HI := Lib.hid hin
    clear hin
    by_cases hlt : k < n
    · have hk' : k < ks.length := by have := HL.out; omega
      have hcell := HC.out k hk'
      have hsn : ks.take (k + 1) = ks.take k ++ [ks[k]] := by rw [List.take_succ_eq_append_getElem hk']
      have HSN := Lib.hid hsn
      have HT : Hid (s = ks[k] → inB ks s = true) := fun he => inB_of_take hk' he
      clear hsn
      generalize ks[k] = x at *
      by_cases he : (x.toList == s.toList) = true
      · have hes : s = x := by rw [bytes_beq] at he; exact (of_decide_eq_true he).symm
        have HE := Lib.hid hes
        clear hes
        go_wp2
        go_ret
        exact ⟨ret_bool (HT.out HE.out).symm, rfl⟩
      · have he : (x.toList == s.toList) = false := by simpa using he
        have hes : decide (s = x) = false := by rw [bytes_beq] at he; exact decide_eq_false (fun h => of_decide_eq_false he h.symm)
        have HE := Lib.hid hes
        clear hes
        go_wp2
        refine ⟨⟨k + 1, by omega, by go_num, ?_⟩, by simp [intOf]; omega⟩
        rw [HSN.out, inB_snoc, HI.out, HE.out]
        rfl
    · go_wp2
      go_ret
      refine ⟨ret_bool ?_, rfl⟩
      have := HI.out
      rw [List.take_of_length_le (by have := HL.out; omega)] at this
      exact this.symm
end Go.Proofs.YtoaiamgcegnjjaaGreatDoor
