/- The reference's looks at tags, keys, tenants, Metas, objects, ticks and spans: each answers as the program's. No condition but on lengths. The reference's keys, Weak, Strong, Right, Joins and Follows of Metas. No condition but on lengths. -/
import Derived.Test.YtoaiamgcegnjjaaGreatDoorMF
namespace Go.Proofs.YtoaiamgcegnjjaaGreatDoor
open Go.RowKit Go.Maps Go.WideMaps Go.Sort
set_option maxRecDepth 100000

theorem quiet_left {P : Program} {f : FuncId} {args : Array Value} {w : World} {n : Nat} {v : Value}
    (h : Calls P f args (w.drewN n) fun e w' => e = .returned v ∧ w.drewN n = w') : Calls P f args (w.drewN n) fun e w'' => e = .returned v ∧ ∃ m, w'' = w.drewN m :=
  h.mono fun _ _ ⟨he, hm⟩ => ⟨he, n, hm.symm⟩

theorem rmost_any (w : World) : Calls Tryz.prog 182 #[] w fun e w' => e = .returned (.int .i64 1099511627776) ∧ w = w' := by
  go_enter Tryz.func182, Tryz.ntmps182
  go_wp2
  go_ret
  exact ⟨rfl, rfl⟩
theorem rheld_any (n : Int) (w : World) : Calls Tryz.prog 133 #[.int .i64 n] w fun e w' => e = .returned (.int .i64 (tickOf n)) ∧ w = w' := by
  go_enter Tryz.func133, Tryz.ntmps133
  go_wp2_with (go_at_call 182; refine (rmost_any _).mono ?_; rintro e w' ⟨rfl, rfl⟩)
  all_goals (go_ret; exact ⟨ret_int (by unfold tickOf; omega), rfl⟩)
theorem rsaid_any (now age : Int) (w : World) : Calls Tryz.prog 118 #[.int .i64 now, .int .i64 age] w fun e w' => e = .returned (.int .i64 (saidOf now age)) ∧ w = w' := by
  have b1 := tickOf_bd now
  have b2 := tickOf_bd age
  go_enter Tryz.func118, Tryz.ntmps118
  go_wp2_with fail
  refine (rheld_any _ _).mono ?_
  rintro e w' ⟨rfl, rfl⟩
  go_wp2_with fail
  refine (rheld_any _ _).mono ?_
  rintro e w' ⟨rfl, rfl⟩
  go_wp2
  all_goals (go_ret; exact ⟨ret_int (by unfold saidOf; omega), rfl⟩)
theorem rend_any (w : World) : Calls Tryz.prog 174 #[] w fun e w' => e = .returned (.int .i64 4611686018427387904) ∧ w = w' := by
  go_enter Tryz.func174, Tryz.ntmps174
  go_wp2
  go_ret
  exact ⟨rfl, rfl⟩
def spanOK (f t : Int) : Bool := decide (0 ≤ f) && decide (f ≤ t) && decide (t ≤ 4611686018427387904)
theorem rspan_any (f t : Int) (w : World) : Calls Tryz.prog 123 #[.agg #[.int .i64 f, .int .i64 t]] w fun e w' => e = .returned (.bool (spanOK f t)) ∧ Below w.heap.size w w' := by
  have hb0 : Below w.heap.size w (w.alloc (.cells #[.int .i64 f, .int .i64 t] 41)) := (Below.refl _ _).alloc (Nat.le_refl _) _
  have HB := Lib.hid hb0
  clear hb0
  by_cases h1 : 0 ≤ f
  · by_cases h2 : f ≤ t
    · have d1 : decide (0 ≤ f) = true := decide_eq_true h1
      have d2 : decide (f ≤ t) = true := decide_eq_true h2
      go_enter Tryz.func123, Tryz.ntmps123
      go_wp2_with fail
      go_quiet ((go_at_call 174; exact quiet_left (rend_any _)))
      go_wp2_with fail
      go_ret
      refine ⟨ret_bool ?_, below_drewN HB.out _⟩
      unfold spanOK; rw [Bool.eq_iff_iff]; simp; omega
    · have d1 : decide (0 ≤ f) = true := decide_eq_true h1
      have d2 : decide (f ≤ t) = false := decide_eq_false h2
      go_enter Tryz.func123, Tryz.ntmps123
      go_wp2_with fail
      go_quiet ((go_at_call 174; exact quiet_left (rend_any _)))
      go_wp2_with fail
      go_ret
      refine ⟨ret_bool ?_, below_drewN HB.out _⟩
      unfold spanOK; rw [Bool.eq_iff_iff]; simp; omega
  · have d1 : decide (0 ≤ f) = false := decide_eq_false h1
    go_enter Tryz.func123, Tryz.ntmps123
    go_wp2_with fail
    go_quiet ((go_at_call 174; exact quiet_left (rend_any _)))
    go_wp2_with fail
    go_ret
    refine ⟨ret_bool ?_, below_drewN HB.out _⟩
    unfold spanOK; rw [Bool.eq_iff_iff]; simp; omega
theorem span_any (f t : Int) (w : World) : Calls Tryz.prog 140 #[.agg #[.int .i64 f, .int .i64 t]] w fun e w' => e = .returned (.bool (spanOK f t)) ∧ Below w.heap.size w w' := by
  have hb0 : Below w.heap.size w (w.alloc (.cells #[.int .i64 f, .int .i64 t] 41)) := (Below.refl _ _).alloc (Nat.le_refl _) _
  have HB := Lib.hid hb0
  clear hb0
  go_enter Tryz.func140, Tryz.ntmps140
  go_wp2
  all_goals (go_ret; refine ⟨ret_bool ?_, HB.out⟩; unfold spanOK; rw [Bool.eq_iff_iff]; simp; omega)

theorem rtagRight_any (s : ByteArray) (wk : Bool) (w : World) :
    Calls Tryz.prog 150 #[.agg #[.string s, .bool wk]] w fun e w' => e = .returned (.bool (tagOK s)) ∧ Below w.heap.size w w' := by
  by_cases h1 : s.size < 1
  · go_enter Tryz.func150, Tryz.ntmps150
    go_wp2
    go_ret
    exact ⟨ret_bool (by simp [tagOK]; omega), (Below.refl _ _).alloc (Nat.le_refl _) _⟩
  by_cases h2 : 100 < s.size
  · go_enter Tryz.func150, Tryz.ntmps150
    go_wp2
    go_ret
    exact ⟨ret_bool (by simp [tagOK]; omega), (Below.refl _ _).alloc (Nat.le_refl _) _⟩
  go_enter Tryz.func150, Tryz.ntmps150
  go_wp2
  go_loop [3] (fun i => ∃ k : Nat, k ≤ s.size ∧ i = .int .i64 k ∧ upB tagB s k) (fun i => s.size - (intOf i).toNat)
  case atStart => exact ⟨0, Nat.zero_le _, rfl, upB_zero _ _⟩
  case round =>
    obtain ⟨k, hk, rfl, hall⟩ := hrel
    by_cases hlt : k < s.size
    · go_wp2
      case roundEnd =>
        refine ⟨⟨k + 1, by omega, by go_num, upB_succ hall hlt (tagB_t (by omega))⟩, by simp [intOf]; omega⟩
      all_goals
        go_ret
        refine ⟨ret_bool ?_, (Below.refl _ _).alloc (Nat.le_refl _) _⟩
        simp only [tagOK]
        (try simp only [beq_iff_eq] at *); rw [allB_false hlt (tagB_f (by omega))]; simp
    · go_wp2
      go_ret
      refine ⟨ret_bool ?_, (Below.refl _ _).alloc (Nat.le_refl _) _⟩
      simp only [tagOK]
      rw [upB_all hall hlt]; simp; omega

theorem rkey_any (s : ByteArray) (w : World) (hs : s.size ≤ 9223372036854775807) :
    Calls Tryz.prog 213 #[.string s] w fun e w' => e = .returned (.bool (keyOK s)) ∧ w = w' := by
  go_enter Tryz.func213, Tryz.ntmps213
  go_wp2
  go_loop [3] (fun i => ∃ k : Nat, k ≤ s.size ∧ i = .int .i64 k ∧ upB seenB s k) (fun i => s.size - (intOf i).toNat)
  case atStart => exact ⟨0, Nat.zero_le _, rfl, upB_zero _ _⟩
  case round =>
    obtain ⟨k, hk, rfl, hall⟩ := hrel
    by_cases hlt : k < s.size
    · go_wp2
      case roundEnd =>
        refine ⟨⟨k + 1, by omega, by go_num, upB_succ hall hlt (seenB_t (by omega))⟩, by simp [intOf]; omega⟩
      all_goals
        go_ret
        refine ⟨ret_bool ?_, rfl⟩
        simp only [keyOK]
        rw [allB_false hlt (seenB_f (by omega))]; simp
    · have HU := Lib.hid (upB_all hall hlt)
      go_wp2
      all_goals
        go_ret
        refine ⟨ret_bool ?_, rfl⟩
        simp only [keyOK, HU.out]
        rw [Bool.eq_iff_iff]; simp; omega

theorem preB_dash {s : ByteArray} (h : 0 < s.size) : preB s dash = (s[0].toNat == 45) := by
  unfold preB
  rw [decide_eq_true (show dash.size ≤ s.size from h), Bool.true_and]
  have e : s.extract 0 dash.size = ⟨#[s[0]]⟩ := by
    apply ByteArray.ext
    rw [ByteArray.data_extract]
    apply Array.ext
    · simp [dash]
      have : 0 < s.data.size := h
      show min 1 s.data.size = 1
      omega
    · intro i h1 h2
      have : i = 0 := by simp at h2; exact h2
      subst this
      simp
      rfl
  rw [e, Bool.eq_iff_iff]
  simp only [decide_eq_true_eq, beq_iff_eq]
  unfold dash
  constructor
  · intro h
    have : #[s[0]] = #[(45 : UInt8)] := by injection h
    have : s[0] = 45 := by simpa using this
    rw [this]; rfl
  · intro h
    have : s[0] = 45 := UInt8.toNat_inj.1 (by rw [h]; rfl)
    rw [this]
theorem ten_next {s : ByteArray} {k : Nat} (hlt : k < s.size) (h : upB tenB s k) (hn : 0 < k → preB s dash = false)
    (ht : (97 ≤ s[k].toNat ∧ s[k].toNat ≤ 122) ∨ (65 ≤ s[k].toNat ∧ s[k].toNat ≤ 90) ∨ (48 ≤ s[k].toNat ∧ s[k].toNat ≤ 57) ∨ s[k].toNat = 95 ∨ (s[k].toNat = 45 ∧ k ≠ 0)) : upB tenB s (k + 1) ∧ (0 < k + 1 → preB s dash = false) := by
  refine ⟨upB_succ h hlt (tenB_t (by omega)), fun _ => ?_⟩
  by_cases hk : k = 0
  · subst hk
    rw [preB_dash hlt]
    simp
    omega
  · exact hn (by omega)
theorem ten_stop {s : ByteArray} {k : Nat} (hlt : k < s.size)
    (ht : ¬ ((97 ≤ s[k].toNat ∧ s[k].toNat ≤ 122) ∨ (65 ≤ s[k].toNat ∧ s[k].toNat ≤ 90) ∨ (48 ≤ s[k].toNat ∧ s[k].toNat ≤ 57) ∨ s[k].toNat = 95 ∨ (s[k].toNat = 45 ∧ k ≠ 0))) : tenOK s = false := by
  unfold tenOK
  by_cases hk : s[k].toNat = 45
  · have : k = 0 := by omega
    subst this
    rw [preB_dash hlt, hk]
    simp
  · rw [allB_false hlt (tenB_f (by omega))]
    simp
theorem ten_end {s : ByteArray} {k : Nat} (hk : ¬ k < s.size) (h : upB tenB s k) (hn : 0 < k → preB s dash = false) : tenOK s = decide (s.size ≤ 40) := by
  unfold tenOK
  rw [upB_all h hk]
  by_cases h0 : 0 < k
  · rw [hn h0]; simp
  · have : s.size = 0 := by omega
    have : preB s dash = false := by
      unfold preB
      rw [decide_eq_false (by show ¬ 1 ≤ s.size; omega)]; rfl
    rw [this]; simp
set_option maxHeartbeats 400000 in
theorem rten_any (s : ByteArray) (w : World) (hs : s.size ≤ 9223372036854775807) :
    Calls Tryz.prog 172 #[.string s] w fun e w' => e = .returned (.bool (tenOK s)) ∧ w = w' := by
  go_enter Tryz.func172, Tryz.ntmps172
  go_wp2
  go_loop [3, 4] (fun i _ => ∃ k : Nat, k ≤ s.size ∧ i = .int .i64 k ∧ upB tenB s k ∧ (0 < k → preB s dash = false)) (fun i _ => s.size - (intOf i).toNat)
  case atStart => exact ⟨0, Nat.zero_le _, rfl, upB_zero _ _, fun h => absurd h (by omega)⟩
  case round =>
    obtain ⟨k, hk, rfl, hall, hno⟩ := hrel
    have HN := Lib.hid hno
    have HA := Lib.hid hall
    clear hno hall
    by_cases hlt : k < s.size
    · go_wp2
      all_goals (try simp only [beq_iff_eq, bne_iff_ne, ne_eq, beq_eq_false_iff_ne, bne_eq_false_iff_eq] at *)
      all_goals first
        | (refine ⟨⟨k + 1, by omega, by go_num, ten_next hlt HA.out HN.out (by omega)⟩, by simp [intOf]; omega⟩)
        | (go_ret; exact ⟨ret_bool (ten_stop hlt (by omega)).symm, rfl⟩)
    · go_wp2
      go_ret
      refine ⟨ret_bool ?_, rfl⟩
      rw [ten_end hlt HA.out HN.out, Bool.eq_iff_iff]; simp; omega

theorem robj_any (s : ByteArray) (w : World) :
    Calls Tryz.prog 112 #[.string s] w fun e w' => e = .returned (.bool (objOK s)) ∧ w = w' := by
  by_cases h1 : s.size < 1
  · go_enter Tryz.func112, Tryz.ntmps112
    go_wp2
    go_ret
    exact ⟨ret_bool (by simp [objOK]; omega), rfl⟩
  by_cases h2 : 200 < s.size
  · go_enter Tryz.func112, Tryz.ntmps112
    go_wp2
    go_ret
    exact ⟨ret_bool (by simp [objOK]; omega), rfl⟩
  have h0 : 0 < s.size := by omega
  have hsl := slashed_eq h0
  have HS := Lib.hid hsl
  clear hsl
  by_cases h3 : ((s[0].toNat : Int) == 47) = false
  · have h3' : ((s[0].toNat : Int) != 47) = true := by simpa using h3
    go_enter Tryz.func112, Tryz.ntmps112
    go_wp2
    go_ret
    refine ⟨ret_bool ?_, rfl⟩
    simp only [objOK, HS.out]
    rw [show (s[0].toNat == 47) = false by simp at h3; simp; omega]; simp
  have h3 : ((s[0].toNat : Int) == 47) = true := by simpa using h3
  have h3' : ((s[0].toNat : Int) != 47) = false := by simpa using h3
  go_enter Tryz.func112, Tryz.ntmps112
  go_wp2
  go_loop [3] (fun i => ∃ k : Nat, k ≤ s.size ∧ i = .int .i64 k ∧ upB seenB s k) (fun i => s.size - (intOf i).toNat)
  case atStart => exact ⟨0, Nat.zero_le _, rfl, upB_zero _ _⟩
  case round =>
    obtain ⟨k, hk, rfl, hall⟩ := hrel
    by_cases hlt : k < s.size
    · go_wp2
      case roundEnd =>
        refine ⟨⟨k + 1, by omega, by go_num, upB_succ hall hlt (seenB_t (by omega))⟩, by simp [intOf]; omega⟩
      all_goals
        go_ret
        refine ⟨ret_bool ?_, rfl⟩
        simp only [objOK]
        rw [allB_false hlt (seenB_f (by omega))]; simp
    · go_wp2
      go_ret
      refine ⟨ret_bool ?_, rfl⟩
      simp only [objOK, HS.out]
      rw [upB_all hall hlt, show (s[0].toNat == 47) = true by simp at h3; simp; omega]; simp; omega

theorem rnone_any (t : ByteArray) (wk : Bool) (w : World) : Calls Tryz.prog 170 #[.agg #[.string t, .bool wk]] w fun e w' => e = .returned (.bool (tagNone t wk)) ∧ Below w.heap.size w w' := by
  have hb0 : Below w.heap.size w (w.alloc (.cells #[.string t, .bool wk] 36)) := (Below.refl _ _).alloc (Nat.le_refl _) _
  have HB := Lib.hid hb0
  clear hb0
  by_cases he : t.toList = []
  · have HE : Hid (t.toList.isEmpty = true) := by show t.toList.isEmpty = true; rw [he]; rfl
    go_enter Tryz.func170, Tryz.ntmps170
    go_wp2
    all_goals (go_ret; refine ⟨ret_bool ?_, HB.out⟩; unfold tagNone; rw [HE.out]; simp)
  · have h2 : t.toList.isEmpty = false := by cases ht : t.toList with | nil => exact absurd ht he | cons _ _ => rfl
    have HE := Lib.hid h2
    go_enter Tryz.func170, Tryz.ntmps170
    go_wp2
    all_goals (go_ret; refine ⟨ret_bool ?_, HB.out⟩; unfold tagNone; rw [HE.out]; simp)
end Go.Proofs.YtoaiamgcegnjjaaGreatDoor
namespace Go.Proofs.YtoaiamgcegnjjaaGreatDoor
open Go.RowKit Go.Maps Go.WideMaps Go.Sort
set_option maxRecDepth 100000

theorem inB_false_of {ks : List ByteArray} {s : ByteArray} (h : ∀ j (hj : j < ks.length), ks[j] ≠ s) : inB ks s = false := by
  unfold inB
  rw [List.any_eq_false]
  intro y hy
  obtain ⟨j, hj, rfl⟩ := List.mem_iff_getElem.1 hy
  have := h j hj
  simp
  exact fun e => this e.symm
theorem inB_true_of {ks : List ByteArray} {s : ByteArray} {j : Nat} (hj : j < ks.length) (h : ks[j] = s) : inB ks s = true := inB_of_take hj h.symm

def keysAll (ks : List ByteArray) : Bool := decide (ks.length ≤ 32) && keysOK ks
set_option maxHeartbeats 400000 in
theorem rkeys_any (A : Option Addr) (n c : Nat) (ks : List ByteArray) (B : Nat) (w : World) (hr : Strs w B A n ks) (hs : ∀ s ∈ ks, s.size ≤ 9223372036854775807) (hn : n ≤ 9223372036854775807) :
    Calls Tryz.prog 171 #[.slice A n c] w fun e w' => e = .returned (.bool (keysAll ks)) ∧ Below w.heap.size w w' := by
  have hl := hr.len
  have HL := Lib.hid hl
  have HS := Lib.hid hs
  have HST := Lib.hid hr
  clear hl hr hs
  by_cases h32 : 32 < n
  · go_enter Tryz.func171, Tryz.ntmps171
    go_wp2_with fail
    go_ret
    refine ⟨ret_bool ?_, Below.refl _ _⟩
    unfold keysAll
    rw [decide_eq_false (by have := HL.out; omega)]; rfl
  have H32 : Hid (decide (ks.length ≤ 32) = true) := decide_eq_true (by have := HL.out; omega)
  go_enter Tryz.func171, Tryz.ntmps171
  go_wp2_with fail
  go_loopw [3, 4] (fun i _ wr => ∃ k : Nat, k ≤ n ∧ i = .int .i64 k ∧ keysUp ks k = true ∧ ∃ q, wr = w.drewN q) (fun i _ _ => n - (intOf i).toNat)
  case atStart => exact ⟨0, Nat.zero_le _, rfl, rfl, 0, rfl⟩
  case round =>
    obtain ⟨k, hk, rfl, hup, q, rfl⟩ := hrel
    have HU := Lib.hid hup
    clear hup
    by_cases hlt : k < n
    · obtain ⟨b, o, rfl, hb, hc⟩ := HST.out.at_ (by omega)
      have hk' : k < ks.length := by have := HL.out; omega
      have hcell := hc k hk'
      have HC := Lib.hid hc
      clear hc
      have HSU := Lib.hid (keysUp_succ hk')
      by_cases hkey : keyOK ks[k] = true
      case neg =>
        have hkey : keyOK ks[k] = false := by simpa using hkey
        have HKY := Lib.hid hkey
        clear hkey
        go_wp2_with fail
        refine (rkey_any _ _ (HS.out _ (List.getElem_mem _))).mono ?_
        rintro e w' ⟨rfl, rfl⟩
        rw [HKY.out]
        go_wp2_with fail
        go_ret
        refine ⟨ret_bool ?_, below_drewN (Below.refl _ _) _⟩
        unfold keysAll keysOK
        rw [H32.out, keysUp_mono (k := k + 1) (by rw [HSU.out, HKY.out]; simp) (by omega)]; rfl
      have HKY := Lib.hid hkey
      clear hkey
      go_wp2_with fail
      refine (rkey_any _ _ (HS.out _ (List.getElem_mem _))).mono ?_
      rintro e w' ⟨rfl, rfl⟩
      rw [HKY.out]
      go_wp2_with fail
      go_loopw [4] (fun i wr => ∃ j : Nat, j ≤ k ∧ i = .int .i64 j ∧ (∀ p (hp : p < ks.length), p < j → ks[p] ≠ ks[k]) ∧ ∃ q, wr = w.drewN q) (fun i _ => k - (intOf i).toNat)
      case atStart => exact ⟨0, Nat.zero_le _, rfl, fun _ _ h => absurd h (by omega), q, rfl⟩
      case round =>
        obtain ⟨j, hj, rfl, hno, q2, rfl⟩ := hrel
        have HNO := Lib.hid hno
        clear hno
        by_cases hjlt : j < k
        · have hcj := HC.out j (by omega)
          have i1 : (0 : Int) ≤ (j : Int) := by omega
          have i2 : (j : Int) < (n : Int) := by omega
          have i3 : (0 : Int) ≤ (k : Int) := by omega
          have i4 : (k : Int) < (n : Int) := by omega
          by_cases he : (ks[j].toList == ks[k].toList) = true
          · go_wp2_with fail
            go_quiet (fail)
            go_wp2_with fail
            go_ret
            refine ⟨ret_bool ?_, below_drewN (below_drewN (Below.refl _ _) _) _⟩
            unfold keysAll keysOK
            rw [bytes_beq] at he
            have hin : inB (ks.take k) ks[k] = true := inB_true_of (j := j) (by simp; omega) (by simpa using of_decide_eq_true he)
            rw [H32.out, keysUp_mono (k := k + 1) (by rw [HSU.out, hin]; simp) (by omega)]; rfl
          · have he : (ks[j].toList == ks[k].toList) = false := by simpa using he
            go_wp2_with fail
            go_quiet (fail)
            go_wp2_with fail
            go_roundw
            case rel =>
              refine ⟨j + 1, by omega, by go_num, fun p hp hpj => ?_, _, rfl⟩
              by_cases hpj' : p < j
              · exact HNO.out p hp hpj'
              · obtain rfl : p = j := by omega
                rw [bytes_beq] at he
                exact of_decide_eq_false he
            case measure => simp [intOf]; omega
        · have hin : inB (ks.take k) ks[k] = false := inB_false_of (fun p hp => by
            have hp' : p < k := by simp at hp; omega
            have := HNO.out p (by omega) (by omega)
            simpa using this)
          have HIN := Lib.hid hin
          clear hin
          go_wp2_with fail
          go_roundw
          case rel => exact ⟨k + 1, by omega, by go_num, by rw [HSU.out, HU.out, HKY.out, HIN.out]; rfl, q2, rfl⟩
          case measure => simp [intOf]; omega
    · go_wp2_with fail
      go_ret
      refine ⟨ret_bool ?_, below_drewN (Below.refl _ _) _⟩
      unfold keysAll keysOK
      have : ks.length = k := by have := HL.out; omega
      rw [H32.out, this, HU.out]; rfl
theorem rweak_any (t : ByteArray) (wk : Bool) (t' : ByteArray) (wk' : Bool) (w : World) :
    Calls Tryz.prog 173 #[.agg #[.string t, .bool wk], .agg #[.string t', .bool wk']] w fun e w' => e = .returned (.bool (tagOK t && tagOK t' && decide (t = t'))) ∧ Below w.heap.size w w' := by
  have hb0 : Below w.heap.size w ((w.alloc (.cells #[.string t, .bool wk] 36)).alloc (.cells #[.string t', .bool wk'] 36)) := ((Below.refl _ _).alloc (Nat.le_refl _) _).alloc (by simp) _
  have HB := Lib.hid hb0
  have k0 : Blk ((w.alloc (.cells #[.string t, .bool wk] 36)).alloc (.cells #[.string t', .bool wk'] 36)) w.heap.size 36 #[.string t, .bool wk] := (Blk.new w 36 _).alloc _
  have k1 : Blk ((w.alloc (.cells #[.string t, .bool wk] 36)).alloc (.cells #[.string t', .bool wk'] 36)) (w.heap.size + 1) 36 #[.string t', .bool wk'] := by
    have := Blk.new (w.alloc (.cells #[.string t, .bool wk] 36)) 36 #[.string t', .bool wk']
    simpa using this
  have K0 := Lib.hid k0
  have K1 := Lib.hid k1
  clear hb0 k0 k1
  go_enter Tryz.func173, Tryz.ntmps173
  go_wp2_with fail
  refine (rtagRight_any _ _ _).mono ?_
  rintro e w1 ⟨rfl, hb⟩
  have hs : w.heap.size + 1 + 1 ≤ w1.heap.size := by simpa using hb.size
  have k0 := K0.out.below hb (by simp; omega)
  have k1 := K1.out.below hb (by simp)
  obtain ⟨c0, c1⟩ := tagCells k0
  obtain ⟨c2, c3⟩ := tagCells k1
  clear K0 K1
  have K0 := Lib.hid k0
  have K1 := Lib.hid k1
  have HB1 := Lib.hid hb
  clear hb k0 k1
  by_cases h : tagOK t = true
  case neg =>
    have h : tagOK t = false := by simpa using h
    have H := Lib.hid h
    rw [h]
    clear h
    go_wp2_with fail
    go_ret
    exact ⟨ret_bool (by simp [H.out]), HB.out.trans (HB1.out.mono (by simp; omega))⟩
  have H := Lib.hid h
  rw [h]
  clear h
  go_wp2_with fail
  refine (rtagRight_any _ _ _).mono ?_
  rintro e w2 ⟨rfl, hb⟩
  obtain ⟨d0, d1⟩ := tagCells (K0.out.below hb (by omega))
  obtain ⟨d2, d3⟩ := tagCells (K1.out.below hb (by omega))
  have HB2 := Lib.hid hb
  clear hb
  by_cases h' : tagOK t' = true
  · have H' := Lib.hid h'
    rw [h']
    clear h'
    go_wp2_with fail
    go_ret
    refine ⟨ret_bool ?_, (HB.out.trans (HB1.out.mono (by simp; omega))).trans (HB2.out.mono (by omega))⟩
    rw [bytes_beq]; simp [H.out, H'.out]
  · have h' : tagOK t' = false := by simpa using h'
    have H' := Lib.hid h'
    rw [h']
    clear h'
    go_wp2_with fail
    go_ret
    refine ⟨ret_bool ?_, (HB.out.trans (HB1.out.mono (by simp; omega))).trans (HB2.out.mono (by omega))⟩
    simp [H.out, H'.out]

theorem rstrong_any (t : ByteArray) (wk : Bool) (t' : ByteArray) (wk' : Bool) (w : World) :
    Calls Tryz.prog 119 #[.agg #[.string t, .bool wk], .agg #[.string t', .bool wk']] w fun e w' => e = .returned (.bool (strongB t wk t' wk')) ∧ Below w.heap.size w w' := by
  have hb0 : Below w.heap.size w ((w.alloc (.cells #[.string t, .bool wk] 36)).alloc (.cells #[.string t', .bool wk'] 36)) := ((Below.refl _ _).alloc (Nat.le_refl _) _).alloc (by simp) _
  have HB := Lib.hid hb0
  have k0 : Blk ((w.alloc (.cells #[.string t, .bool wk] 36)).alloc (.cells #[.string t', .bool wk'] 36)) w.heap.size 36 #[.string t, .bool wk] := (Blk.new w 36 _).alloc _
  have k1 : Blk ((w.alloc (.cells #[.string t, .bool wk] 36)).alloc (.cells #[.string t', .bool wk'] 36)) (w.heap.size + 1) 36 #[.string t', .bool wk'] := new2 w _ 36 _
  have K0 := Lib.hid k0
  have K1 := Lib.hid k1
  clear hb0 k0 k1
  go_enter Tryz.func119, Tryz.ntmps119
  go_wp2_with fail
  refine (rweak_any _ _ _ _ _).mono ?_
  rintro e w1 ⟨rfl, hb⟩
  obtain ⟨c0, c1⟩ := tagCells (K0.out.below hb (by simp; omega))
  obtain ⟨c2, c3⟩ := tagCells (K1.out.below hb (by simp))
  have HB1 := Lib.hid hb
  clear hb
  generalize hx : (tagOK t && tagOK t' && decide (t = t')) = x
  have HX := Lib.hid hx
  clear hx
  have fin : strongB t wk t' wk' = (x && !wk && !wk') := by
    rw [← HX.out]
    unfold strongB
    cases wk <;> cases wk' <;> simp
  have FIN := Lib.hid fin
  clear fin
  cases x <;> cases wk <;> cases wk'
  all_goals
    go_wp2_with fail
    go_ret
    exact ⟨ret_bool (by rw [FIN.out]; rfl), HB.out.trans (HB1.out.mono (by simp; omega))⟩

theorem rjoins_any (t : ByteArray) (wk : Bool) (mo le ha fr wh er : Int) (A : Option Addr) (n c : Nat) (ten : ByteArray) (kp : Bool) (w : World) :
    Calls Tryz.prog 114 #[.agg (metaC t wk mo le ha fr wh er A n c ten kp)] w fun e w' => e = .returned (.bool (tagOK t && !wk)) ∧ Below w.heap.size w w' := by
  have hb0 : Below w.heap.size w (w.alloc (.cells (metaC t wk mo le ha fr wh er A n c ten kp) 39)) := (Below.refl _ _).alloc (Nat.le_refl _) _
  have hk0 := Blk.new w 39 (metaC t wk mo le ha fr wh er A n c ten kp)
  have HB := Lib.hid hb0
  have HK0 := Lib.hid hk0
  clear hb0 hk0
  go_enter Tryz.func114, Tryz.ntmps114
  go_wp2_with fail
  refine (rtagRight_any _ _ _).mono ?_
  rintro e w' ⟨rfl, hb⟩
  obtain ⟨c0, c1, c2, c3, c4, c5, c6, c7, c8, c9, c10⟩ := metaCells (HK0.out.below hb (by simp))
  have HB1 := Lib.hid hb
  clear hb
  by_cases h : tagOK t = true
  · have H := Lib.hid h
    rw [h]
    clear h
    go_wp2_with fail
    go_ret
    exact ⟨ret_bool (by simp [H.out]), HB.out.trans (HB1.out.mono (by simp))⟩
  · have h : tagOK t = false := by simpa using h
    have H := Lib.hid h
    rw [h]
    clear h
    go_wp2_with fail
    go_ret
    exact ⟨ret_bool (by simp [H.out]), HB.out.trans (HB1.out.mono (by simp))⟩


theorem tag_bytes {t : ByteArray} {wk : Bool} (h : (tagNone t wk || tagOK t) = true) {k : Nat} (hk : k < t.size) : t[k].toNat ≤ 126 := by
  rcases Bool.or_eq_true _ _ ▸ h with h | h
  · exfalso
    unfold tagNone at h
    simp only [Bool.and_eq_true, List.isEmpty_iff] at h
    have : t.toList.length = 0 := by rw [h.1]; rfl
    rw [ByteArray.toList_eq] at this
    have : t.size = 0 := by simpa using this
    omega
  · unfold tagOK at h
    simp only [Bool.and_eq_true] at h
    have h2 := h.2
    unfold allB at h2
    rw [List.all_eq_true] at h2
    have := h2 t[k] (by
      have : t[k] = t.data.toList[k]'(by simpa using hk) := rfl
      rw [this]
      exact List.getElem_mem _)
    unfold tagB at this
    simp only [Bool.and_eq_true, decide_eq_true_eq] at this
    exact this.2
theorem metaOK_keys (t : ByteArray) (wk : Bool) (mo le ha fr wh er : Int) (ks : List ByteArray) (ten : ByteArray) (h1 : (tagNone t wk || tagOK t) = true) (h2 : numsA mo le = true) (h3 : numsB le ha = true) (h4 : tick0 fr = true) (h5 : tick0 wh = true) (h6 : tick0 er = true) :
    metaOK t wk mo le ha fr wh er ks ten = (keysAll ks && tenOK ten) := by
  unfold metaOK keysAll
  rw [h1, h2, h3, h4, h5, h6]
  cases decide (ks.length ≤ 32) <;> cases keysOK ks <;> cases tenOK ten <;> rfl
def ticks3 (fr wh er : Int) : Bool := tick0 fr && tick0 wh && tick0 er
theorem metaOK_ticks {t : ByteArray} {wk : Bool} {mo le ha fr wh er : Int} {ks : List ByteArray} {ten : ByteArray} (h : ticks3 fr wh er = false) : metaOK t wk mo le ha fr wh er ks ten = false := by
  unfold metaOK
  unfold ticks3 at h
  cases h1 : tick0 fr <;> cases h2 : tick0 wh <;> cases h3 : tick0 er <;> simp_all

set_option maxHeartbeats 1000000 in
theorem rright_any (t : ByteArray) (wk : Bool) (mo le ha fr wh er : Int) (A : Option Addr) (n c : Nat) (ten : ByteArray) (kp : Bool) (w : World) (ks : List ByteArray) (B : Nat)
    (hk : Strs w B A n ks) (hB : B ≤ w.heap.size) (hn : n ≤ 9223372036854775807) (hs : ∀ s ∈ ks, s.size ≤ 9223372036854775807) (ht : t.size ≤ 9223372036854775807) (hte : ten.size ≤ 9223372036854775807) :
    Calls Tryz.prog 113 #[.agg (metaC t wk mo le ha fr wh er A n c ten kp)] w fun e w' => e = .returned (.bool (metaOK t wk mo le ha fr wh er ks ten)) ∧ Below w.heap.size w w' := by
  have HK := Lib.hid hk
  have HS := Lib.hid hs
  clear hk hs
  have hb0 : Below w.heap.size w (w.alloc (.cells (metaC t wk mo le ha fr wh er A n c ten kp) 39)) := (Below.refl _ _).alloc (Nat.le_refl _) _
  have hk0 := Blk.new w 39 (metaC t wk mo le ha fr wh er A n c ten kp)
  have HB := Lib.hid hb0
  have HK0 := Lib.hid hk0
  clear hb0 hk0
  go_enter Tryz.func113, Tryz.ntmps113
  go_upto_region 1 with fail
  go_cut [13] (fun s wx => s = .bool (!(tagNone t wk || tagOK t)) ∧ Below w.heap.size w wx ∧ Blk wx w.heap.size 39 (metaC t wk mo le ha fr wh er A n c ten kp))
  case first =>
    go_wp2_with fail
    refine (rnone_any _ _ _).mono ?_
    rintro e w1 ⟨rfl, hb⟩
    have hk1 := HK0.out.below hb (by simp)
    obtain ⟨c0, c1, c2, c3, c4, c5, c6, c7, c8, c9, c10⟩ := metaCells hk1
    have HB1 := Lib.hid (HB.out.trans (hb.mono (by simp)))
    have HK1 := Lib.hid hk1
    clear hb hk1
    cases h1 : tagNone t wk
    · have H1 := Lib.hid h1
      clear h1
      go_wp2_with fail
      refine (rtagRight_any _ _ _).mono ?_
      rintro e w2 ⟨rfl, hb⟩
      have HB2 := Lib.hid (HB1.out.trans (hb.mono HB1.out.size))
      have HK2 := Lib.hid (HK1.out.below hb HK1.out.lt)
      clear hb
      go_wp2_with fail
      go_meet
      exact ⟨by rw [H1.out]; rfl, HB2.out, HK2.out⟩
    · have H1 := Lib.hid h1
      clear h1
      go_wp2_with fail
      go_meet
      exact ⟨by rw [H1.out]; rfl, HB1.out, HK1.out⟩
  case rest =>
    obtain ⟨rfl, hbl, hbk⟩ := hcut
    obtain ⟨c0, c1, c2, c3, c4, c5, c6, c7, c8, c9, c10⟩ := metaCells hbk
    have HBL := Lib.hid hbl
    have HBK := Lib.hid hbk
    clear hbl hbk HB HK0
    by_cases hT : (tagNone t wk || tagOK t) = true
    case neg =>
      have hT : (tagNone t wk || tagOK t) = false := by simpa using hT
      have HT := Lib.hid hT
      rw [hT]
      clear hT
      go_wp2_with fail
      go_ret
      exact ⟨ret_bool (by simp only [metaOK, HT.out]; rfl), HBL.out⟩
    have HT := Lib.hid hT
    rw [hT]
    clear hT
    go_wp2_with fail
    go_loop [3] (fun i => ∃ k : Nat, k ≤ t.size ∧ i = .int .i64 k) (fun i => t.size - (intOf i).toNat)
    case atStart => exact ⟨0, Nat.zero_le _, rfl⟩
    case round =>
      obtain ⟨k, hk, rfl⟩ := hrel
      by_cases hlt : k < t.size
      · have hby := tag_bytes HT.out hlt
        go_wp2_with fail
        exact ⟨⟨k + 1, by omega, by go_num⟩, by simp [intOf]; omega⟩
      by_cases hA : -1 ≤ mo ∧ mo ≤ 253402300799 ∧ -1 ≤ le ∧ le ≤ 1099511627776 ∧ 0 ≤ ha ∧ ha ≤ 1099511627776 ∧ (0 ≤ le → ha = le)
      case neg =>
        have HA : Hid (metaOK t wk mo le ha fr wh er ks ten = false) := by
          show metaOK t wk mo le ha fr wh er ks ten = false
          by_cases ha1 : numsA mo le = true
          · have hb1 : numsB le ha = false := by
              unfold numsA at ha1
              unfold numsB
              simp only [decide_eq_true_eq, decide_eq_false_iff_not] at ha1 ⊢
              omega
            simp only [metaOK, hb1]; simp
          · have ha1 : numsA mo le = false := by simpa using ha1
            simp only [metaOK, ha1]; simp
        by_cases hle : 0 ≤ le
        · by_cases hal : ha = le
          · have e2 : (ha != le) = false := by simpa using hal
            have hA' : ¬ (-1 ≤ mo ∧ mo ≤ 253402300799 ∧ le ≤ 1099511627776) := by omega
            subst hal
            clear hA
            go_wp2_with fail
            all_goals (go_ret; exact ⟨ret_bool (by rw [HA.out]), HBL.out⟩)
          · have e2 : (ha != le) = true := by simpa using hal
            clear hA hal
            go_wp2_with fail
            all_goals (go_ret; exact ⟨ret_bool (by rw [HA.out]), HBL.out⟩)
        · have hA' : ¬ (-1 ≤ mo ∧ mo ≤ 253402300799 ∧ -1 ≤ le ∧ 0 ≤ ha ∧ ha ≤ 1099511627776) := by omega
          clear hA
          go_wp2_with fail
          all_goals (go_ret; exact ⟨ret_bool (by rw [HA.out]), HBL.out⟩)
      obtain ⟨a1, a2, a3, a4, a5, a6, a7⟩ := hA
      have HA : Hid (numsA mo le = true) := (decide_eq_true ⟨a1, a2, a3, a4⟩ : numsA mo le = true)
      have HN : Hid (numsB le ha = true) := (decide_eq_true ⟨a5, a6, by omega⟩ : numsB le ha = true)
      go_upto_region 8 with fail
      go_cut [67] (fun s wx => s = .bool false ∧ wx = wc)
      case first =>
        by_cases hle : 0 ≤ le
        · have e2 : (ha != le) = false := by simpa using a7 hle
          clear a7
          go_wp2_with fail
          go_meet
          exact ⟨by simp; omega, rfl⟩
        · clear a7
          go_wp2_with fail
          go_meet
          exact ⟨by simp; omega, rfl⟩
      case rest =>
        obtain ⟨rfl, rfl⟩ := hcut
        clear a1 a2 a3 a4 a5 a6 a7
        by_cases hti : ticks3 fr wh er = true
        case neg =>
          have HTI := Lib.hid (metaOK_ticks (t := t) (wk := wk) (mo := mo) (le := le) (ha := ha) (ks := ks) (ten := ten) (show ticks3 fr wh er = false by simpa using hti))
          have hti' : ¬ (0 ≤ fr ∧ fr ≤ 1099511627776 ∧ 0 ≤ wh ∧ wh ≤ 1099511627776 ∧ 0 ≤ er ∧ er ≤ 1099511627776) := fun h => hti (by unfold ticks3 tick0; simp; omega)
          clear hti
          go_wp2_with fail
          all_goals (go_ret; exact ⟨ret_bool (by rw [HTI.out]), HBL.out⟩)
        have hti' : 0 ≤ fr ∧ fr ≤ 1099511627776 ∧ 0 ≤ wh ∧ wh ≤ 1099511627776 ∧ 0 ≤ er ∧ er ≤ 1099511627776 := by unfold ticks3 tick0 at hti; simp at hti; omega
        have HF : Hid (metaOK t wk mo le ha fr wh er ks ten = (keysAll ks && tenOK ten)) := by
          show metaOK t wk mo le ha fr wh er ks ten = _
          unfold ticks3 at hti
          simp only [Bool.and_eq_true] at hti
          exact metaOK_keys t wk mo le ha fr wh er ks ten HT.out HA.out HN.out hti.1.1 hti.1.2 hti.2
        obtain ⟨t1, t2, t3, t4, t5, t6⟩ := hti'
        clear hti
        go_wp2_with fail
        refine (rkeys_any A n c ks B _ (HK.out.below (HBL.out.mono hB) (Nat.le_refl _)) HS.out hn).mono ?_
        rintro e w3 ⟨rfl, hb⟩
        obtain ⟨d0, d1, d2, d3, d4, d5, d6, d7, d8, d9, d10⟩ := metaCells (HBK.out.below hb HBK.out.lt)
        have HB3 := Lib.hid (HBL.out.trans (hb.mono HBL.out.size))
        clear hb
        cases hka : keysAll ks
        · have HKA := Lib.hid hka
          clear hka
          go_wp2_with fail
          go_ret
          exact ⟨ret_bool (by rw [HF.out, HKA.out]; rfl), HB3.out⟩
        · have HKA := Lib.hid hka
          clear hka
          go_wp2_with fail
          refine (rten_any _ _ hte).mono ?_
          rintro e w4 ⟨rfl, rfl⟩
          go_wp2_with fail
          go_ret
          exact ⟨ret_bool (by rw [HF.out, HKA.out]; rfl), HB3.out⟩

theorem metaOK_le {t : ByteArray} {wk : Bool} {mo le ha fr wh er : Int} {ks : List ByteArray} {ten : ByteArray} (h : metaOK t wk mo le ha fr wh er ks ten = true) : -1 ≤ le := by
  unfold metaOK at h
  simp only [Bool.and_eq_true] at h
  have := h.1.1.1.1.1.1.1.2
  unfold numsA at this
  simp only [decide_eq_true_eq] at this
  exact this.2.2.1

set_option maxHeartbeats 1000000 in
theorem rfollows_any (t : ByteArray) (wk : Bool) (mo le ha fr wh er : Int) (A : Option Addr) (n c : Nat) (ten : ByteArray) (kp : Bool) (ks : List ByteArray)
    (t' : ByteArray) (wk' : Bool) (mo' le' ha' fr' wh' er' : Int) (A' : Option Addr) (n' c' : Nat) (ten' : ByteArray) (kp' : Bool) (ks' : List ByteArray) (w : World)
    (hk : Strs w w.heap.size A n ks) (hk' : Strs w w.heap.size A' n' ks') (hn : n ≤ 9223372036854775807) (hn' : n' ≤ 9223372036854775807) (hs : ∀ s ∈ ks, s.size ≤ 9223372036854775807) (ht : t.size ≤ 9223372036854775807) (hte : ten.size ≤ 9223372036854775807) (hs' : ∀ s ∈ ks', s.size ≤ 9223372036854775807) (ht' : t'.size ≤ 9223372036854775807) (hte' : ten'.size ≤ 9223372036854775807) :
    Calls Tryz.prog 120 #[.agg (metaC t wk mo le ha fr wh er A n c ten kp), .agg (metaC t' wk' mo' le' ha' fr' wh' er' A' n' c' ten' kp')] w fun e w' => e = .returned (.bool (followsB t wk mo le ha fr wh er ks ten t' wk' mo' le' ha' fr' wh' er' ks' ten')) ∧ Below w.heap.size w w' := by
  have HSS := Lib.hid hs
  have HSS' := Lib.hid hs'
  clear hs hs'
  have hb0 : Below w.heap.size w ((w.alloc (.cells (metaC t wk mo le ha fr wh er A n c ten kp) 39)).alloc (.cells (metaC t' wk' mo' le' ha' fr' wh' er' A' n' c' ten' kp') 39)) := ((Below.refl _ _).alloc (Nat.le_refl _) _).alloc (by simp) _
  have k0 : Blk ((w.alloc (.cells (metaC t wk mo le ha fr wh er A n c ten kp) 39)).alloc (.cells (metaC t' wk' mo' le' ha' fr' wh' er' A' n' c' ten' kp') 39)) w.heap.size 39 (metaC t wk mo le ha fr wh er A n c ten kp) := (Blk.new w 39 _).alloc _
  have k1 : Blk ((w.alloc (.cells (metaC t wk mo le ha fr wh er A n c ten kp) 39)).alloc (.cells (metaC t' wk' mo' le' ha' fr' wh' er' A' n' c' ten' kp') 39)) (w.heap.size + 1) 39 (metaC t' wk' mo' le' ha' fr' wh' er' A' n' c' ten' kp') := by
    have := Blk.new (w.alloc (.cells (metaC t wk mo le ha fr wh er A n c ten kp) 39)) 39 (metaC t' wk' mo' le' ha' fr' wh' er' A' n' c' ten' kp')
    simpa using this
  have sa := hk.below hb0 (Nat.le_refl _)
  have sb := hk'.below hb0 (Nat.le_refl _)
  have HB := Lib.hid hb0
  have K0 := Lib.hid k0
  have K1 := Lib.hid k1
  have SA := Lib.hid sa
  have SB := Lib.hid sb
  clear hb0 k0 k1 sa sb hk hk'
  go_enter Tryz.func120, Tryz.ntmps120
  go_wp2_with fail
  refine (rright_any t wk mo le ha fr wh er A n c ten kp _ ks w.heap.size SA.out (by simp; omega) hn HSS.out ht hte).mono ?_
  rintro e w1 ⟨rfl, hb⟩
  have hs1 : w.heap.size + 1 + 1 ≤ w1.heap.size := by simpa using hb.size
  have k0 := K0.out.below hb (by simp; omega)
  have k1 := K1.out.below hb (by simp)
  have sa := SA.out.below (hb.mono (by simp; omega)) (Nat.le_refl _)
  have sb := SB.out.below (hb.mono (by simp; omega)) (Nat.le_refl _)
  obtain ⟨a0, a1, a2, a3, a4, a5, a6, a7, a8, a9, a10⟩ := metaCells k0
  obtain ⟨b0, b1, b2, b3, b4, b5, b6, b7, b8, b9, b10⟩ := metaCells k1
  have hbb := HB.out.trans (hb.mono (by simp; omega))
  clear K0 K1 SA SB HB
  have K0 := Lib.hid k0
  have K1 := Lib.hid k1
  have SA := Lib.hid sa
  have SB := Lib.hid sb
  have HB := Lib.hid hbb
  clear hb k0 k1 sa sb hbb
  by_cases h : metaOK t wk mo le ha fr wh er ks ten = true
  case neg =>
    have h : metaOK t wk mo le ha fr wh er ks ten = false := by simpa using h
    have H1 := Lib.hid h
    rw [h]
    clear h
    go_wp2_with fail
    go_ret
    exact ⟨ret_bool (by simp [followsB, H1.out]), HB.out⟩
  have H1 := Lib.hid h
  rw [h]
  clear h
  go_wp2_with fail
  refine (rright_any t' wk' mo' le' ha' fr' wh' er' A' n' c' ten' kp' _ ks' w.heap.size SB.out (by omega) hn' HSS'.out ht' hte').mono ?_
  rintro e w2 ⟨rfl, hb⟩
  clear a0 a1 a2 a3 a4 a5 a6 a7 a8 a9 a10 b0 b1 b2 b3 b4 b5 b6 b7 b8 b9 b10
  have hs2 : w.heap.size + 1 + 1 ≤ w2.heap.size := by have := hb.size; omega
  have k0 := K0.out.below hb (by omega)
  have k1 := K1.out.below hb (by omega)
  have sa := SA.out.below (hb.mono (by omega)) (Nat.le_refl _)
  have sb := SB.out.below (hb.mono (by omega)) (Nat.le_refl _)
  obtain ⟨a0, a1, a2, a3, a4, a5, a6, a7, a8, a9, a10⟩ := metaCells k0
  obtain ⟨b0, b1, b2, b3, b4, b5, b6, b7, b8, b9, b10⟩ := metaCells k1
  have hbb := HB.out.trans (hb.mono (by omega))
  clear K0 K1 SA SB HB
  have K0 := Lib.hid k0
  have K1 := Lib.hid k1
  have SA := Lib.hid sa
  have SB := Lib.hid sb
  have HB := Lib.hid hbb
  clear hb k0 k1 sa sb hbb
  by_cases h : metaOK t' wk' mo' le' ha' fr' wh' er' ks' ten' = true
  case neg =>
    have h : metaOK t' wk' mo' le' ha' fr' wh' er' ks' ten' = false := by simpa using h
    have H2 := Lib.hid h
    rw [h]
    clear h
    go_wp2_with fail
    go_ret
    exact ⟨ret_bool (by simp [followsB, H2.out]), HB.out⟩
  have H2 := Lib.hid h
  rw [h]
  clear h
  go_wp2_with fail
  refine (rjoins_any t wk mo le ha fr wh er A n c ten kp _).mono ?_
  rintro e w3 ⟨rfl, hb⟩
  clear a0 a1 a2 a3 a4 a5 a6 a7 a8 a9 a10 b0 b1 b2 b3 b4 b5 b6 b7 b8 b9 b10
  have hs3 : w.heap.size + 1 + 1 ≤ w3.heap.size := by have := hb.size; omega
  have k0 := K0.out.below hb (by omega)
  have k1 := K1.out.below hb (by omega)
  have sa := SA.out.below (hb.mono (by omega)) (Nat.le_refl _)
  have sb := SB.out.below (hb.mono (by omega)) (Nat.le_refl _)
  obtain ⟨a0, a1, a2, a3, a4, a5, a6, a7, a8, a9, a10⟩ := metaCells k0
  obtain ⟨b0, b1, b2, b3, b4, b5, b6, b7, b8, b9, b10⟩ := metaCells k1
  have hbb := HB.out.trans (hb.mono (by omega))
  clear K0 K1 SA SB HB
  have K0 := Lib.hid k0
  have K1 := Lib.hid k1
  have SA := Lib.hid sa
  have SB := Lib.hid sb
  have HB := Lib.hid hbb
  clear hb k0 k1 sa sb hbb
  by_cases h : (tagOK t && !wk) = true
  case neg =>
    have h : (tagOK t && !wk) = false := by simpa using h
    have H3 := Lib.hid h
    rw [h]
    clear h
    go_wp2_with fail
    go_ret
    exact ⟨ret_bool (by simp only [followsB, H3.out]; simp), HB.out⟩
  have H3 := Lib.hid h
  rw [h]
  clear h
  go_wp2_with fail
  refine (rstrong_any t wk t' wk' _).mono ?_
  rintro e w4 ⟨rfl, hb⟩
  clear a0 a1 a2 a3 a4 a5 a6 a7 a8 a9 a10 b0 b1 b2 b3 b4 b5 b6 b7 b8 b9 b10
  have hs4 : w.heap.size + 1 + 1 ≤ w4.heap.size := by have := hb.size; omega
  have k0 := K0.out.below hb (by omega)
  have k1 := K1.out.below hb (by omega)
  have sa := SA.out.below (hb.mono (by omega)) (Nat.le_refl _)
  have sb := SB.out.below (hb.mono (by omega)) (Nat.le_refl _)
  obtain ⟨a0, a1, a2, a3, a4, a5, a6, a7, a8, a9, a10⟩ := metaCells k0
  obtain ⟨b0, b1, b2, b3, b4, b5, b6, b7, b8, b9, b10⟩ := metaCells k1
  have hbb := HB.out.trans (hb.mono (by omega))
  clear K0 K1 SA SB HB
  have K0 := Lib.hid k0
  have K1 := Lib.hid k1
  have SA := Lib.hid sa
  have SB := Lib.hid sb
  have HB := Lib.hid hbb
  clear hb k0 k1 sa sb hbb
  by_cases h : strongB t wk t' wk' = true
  case neg =>
    have h : strongB t wk t' wk' = false := by simpa using h
    have H4 := Lib.hid h
    rw [h]
    clear h
    go_wp2_with fail
    go_ret
    exact ⟨ret_bool (by simp [followsB, H4.out]), HB.out⟩
  have H4 := Lib.hid h
  rw [h]
  clear h
  by_cases hm : (mo != mo') = true
  · go_wp2_with fail
    go_ret
    refine ⟨ret_bool ?_, HB.out⟩
    have : decide (mo = mo') = false := by simpa using hm
    simp [followsB, this]
  have hm : (mo != mo') = false := by simpa using hm
  have HM : Hid (decide (mo = mo') = true) := by show decide (mo = mo') = true; simpa using hm
  have hge : -1 ≤ le := metaOK_le H1.out
  by_cases hl : 0 ≤ le
  · go_wp2_with fail
    go_ret
    refine ⟨ret_bool ?_, HB.out⟩
    have : ¬ le = -1 := by omega
    simp only [followsB, H1.out, H2.out, H3.out, H4.out, HM.out, if_neg this, Bool.true_and]
    rw [Bool.eq_iff_iff]; simp
  · go_wp2_with fail
    go_ret
    refine ⟨ret_bool ?_, HB.out⟩
    have : le = -1 := by omega
    simp only [followsB, H1.out, H2.out, H3.out, H4.out, HM.out, if_pos this, Bool.true_and]

end Go.Proofs.YtoaiamgcegnjjaaGreatDoor
