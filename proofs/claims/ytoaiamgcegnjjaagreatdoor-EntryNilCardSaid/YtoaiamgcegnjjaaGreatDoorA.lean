/- Plain words on bytes and the contracts of the small functions that only look at numbers and strings (tags, keys, tenants, objects). No condition. -/
import Derived.Test.YtoaiamgcegnjjaaGreatDoorProg
import Derived.WalkKit
import Derived.WalkSpells
import Derived.WalkLawsBesides
import Derived.Lib.Hide
namespace Go.Proofs.YtoaiamgcegnjjaaGreatDoor
open Go.RowKit
set_option maxRecDepth 100000

theorem ret_bool {a b : Bool} (h : a = b) : Ending.returned (.bool a) = .returned (.bool b) := by rw [h]
theorem ret_int {k : IntKind} {a b : Int} (h : a = b) : Ending.returned (.int k a) = .returned (.int k b) := by rw [h]

/-- every byte passes -/
def allB (p : UInt8 → Bool) (s : ByteArray) : Bool := s.data.toList.all p
theorem allB_false {p : UInt8 → Bool} {s : ByteArray} {k : Nat} (hk : k < s.size) (h : p s[k] = false) : allB p s = false := by
  unfold allB
  rw [List.all_eq_false]
  refine ⟨s.data.toList[k]'(by simpa using hk), List.getElem_mem _, ?_⟩
  have : s.data.toList[k]'(by simpa using hk) = s[k] := rfl
  rw [this, h]; simp
theorem allB_true {p : UInt8 → Bool} {s : ByteArray} (h : ∀ j (hj : j < s.size), p s[j] = true) : allB p s = true := by
  unfold allB
  rw [List.all_eq_true]
  intro x hx
  obtain ⟨j, hj, rfl⟩ := List.mem_iff_getElem.1 hx
  exact h j (by simpa using hj)

/-- the first k bytes pass -/
def upB (p : UInt8 → Bool) (s : ByteArray) (k : Nat) : Prop := ∀ j (hj : j < s.size), j < k → p s[j] = true
theorem upB_zero (p : UInt8 → Bool) (s : ByteArray) : upB p s 0 := fun _ _ h => absurd h (by omega)
theorem upB_succ {p : UInt8 → Bool} {s : ByteArray} {k : Nat} (h : upB p s k) (hk : k < s.size) (hp : p s[k] = true) : upB p s (k + 1) := fun j hj hjk => by
  by_cases hjk' : j < k
  · exact h j hj hjk'
  · obtain rfl : j = k := by omega
    exact hp
theorem upB_all {p : UInt8 → Bool} {s : ByteArray} {k : Nat} (h : upB p s k) (hk : ¬ k < s.size) : allB p s = true := allB_true fun j hj => h j hj (by omega)

def tagB (c : UInt8) : Bool := decide (33 ≤ c.toNat) && !(c.toNat == 34) && decide (c.toNat ≤ 126)
theorem tagB_f {c : UInt8} (h : c.toNat < 33 ∨ c.toNat = 34 ∨ 126 < c.toNat) : tagB c = false := by
  unfold tagB
  rcases h with h | h | h
  · rw [decide_eq_false (by omega)]; rfl
  · rw [h]; rfl
  · rw [decide_eq_false (p := c.toNat ≤ 126) (by omega)]; simp
theorem tagB_t {c : UInt8} (h : 33 ≤ c.toNat ∧ c.toNat ≠ 34 ∧ c.toNat ≤ 126) : tagB c = true := by
  unfold tagB
  rw [decide_eq_true h.1, decide_eq_true h.2.2, beq_eq_false_iff_ne.2 h.2.1]; rfl
def tagOK (s : ByteArray) : Bool := decide (1 ≤ s.size) && decide (s.size ≤ 100) && allB tagB s

theorem tagRight_any (s : ByteArray) (wk : Bool) (w : World) :
    Calls Tryz.prog 134 #[.agg #[.string s, .bool wk]] w fun e w' => e = .returned (.bool (tagOK s)) ∧ Below w.heap.size w w' := by
  by_cases h1 : s.size < 1
  · go_enter Tryz.func134, Tryz.ntmps134
    go_wp2
    go_ret
    exact ⟨ret_bool (by simp [tagOK]; omega), (Below.refl _ _).alloc (Nat.le_refl _) _⟩
  by_cases h2 : 100 < s.size
  · go_enter Tryz.func134, Tryz.ntmps134
    go_wp2
    go_ret
    exact ⟨ret_bool (by simp [tagOK]; omega), (Below.refl _ _).alloc (Nat.le_refl _) _⟩
  go_enter Tryz.func134, Tryz.ntmps134
  go_wp2
  go_loop [18] (fun i => ∃ k : Nat, k ≤ s.size ∧ i = .int .i64 k ∧ upB tagB s k) (fun i => s.size - (intOf i).toNat)
  case atStart => exact ⟨0, Nat.zero_le _, rfl, upB_zero _ _⟩
  case round =>
    obtain ⟨k, hk, rfl, hall⟩ := hrel
    by_cases hlt : k < s.size
    · go_wp2
      case roundEnd =>
        refine ⟨⟨k + 1, by omega, by go_num, upB_succ hall hlt (tagB_t (by omega))⟩, by simp [intOf]; omega⟩
      all_goals
        go_ret
        refine ⟨ret_bool ?_, (Below.refl _ _).alloc (Nat.le_refl _) _⟩
        simp only [tagOK]
        (try simp only [beq_iff_eq] at *); rw [allB_false hlt (tagB_f (by omega))]; simp
    · go_wp2
      go_ret
      refine ⟨ret_bool ?_, (Below.refl _ _).alloc (Nat.le_refl _) _⟩
      simp only [tagOK]
      rw [upB_all hall hlt]; simp; omega

theorem ticks_any (n : Int) (w : World) :
    Calls Tryz.prog 135 #[.int .i64 n] w fun e w' => e = .returned (.bool (decide (0 ≤ n) && decide (n ≤ 1099511627776))) ∧ w = w' := by
  go_enter Tryz.func135, Tryz.ntmps135
  go_wp2
  all_goals (go_ret; refine ⟨ret_bool ?_, rfl⟩; rw [Bool.eq_iff_iff]; simp; omega)

theorem number_any (n : Int) (w : World) :
    Calls Tryz.prog 81 #[.int .i64 n] w fun e w' => e = .returned (.bool (decide (0 ≤ n) && decide (n ≤ 1099511627776))) ∧ w = w' := by
  go_enter Tryz.func81, Tryz.ntmps81
  go_wp2
  all_goals (go_ret; refine ⟨ret_bool ?_, rfl⟩; rw [Bool.eq_iff_iff]; simp; omega)

/-- a byte that is seen: from 33 to 126 -/
def seenB (c : UInt8) : Bool := decide (33 ≤ c.toNat) && decide (c.toNat ≤ 126)
theorem seenB_f {c : UInt8} (h : c.toNat < 33 ∨ 126 < c.toNat) : seenB c = false := by
  unfold seenB
  rcases h with h | h
  · rw [decide_eq_false (by omega)]; rfl
  · rw [decide_eq_false (p := c.toNat ≤ 126) (by omega)]; simp
theorem seenB_t {c : UInt8} (h : 33 ≤ c.toNat ∧ c.toNat ≤ 126) : seenB c = true := by
  unfold seenB
  rw [decide_eq_true h.1, decide_eq_true h.2]; rfl
def keyOK (s : ByteArray) : Bool := decide (1 ≤ s.size) && decide (s.size ≤ 200) && allB seenB s

theorem metaKey_any (s : ByteArray) (w : World) :
    Calls Tryz.prog 137 #[.string s] w fun e w' => e = .returned (.bool (keyOK s)) ∧ w = w' := by
  by_cases h1 : s.size < 1
  · go_enter Tryz.func137, Tryz.ntmps137
    go_wp2
    go_ret
    exact ⟨ret_bool (by simp [keyOK]; omega), rfl⟩
  by_cases h2 : 200 < s.size
  · go_enter Tryz.func137, Tryz.ntmps137
    go_wp2
    go_ret
    exact ⟨ret_bool (by simp [keyOK]; omega), rfl⟩
  go_enter Tryz.func137, Tryz.ntmps137
  go_wp2
  go_loop [14] (fun i => ∃ k : Nat, k ≤ s.size ∧ i = .int .i64 k ∧ upB seenB s k) (fun i => s.size - (intOf i).toNat)
  case atStart => exact ⟨0, Nat.zero_le _, rfl, upB_zero _ _⟩
  case round =>
    obtain ⟨k, hk, rfl, hall⟩ := hrel
    by_cases hlt : k < s.size
    · go_wp2
      case roundEnd =>
        refine ⟨⟨k + 1, by omega, by go_num, upB_succ hall hlt (seenB_t (by omega))⟩, by simp [intOf]; omega⟩
      all_goals
        go_ret
        refine ⟨ret_bool ?_, rfl⟩
        simp only [keyOK]
        rw [allB_false hlt (seenB_f (by omega))]; simp
    · go_wp2
      go_ret
      refine ⟨ret_bool ?_, rfl⟩
      simp only [keyOK]
      rw [upB_all hall hlt]; simp; omega

def slashed (s : ByteArray) : Bool := if h : 0 < s.size then s[0].toNat == 47 else false
theorem slashed_eq {s : ByteArray} (h : 0 < s.size) : slashed s = (s[0].toNat == 47) := by
  unfold slashed
  rw [dif_pos h]
def objOK (s : ByteArray) : Bool := decide (1 ≤ s.size) && decide (s.size ≤ 200) && slashed s && allB seenB s

theorem headObject_any (s : ByteArray) (w : World) :
    Calls Tryz.prog 79 #[.string s] w fun e w' => e = .returned (.bool (objOK s)) ∧ w = w' := by
  by_cases h1 : s.size < 1
  · go_enter Tryz.func79, Tryz.ntmps79
    go_wp2
    go_ret
    exact ⟨ret_bool (by simp [objOK]; omega), rfl⟩
  by_cases h2 : 200 < s.size
  · go_enter Tryz.func79, Tryz.ntmps79
    go_wp2
    go_ret
    exact ⟨ret_bool (by simp [objOK]; omega), rfl⟩
  have h0 : 0 < s.size := by omega
  have hsl := slashed_eq h0
  have HS := Lib.hid hsl
  clear hsl
  by_cases h3 : ((s[0].toNat : Int) == 47) = false
  · have h3' : ((s[0].toNat : Int) != 47) = true := by simpa using h3
    go_enter Tryz.func79, Tryz.ntmps79
    go_wp2
    go_ret
    refine ⟨ret_bool ?_, rfl⟩
    simp only [objOK, HS.out]
    rw [show (s[0].toNat == 47) = false by simp at h3; simp; omega]; simp
  have h3 : ((s[0].toNat : Int) == 47) = true := by simpa using h3
  have h3' : ((s[0].toNat : Int) != 47) = false := by simpa using h3
  go_enter Tryz.func79, Tryz.ntmps79
  go_wp2
  go_loop [19] (fun i => ∃ k : Nat, k ≤ s.size ∧ i = .int .i64 k ∧ upB seenB s k) (fun i => s.size - (intOf i).toNat)
  case atStart => exact ⟨0, Nat.zero_le _, rfl, upB_zero _ _⟩
  case round =>
    obtain ⟨k, hk, rfl, hall⟩ := hrel
    by_cases hlt : k < s.size
    · go_wp2
      case roundEnd =>
        refine ⟨⟨k + 1, by omega, by go_num, upB_succ hall hlt (seenB_t (by omega))⟩, by simp [intOf]; omega⟩
      all_goals
        go_ret
        refine ⟨ret_bool ?_, rfl⟩
        simp only [objOK]
        rw [allB_false hlt (seenB_f (by omega))]; simp
    · go_wp2
      go_ret
      refine ⟨ret_bool ?_, rfl⟩
      simp only [objOK, HS.out]
      rw [upB_all hall hlt, show (s[0].toNat == 47) = true by simp at h3; simp; omega]; simp; omega

end Go.Proofs.YtoaiamgcegnjjaaGreatDoor
