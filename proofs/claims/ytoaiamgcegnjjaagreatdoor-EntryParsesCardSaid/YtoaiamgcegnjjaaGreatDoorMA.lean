/- Plain words on bytes and the contracts of the small functions that only look at numbers and strings (tags, keys, tenants, objects). No condition. Slices that are read, and the contracts of the functions on tags, keys and Metas that only look. No condition. The contract of meta.Right, and of what is asked of two tags or Metas. No condition. The contracts of what is asked of two tags or Metas, of ticks, and of small structs. No condition. -/
import Derived.Test.YtoaiamgcegnjjaaGreatDoorProg
import Derived.WalkKit
import Derived.WalkSpells
import Derived.WalkLawsBesides
import Derived.Lib.Hide
import Derived.Deep.DeepCutAuto
namespace Go.Proofs.YtoaiamgcegnjjaaGreatDoor
open Go.RowKit
set_option maxRecDepth 100000

theorem ret_bool {a b : Bool} (h : a = b) : Ending.returned (.bool a) = .returned (.bool b) := by rw [h]
theorem ret_int {k : IntKind} {a b : Int} (h : a = b) : Ending.returned (.int k a) = .returned (.int k b) := by rw [h]

/-- every byte passes -/
def allB (p : UInt8 → Bool) (s : ByteArray) : Bool := s.data.toList.all p
theorem allB_false {p : UInt8 → Bool} {s : ByteArray} {k : Nat} (hk : k < s.size) (h : p s[k] = false) : allB p s = false := by
  unfold allB
  rw [List.all_eq_false]
  refine ⟨s.data.toList[k]'(by simpa using hk), List.getElem_mem _, ?_⟩
  have : s.data.toList[k]'(by simpa using hk) = s[k] := rfl
  rw [this, h]; simp
theorem allB_true {p : UInt8 → Bool} {s : ByteArray} (h : ∀ j (hj : j < s.size), p s[j] = true) : allB p s = true := by
  unfold allB
  rw [List.all_eq_true]
  intro x hx
  obtain ⟨j, hj, rfl⟩ := List.mem_iff_getElem.1 hx
  exact h j (by simpa using hj)

/-- the first k bytes pass -/
def upB (p : UInt8 → Bool) (s : ByteArray) (k : Nat) : Prop := ∀ j (hj : j < s.size), j < k → p s[j] = true
theorem upB_zero (p : UInt8 → Bool) (s : ByteArray) : upB p s 0 := fun _ _ h => absurd h (by omega)
theorem upB_succ {p : UInt8 → Bool} {s : ByteArray} {k : Nat} (h : upB p s k) (hk : k < s.size) (hp : p s[k] = true) : upB p s (k + 1) := fun j hj hjk => by
  by_cases hjk' : j < k
  · exact h j hj hjk'
  · obtain rfl : j = k := by omega
    exact hp
theorem upB_all {p : UInt8 → Bool} {s : ByteArray} {k : Nat} (h : upB p s k) (hk : ¬ k < s.size) : allB p s = true := allB_true fun j hj => h j hj (by omega)

def tagB (c : UInt8) : Bool := decide (33 ≤ c.toNat) && !(c.toNat == 34) && decide (c.toNat ≤ 126)
theorem tagB_f {c : UInt8} (h : c.toNat < 33 ∨ c.toNat = 34 ∨ 126 < c.toNat) : tagB c = false := by
  unfold tagB
  rcases h with h | h | h
  · rw [decide_eq_false (by omega)]; rfl
  · rw [h]; rfl
  · rw [decide_eq_false (p := c.toNat ≤ 126) (by omega)]; simp
theorem tagB_t {c : UInt8} (h : 33 ≤ c.toNat ∧ c.toNat ≠ 34 ∧ c.toNat ≤ 126) : tagB c = true := by
  unfold tagB
  rw [decide_eq_true h.1, decide_eq_true h.2.2, beq_eq_false_iff_ne.2 h.2.1]; rfl
def tagOK (s : ByteArray) : Bool := decide (1 ≤ s.size) && decide (s.size ≤ 100) && allB tagB s

theorem tagRight_any (s : ByteArray) (wk : Bool) (w : World) :
    Calls Tryz.prog 134 #[.agg #[.string s, .bool wk]] w fun e w' => e = .returned (.bool (tagOK s)) ∧ Below w.heap.size w w' := by
  by_cases h1 : s.size < 1
  · go_enter Tryz.func134, Tryz.ntmps134
    go_wp2
    go_ret
    exact ⟨ret_bool (by simp [tagOK]; omega), (Below.refl _ _).alloc (Nat.le_refl _) _⟩
  by_cases h2 : 100 < s.size
  · go_enter Tryz.func134, Tryz.ntmps134
    go_wp2
    go_ret
    exact ⟨ret_bool (by simp [tagOK]; omega), (Below.refl _ _).alloc (Nat.le_refl _) _⟩
  go_enter Tryz.func134, Tryz.ntmps134
  go_wp2
  go_loop [18] (fun i => ∃ k : Nat, k ≤ s.size ∧ i = .int .i64 k ∧ upB tagB s k) (fun i => s.size - (intOf i).toNat)
  case atStart => exact ⟨0, Nat.zero_le _, rfl, upB_zero _ _⟩
  case round =>
    obtain ⟨k, hk, rfl, hall⟩ := hrel
    by_cases hlt : k < s.size
    · go_wp2
      case roundEnd =>
        refine ⟨⟨k + 1, by omega, by go_num, upB_succ hall hlt (tagB_t (by omega))⟩, by simp [intOf]; omega⟩
      all_goals
        go_ret
        refine ⟨ret_bool ?_, (Below.refl _ _).alloc (Nat.le_refl _) _⟩
        simp only [tagOK]
        (try simp only [beq_iff_eq] at *); rw [allB_false hlt (tagB_f (by omega))]; simp
    · go_wp2
      go_ret
      refine ⟨ret_bool ?_, (Below.refl _ _).alloc (Nat.le_refl _) _⟩
      simp only [tagOK]
      rw [upB_all hall hlt]; simp; omega

theorem ticks_any (n : Int) (w : World) :
    Calls Tryz.prog 135 #[.int .i64 n] w fun e w' => e = .returned (.bool (decide (0 ≤ n) && decide (n ≤ 1099511627776))) ∧ w = w' := by
  go_enter Tryz.func135, Tryz.ntmps135
  go_wp2
  all_goals (go_ret; refine ⟨ret_bool ?_, rfl⟩; rw [Bool.eq_iff_iff]; simp; omega)

theorem number_any (n : Int) (w : World) :
    Calls Tryz.prog 81 #[.int .i64 n] w fun e w' => e = .returned (.bool (decide (0 ≤ n) && decide (n ≤ 1099511627776))) ∧ w = w' := by
  go_enter Tryz.func81, Tryz.ntmps81
  go_wp2
  all_goals (go_ret; refine ⟨ret_bool ?_, rfl⟩; rw [Bool.eq_iff_iff]; simp; omega)

/-- a byte that is seen: from 33 to 126 -/
def seenB (c : UInt8) : Bool := decide (33 ≤ c.toNat) && decide (c.toNat ≤ 126)
theorem seenB_f {c : UInt8} (h : c.toNat < 33 ∨ 126 < c.toNat) : seenB c = false := by
  unfold seenB
  rcases h with h | h
  · rw [decide_eq_false (by omega)]; rfl
  · rw [decide_eq_false (p := c.toNat ≤ 126) (by omega)]; simp
theorem seenB_t {c : UInt8} (h : 33 ≤ c.toNat ∧ c.toNat ≤ 126) : seenB c = true := by
  unfold seenB
  rw [decide_eq_true h.1, decide_eq_true h.2]; rfl
def keyOK (s : ByteArray) : Bool := decide (1 ≤ s.size) && decide (s.size ≤ 200) && allB seenB s

theorem metaKey_any (s : ByteArray) (w : World) :
    Calls Tryz.prog 137 #[.string s] w fun e w' => e = .returned (.bool (keyOK s)) ∧ w = w' := by
  by_cases h1 : s.size < 1
  · go_enter Tryz.func137, Tryz.ntmps137
    go_wp2
    go_ret
    exact ⟨ret_bool (by simp [keyOK]; omega), rfl⟩
  by_cases h2 : 200 < s.size
  · go_enter Tryz.func137, Tryz.ntmps137
    go_wp2
    go_ret
    exact ⟨ret_bool (by simp [keyOK]; omega), rfl⟩
  go_enter Tryz.func137, Tryz.ntmps137
  go_wp2
  go_loop [14] (fun i => ∃ k : Nat, k ≤ s.size ∧ i = .int .i64 k ∧ upB seenB s k) (fun i => s.size - (intOf i).toNat)
  case atStart => exact ⟨0, Nat.zero_le _, rfl, upB_zero _ _⟩
  case round =>
    obtain ⟨k, hk, rfl, hall⟩ := hrel
    by_cases hlt : k < s.size
    · go_wp2
      case roundEnd =>
        refine ⟨⟨k + 1, by omega, by go_num, upB_succ hall hlt (seenB_t (by omega))⟩, by simp [intOf]; omega⟩
      all_goals
        go_ret
        refine ⟨ret_bool ?_, rfl⟩
        simp only [keyOK]
        rw [allB_false hlt (seenB_f (by omega))]; simp
    · go_wp2
      go_ret
      refine ⟨ret_bool ?_, rfl⟩
      simp only [keyOK]
      rw [upB_all hall hlt]; simp; omega

def slashed (s : ByteArray) : Bool := if h : 0 < s.size then s[0].toNat == 47 else false
theorem slashed_eq {s : ByteArray} (h : 0 < s.size) : slashed s = (s[0].toNat == 47) := by
  unfold slashed
  rw [dif_pos h]
def objOK (s : ByteArray) : Bool := decide (1 ≤ s.size) && decide (s.size ≤ 200) && slashed s && allB seenB s

theorem headObject_any (s : ByteArray) (w : World) :
    Calls Tryz.prog 79 #[.string s] w fun e w' => e = .returned (.bool (objOK s)) ∧ w = w' := by
  by_cases h1 : s.size < 1
  · go_enter Tryz.func79, Tryz.ntmps79
    go_wp2
    go_ret
    exact ⟨ret_bool (by simp [objOK]; omega), rfl⟩
  by_cases h2 : 200 < s.size
  · go_enter Tryz.func79, Tryz.ntmps79
    go_wp2
    go_ret
    exact ⟨ret_bool (by simp [objOK]; omega), rfl⟩
  have h0 : 0 < s.size := by omega
  have hsl := slashed_eq h0
  have HS := Lib.hid hsl
  clear hsl
  by_cases h3 : ((s[0].toNat : Int) == 47) = false
  · have h3' : ((s[0].toNat : Int) != 47) = true := by simpa using h3
    go_enter Tryz.func79, Tryz.ntmps79
    go_wp2
    go_ret
    refine ⟨ret_bool ?_, rfl⟩
    simp only [objOK, HS.out]
    rw [show (s[0].toNat == 47) = false by simp at h3; simp; omega]; simp
  have h3 : ((s[0].toNat : Int) == 47) = true := by simpa using h3
  have h3' : ((s[0].toNat : Int) != 47) = false := by simpa using h3
  go_enter Tryz.func79, Tryz.ntmps79
  go_wp2
  go_loop [19] (fun i => ∃ k : Nat, k ≤ s.size ∧ i = .int .i64 k ∧ upB seenB s k) (fun i => s.size - (intOf i).toNat)
  case atStart => exact ⟨0, Nat.zero_le _, rfl, upB_zero _ _⟩
  case round =>
    obtain ⟨k, hk, rfl, hall⟩ := hrel
    by_cases hlt : k < s.size
    · go_wp2
      case roundEnd =>
        refine ⟨⟨k + 1, by omega, by go_num, upB_succ hall hlt (seenB_t (by omega))⟩, by simp [intOf]; omega⟩
      all_goals
        go_ret
        refine ⟨ret_bool ?_, rfl⟩
        simp only [objOK]
        rw [allB_false hlt (seenB_f (by omega))]; simp
    · go_wp2
      go_ret
      refine ⟨ret_bool ?_, rfl⟩
      simp only [objOK, HS.out]
      rw [upB_all hall hlt, show (s[0].toNat == 47) = true by simp at h3; simp; omega]; simp; omega

end Go.Proofs.YtoaiamgcegnjjaaGreatDoor
namespace Go.Proofs.YtoaiamgcegnjjaaGreatDoor
open Go.RowKit
set_option maxRecDepth 100000

/-- A slice of n elements of sz cells each that reads as the cells xs, and lies below block B. -/
def Rd (w : World) (B sz : Nat) (A : Option Addr) (n : Nat) (xs : List Value) : Prop :=
  xs.length = n * sz ∧ (0 < n → ∃ b o, A = some ⟨b, o, none⟩ ∧ b < B ∧ ∀ j (hj : j < xs.length), w.cell? ⟨b, o + j, none⟩ = some xs[j])

theorem Rd.keep {w w' : World} {B B' sz n : Nat} {A : Option Addr} {xs : List Value} (h : Rd w B sz A n xs) (hB : B ≤ B') (hk : ∀ p : Addr, p.block < B → w'.cell? p = w.cell? p) : Rd w' B' sz A n xs := by
  refine ⟨h.1, fun hn => ?_⟩
  obtain ⟨b, o, e, hb, hc⟩ := h.2 hn
  exact ⟨b, o, e, by omega, fun j hj => (hk _ hb).trans (hc j hj)⟩
theorem Rd.below {w w' : World} {B B' sz n : Nat} {A : Option Addr} {xs : List Value} (h : Rd w B sz A n xs) (hb : Below B w w') (hB : B ≤ B') : Rd w' B' sz A n xs :=
  h.keep hB fun _ hp => hb.cell hp
theorem Rd.nil {w : World} {B sz : Nat} {A : Option Addr} : Rd w B sz A 0 [] := ⟨by simp, fun h => absurd h (by omega)⟩
theorem Rd.take {w : World} {B n : Nat} {A : Option Addr} {xs : List Value} (h : Rd w B 1 A n xs) {k : Nat} (hk : k ≤ n) : Rd w B 1 A k (xs.take k) := by
  refine ⟨by rw [List.length_take, h.1]; omega, fun hn => ?_⟩
  obtain ⟨b, o, e, hb, hc⟩ := h.2 (by omega)
  refine ⟨b, o, e, hb, fun j hj => ?_⟩
  rw [hc j (by rw [List.length_take] at hj; omega)]
  simp

/-- A slice of strings. -/
def Strs (w : World) (B : Nat) (A : Option Addr) (n : Nat) (ks : List ByteArray) : Prop := Rd w B 1 A n (ks.map Value.string)
theorem Strs.len {w : World} {B n : Nat} {A : Option Addr} {ks : List ByteArray} (h : Strs w B A n ks) : ks.length = n := by
  have := h.1; simpa using this
theorem Strs.at_ {w : World} {B n : Nat} {A : Option Addr} {ks : List ByteArray} (h : Strs w B A n ks) (hn : 0 < n) : ∃ b o, A = some ⟨b, o, none⟩ ∧ b < B ∧ ∀ j (hj : j < ks.length), w.cell? ⟨b, o + j, none⟩ = some (.string ks[j]) := by
  obtain ⟨b, o, e, hb, hc⟩ := h.2 hn
  refine ⟨b, o, e, hb, fun j hj => ?_⟩
  rw [hc j (by simpa using hj)]; simp
theorem Strs.below {w w' : World} {B B' n : Nat} {A : Option Addr} {ks : List ByteArray} (h : Strs w B A n ks) (hb : Below B w w') (hB : B ≤ B') : Strs w' B' A n ks := Rd.below h hb hB
theorem Strs.take {w : World} {B n : Nat} {A : Option Addr} {ks : List ByteArray} (h : Strs w B A n ks) {k : Nat} (hk : k ≤ n) : Strs w B A k (ks.take k) := by
  have := Rd.take h hk
  rw [← List.map_take] at this
  exact this

theorem bytes_beq (a b : ByteArray) : (a.toList == b.toList) = decide (a = b) := by
  rw [ByteArray.toList_eq, ByteArray.toList_eq, Bool.eq_iff_iff, beq_iff_eq, decide_eq_true_iff]
  constructor
  · intro h; cases a; cases b; simp at h; simp [h]
  · intro h; rw [h]

/-- is a string one of a list? -/
def inB (ks : List ByteArray) (s : ByteArray) : Bool := ks.any fun x => decide (s = x)
theorem inB_snoc (ks : List ByteArray) (x s : ByteArray) : inB (ks ++ [x]) s = (inB ks s || decide (s = x)) := by simp [inB]
theorem inB_of_take {ks : List ByteArray} {s : ByteArray} {k : Nat} (h : k < ks.length) (he : s = ks[k]) : inB ks s = true := by
  unfold inB
  rw [List.any_eq_true]
  exact ⟨ks[k], List.getElem_mem _, by simp [he]⟩

theorem slicesIndex_any (A : Option Addr) (n c : Nat) (ks : List ByteArray) (s : ByteArray) (B : Nat) (w : World) (hr : Strs w B A n ks) (hn : n ≤ 9223372036854775807) :
    Calls Tryz.prog 183 #[.slice A n c, .string s] w fun e w' => (∃ i : Int, e = .returned (.int .i64 i) ∧ (decide (0 ≤ i) = inB ks s)) ∧ w = w' := by
  have hl := hr.len
  by_cases h0 : n = 0
  · subst h0
    have : ks = [] := List.eq_nil_of_length_eq_zero hl
    subst this
    clear hr hl
    go_enter Tryz.func183, Tryz.ntmps183
    go_wp2
    go_loop [8] (fun i => i = .int .i64 0) (fun _ => 0)
    case atStart => rfl
    case round =>
      subst hrel
      go_wp2
      go_ret
      exact ⟨⟨_, rfl, rfl⟩, rfl⟩
  obtain ⟨b, o, rfl, _, hc⟩ := hr.at_ (by omega)
  have HC := Lib.hid hc
  have HL := Lib.hid hl
  clear hc hr hl
  go_enter Tryz.func183, Tryz.ntmps183
  go_wp2
  go_loop [8] (fun i => ∃ k : Nat, k ≤ n ∧ i = .int .i64 k ∧ inB (ks.take k) s = false) (fun i => n - (intOf i).toNat)
  case atStart => exact ⟨0, Nat.zero_le _, rfl, by simp [inB]⟩
  case round =>
    obtain ⟨k, hk, rfl, hin⟩ := hrel
    have HI := Lib.hid hin
    clear hin
    by_cases hlt : k < n
    · have hk' : k < ks.length := by have := HL.out; omega
      have hcell := HC.out k hk'
      have hsn : ks.take (k + 1) = ks.take k ++ [ks[k]] := by rw [List.take_succ_eq_append_getElem hk']
      have HSN := Lib.hid hsn
      clear hsn
      by_cases he : (s.toList == ks[k].toList) = true
      · go_wp2
        go_ret
        refine ⟨⟨k, rfl, ?_⟩, rfl⟩
        rw [bytes_beq] at he
        rw [inB_of_take hk' (of_decide_eq_true he)]
        simp
      · have he : (s.toList == ks[k].toList) = false := by simpa using he
        go_wp2
        refine ⟨⟨k + 1, by omega, by go_num, ?_⟩, by simp [intOf]; omega⟩
        rw [HSN.out, inB_snoc, HI.out, ← bytes_beq, he]; rfl
    · go_wp2
      go_ret
      refine ⟨⟨_, rfl, ?_⟩, rfl⟩
      have := HI.out
      rw [List.take_of_length_le (by have := HL.out; omega)] at this
      rw [this]; rfl

theorem slicesContains_any (A : Option Addr) (n c : Nat) (ks : List ByteArray) (s : ByteArray) (B : Nat) (w : World) (hr : Strs w B A n ks) (hn : n ≤ 9223372036854775807) :
    Calls Tryz.prog 138 #[.slice A n c, .string s] w fun e w' => e = .returned (.bool (inB ks s)) ∧ w = w' := by
  have H := Lib.hid hr
  clear hr
  go_enter Tryz.func138, Tryz.ntmps138
  go_wp2_with fail
  refine (slicesIndex_any A n c ks s B _ H.out hn).mono ?_
  rintro e w' ⟨⟨i, rfl, hi⟩, rfl⟩
  have HI := Lib.hid hi
  clear hi
  go_wp2
  go_ret
  exact ⟨ret_bool HI.out, rfl⟩

def preB (s p : ByteArray) : Bool := decide (p.size ≤ s.size) && decide (s.extract 0 p.size = p)

theorem hasPrefix_lite (s p : ByteArray) (w : World) :
    Calls Tryz.prog 199 #[.string s, .string p] w fun e w' => e = .returned (.bool (preB s p)) ∧ w = w' := by
  by_cases h : p.size ≤ s.size
  · go_enter Tryz.func199, Tryz.ntmps199
    go_wp2
    go_ret
    refine ⟨ret_bool ?_, rfl⟩
    rw [bytes_beq, preB, decide_eq_true h]; rfl
  · go_enter Tryz.func199, Tryz.ntmps199
    go_wp2
    go_ret
    refine ⟨ret_bool ?_, rfl⟩
    rw [preB, decide_eq_false h]; rfl

theorem hasPrefix_any (s p : ByteArray) (w : World) :
    Calls Tryz.prog 156 #[.string s, .string p] w fun e w' => e = .returned (.bool (preB s p)) ∧ w = w' := by
  go_enter Tryz.func156, Tryz.ntmps156
  go_wp2_with fail
  refine (hasPrefix_lite s p _).mono ?_
  rintro e w' ⟨rfl, rfl⟩
  go_wp2
  go_ret
  exact ⟨rfl, rfl⟩

/-- a byte of a tenant's name -/
def tenB (c : UInt8) : Bool := (decide (97 ≤ c.toNat) && decide (c.toNat ≤ 122)) || (decide (65 ≤ c.toNat) && decide (c.toNat ≤ 90)) || (decide (48 ≤ c.toNat) && decide (c.toNat ≤ 57)) || c.toNat == 45 || c.toNat == 95
theorem tenB_t {c : UInt8} (h : (97 ≤ c.toNat ∧ c.toNat ≤ 122) ∨ (65 ≤ c.toNat ∧ c.toNat ≤ 90) ∨ (48 ≤ c.toNat ∧ c.toNat ≤ 57) ∨ c.toNat = 45 ∨ c.toNat = 95) : tenB c = true := by
  unfold tenB
  rw [Bool.eq_iff_iff]; simp; omega
theorem tenB_f {c : UInt8} (h : ¬ ((97 ≤ c.toNat ∧ c.toNat ≤ 122) ∨ (65 ≤ c.toNat ∧ c.toNat ≤ 90) ∨ (48 ≤ c.toNat ∧ c.toNat ≤ 57) ∨ c.toNat = 45 ∨ c.toNat = 95)) : tenB c = false := by
  unfold tenB
  rw [← Bool.not_eq_true]
  intro hx; apply h; simp at hx; omega
def dash : ByteArray := ⟨#[45]⟩
def tenOK (s : ByteArray) : Bool := decide (s.size ≤ 40) && !(preB s dash) && allB tenB s

theorem tenant_any (s : ByteArray) (w : World) :
    Calls Tryz.prog 136 #[.string s] w fun e w' => e = .returned (.bool (tenOK s)) ∧ w = w' := by
  by_cases h1 : 40 < s.size
  · go_enter Tryz.func136, Tryz.ntmps136
    go_wp2
    go_ret
    exact ⟨ret_bool (by simp [tenOK]; omega), rfl⟩
  by_cases h2 : preB s dash = true
  · have H := Lib.hid h2
    clear h2
    go_enter Tryz.func136, Tryz.ntmps136
    go_wp2_with fail
    refine (hasPrefix_any s dash _).mono ?_
    rintro e w' ⟨rfl, rfl⟩
    rw [H.out]
    go_wp2
    go_ret
    exact ⟨ret_bool (by simp [tenOK, H.out]), rfl⟩
  have H := Lib.hid ((Bool.not_eq_true _).mp h2)
  clear h2
  go_enter Tryz.func136, Tryz.ntmps136
  go_wp2_with fail
  refine (hasPrefix_any s dash _).mono ?_
  rintro e w' ⟨rfl, rfl⟩
  rw [H.out]
  go_wp2
  go_loop [15] (fun i => ∃ k : Nat, k ≤ s.size ∧ i = .int .i64 k ∧ upB tenB s k) (fun i => s.size - (intOf i).toNat)
  case atStart => exact ⟨0, Nat.zero_le _, rfl, upB_zero _ _⟩
  case round =>
    obtain ⟨k, hk, rfl, hall⟩ := hrel
    by_cases hlt : k < s.size
    · go_wp2
      all_goals (try simp only [Bool.not_eq_true', Bool.not_eq_false', decide_eq_true_eq, decide_eq_false_iff_not, bne_iff_ne, ne_eq, bne_eq_false_iff_eq] at *)
      all_goals first
        | (refine ⟨⟨k + 1, by omega, by go_num, upB_succ hall hlt (tenB_t (by omega))⟩, by simp [intOf]; omega⟩)
        | (go_ret; refine ⟨ret_bool ?_, rfl⟩; simp only [tenOK]; rw [allB_false hlt (tenB_f (by omega))]; simp)
    · go_wp2
      go_ret
      refine ⟨ret_bool ?_, rfl⟩
      simp only [tenOK]
      rw [upB_all hall hlt, H.out]; simp; omega

end Go.Proofs.YtoaiamgcegnjjaaGreatDoor
namespace Go.Proofs.YtoaiamgcegnjjaaGreatDoor
open Go.RowKit
set_option maxRecDepth 100000

theorem bcell {W w1 : World} (hb : Below W.heap.size W w1) : (∀ b o, b < W.heap.size → w1.cell? ⟨b, o, none⟩ = W.cell? ⟨b, o, none⟩) ∧ (∀ b o, b < W.heap.size → w1.frozen? ⟨b, o, none⟩ = W.frozen? ⟨b, o, none⟩) :=
  ⟨fun b o h => hb.cell (p := ⟨b, o, none⟩) h, fun b o h => hb.frozen (p := ⟨b, o, none⟩) h⟩

def tagNone (t : ByteArray) (wk : Bool) : Bool := t.toList.isEmpty && !wk
def tick0 (n : Int) : Bool := decide (0 ≤ n) && decide (n ≤ 1099511627776)
theorem ticks0 (n : Int) (w : World) : Calls Tryz.prog 135 #[.int .i64 n] w fun e w' => e = .returned (.bool (tick0 n)) ∧ w = w' := ticks_any n w
theorem number0 (n : Int) (w : World) : Calls Tryz.prog 81 #[.int .i64 n] w fun e w' => e = .returned (.bool (tick0 n)) ∧ w = w' := number_any n w
/-- the first k keys may be -/
def keysUp (ks : List ByteArray) : Nat → Bool
  | 0 => true
  | k + 1 => keysUp ks k && (match ks[k]? with | some x => keyOK x && !inB (ks.take k) x | none => true)
def keysOK (ks : List ByteArray) : Bool := keysUp ks ks.length
theorem keysUp_mono {ks : List ByteArray} {k m : Nat} (h : keysUp ks k = false) (hm : k ≤ m) : keysUp ks m = false := by
  induction m with
  | zero => obtain rfl : k = 0 := by omega
            exact h
  | succ m ih =>
    by_cases hk : k ≤ m
    · simp [keysUp, ih hk]
    · obtain rfl : k = m + 1 := by omega
      exact h
theorem keysUp_succ {ks : List ByteArray} {k : Nat} (hk : k < ks.length) : keysUp ks (k + 1) = (keysUp ks k && (keyOK ks[k] && !inB (ks.take k) ks[k])) := by
  simp [keysUp, List.getElem?_eq_getElem hk]
def numsA (mo le : Int) : Bool := decide (-1 ≤ mo ∧ mo ≤ 253402300799 ∧ -1 ≤ le ∧ le ≤ 1099511627776)
def numsB (le ha : Int) : Bool := decide (0 ≤ ha ∧ ha ≤ 1099511627776 ∧ (le = -1 ∨ ha = le))
def metaOK (t : ByteArray) (wk : Bool) (mo le ha fr wh er : Int) (ks : List ByteArray) (ten : ByteArray) : Bool :=
  (tagNone t wk || tagOK t) && numsA mo le && numsB le ha && tick0 fr && tick0 wh && tick0 er && decide (ks.length ≤ 32) && tenOK ten && keysOK ks

/-- A block known whole. -/
def Blk (w : World) (g : Nat) (t : TypeId) (cs : Array Value) : Prop := w.heap[g]? = some (.cells cs t (0, 0))
theorem Blk.lt {w : World} {g : Nat} {t : TypeId} {cs : Array Value} (h : Blk w g t cs) : g < w.heap.size := (Array.getElem?_eq_some_iff.1 h).1
theorem Blk.cell {w : World} {g : Nat} {t : TypeId} {cs : Array Value} (h : Blk w g t cs) (i : Nat) : w.cell? ⟨g, i, none⟩ = cs[i]? := cell_of_row w g i cs t (0, 0) h
theorem Blk.free {w : World} {g : Nat} {t : TypeId} {cs : Array Value} (h : Blk w g t cs) (i : Nat) : w.frozen? ⟨g, i, none⟩ = false := by
  unfold Blk at h; simp [World.frozen?, h]
theorem Blk.new (w : World) (t : TypeId) (cs : Array Value) : Blk (w.alloc (.cells cs t)) w.heap.size t cs := heap_alloc_new w _
theorem Blk.below {w w' : World} {g B : Nat} {t : TypeId} {cs : Array Value} (h : Blk w g t cs) (hb : Below B w w') (hg : g < B) : Blk w' g t cs := (hb.block g hg).trans h

/-- the cells of a Meta -/
abbrev metaC (t : ByteArray) (wk : Bool) (mo le ha fr wh er : Int) (A : Option Addr) (n c : Nat) (ten : ByteArray) (kp : Bool) : Array Value :=
  #[.string t, .bool wk, .int .i64 mo, .int .i64 le, .int .i64 ha, .int .i64 fr, .int .i64 wh, .int .i64 er, .slice A n c, .string ten, .bool kp]

theorem metaCells {w : World} {g : Nat} {ty : TypeId} {t : ByteArray} {wk : Bool} {mo le ha fr wh er : Int} {A : Option Addr} {n c : Nat} {ten : ByteArray} {kp : Bool} (h : Blk w g ty (metaC t wk mo le ha fr wh er A n c ten kp)) :
    w.cell? ⟨g, 0, none⟩ = some (.string t) ∧ w.cell? ⟨g, 1, none⟩ = some (.bool wk) ∧ w.cell? ⟨g, 2, none⟩ = some (.int .i64 mo) ∧ w.cell? ⟨g, 3, none⟩ = some (.int .i64 le) ∧ w.cell? ⟨g, 4, none⟩ = some (.int .i64 ha) ∧
    w.cell? ⟨g, 5, none⟩ = some (.int .i64 fr) ∧ w.cell? ⟨g, 6, none⟩ = some (.int .i64 wh) ∧ w.cell? ⟨g, 7, none⟩ = some (.int .i64 er) ∧ w.cell? ⟨g, 8, none⟩ = some (.slice A n c) ∧ w.cell? ⟨g, 9, none⟩ = some (.string ten) ∧ w.cell? ⟨g, 10, none⟩ = some (.bool kp) := by
  refine ⟨?_, ?_, ?_, ?_, ?_, ?_, ?_, ?_, ?_, ?_, ?_⟩ <;> rw [h.cell] <;> rfl

set_option maxHeartbeats 1000000 in
theorem metaRight_any (t : ByteArray) (wk : Bool) (mo le ha fr wh er : Int) (A : Option Addr) (n c : Nat) (ten : ByteArray) (kp : Bool) (w : World) (ks : List ByteArray) (B : Nat)
    (hk : Strs w B A n ks) (hB : B ≤ w.heap.size) (hn : n ≤ 9223372036854775807) (hnc : n ≤ c) :
    Calls Tryz.prog 80 #[.agg (metaC t wk mo le ha fr wh er A n c ten kp)] w fun e w' => e = .returned (.bool (metaOK t wk mo le ha fr wh er ks ten)) ∧ Below w.heap.size w w' := by
  have HK := Lib.hid hk
  have hl := hk.len
  have HL := Lib.hid hl
  clear hk hl
  go_enter Tryz.func80, Tryz.ntmps80
  go_upto_region 1 with fail
  go_cut [14] (fun s wx => s = .bool (!(tagNone t wk || tagOK t)) ∧ Below w.heap.size w wx ∧ Blk wx w.heap.size 39 (metaC t wk mo le ha fr wh er A n c ten kp))
  case first =>
    have hb0 : Below w.heap.size w (w.alloc (.cells (metaC t wk mo le ha fr wh er A n c ten kp) 39)) := (Below.refl _ _).alloc (Nat.le_refl _) _
    have hk0 := Blk.new w 39 (metaC t wk mo le ha fr wh er A n c ten kp)
    have HB := Lib.hid hb0
    have HK0 := Lib.hid hk0
    clear hb0 hk0
    by_cases h1 : tagNone t wk = true
    · have h1' : t.toList = [] := by unfold tagNone at h1; simp at h1; exact h1.1
      have h2 : wk = false := by unfold tagNone at h1; simp at h1; exact h1.2
      have H1 := Lib.hid h1
      clear h1
      subst h2
      go_wp2_with fail
      go_meet
      refine ⟨?_, HB.out, HK0.out⟩
      rw [H1.out]; rfl
    · have h1 : tagNone t wk = false := by simpa using h1
      have H1 := Lib.hid h1
      by_cases he : t.toList = []
      · have h2 : wk = true := by unfold tagNone at h1; simp [he] at h1; exact h1
        clear h1
        subst h2
        go_wp2_with fail
        refine (tagRight_any _ _ _).mono ?_
        rintro e w' ⟨rfl, hb⟩
        have HB1 := Lib.hid hb
        clear hb
        go_wp2_with fail
        go_meet
        refine ⟨?_, HB.out.trans (HB1.out.mono (by simp)), HK0.out.below HB1.out (by simp)⟩
        rw [H1.out]; rfl
      · clear h1
        go_wp2_with fail
        refine (tagRight_any _ _ _).mono ?_
        rintro e w' ⟨rfl, hb⟩
        have HB1 := Lib.hid hb
        clear hb
        go_wp2_with fail
        go_meet
        refine ⟨?_, HB.out.trans (HB1.out.mono (by simp)), HK0.out.below HB1.out (by simp)⟩
        rw [H1.out]; rfl
  case rest =>
    obtain ⟨rfl, hbl, hbk⟩ := hcut
    obtain ⟨c0, c1, c2, c3, c4, c5, c6, c7, c8, c9, c10⟩ := metaCells hbk
    have HBL := Lib.hid hbl
    have HBK := Lib.hid hbk
    clear hbl hbk
    by_cases hT : (tagNone t wk || tagOK t) = true
    case neg =>
      have hT : (tagNone t wk || tagOK t) = false := by simpa using hT
      have HT := Lib.hid hT
      rw [hT]
      clear hT
      go_wp2_with fail
      go_ret
      exact ⟨ret_bool (by simp only [metaOK, HT.out]; rfl), HBL.out⟩
    have HT := Lib.hid hT
    rw [hT]
    clear hT
    by_cases hA : -1 ≤ mo ∧ mo ≤ 253402300799 ∧ -1 ≤ le ∧ le ≤ 1099511627776
    case neg =>
      have HA : Hid (numsA mo le = false) := (decide_eq_false hA : numsA mo le = false)
      go_wp2_with fail
      all_goals (go_ret; exact ⟨ret_bool (by simp only [metaOK, HA.out]; simp), HBL.out⟩)
    have HA : Hid (numsA mo le = true) := (decide_eq_true hA : numsA mo le = true)
    obtain ⟨a1, a2, a3, a4⟩ := hA
    by_cases hN : 0 ≤ ha ∧ ha ≤ 1099511627776 ∧ (le = -1 ∨ ha = le)
    case neg =>
      have HN : Hid (numsB le ha = false) := (decide_eq_false hN : numsB le ha = false)
      by_cases hle : le = -1
      · subst hle
        have hN' : ¬ (0 ≤ ha ∧ ha ≤ 1099511627776) := fun h => hN ⟨h.1, h.2, .inl rfl⟩
        clear hN
        go_wp2_with fail
        all_goals (go_ret; exact ⟨ret_bool (by simp only [metaOK, HN.out]; simp), HBL.out⟩)
      · have hN1 : 0 ≤ ha → ha ≤ 1099511627776 → ha ≠ le := fun h h' e => hN ⟨h, h', .inr e⟩
        have e1 : (le != -1) = true := by simpa using hle
        clear hN hle
        by_cases hx : 0 ≤ ha ∧ ha ≤ 1099511627776
        · have e2 : (ha != le) = true := by simpa using hN1 hx.1 hx.2
          obtain ⟨x1, x2⟩ := hx
          clear hN1
          go_wp2_with fail
          all_goals (go_ret; exact ⟨ret_bool (by simp only [metaOK, HN.out]; simp), HBL.out⟩)
        · clear hN1
          go_wp2_with fail
          all_goals (go_ret; exact ⟨ret_bool (by simp only [metaOK, HN.out]; simp), HBL.out⟩)
    have HN : Hid (numsB le ha = true) := (decide_eq_true hN : numsB le ha = true)
    go_upto_region 5 with fail
    go_cut [52] (fun s wx => s = .bool false ∧ wx = wc)
    case first =>
      obtain ⟨x1, x2, hx⟩ := hN
      by_cases hle : le = -1
      · subst hle
        clear hx
        go_wp2_with fail
        go_meet
        exact ⟨congrArg Value.bool (by simp; omega), rfl⟩
      · have e1 : (le != -1) = true := by simpa using hle
        have e2 : (ha != le) = false := by simp; rcases hx with h | h; exact absurd h hle; exact h
        clear hx hle
        go_wp2_with fail
        go_meet
        exact ⟨congrArg Value.bool (by simp; omega), rfl⟩
    case rest =>
      obtain ⟨rfl, rfl⟩ := hcut
      clear hN a1 a2 a3 a4
      by_cases hfr : tick0 fr = true
      case neg =>
        have hfr : tick0 fr = false := by simpa using hfr
        have HF := Lib.hid hfr
        clear hfr
        go_wp2_with fail
        refine (ticks0 _ _).mono ?_
        rintro e w' ⟨rfl, rfl⟩
        rw [HF.out]
        go_wp2_with fail
        go_ret
        exact ⟨ret_bool (by simp only [metaOK, HF.out]; simp), HBL.out⟩
      have HF := Lib.hid hfr
      clear hfr
      go_wp2_with fail
      refine (ticks0 _ _).mono ?_
      rintro e w' ⟨rfl, rfl⟩
      rw [HF.out]
      by_cases hwh : tick0 wh = true
      case neg =>
        have hwh : tick0 wh = false := by simpa using hwh
        have HW := Lib.hid hwh
        clear hwh
        go_wp2_with fail
        refine (ticks0 _ _).mono ?_
        rintro e w' ⟨rfl, rfl⟩
        rw [HW.out]
        go_wp2_with fail
        go_ret
        exact ⟨ret_bool (by simp only [metaOK, HW.out]; simp), HBL.out⟩
      have HW := Lib.hid hwh
      clear hwh
      go_wp2_with fail
      refine (ticks0 _ _).mono ?_
      rintro e w' ⟨rfl, rfl⟩
      rw [HW.out]
      by_cases her : tick0 er = true
      case neg =>
        have her : tick0 er = false := by simpa using her
        have HE := Lib.hid her
        clear her
        go_wp2_with fail
        refine (ticks0 _ _).mono ?_
        rintro e w' ⟨rfl, rfl⟩
        rw [HE.out]
        go_wp2_with fail
        go_ret
        exact ⟨ret_bool (by simp only [metaOK, HE.out]; simp), HBL.out⟩
      have HE := Lib.hid her
      clear her
      go_wp2_with fail
      refine (ticks0 _ _).mono ?_
      rintro e w' ⟨rfl, rfl⟩
      rw [HE.out]
      by_cases hl : 32 < n
      · go_wp2_with fail
        go_ret
        refine ⟨ret_bool ?_, HBL.out⟩
        have : decide (ks.length ≤ 32) = false := decide_eq_false (by have := HL.out; omega)
        simp only [metaOK, this]; simp
      have HLL : Hid (decide (ks.length ≤ 32) = true) := decide_eq_true (by have := HL.out; omega)
      by_cases hte : tenOK ten = true
      case neg =>
        have hte : tenOK ten = false := by simpa using hte
        have HTE := Lib.hid hte
        clear hte
        go_wp2_with fail
        refine (tenant_any _ _).mono ?_
        rintro e w' ⟨rfl, rfl⟩
        rw [HTE.out]
        go_wp2_with fail
        go_ret
        exact ⟨ret_bool (by simp only [metaOK, HTE.out]; simp), HBL.out⟩
      have HTE := Lib.hid hte
      clear hte
      go_wp2_with fail
      refine (tenant_any _ _).mono ?_
      rintro e w' ⟨rfl, rfl⟩
      rw [HTE.out]
      go_wp2_with fail
      have HALL : Hid (metaOK t wk mo le ha fr wh er ks ten = keysOK ks) := by
        show metaOK t wk mo le ha fr wh er ks ten = keysOK ks
        simp only [metaOK, HT.out, HA.out, HN.out, HF.out, HW.out, HE.out, HLL.out, HTE.out, Bool.true_and]
      clear HT HA HN HF HW HE HLL HTE
      have hs : Strs wc B A n ks := HK.out.below (HBL.out.mono hB) (Nat.le_refl _)
      have HS := Lib.hid hs
      clear hs
      by_cases h0 : n = 0
      · subst h0
        go_loop [84] (fun i => i = .int .i64 0) (fun _ => 0)
        case atStart => rfl
        case round =>
          subst hrel
          go_wp2_with fail
          go_ret
          refine ⟨ret_bool ?_, HBL.out⟩
          have : ks = [] := List.eq_nil_of_length_eq_zero HL.out
          rw [HALL.out, this]; rfl
      obtain ⟨b, o, rfl, _, hc⟩ := HS.out.at_ (by omega)
      have HC := Lib.hid hc
      clear hc
      go_loop [84] (fun i => ∃ k : Nat, k ≤ n ∧ i = .int .i64 k ∧ keysUp ks k = true) (fun i => n - (intOf i).toNat)
      case atStart => exact ⟨0, Nat.zero_le _, rfl, rfl⟩
      case round =>
        obtain ⟨k, hk, rfl, hup⟩ := hrel
        have HU := Lib.hid hup
        clear hup
        by_cases hlt : k < n
        · have hk' : k < ks.length := by have := HL.out; omega
          have hcell := HC.out k hk'
          have HSU := Lib.hid (keysUp_succ hk')
          by_cases hkey : keyOK ks[k] = true
          case neg =>
            have hkey : keyOK ks[k] = false := by simpa using hkey
            have HKY := Lib.hid hkey
            clear hkey
            go_wp2_with fail
            refine (metaKey_any _ _).mono ?_
            rintro e w' ⟨rfl, rfl⟩
            rw [HKY.out]
            go_wp2_with fail
            go_ret
            refine ⟨ret_bool ?_, HBL.out⟩
            rw [HALL.out]
            exact (keysUp_mono (k := k + 1) (by rw [HSU.out, HKY.out]; simp) (by omega)).symm
          have HKY := Lib.hid hkey
          clear hkey
          have hst : Strs wc B (some ⟨b, o, none⟩) k (ks.take k) := HS.out.take (by omega)
          have HST := Lib.hid hst
          clear hst
          by_cases hin : inB (ks.take k) ks[k] = true
          · have HIN := Lib.hid hin
            clear hin
            go_wp2_with fail
            refine (metaKey_any _ _).mono ?_
            rintro e w' ⟨rfl, rfl⟩
            rw [HKY.out]
            go_wp2_with fail
            refine (slicesContains_any _ _ _ _ _ _ _ HST.out (by omega)).mono ?_
            rintro e w' ⟨rfl, rfl⟩
            rw [HIN.out]
            go_wp2_with fail
            go_ret
            refine ⟨ret_bool ?_, HBL.out⟩
            rw [HALL.out]
            exact (keysUp_mono (k := k + 1) (by rw [HSU.out, HIN.out]; simp) (by omega)).symm
          · have HIN : Hid (inB (ks.take k) ks[k] = false) := by show inB (ks.take k) ks[k] = false; simpa using hin
            clear hin
            go_wp2_with fail
            refine (metaKey_any _ _).mono ?_
            rintro e w' ⟨rfl, rfl⟩
            rw [HKY.out]
            go_wp2_with fail
            refine (slicesContains_any _ _ _ _ _ _ _ HST.out (by omega)).mono ?_
            rintro e w' ⟨rfl, rfl⟩
            rw [HIN.out]
            go_wp2_with fail
            refine ⟨⟨k + 1, by omega, by go_num, ?_⟩, by simp [intOf]; omega⟩
            rw [HSU.out, HU.out, HKY.out, HIN.out]; rfl
        · go_wp2_with fail
          go_ret
          refine ⟨ret_bool ?_, HBL.out⟩
          rw [HALL.out, keysOK, ← HU.out]
          have := HL.out
          congr 1
          omega

end Go.Proofs.YtoaiamgcegnjjaaGreatDoor
namespace Go.Proofs.YtoaiamgcegnjjaaGreatDoor
open Go.RowKit
set_option maxRecDepth 100000

theorem metaJoins_any (t : ByteArray) (wk : Bool) (mo le ha fr wh er : Int) (A : Option Addr) (n c : Nat) (ten : ByteArray) (kp : Bool) (w : World) :
    Calls Tryz.prog 85 #[.agg (metaC t wk mo le ha fr wh er A n c ten kp)] w fun e w' => e = .returned (.bool (tagOK t && !wk)) ∧ Below w.heap.size w w' := by
  have hb0 : Below w.heap.size w (w.alloc (.cells (metaC t wk mo le ha fr wh er A n c ten kp) 39)) := (Below.refl _ _).alloc (Nat.le_refl _) _
  have hk0 := Blk.new w 39 (metaC t wk mo le ha fr wh er A n c ten kp)
  have HB := Lib.hid hb0
  have HK0 := Lib.hid hk0
  clear hb0 hk0
  go_enter Tryz.func85, Tryz.ntmps85
  go_wp2_with fail
  refine (tagRight_any _ _ _).mono ?_
  rintro e w' ⟨rfl, hb⟩
  obtain ⟨c0, c1, c2, c3, c4, c5, c6, c7, c8, c9, c10⟩ := metaCells (HK0.out.below hb (by simp))
  have HB1 := Lib.hid hb
  clear hb
  by_cases h : tagOK t = true
  · have H := Lib.hid h
    rw [h]
    clear h
    go_wp2_with fail
    go_ret
    exact ⟨ret_bool (by simp [H.out]), HB.out.trans (HB1.out.mono (by simp))⟩
  · have h : tagOK t = false := by simpa using h
    have H := Lib.hid h
    rw [h]
    clear h
    go_wp2_with fail
    go_ret
    exact ⟨ret_bool (by simp [H.out]), HB.out.trans (HB1.out.mono (by simp))⟩

def strongB (t : ByteArray) (wk : Bool) (t' : ByteArray) (wk' : Bool) : Bool := !wk && !wk' && tagOK t && tagOK t' && decide (t = t')

theorem Blk.alloc {w : World} {g : Nat} {t : TypeId} {cs : Array Value} (h : Blk w g t cs) (o : Obj) : Blk (w.alloc o) g t cs := (Below.heap_alloc w o g h.lt).trans h
theorem tagCells {w : World} {g : Nat} {ty : TypeId} {t : ByteArray} {wk : Bool} (h : Blk w g ty #[.string t, .bool wk]) : w.cell? ⟨g, 0, none⟩ = some (.string t) ∧ w.cell? ⟨g, 1, none⟩ = some (.bool wk) := by
  refine ⟨?_, ?_⟩ <;> rw [h.cell] <;> rfl

theorem tagWeak_any (t : ByteArray) (wk : Bool) (t' : ByteArray) (wk' : Bool) (w : World) :
    Calls Tryz.prog 139 #[.agg #[.string t, .bool wk], .agg #[.string t', .bool wk']] w fun e w' => e = .returned (.bool (tagOK t && tagOK t' && decide (t = t'))) ∧ Below w.heap.size w w' := by
  have hb0 : Below w.heap.size w ((w.alloc (.cells #[.string t, .bool wk] 36)).alloc (.cells #[.string t', .bool wk'] 36)) := ((Below.refl _ _).alloc (Nat.le_refl _) _).alloc (by simp) _
  have HB := Lib.hid hb0
  have k0 : Blk ((w.alloc (.cells #[.string t, .bool wk] 36)).alloc (.cells #[.string t', .bool wk'] 36)) w.heap.size 36 #[.string t, .bool wk] := (Blk.new w 36 _).alloc _
  have k1 : Blk ((w.alloc (.cells #[.string t, .bool wk] 36)).alloc (.cells #[.string t', .bool wk'] 36)) (w.heap.size + 1) 36 #[.string t', .bool wk'] := by
    have := Blk.new (w.alloc (.cells #[.string t, .bool wk] 36)) 36 #[.string t', .bool wk']
    simpa using this
  have K0 := Lib.hid k0
  have K1 := Lib.hid k1
  clear hb0 k0 k1
  go_enter Tryz.func139, Tryz.ntmps139
  go_wp2_with fail
  refine (tagRight_any _ _ _).mono ?_
  rintro e w1 ⟨rfl, hb⟩
  have hs : w.heap.size + 1 + 1 ≤ w1.heap.size := by simpa using hb.size
  have k0 := K0.out.below hb (by simp; omega)
  have k1 := K1.out.below hb (by simp)
  obtain ⟨c0, c1⟩ := tagCells k0
  obtain ⟨c2, c3⟩ := tagCells k1
  clear K0 K1
  have K0 := Lib.hid k0
  have K1 := Lib.hid k1
  have HB1 := Lib.hid hb
  clear hb k0 k1
  by_cases h : tagOK t = true
  case neg =>
    have h : tagOK t = false := by simpa using h
    have H := Lib.hid h
    rw [h]
    clear h
    go_wp2_with fail
    go_ret
    exact ⟨ret_bool (by simp [H.out]), HB.out.trans (HB1.out.mono (by simp; omega))⟩
  have H := Lib.hid h
  rw [h]
  clear h
  go_wp2_with fail
  refine (tagRight_any _ _ _).mono ?_
  rintro e w2 ⟨rfl, hb⟩
  obtain ⟨d0, d1⟩ := tagCells (K0.out.below hb (by omega))
  obtain ⟨d2, d3⟩ := tagCells (K1.out.below hb (by omega))
  have HB2 := Lib.hid hb
  clear hb
  by_cases h' : tagOK t' = true
  · have H' := Lib.hid h'
    rw [h']
    clear h'
    go_wp2_with fail
    go_ret
    refine ⟨ret_bool ?_, (HB.out.trans (HB1.out.mono (by simp; omega))).trans (HB2.out.mono (by omega))⟩
    rw [bytes_beq]; simp [H.out, H'.out]
  · have h' : tagOK t' = false := by simpa using h'
    have H' := Lib.hid h'
    rw [h']
    clear h'
    go_wp2_with fail
    go_ret
    refine ⟨ret_bool ?_, (HB.out.trans (HB1.out.mono (by simp; omega))).trans (HB2.out.mono (by omega))⟩
    simp [H.out, H'.out]

theorem tagStrong_any (t : ByteArray) (wk : Bool) (t' : ByteArray) (wk' : Bool) (w : World) :
    Calls Tryz.prog 86 #[.agg #[.string t, .bool wk], .agg #[.string t', .bool wk']] w fun e w' => e = .returned (.bool (strongB t wk t' wk')) ∧ Below w.heap.size w w' := by
  have hb0 : Below w.heap.size w ((w.alloc (.cells #[.string t, .bool wk] 36)).alloc (.cells #[.string t', .bool wk'] 36)) := ((Below.refl _ _).alloc (Nat.le_refl _) _).alloc (by simp) _
  have HB := Lib.hid hb0
  clear hb0
  cases wk
  case true =>
    go_enter Tryz.func86, Tryz.ntmps86
    go_wp2_with fail
    go_ret
    exact ⟨ret_bool (by simp [strongB]), HB.out⟩
  cases wk'
  case true =>
    go_enter Tryz.func86, Tryz.ntmps86
    go_wp2_with fail
    go_ret
    exact ⟨ret_bool (by simp [strongB]), HB.out⟩
  go_enter Tryz.func86, Tryz.ntmps86
  go_wp2_with fail
  refine (tagWeak_any _ _ _ _ _).mono ?_
  rintro e w1 ⟨rfl, hb⟩
  have HB1 := Lib.hid hb
  clear hb
  go_wp2_with fail
  go_ret
  exact ⟨ret_bool (by simp [strongB]), HB.out.trans (HB1.out.mono (by simp; omega))⟩


def followsB (t : ByteArray) (wk : Bool) (mo le ha fr wh er : Int) (ks : List ByteArray) (ten : ByteArray) (t' : ByteArray) (wk' : Bool) (mo' le' ha' fr' wh' er' : Int) (ks' : List ByteArray) (ten' : ByteArray) : Bool :=
  metaOK t wk mo le ha fr wh er ks ten && metaOK t' wk' mo' le' ha' fr' wh' er' ks' ten' && (tagOK t && !wk) && strongB t wk t' wk' && decide (mo = mo') && (if le = -1 then decide (ha ≤ ha') else decide (le = le'))

set_option maxHeartbeats 1000000 in
theorem metaFollows_any (t : ByteArray) (wk : Bool) (mo le ha fr wh er : Int) (A : Option Addr) (n c : Nat) (ten : ByteArray) (kp : Bool) (ks : List ByteArray)
    (t' : ByteArray) (wk' : Bool) (mo' le' ha' fr' wh' er' : Int) (A' : Option Addr) (n' c' : Nat) (ten' : ByteArray) (kp' : Bool) (ks' : List ByteArray) (w : World)
    (hk : Strs w w.heap.size A n ks) (hk' : Strs w w.heap.size A' n' ks') (hn : n ≤ 9223372036854775807) (hn' : n' ≤ 9223372036854775807) (hnc : n ≤ c) (hnc' : n' ≤ c') :
    Calls Tryz.prog 87 #[.agg (metaC t wk mo le ha fr wh er A n c ten kp), .agg (metaC t' wk' mo' le' ha' fr' wh' er' A' n' c' ten' kp')] w fun e w' => e = .returned (.bool (followsB t wk mo le ha fr wh er ks ten t' wk' mo' le' ha' fr' wh' er' ks' ten')) ∧ Below w.heap.size w w' := by
  have hb0 : Below w.heap.size w ((w.alloc (.cells (metaC t wk mo le ha fr wh er A n c ten kp) 39)).alloc (.cells (metaC t' wk' mo' le' ha' fr' wh' er' A' n' c' ten' kp') 39)) := ((Below.refl _ _).alloc (Nat.le_refl _) _).alloc (by simp) _
  have k0 : Blk ((w.alloc (.cells (metaC t wk mo le ha fr wh er A n c ten kp) 39)).alloc (.cells (metaC t' wk' mo' le' ha' fr' wh' er' A' n' c' ten' kp') 39)) w.heap.size 39 (metaC t wk mo le ha fr wh er A n c ten kp) := (Blk.new w 39 _).alloc _
  have k1 : Blk ((w.alloc (.cells (metaC t wk mo le ha fr wh er A n c ten kp) 39)).alloc (.cells (metaC t' wk' mo' le' ha' fr' wh' er' A' n' c' ten' kp') 39)) (w.heap.size + 1) 39 (metaC t' wk' mo' le' ha' fr' wh' er' A' n' c' ten' kp') := by
    have := Blk.new (w.alloc (.cells (metaC t wk mo le ha fr wh er A n c ten kp) 39)) 39 (metaC t' wk' mo' le' ha' fr' wh' er' A' n' c' ten' kp')
    simpa using this
  have sa := hk.below hb0 (Nat.le_refl _)
  have sb := hk'.below hb0 (Nat.le_refl _)
  have HB := Lib.hid hb0
  have K0 := Lib.hid k0
  have K1 := Lib.hid k1
  have SA := Lib.hid sa
  have SB := Lib.hid sb
  clear hb0 k0 k1 sa sb hk hk'
  go_enter Tryz.func87, Tryz.ntmps87
  go_wp2_with fail
  refine (metaRight_any t wk mo le ha fr wh er A n c ten kp _ ks w.heap.size SA.out (by simp; omega) hn hnc).mono ?_
  rintro e w1 ⟨rfl, hb⟩
  have hs1 : w.heap.size + 1 + 1 ≤ w1.heap.size := by simpa using hb.size
  have k0 := K0.out.below hb (by simp; omega)
  have k1 := K1.out.below hb (by simp)
  have sa := SA.out.below (hb.mono (by simp; omega)) (Nat.le_refl _)
  have sb := SB.out.below (hb.mono (by simp; omega)) (Nat.le_refl _)
  obtain ⟨a0, a1, a2, a3, a4, a5, a6, a7, a8, a9, a10⟩ := metaCells k0
  obtain ⟨b0, b1, b2, b3, b4, b5, b6, b7, b8, b9, b10⟩ := metaCells k1
  have hbb := HB.out.trans (hb.mono (by simp; omega))
  clear K0 K1 SA SB HB
  have K0 := Lib.hid k0
  have K1 := Lib.hid k1
  have SA := Lib.hid sa
  have SB := Lib.hid sb
  have HB := Lib.hid hbb
  clear hb k0 k1 sa sb hbb
  by_cases h : metaOK t wk mo le ha fr wh er ks ten = true
  case neg =>
    have h : metaOK t wk mo le ha fr wh er ks ten = false := by simpa using h
    have H1 := Lib.hid h
    rw [h]
    clear h
    go_wp2_with fail
    go_ret
    exact ⟨ret_bool (by simp [followsB, H1.out]), HB.out⟩
  have H1 := Lib.hid h
  rw [h]
  clear h
  go_wp2_with fail
  refine (metaRight_any t' wk' mo' le' ha' fr' wh' er' A' n' c' ten' kp' _ ks' w.heap.size SB.out (by omega) hn' hnc').mono ?_
  rintro e w2 ⟨rfl, hb⟩
  clear a0 a1 a2 a3 a4 a5 a6 a7 a8 a9 a10 b0 b1 b2 b3 b4 b5 b6 b7 b8 b9 b10
  have hs2 : w.heap.size + 1 + 1 ≤ w2.heap.size := by have := hb.size; omega
  have k0 := K0.out.below hb (by omega)
  have k1 := K1.out.below hb (by omega)
  have sa := SA.out.below (hb.mono (by omega)) (Nat.le_refl _)
  have sb := SB.out.below (hb.mono (by omega)) (Nat.le_refl _)
  obtain ⟨a0, a1, a2, a3, a4, a5, a6, a7, a8, a9, a10⟩ := metaCells k0
  obtain ⟨b0, b1, b2, b3, b4, b5, b6, b7, b8, b9, b10⟩ := metaCells k1
  have hbb := HB.out.trans (hb.mono (by omega))
  clear K0 K1 SA SB HB
  have K0 := Lib.hid k0
  have K1 := Lib.hid k1
  have SA := Lib.hid sa
  have SB := Lib.hid sb
  have HB := Lib.hid hbb
  clear hb k0 k1 sa sb hbb
  by_cases h : metaOK t' wk' mo' le' ha' fr' wh' er' ks' ten' = true
  case neg =>
    have h : metaOK t' wk' mo' le' ha' fr' wh' er' ks' ten' = false := by simpa using h
    have H2 := Lib.hid h
    rw [h]
    clear h
    go_wp2_with fail
    go_ret
    exact ⟨ret_bool (by simp [followsB, H2.out]), HB.out⟩
  have H2 := Lib.hid h
  rw [h]
  clear h
  go_wp2_with fail
  refine (metaJoins_any t wk mo le ha fr wh er A n c ten kp _).mono ?_
  rintro e w3 ⟨rfl, hb⟩
  clear a0 a1 a2 a3 a4 a5 a6 a7 a8 a9 a10 b0 b1 b2 b3 b4 b5 b6 b7 b8 b9 b10
  have hs3 : w.heap.size + 1 + 1 ≤ w3.heap.size := by have := hb.size; omega
  have k0 := K0.out.below hb (by omega)
  have k1 := K1.out.below hb (by omega)
  have sa := SA.out.below (hb.mono (by omega)) (Nat.le_refl _)
  have sb := SB.out.below (hb.mono (by omega)) (Nat.le_refl _)
  obtain ⟨a0, a1, a2, a3, a4, a5, a6, a7, a8, a9, a10⟩ := metaCells k0
  obtain ⟨b0, b1, b2, b3, b4, b5, b6, b7, b8, b9, b10⟩ := metaCells k1
  have hbb := HB.out.trans (hb.mono (by omega))
  clear K0 K1 SA SB HB
  have K0 := Lib.hid k0
  have K1 := Lib.hid k1
  have SA := Lib.hid sa
  have SB := Lib.hid sb
  have HB := Lib.hid hbb
  clear hb k0 k1 sa sb hbb
  by_cases h : (tagOK t && !wk) = true
  case neg =>
    have h : (tagOK t && !wk) = false := by simpa using h
    have H3 := Lib.hid h
    rw [h]
    clear h
    go_wp2_with fail
    go_ret
    exact ⟨ret_bool (by simp only [followsB, H3.out]; simp), HB.out⟩
  have H3 := Lib.hid h
  rw [h]
  clear h
  go_wp2_with fail
  refine (tagStrong_any t wk t' wk' _).mono ?_
  rintro e w4 ⟨rfl, hb⟩
  clear a0 a1 a2 a3 a4 a5 a6 a7 a8 a9 a10 b0 b1 b2 b3 b4 b5 b6 b7 b8 b9 b10
  have hs4 : w.heap.size + 1 + 1 ≤ w4.heap.size := by have := hb.size; omega
  have k0 := K0.out.below hb (by omega)
  have k1 := K1.out.below hb (by omega)
  have sa := SA.out.below (hb.mono (by omega)) (Nat.le_refl _)
  have sb := SB.out.below (hb.mono (by omega)) (Nat.le_refl _)
  obtain ⟨a0, a1, a2, a3, a4, a5, a6, a7, a8, a9, a10⟩ := metaCells k0
  obtain ⟨b0, b1, b2, b3, b4, b5, b6, b7, b8, b9, b10⟩ := metaCells k1
  have hbb := HB.out.trans (hb.mono (by omega))
  clear K0 K1 SA SB HB
  have K0 := Lib.hid k0
  have K1 := Lib.hid k1
  have SA := Lib.hid sa
  have SB := Lib.hid sb
  have HB := Lib.hid hbb
  clear hb k0 k1 sa sb hbb
  by_cases h : strongB t wk t' wk' = true
  case neg =>
    have h : strongB t wk t' wk' = false := by simpa using h
    have H4 := Lib.hid h
    rw [h]
    clear h
    go_wp2_with fail
    go_ret
    exact ⟨ret_bool (by simp [followsB, H4.out]), HB.out⟩
  have H4 := Lib.hid h
  rw [h]
  clear h
  by_cases hm : (mo != mo') = true
  · go_wp2_with fail
    go_ret
    refine ⟨ret_bool ?_, HB.out⟩
    have : decide (mo = mo') = false := by simpa using hm
    simp [followsB, this]
  have hm : (mo != mo') = false := by simpa using hm
  have HM : Hid (decide (mo = mo') = true) := by show decide (mo = mo') = true; simpa using hm
  by_cases hl : (le != -1) = true
  · have HL := Lib.hid hl
    go_wp2_with fail
    go_ret
    refine ⟨ret_bool ?_, HB.out⟩
    have : ¬ le = -1 := by simpa using HL.out
    simp only [followsB, H1.out, H2.out, H3.out, H4.out, HM.out, if_neg this, Bool.true_and]
    rw [Bool.eq_iff_iff]; simp
  · have hl : (le != -1) = false := by simpa using hl
    have HL := Lib.hid hl
    go_wp2_with fail
    go_ret
    refine ⟨ret_bool ?_, HB.out⟩
    have : le = -1 := by simpa using HL.out
    simp only [followsB, H1.out, H2.out, H3.out, H4.out, HM.out, if_pos this, Bool.true_and]


end Go.Proofs.YtoaiamgcegnjjaaGreatDoor
