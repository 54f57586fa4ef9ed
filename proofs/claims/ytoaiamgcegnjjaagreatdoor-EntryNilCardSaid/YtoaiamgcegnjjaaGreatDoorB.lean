/- Slices that are read, and the contracts of the functions on tags, keys and Metas that only look. No condition. -/
import Derived.Test.YtoaiamgcegnjjaaGreatDoorA
namespace Go.Proofs.YtoaiamgcegnjjaaGreatDoor
open Go.RowKit
set_option maxRecDepth 100000

/-- A slice of n elements of sz cells each that reads as the cells xs, and lies below block B. -/
def Rd (w : World) (B sz : Nat) (A : Option Addr) (n : Nat) (xs : List Value) : Prop :=
  xs.length = n * sz ∧ (0 < n → ∃ b o, A = some ⟨b, o, none⟩ ∧ b < B ∧ ∀ j (hj : j < xs.length), w.cell? ⟨b, o + j, none⟩ = some xs[j])

theorem Rd.keep {w w' : World} {B B' sz n : Nat} {A : Option Addr} {xs : List Value} (h : Rd w B sz A n xs) (hB : B ≤ B') (hk : ∀ p : Addr, p.block < B → w'.cell? p = w.cell? p) : Rd w' B' sz A n xs := by
  refine ⟨h.1, fun hn => ?_⟩
  obtain ⟨b, o, e, hb, hc⟩ := h.2 hn
  exact ⟨b, o, e, by omega, fun j hj => (hk _ hb).trans (hc j hj)⟩
theorem Rd.below {w w' : World} {B B' sz n : Nat} {A : Option Addr} {xs : List Value} (h : Rd w B sz A n xs) (hb : Below B w w') (hB : B ≤ B') : Rd w' B' sz A n xs :=
  h.keep hB fun _ hp => hb.cell hp
theorem Rd.nil {w : World} {B sz : Nat} {A : Option Addr} : Rd w B sz A 0 [] := ⟨by simp, fun h => absurd h (by omega)⟩
theorem Rd.take {w : World} {B n : Nat} {A : Option Addr} {xs : List Value} (h : Rd w B 1 A n xs) {k : Nat} (hk : k ≤ n) : Rd w B 1 A k (xs.take k) := by
  refine ⟨by rw [List.length_take, h.1]; omega, fun hn => ?_⟩
  obtain ⟨b, o, e, hb, hc⟩ := h.2 (by omega)
  refine ⟨b, o, e, hb, fun j hj => ?_⟩
  rw [hc j (by rw [List.length_take] at hj; omega)]
  simp

/-- A slice of strings. -/
def Strs (w : World) (B : Nat) (A : Option Addr) (n : Nat) (ks : List ByteArray) : Prop := Rd w B 1 A n (ks.map Value.string)
theorem Strs.len {w : World} {B n : Nat} {A : Option Addr} {ks : List ByteArray} (h : Strs w B A n ks) : ks.length = n := by
  have := h.1; simpa using this
theorem Strs.at_ {w : World} {B n : Nat} {A : Option Addr} {ks : List ByteArray} (h : Strs w B A n ks) (hn : 0 < n) : ∃ b o, A = some ⟨b, o, none⟩ ∧ b < B ∧ ∀ j (hj : j < ks.length), w.cell? ⟨b, o + j, none⟩ = some (.string ks[j]) := by
  obtain ⟨b, o, e, hb, hc⟩ := h.2 hn
  refine ⟨b, o, e, hb, fun j hj => ?_⟩
  rw [hc j (by simpa using hj)]; simp
theorem Strs.below {w w' : World} {B B' n : Nat} {A : Option Addr} {ks : List ByteArray} (h : Strs w B A n ks) (hb : Below B w w') (hB : B ≤ B') : Strs w' B' A n ks := Rd.below h hb hB
theorem Strs.take {w : World} {B n : Nat} {A : Option Addr} {ks : List ByteArray} (h : Strs w B A n ks) {k : Nat} (hk : k ≤ n) : Strs w B A k (ks.take k) := by
  have := Rd.take h hk
  rw [← List.map_take] at this
  exact this

theorem bytes_beq (a b : ByteArray) : (a.toList == b.toList) = decide (a = b) := by
  rw [ByteArray.toList_eq, ByteArray.toList_eq, Bool.eq_iff_iff, beq_iff_eq, decide_eq_true_iff]
  constructor
  · intro h; cases a; cases b; simp at h; simp [h]
  · intro h; rw [h]

/-- is a string one of a list? -/
def inB (ks : List ByteArray) (s : ByteArray) : Bool := ks.any fun x => decide (s = x)
theorem inB_snoc (ks : List ByteArray) (x s : ByteArray) : inB (ks ++ [x]) s = (inB ks s || decide (s = x)) := by simp [inB]
theorem inB_of_take {ks : List ByteArray} {s : ByteArray} {k : Nat} (h : k < ks.length) (he : s = ks[k]) : inB ks s = true := by
  unfold inB
  rw [List.any_eq_true]
  exact ⟨ks[k], List.getElem_mem _, by simp [he]⟩

theorem slicesIndex_any (A : Option Addr) (n c : Nat) (ks : List ByteArray) (s : ByteArray) (B : Nat) (w : World) (hr : Strs w B A n ks) (hn : n ≤ 9223372036854775807) :
    Calls Tryz.prog 183 #[.slice A n c, .string s] w fun e w' => (∃ i : Int, e = .returned (.int .i64 i) ∧ (decide (0 ≤ i) = inB ks s)) ∧ w = w' := by
  have hl := hr.len
  by_cases h0 : n = 0
  · subst h0
    have : ks = [] := List.eq_nil_of_length_eq_zero hl
    subst this
    clear hr hl
    go_enter Tryz.func183, Tryz.ntmps183
    go_wp2
    go_loop [8] (fun i => i = .int .i64 0) (fun _ => 0)
    case atStart => rfl
    case round =>
      subst hrel
      go_wp2
      go_ret
      exact ⟨⟨_, rfl, rfl⟩, rfl⟩
  obtain ⟨b, o, rfl, _, hc⟩ := hr.at_ (by omega)
  have HC := Lib.hid hc
  have HL := Lib.hid hl
  clear hc hr hl
  go_enter Tryz.func183, Tryz.ntmps183
  go_wp2
  go_loop [8] (fun i => ∃ k : Nat, k ≤ n ∧ i = .int .i64 k ∧ inB (ks.take k) s = false) (fun i => n - (intOf i).toNat)
  case atStart => exact ⟨0, Nat.zero_le _, rfl, by simp [inB]⟩
  case round =>
    obtain ⟨k, hk, rfl, hin⟩ := hrel
    have HI := Lib.hid hin
    clear hin
    by_cases hlt : k < n
    · have hk' : k < ks.length := by have := HL.out; omega
      have hcell := HC.out k hk'
      have hsn : ks.take (k + 1) = ks.take k ++ [ks[k]] := by rw [List.take_succ_eq_append_getElem hk']
      have HSN := Lib.hid hsn
      clear hsn
      by_cases he : (s.toList == ks[k].toList) = true
      · go_wp2
        go_ret
        refine ⟨⟨k, rfl, ?_⟩, rfl⟩
        rw [bytes_beq] at he
        rw [inB_of_take hk' (of_decide_eq_true he)]
        simp
      · have he : (s.toList == ks[k].toList) = false := by simpa using he
        go_wp2
        refine ⟨⟨k + 1, by omega, by go_num, ?_⟩, by simp [intOf]; omega⟩
        rw [HSN.out, inB_snoc, HI.out, ← bytes_beq, he]; rfl
    · go_wp2
      go_ret
      refine ⟨⟨_, rfl, ?_⟩, rfl⟩
      have := HI.out
      rw [List.take_of_length_le (by have := HL.out; omega)] at this
      rw [this]; rfl

theorem slicesContains_any (A : Option Addr) (n c : Nat) (ks : List ByteArray) (s : ByteArray) (B : Nat) (w : World) (hr : Strs w B A n ks) (hn : n ≤ 9223372036854775807) :
    Calls Tryz.prog 138 #[.slice A n c, .string s] w fun e w' => e = .returned (.bool (inB ks s)) ∧ w = w' := by
  have H := Lib.hid hr
  clear hr
  go_enter Tryz.func138, Tryz.ntmps138
  go_wp2_with fail
  refine (slicesIndex_any A n c ks s B _ H.out hn).mono ?_
  rintro e w' ⟨⟨i, rfl, hi⟩, rfl⟩
  have HI := Lib.hid hi
  clear hi
  go_wp2
  go_ret
  exact ⟨ret_bool HI.out, rfl⟩

def preB (s p : ByteArray) : Bool := decide (p.size ≤ s.size) && decide (s.extract 0 p.size = p)

theorem hasPrefix_lite (s p : ByteArray) (w : World) :
    Calls Tryz.prog 199 #[.string s, .string p] w fun e w' => e = .returned (.bool (preB s p)) ∧ w = w' := by
  by_cases h : p.size ≤ s.size
  · go_enter Tryz.func199, Tryz.ntmps199
    go_wp2
    go_ret
    refine ⟨ret_bool ?_, rfl⟩
    rw [bytes_beq, preB, decide_eq_true h]; rfl
  · go_enter Tryz.func199, Tryz.ntmps199
    go_wp2
    go_ret
    refine ⟨ret_bool ?_, rfl⟩
    rw [preB, decide_eq_false h]; rfl

theorem hasPrefix_any (s p : ByteArray) (w : World) :
    Calls Tryz.prog 156 #[.string s, .string p] w fun e w' => e = .returned (.bool (preB s p)) ∧ w = w' := by
  go_enter Tryz.func156, Tryz.ntmps156
  go_wp2_with fail
  refine (hasPrefix_lite s p _).mono ?_
  rintro e w' ⟨rfl, rfl⟩
  go_wp2
  go_ret
  exact ⟨rfl, rfl⟩

/-- a byte of a tenant's name -/
def tenB (c : UInt8) : Bool := (decide (97 ≤ c.toNat) && decide (c.toNat ≤ 122)) || (decide (65 ≤ c.toNat) && decide (c.toNat ≤ 90)) || (decide (48 ≤ c.toNat) && decide (c.toNat ≤ 57)) || c.toNat == 45 || c.toNat == 95
theorem tenB_t {c : UInt8} (h : (97 ≤ c.toNat ∧ c.toNat ≤ 122) ∨ (65 ≤ c.toNat ∧ c.toNat ≤ 90) ∨ (48 ≤ c.toNat ∧ c.toNat ≤ 57) ∨ c.toNat = 45 ∨ c.toNat = 95) : tenB c = true := by
  unfold tenB
  rw [Bool.eq_iff_iff]; simp; omega
theorem tenB_f {c : UInt8} (h : ¬ ((97 ≤ c.toNat ∧ c.toNat ≤ 122) ∨ (65 ≤ c.toNat ∧ c.toNat ≤ 90) ∨ (48 ≤ c.toNat ∧ c.toNat ≤ 57) ∨ c.toNat = 45 ∨ c.toNat = 95)) : tenB c = false := by
  unfold tenB
  rw [← Bool.not_eq_true]
  intro hx; apply h; simp at hx; omega
def dash : ByteArray := ⟨#[45]⟩
def tenOK (s : ByteArray) : Bool := decide (s.size ≤ 40) && !(preB s dash) && allB tenB s

theorem tenant_any (s : ByteArray) (w : World) :
    Calls Tryz.prog 136 #[.string s] w fun e w' => e = .returned (.bool (tenOK s)) ∧ w = w' := by
  by_cases h1 : 40 < s.size
  · go_enter Tryz.func136, Tryz.ntmps136
    go_wp2
    go_ret
    exact ⟨ret_bool (by simp [tenOK]; omega), rfl⟩
  by_cases h2 : preB s dash = true
  · have H := Lib.hid h2
    clear h2
    go_enter Tryz.func136, Tryz.ntmps136
    go_wp2_with fail
    refine (hasPrefix_any s dash _).mono ?_
    rintro e w' ⟨rfl, rfl⟩
    rw [H.out]
    go_wp2
    go_ret
    exact ⟨ret_bool (by simp [tenOK, H.out]), rfl⟩
  have H := Lib.hid ((Bool.not_eq_true _).mp h2)
  clear h2
  go_enter Tryz.func136, Tryz.ntmps136
  go_wp2_with fail
  refine (hasPrefix_any s dash _).mono ?_
  rintro e w' ⟨rfl, rfl⟩
  rw [H.out]
  go_wp2
  go_loop [15] (fun i => ∃ k : Nat, k ≤ s.size ∧ i = .int .i64 k ∧ upB tenB s k) (fun i => s.size - (intOf i).toNat)
  case atStart => exact ⟨0, Nat.zero_le _, rfl, upB_zero _ _⟩
  case round =>
    obtain ⟨k, hk, rfl, hall⟩ := hrel
    by_cases hlt : k < s.size
    · go_wp2
      all_goals (try simp only [Bool.not_eq_true', Bool.not_eq_false', decide_eq_true_eq, decide_eq_false_iff_not, bne_iff_ne, ne_eq, bne_eq_false_iff_eq] at *)
      all_goals first
        | (refine ⟨⟨k + 1, by omega, by go_num, upB_succ hall hlt (tenB_t (by omega))⟩, by simp [intOf]; omega⟩)
        | (go_ret; refine ⟨ret_bool ?_, rfl⟩; simp only [tenOK]; rw [allB_false hlt (tenB_f (by omega))]; simp)
    · go_wp2
      go_ret
      refine ⟨ret_bool ?_, rfl⟩
      simp only [tenOK]
      rw [upB_all hall hlt, H.out]; simp; omega

end Go.Proofs.YtoaiamgcegnjjaaGreatDoor
