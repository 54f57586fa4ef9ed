/- A store behind puts: what the disk holds, and how many writes wait. No program in sight. -/
import Derived.Test.YtmgmfnimaafkdaaGreatDoorAL
import Derived.KernelRfl
import Derived.Lib.ItoaNum
import Derived.Lib.ParseIntB
import Derived.Lib.Join
import Derived.Lib.Split
import Derived.Lib.ItoaLen
namespace Go.Proofs.YtmgmfnimaafkdaaGreatDoor
set_option maxRecDepth 100000

def crcTab : List Nat := [0x00000000, 0x1DB71064, 0x3B6E20C8, 0x26D930AC, 0x76DC4190, 0x6B6B51F4, 0x4DB26158, 0x5005713C, 0xEDB88320, 0xF00F9344, 0xD6D6A3E8, 0xCB61B38C, 0x9B64C2B0, 0x86D3D2D4, 0xA00AE278, 0xBDBDF21C]
def nib (s : Nat) : Nat := crcTab.getD (s % 16) 0 ^^^ (s / 16)
def eight (s : Nat) : Nat := nib (nib s)
def crcGo (s : Nat) (l : List UInt8) : Nat := l.foldl (fun s c => eight (s ^^^ c.toNat)) s
def crcMore (s : Nat) (l : List UInt8) : Nat := crcGo (s ^^^ 0xFFFFFFFF) l ^^^ 0xFFFFFFFF
def crcOf (l : List UInt8) : Nat := crcMore 0 l

theorem tab_lt : ∀ i, i < 16 → crcTab.getD i 0 < 2 ^ 32 := by decide
theorem tab_top : ∀ i, i < 16 → ∀ j, j < 16 → crcTab.getD i 0 / 2 ^ 28 = crcTab.getD j 0 / 2 ^ 28 → i = j := by decide
theorem nib_lt {s : Nat} (h : s < 2 ^ 32) : nib s < 2 ^ 32 := by
 unfold nib
 exact Nat.xor_lt_two_pow (tab_lt _ (Nat.mod_lt _ (by omega))) (by omega)
theorem nib_top {s : Nat} (h : s < 2 ^ 32) : nib s / 2 ^ 28 = crcTab.getD (s % 16) 0 / 2 ^ 28 := by
 unfold nib
 rw [← Nat.shiftRight_eq_div_pow, Nat.shiftRight_xor_distrib, Nat.shiftRight_eq_div_pow, Nat.shiftRight_eq_div_pow]
 have : s / 16 / 2 ^ 28 = 0 := by omega
 rw [this, Nat.xor_zero]
theorem xor_cancel {a b c : Nat} (h : a ^^^ b = a ^^^ c) : b = c := by
 have := congrArg (a ^^^ ·) h
 simpa [← Nat.xor_assoc] using this
theorem xor_cancel_right {a b c : Nat} (h : b ^^^ a = c ^^^ a) : b = c := xor_cancel (a := a) (by rw [Nat.xor_comm a b, Nat.xor_comm a c]; exact h)
theorem nib_inj {s t : Nat} (hs : s < 2 ^ 32) (ht : t < 2 ^ 32) (h : nib s = nib t) : s = t := by
 have h1 : s % 16 = t % 16 := tab_top _ (Nat.mod_lt _ (by omega)) _ (Nat.mod_lt _ (by omega)) (by rw [← nib_top hs, ← nib_top ht, h])
 unfold nib at h
 rw [h1] at h
 have h2 := xor_cancel h
 omega
theorem eight_lt {s : Nat} (h : s < 2 ^ 32) : eight s < 2 ^ 32 := nib_lt (nib_lt h)
theorem eight_inj {s t : Nat} (hs : s < 2 ^ 32) (ht : t < 2 ^ 32) (h : eight s = eight t) : s = t := nib_inj hs ht (nib_inj (nib_lt hs) (nib_lt ht) h)
theorem byte_lt (c : UInt8) : c.toNat < 2 ^ 32 := by have := c.toNat_lt; omega
theorem crcGo_lt : ∀ (l : List UInt8) {s : Nat}, s < 2 ^ 32 → crcGo s l < 2 ^ 32
 | [], _, h => h
 | c :: l, _, h => crcGo_lt l (eight_lt (Nat.xor_lt_two_pow h (byte_lt c)))
theorem crcGo_inj : ∀ (l : List UInt8) {s t : Nat}, s < 2 ^ 32 → t < 2 ^ 32 → crcGo s l = crcGo t l → s = t
 | [], _, _, _, _, h => h
 | c :: l, _, _, hs, ht, h => xor_cancel_right (eight_inj (Nat.xor_lt_two_pow hs (byte_lt c)) (Nat.xor_lt_two_pow ht (byte_lt c)) (crcGo_inj l (eight_lt (Nat.xor_lt_two_pow hs (byte_lt c))) (eight_lt (Nat.xor_lt_two_pow ht (byte_lt c))) h))
theorem crcGo_append (s : Nat) (a b : List UInt8) : crcGo s (a ++ b) = crcGo (crcGo s a) b := by unfold crcGo; rw [List.foldl_append]
theorem crcOf_turned (a b : List UInt8) {c d : UInt8} (h : c ≠ d) : crcOf (a ++ c :: b) ≠ crcOf (a ++ d :: b) := by
 intro he
 unfold crcOf crcMore at he
 have h1 := xor_cancel_right he
 have h0 : (0 ^^^ 0xFFFFFFFF : Nat) < 2 ^ 32 := by decide
 rw [crcGo_append, crcGo_append] at h1
 have hp := crcGo_lt a h0
 generalize crcGo (0 ^^^ 0xFFFFFFFF) a = p at *
 have h2 : crcGo (eight (p ^^^ c.toNat)) b = crcGo (eight (p ^^^ d.toNat)) b := h1
 have h3 := crcGo_inj b (eight_lt (Nat.xor_lt_two_pow hp (byte_lt c))) (eight_lt (Nat.xor_lt_two_pow hp (byte_lt d))) h2
 have h4 := xor_cancel (eight_inj (Nat.xor_lt_two_pow hp (byte_lt c)) (Nat.xor_lt_two_pow hp (byte_lt d)) h3)
 exact h (UInt8.toNat_inj.1 h4)
theorem crcOf_lt (l : List UInt8) : crcOf l < 2 ^ 32 := Nat.xor_lt_two_pow (crcGo_lt l (by decide)) (by decide)
end Go.Proofs.YtmgmfnimaafkdaaGreatDoor
namespace Go.Proofs.YtmgmfnimaafkdaaGreatDoor
set_option maxRecDepth 100000

def be (k n : Nat) : List UInt8 := (List.range k).map fun i => UInt8.ofNat (n >>> (8 * (k - 1 - i)))
def num (l : List UInt8) : Nat := l.foldl (fun n c => n * 256 + c.toNat) 0
theorem be_len (k n : Nat) : (be k n).length = k := by simp [be]
theorem num_snoc (l : List UInt8) (c : UInt8) : num (l ++ [c]) = num l * 256 + c.toNat := by simp [num]
theorem be_succ (k n : Nat) : be (k + 1) n = be k (n / 256) ++ [UInt8.ofNat n] := by
 unfold be
 rw [List.range_succ, List.map_append, List.map_singleton]
 congr 1
 ·refine List.map_congr_left fun i hi => ?_
  rw [List.mem_range] at hi
  have e : 8 * (k + 1 - 1 - i) = 8 + 8 * (k - 1 - i) := by omega
  rw [e, Nat.shiftRight_add, Nat.shiftRight_eq_div_pow n 8]
 ·have e : 8 * (k + 1 - 1 - k) = 0 := by omega
  rw [e, Nat.shiftRight_zero]
theorem num_be : ∀ (k n : Nat), n < 256 ^ k → num (be k n) = n
 | 0, n, h => by simp at h; subst h; rfl
 | k + 1, n, h => by
  rw [be_succ, num_snoc, num_be k (n / 256) (by rw [Nat.pow_succ] at h; omega)]
  have : (UInt8.ofNat n).toNat = n % 256 := by simp
  rw [this]; omega
theorem num_go_lt : ∀ (l : List UInt8) (a k : Nat), a < 256 ^ k → l.foldl (fun n c => n * 256 + c.toNat) a < 256 ^ (k + l.length)
 | [], a, k, h => h
 | c :: l, a, k, h => by
  have hc := c.toNat_lt
  have := num_go_lt l (a * 256 + c.toNat) (k + 1) (by rw [Nat.pow_succ]; omega)
  rw [List.length_cons, show k + (l.length + 1) = k + 1 + l.length by omega]
  exact this
theorem num_lt (l : List UInt8) : num l < 256 ^ l.length := by
 have := num_go_lt l 0 0 (by decide)
 rw [Nat.zero_add] at this
 exact this
theorem num_inj : ∀ (a b : List UInt8), a.length = b.length → num a = num b → a = b := by
 intro a
 suffices h : ∀ (n : Nat) (a b : List UInt8), a.length = n → b.length = n → num a = num b → a = b from fun b hl he => h _ a b rfl hl.symm he
 intro n
 induction n with
 | zero => intro a b ha hb _; rw [List.eq_nil_of_length_eq_zero ha, List.eq_nil_of_length_eq_zero hb]
 | succ n ih =>
  intro a b ha hb he
  obtain ⟨a', c, rfl⟩ : ∃ a' c, a = a' ++ [c] := ⟨a.dropLast, a.getLast (fun e => by simp [e] at ha), (List.dropLast_concat_getLast _).symm⟩
  obtain ⟨b', d, rfl⟩ : ∃ b' d, b = b' ++ [d] := ⟨b.dropLast, b.getLast (fun e => by simp [e] at hb), (List.dropLast_concat_getLast _).symm⟩
  rw [num_snoc, num_snoc] at he
  have hc := c.toNat_lt
  have hd := d.toNat_lt
  have h1 : num a' = num b' := by omega
  have h2 : c.toNat = d.toNat := by omega
  rw [ih a' b' (by simpa using ha) (by simpa using hb) h1, UInt8.toNat_inj.1 h2]
/-! ### a sector of a record -/
structure Sec where
 kind : Nat
 mark : Nat
 left : Nat
 first : Bool
 bytes : List UInt8
 deriving DecidableEq
def headP (size kind mark : Nat) (b : List UInt8) (first : Bool) : List UInt8 :=
 UInt8.ofNat kind :: (be 8 mark ++ (be 4 b.length ++ ((if first then 1 else 0) :: (b.take (size - 18) ++ List.replicate (size - 18 - b.length) 0))))
def secP (size kind mark : Nat) (b : List UInt8) (first : Bool) : List UInt8 := headP size kind mark b first ++ be 4 (crcOf (headP size kind mark b first))
theorem headP_len {size kind mark : Nat} {b : List UInt8} {first : Bool} (h : 18 ≤ size) : (headP size kind mark b first).length = size - 4 := by
 simp [headP, be_len]; omega
theorem secP_len {size kind mark : Nat} {b : List UInt8} {first : Bool} (h : 18 ≤ size) : (secP size kind mark b first).length = size := by
 simp [secP, be_len, headP_len h]; omega
def plainB (l : List UInt8) : Bool := l.all (· == 0)
def secOf (s : List UInt8) : Option Sec :=
 if s.length < 19 then none
 else if num (s.drop (s.length - 4)) ≠ crcOf (s.take (s.length - 4)) then none
 else
  let kind := num (s.take 1)
  let mark := num ((s.drop 1).take 8)
  let left := num ((s.drop 9).take 4)
  let f := num ((s.drop 13).take 1)
  let many := min left (s.length - 18)
  if kind = 0 ∨ 1 < f ∨ 2 ^ 30 < left ∨ (f ≠ 1 ∧ left = 0) ∨ plainB ((s.drop (14 + many)).take (s.length - 4 - (14 + many))) = false then none
  else some ⟨kind, mark, left, f == 1, (s.drop 14).take many⟩
theorem num_one (c : UInt8) : num [c] = c.toNat := by simp [num]
theorem parts_of (a f : UInt8) (m n r : List UInt8) (hm : m.length = 8) (hn : n.length = 4) :
  let l := a :: (m ++ (n ++ (f :: r)))
  l.take 1 = [a] ∧ (l.drop 1).take 8 = m ∧ (l.drop 9).take 4 = n ∧ (l.drop 13).take 1 = [f] ∧ l.drop 14 = r := by
 intro l
 have h1 : l.drop 1 = m ++ (n ++ (f :: r)) := rfl
 have h9 : l.drop 9 = n ++ (f :: r) := by
  show (m ++ (n ++ (f :: r))).drop 8 = _
  rw [List.drop_append, hm, List.drop_eq_nil_of_le (by omega)]; simp
 have h13 : l.drop 13 = f :: r := by
  have : l.drop 13 = (l.drop 9).drop 4 := by rw [List.drop_drop]
  rw [this, h9, List.drop_append, hn, List.drop_eq_nil_of_le (by omega)]; simp
 have h14 : l.drop 14 = r := by
  have : l.drop 14 = (l.drop 13).drop 1 := by rw [List.drop_drop]
  rw [this, h13]; rfl
 refine ⟨rfl, ?_, ?_, ?_, h14⟩
 ·rw [h1, List.take_append_of_le_length (by omega), List.take_of_length_le (by omega)]
 ·rw [h9, List.take_append_of_le_length (by omega), List.take_of_length_le (by omega)]
 ·rw [h13]; rfl
theorem plainB_rep (n : Nat) : plainB (List.replicate n 0) = true := by
 unfold plainB
 rw [List.all_replicate]
 split <;> rfl
theorem secOf_secP {size kind mark : Nat} {b : List UInt8} {first : Bool} (hs : 19 ≤ size) (hk : 0 < kind) (hk2 : kind < 256) (hm : mark < 2 ^ 64) (hb : b.length ≤ 2 ^ 30) (hf : first = true ∨ b ≠ []) :
  secOf (secP size kind mark b first) = some ⟨kind, mark, b.length, first, b.take (size - 18)⟩ := by
 have hl := secP_len (size := size) (kind := kind) (mark := mark) (b := b) (first := first) (by omega)
 have hh := headP_len (size := size) (kind := kind) (mark := mark) (b := b) (first := first) (by omega)
 have hc : crcOf (headP size kind mark b first) < 256 ^ 4 := crcOf_lt _
 have htk : (secP size kind mark b first).take (size - 4) = headP size kind mark b first := by
  unfold secP; rw [List.take_append_of_le_length (by omega), List.take_of_length_le (by omega)]
 have hdr : (secP size kind mark b first).drop (size - 4) = be 4 (crcOf (headP size kind mark b first)) := by
  unfold secP; rw [List.drop_append_of_le_length (by omega), List.drop_eq_nil_of_le (by omega), List.nil_append]
 unfold secOf
 rw [hl, if_neg (by omega), htk, hdr, num_be 4 _ hc, if_neg (by simp)]
 have hform : secP size kind mark b first = UInt8.ofNat kind :: (be 8 mark ++ (be 4 b.length ++ ((if first then 1 else 0) :: ((b.take (size - 18) ++ List.replicate (size - 18 - b.length) 0) ++ be 4 (crcOf (headP size kind mark b first)))))) := by
  conv => lhs; unfold secP
  conv => lhs; lhs; unfold headP
  simp
 obtain ⟨p1, p2, p3, p4, p5⟩ := parts_of (UInt8.ofNat kind) (if first then 1 else 0) (be 8 mark) (be 4 b.length) ((b.take (size - 18) ++ List.replicate (size - 18 - b.length) 0) ++ be 4 (crcOf (headP size kind mark b first))) (be_len _ _) (be_len _ _)
 rw [← hform] at p1 p2 p3 p4 p5
 have hlb : b.length < 256 ^ 4 := by omega
 have n1 : num ((secP size kind mark b first).take 1) = kind := by rw [p1, num_one]; simp; omega
 have n2 : num (((secP size kind mark b first).drop 1).take 8) = mark := by rw [p2, num_be 8 _ (by omega)]
 have n3 : num (((secP size kind mark b first).drop 9).take 4) = b.length := by rw [p3, num_be 4 _ hlb]
 have n4 : num (((secP size kind mark b first).drop 13).take 1) = (if first then 1 else 0) := by rw [p4, num_one]; cases first <;> rfl
 have n5 : ((secP size kind mark b first).drop 14).take (min b.length (size - 18)) = b.take (size - 18) := by
  rw [p5, List.append_assoc, List.take_append_of_le_length (by rw [List.length_take]; omega), List.take_take, Nat.min_assoc, Nat.min_self, Nat.min_comm, ← List.take_take, List.take_of_length_le nR0]
 have n6 : plainB (((secP size kind mark b first).drop (14 + min b.length (size - 18))).take (size - 4 - (14 + min b.length (size - 18)))) = true := by
  have e : (secP size kind mark b first).drop (14 + min b.length (size - 18)) = List.replicate (size - 18 - b.length) 0 ++ be 4 (crcOf (headP size kind mark b first)) := by
   rw [← List.drop_drop, p5, List.append_assoc, List.drop_append, List.length_take, List.drop_eq_nil_of_le (by rw [List.length_take]; omega)]
   simp [Nat.min_comm]
  rw [e, List.take_append_of_le_length (by rw [List.length_replicate]; omega), List.take_of_length_le (by rw [List.length_replicate]; omega)]
  exact plainB_rep _
 simp only [n1, n2, n3, n4, n5, n6]
 rw [if_neg ?_]
 ·cases first <;> rfl
 ·rintro (h | h | h | ⟨h1, h2⟩ | h)
  ·omega
  ·cases first <;> simp at h
  ·omega
  ·rcases hf with rfl | hf
   ·exact h1 rfl
   ·exact hf (List.eq_nil_of_length_eq_zero h2)
  ·cases h
theorem secOf_turned {a b : List UInt8} {c d : UInt8} (h : c ≠ d) {x : Sec} (hx : secOf (a ++ c :: b) = some x) : secOf (a ++ d :: b) = none := by
 have hl : (a ++ d :: b).length = (a ++ c :: b).length := by simp
 have h19 : ¬ (a ++ c :: b).length < 19 := by
  intro h1
  unfold secOf at hx
  rw [if_pos h1] at hx
  cases hx
 have hsum : num ((a ++ c :: b).drop ((a ++ c :: b).length - 4)) = crcOf ((a ++ c :: b).take ((a ++ c :: b).length - 4)) := by
  unfold secOf at hx
  rw [if_neg h19] at hx
  by_cases h2 : num ((a ++ c :: b).drop ((a ++ c :: b).length - 4)) = crcOf ((a ++ c :: b).take ((a ++ c :: b).length - 4))
  ·exact h2
  ·rw [if_pos h2] at hx; cases hx
 unfold secOf
 rw [hl, if_neg h19, if_pos]
 generalize hn : (a ++ c :: b).length - 4 = n at *
 have hlen : (a ++ c :: b).length = a.length + b.length + 1 := by simp; omega
 by_cases hi : a.length < n
 ·have e : ∀ y : UInt8, (a ++ y :: b).take n = a ++ y :: b.take (n - a.length - 1) ∧ (a ++ y :: b).drop n = b.drop (n - a.length - 1) := fun y => by
   obtain ⟨m, hm⟩ : ∃ m, n - a.length = m + 1 := ⟨n - a.length - 1, by omega⟩
   rw [List.take_append, List.drop_append, List.take_of_length_le (by omega), List.drop_eq_nil_of_le (by omega), hm]
   exact ⟨rfl, by simp⟩
  rw [(e d).1, (e d).2]
  rw [(e c).1, (e c).2] at hsum
  rw [hsum]
  exact crcOf_turned a _ h
 ·have e : ∀ y : UInt8, (a ++ y :: b).take n = a.take n ∧ (a ++ y :: b).drop n = a.drop n ++ y :: b := fun y =>
   ⟨by rw [List.take_append_of_le_length (by omega)], by rw [List.drop_append_of_le_length (by omega)]⟩
  rw [(e d).1, (e d).2]
  rw [(e c).1, (e c).2] at hsum
  rw [← hsum]
  intro h3
  have h4 := num_inj _ _ (by simp) h3
  have h5 := List.append_cancel_left h4
  injection h5 with h5
  exact h h5.symm
end Go.Proofs.YtmgmfnimaafkdaaGreatDoor
namespace Go.Proofs.YtmgmfnimaafkdaaGreatDoor
set_option maxRecDepth 100000

/-! ### the disk -/
inductive SecV where
 | zero
 | torn
 | data (b : List UInt8) (turned : Bool)
 deriving DecidableEq
structure DskV where
 size : Nat
 lasts : List SecV
 waits : List (Nat × SecV)
 off : Bool
 deriving DecidableEq
def DskV.told (d : DskV) (n : Nat) : SecV := match d.waits.reverse.find? (fun w => w.1 == n) with
 | some w => w.2
 | none => d.lasts.getD n .zero
def readD (d : DskV) (n : Nat) : Nat × List UInt8 :=
 if d.lasts.length ≤ n then (1, []) else if d.off then (10, []) else match d.told n with
  | .torn => (9, [])
  | .zero => (0, List.replicate d.size 0)
  | .data b _ => (0, b)
def writeD (d : DskV) (n : Nat) (b : List UInt8) : Nat × DskV :=
 if d.lasts.length ≤ n ∨ b.length ≠ d.size then (1, d) else if d.off then (10, d) else (0, { d with waits := d.waits ++ [(n, .data b false)] })
def flushD (d : DskV) : Nat × DskV := if d.off then (10, d) else (0, { d with lasts := d.waits.foldl (fun l w => l.set w.1 w.2) d.lasts, waits := [] })
def newD (sectors size : Nat) : DskV := ⟨size, List.replicate sectors .zero, [], false⟩

/-! ### records in sectors -/
def needP (size bytes : Nat) : Nat := if size < 19 ∨ 4096 < size ∨ 2 ^ 30 < bytes then 0 else max ((bytes + (size - 18) - 1) / (size - 18)) 1
def putGo (kind mark : Nat) (b : List UInt8) (size at' : Nat) : Nat → Nat → DskV → Nat × DskV
 | 0, _, d => (0, d)
 | k + 1, i, d => match writeD d (at' + i) (secP size kind mark (b.drop (i * (size - 18))) (i == 0)) with
  | (0, d') => putGo kind mark b size at' k (i + 1) d'
  | (e, d') => (e, d')
def putP (d : DskV) (at' kind mark : Nat) (b : List UInt8) : Nat × Nat × DskV :=
 if d.lasts.length ≤ at' ∨ kind = 0 then (0, 1, d)
 else if ¬ (1 ≤ needP d.size b.length ∧ needP d.size b.length ≤ d.lasts.length - at') then (0, 5, d)
 else match putGo kind mark b d.size at' (needP d.size b.length) 0 d with
  | (0, d') => (needP d.size b.length, 0, d')
  | (e, d') => (0, e, d')
structure RecV where
 kind : Nat
 mark : Nat
 bytes : List UInt8
 many : Nat
 deriving DecidableEq
def getGo (d : DskV) (at' : Nat) : Nat → Nat → Sec → List UInt8 → Nat × RecV
 | 0, _, _, _ => (8, ⟨0, 0, [], 0⟩)
 | k + 1, i, head, out =>
  match readD d (at' + i) with
  | (0, s) =>
   if i = 0 ∧ plainB s = true then (2, ⟨0, 0, [], 0⟩)
   else match secOf s with
    | none => (8, ⟨0, 0, [], 0⟩)
    | some x =>
     if i = 0 ∧ x.first = false then (2, ⟨0, 0, [], 0⟩)
     else if 0 < i ∧ (x.first = true ∨ x.kind ≠ head.kind ∨ x.mark ≠ head.mark ∨ x.left + out.length ≠ head.left) then (8, ⟨0, 0, [], 0⟩)
     else
      let h := if i = 0 then x else head
      if (out ++ x.bytes).length = h.left then (0, ⟨h.kind, h.mark, out ++ x.bytes, i + 1⟩) else getGo d at' k (i + 1) h (out ++ x.bytes)
  | (e, _) => (e, ⟨0, 0, [], 0⟩)
def getP (d : DskV) (at' : Nat) : Nat × RecV := if d.lasts.length ≤ at' then (1, ⟨0, 0, [], 0⟩) else getGo d at' (d.lasts.length - at') 0 ⟨0, 0, 0, false, []⟩ []

/-! ### the log -/
structure LogV where
 frm : Nat
 half : Nat
 size : Nat
 use : Nat
 epoch : Nat
 at' : Nat
 recs : List (Nat × List UInt8)
 deriving DecidableEq
def LogV.begin (l : LogV) (h : Nat) : Nat := l.frm + h * l.half
def LogV.needR (l : LogV) (r : Nat × List UInt8) : Nat := needP l.size (1 + r.2.length)
def LogV.left (l : LogV) : Nat := l.begin l.use + l.half - l.at'
def recB (r : Nat × List UInt8) : List UInt8 := UInt8.ofNat r.1 :: r.2
def MARKS : Nat := 1048576
def addL (d : DskV) (l : LogV) (r : Nat × List UInt8) : Nat × DskV × LogV :=
 if 4000 < r.2.length then (1, d, l)
 else if l.left < l.needR r ∨ l.recs.length = 1000000 then (5, d, l)
 else match putP d l.at' 82 (l.epoch * MARKS + l.recs.length + 1) (recB r) with
  | (n, 0, d') => (0, d', { l with at' := l.at' + n, recs := l.recs ++ [r] })
  | (_, e, d') => (e, d', l)
def turnRecs (size epoch : Nat) : List (Nat × List UInt8) → Nat → Nat → DskV → Nat × Nat × DskV
 | [], _, at', d => (0, at', d)
 | r :: rs, i, at', d => match putP d at' 82 (epoch * MARKS + i + 1) (recB r) with
  | (n, 0, d') => turnRecs size epoch rs (i + 1) (at' + n) d'
  | (_, e, d') => (e, at', d')
def zeros : Nat → Nat → DskV → Nat × DskV
 | 0, _, d => (0, d)
 | k + 1, n, d => match writeD d n (List.replicate d.size 0) with
  | (0, d') => zeros k (n + 1) d'
  | (e, d') => (e, d')
def turnGo (d : DskV) (l : LogV) (keep : List (Nat × List UInt8)) : Nat × DskV × LogV :=
 let half := 1 - l.use
 let epoch := l.epoch + 1
 let b := l.begin half
 match turnRecs l.size epoch keep 0 (b + needP l.size 0) d with
 | (0, at', d1) => match zeros (b + l.half - at') at' d1 with
  | (0, d2) => match flushD d2 with
   | (0, d3) => match putP d3 b 72 epoch [] with
    | (_, 0, d4) => match flushD d4 with
     | (0, d5) => (0, d5, { l with use := half, epoch := epoch, at' := at', recs := keep })
     | (e, d5) => (e, d5, l)
    | (_, e, d4) => (e, d4, l)
   | (e, d3) => (e, d3, l)
  | (e, d2) => (e, d2, l)
 | (e, _, d1) => (e, d1, l)
def turnL (d : DskV) (l : LogV) (keep : List (Nat × List UInt8)) : Nat × DskV × LogV :=
 if keep.any (fun r => 4000 < r.2.length) then (1, d, l)
 else if l.half < needP l.size 0 + (keep.map l.needR).sum ∨ 1000000 < keep.length then (5, d, l)
 else turnGo d l keep
def loadGo (d : DskV) : Nat → LogV → Nat × LogV
 | 0, l => (0, l)
 | k + 1, l =>
  if l.begin l.use + l.half ≤ l.at' then (0, l)
  else match getP d l.at' with
   | (10, _) => (10, l)
   | (0, r) =>
    if r.kind ≠ 82 ∨ r.mark ≠ l.epoch * MARKS + l.recs.length + 1 ∨ r.bytes = [] ∨ l.begin l.use + l.half - l.at' < r.many then (0, l)
    else loadGo d k { l with recs := l.recs ++ [((r.bytes.headD 0).toNat, r.bytes.drop 1)], at' := l.at' + r.many }
   | (_, _) => (0, l)
def findHalf (d : DskV) (l : LogV) (h : Nat) (found : Bool) : Nat × LogV × Bool :=
 match getP d (l.begin h) with
 | (10, _) => (10, l, found)
 | (0, r) => if r.kind ≠ 72 ∨ r.bytes ≠ [] then (0, l, found) else if found = false ∨ l.epoch < r.mark then (0, { l with use := h, epoch := r.mark }, true) else (0, l, found)
 | (_, _) => (0, l, found)
def findL (d : DskV) (l0 : LogV) : Nat × LogV :=
 match findHalf d { l0 with use := 1, epoch := 0 } 0 false with
 | (0, l1, f1) => match findHalf d l1 1 f1 with
  | (0, l2, f2) => if f2 then loadGo d (l2.half + 1) { l2 with at' := l2.begin l2.use + needP l2.size 0 } else (0, { l2 with at' := l2.begin l2.use })
  | (e, l2, _) => (e, l2)
 | (e, l1, _) => (e, l1)
def openL (d : DskV) (frm sectors : Nat) : Nat × DskV × LogV :=
 let l : LogV := ⟨frm, sectors / 2, d.size, 0, 0, 0, []⟩
 if d.size < 19 ∨ sectors < 4 ∨ d.lasts.length < sectors ∨ d.lasts.length - sectors < frm then (1, d, l)
 else match findL d l with
  | (0, l1) => turnGo d l1 l1.recs
  | (e, l1) => (e, d, l1)

/-! ### which sectors are free -/
structure MapV where
 frm : Nat
 sectors : Nat
 free : List (Nat × Nat)
 deriving DecidableEq
def takeAt (f : List (Nat × Nat)) (i at' len : Nat) : List (Nat × Nat) :=
 let x := f.getD i (0, 0)
 f.take i ++ ((if x.1 < at' then [(x.1, at' - x.1)] else []) ++ (if at' + len < x.1 + x.2 then [(at' + len, x.1 + x.2 - (at' + len))] else [])) ++ f.drop (i + 1)
def takeM (m : MapV) (n : Nat) : Nat × (Nat × Nat) × MapV :=
 if n < 1 then (1, (0, 0), m) else match m.free.findIdx? (fun f => n ≤ f.2) with
  | some i => (0, ((m.free.getD i (0, 0)).1, n), { m with free := takeAt m.free i (m.free.getD i (0, 0)).1 n })
  | none => (5, (0, 0), m)
def oursM (m : MapV) (at' len : Nat) : Bool := 1 ≤ len && len ≤ m.sectors && m.frm ≤ at' && at' - m.frm ≤ m.sectors - len
def meetsM (m : MapV) (at' : Nat) : Nat := (m.free.findIdx? (fun f => at' < f.1 + f.2)).getD m.free.length
def claimM (m : MapV) (at' len : Nat) : Nat × MapV :=
 if oursM m at' len = false then (1, m)
 else
  let i := meetsM m at'
  if i = m.free.length ∨ at' < (m.free.getD i (0, 0)).1 ∨ (m.free.getD i (0, 0)).1 + (m.free.getD i (0, 0)).2 < at' + len then (7, m)
  else (0, { m with free := takeAt m.free i at' len })
def giveM (m : MapV) (at' len : Nat) : Nat × MapV :=
 if oursM m at' len = false then (1, m)
 else
  let i := meetsM m at'
  if i < m.free.length ∧ (m.free.getD i (0, 0)).1 < at' + len then (6, m)
  else
   let back := 0 < i ∧ (m.free.getD (i - 1) (0, 0)).1 + (m.free.getD (i - 1) (0, 0)).2 = at'
   let e1 : Nat × Nat := if back then ((m.free.getD (i - 1) (0, 0)).1, (m.free.getD (i - 1) (0, 0)).2 + len) else (at', len)
   let i1 := if back then i - 1 else i
   let on := i < m.free.length ∧ (m.free.getD i (0, 0)).1 = at' + len
   let e2 : Nat × Nat := if on then (e1.1, e1.2 + (m.free.getD i (0, 0)).2) else e1
   let j := if on then i + 1 else i
   (0, { m with free := m.free.take i1 ++ e2 :: m.free.drop j })

/-! ### the store -/
abbrev NameV := Int × Int
structure SlotV where
 at' : Int
 len : Nat
 bytes : Nat
 mark : Int
 deriving DecidableEq
structure StV where
 d : DskV
 log : LogV
 map : MapV
 notes : List (Int × List UInt8)
 slices : List (NameV × SlotV)
 marks : List (List UInt8)
 epoch : Nat
 puts : Nat
 deriving DecidableEq
def putN {α : Type} (k : Int) (v : α) : List (Int × α) → List (Int × α)
 | [] => [(k, v)]
 | (a, x) :: l => if k < a then (k, v) :: (a, x) :: l else if a = k then (k, v) :: l else (a, x) :: putN k v l
def ltN (a b : NameV) : Bool := a.1 < b.1 || (a.1 == b.1 && a.2 < b.2)
def putS {α : Type} (k : NameV) (v : α) : List (NameV × α) → List (NameV × α)
 | [] => [(k, v)]
 | (a, x) :: l => if ltN k a then (k, v) :: (a, x) :: l else if a = k then (k, v) :: l else (a, x) :: putS k v l
def rightB (n : Int) : Bool := 0 ≤ n && n ≤ 1099511627776
def wordsS (l : List Int) : List UInt8 := Lib.join (l.map Lib.itoa) [32]
def intOfW (l : List UInt8) : Option Int := match Lib.parseIntB 64 l with
 | .ok v => some v
 | _ => none
def numbersS (s : List UInt8) (many : Nat) : Option (List Int) :=
 match (Lib.split s [32]).mapM intOfW with
 | some l => if l.length = many ∧ wordsS l = s then some l else none
 | none => none
def cutB (s : List UInt8) : Option (List UInt8 × List UInt8) := if 32 ∈ s then some (s.takeWhile (· != 32), (s.dropWhile (· != 32)).drop 1) else none
abbrev RecL := Nat × List UInt8
def slotRec (n : NameV) (x : SlotV) : RecL := (83, wordsS [n.1, n.2, x.at', x.bytes, x.mark])
def recordsS (s : StV) : List RecL :=
 (s.notes.map fun n => (78, wordsS [n.1] ++ 32 :: n.2)) ++ (s.slices.map fun n => slotRec n.1 n.2) ++ (s.marks.map fun m => (77, m))
def heedS (s : StV) (r : RecL) : StV :=
 if r.1 = 78 then match cutB r.2 with
  | some (first, note) => match numbersS first 1 with
   | some [v] => if rightB v then { s with notes := putN v note s.notes } else s
   | _ => s
  | none => s
 else if r.1 = 77 then { s with marks := s.marks ++ [r.2] }
 else if r.1 = 83 then match numbersS r.2 5 with
  | some [v, n, a, b, m] => if rightB v && rightB n && 1 ≤ b && b ≤ 1048576 then { s with slices := putS (v, n) ⟨a, needP s.d.size b.toNat, b.toNat, m⟩ s.slices } else s
  | _ => s
 else if r.1 = 68 then match numbersS r.2 2 with
  | some [v, n] => { s with slices := s.slices.filter fun x => x.1 ≠ (v, n) }
  | _ => s
 else if r.1 = 70 then match numbersS r.2 1 with
  | some [v] => { s with notes := s.notes.filter (fun x => x.1 ≠ v), slices := s.slices.filter fun x => x.1.1 ≠ v }
  | _ => s
 else if r.1 = 84 then match numbersS r.2 1 with
  | some [k] => if 0 ≤ k ∧ k < s.marks.length then { s with marks := s.marks.drop (s.marks.length - k.toNat) } else s
  | _ => s
 else s
def tellsS (d : DskV) (x : SlotV) : Nat × List UInt8 :=
 if x.at' < 0 then (8, []) else match getP d x.at'.toNat with
 | (10, _) => (10, [])
 | (0, r) => if r.kind ≠ 83 ∨ (r.mark : Int) ≠ x.mark ∨ r.bytes.length ≠ x.bytes then (8, []) else (0, r.bytes)
 | (_, _) => (8, [])
def claimAll (d : DskV) : List (NameV × SlotV) → MapV → Nat × List (NameV × SlotV) × MapV
 | [], m => (0, [], m)
 | (n, x) :: l, m => match tellsS d x with
  | (10, _) => (10, [], m)
  | (0, _) => if x.at' < 0 then match claimAll d l m with
     | (e, r, m') => (e, r, m')
    else match claimM m x.at'.toNat x.len with
    | (0, m1) => match claimAll d l m1 with
     | (e, r, m') => (e, (n, x) :: r, m')
    | (_, _) => claimAll d l m
  | (_, _) => claimAll d l m
def openS (d : DskV) : Nat × DskV × Option StV :=
 let all := d.lasts.length
 let quarter := all / 4
 let need := needP d.size 201
 if quarter < 4 ∨ need = 0 ∨ quarter / 2 - needP d.size 0 < need ∨ quarter / 2 < needP d.size 0 then (1, d, none)
 else match openL d 0 quarter with
  | (0, d1, l1) =>
   let s0 : StV := ⟨d1, l1, ⟨quarter, all - quarter, if 0 < all - quarter then [(quarter, all - quarter)] else []⟩, [], [], [], 0, 0⟩
   let s1 := l1.recs.foldl heedS s0
   match claimAll d1 s1.slices s1.map with
   | (0, sl, m) =>
    let s2 := { s1 with slices := sl, map := m }
    match turnL d1 l1 (recordsS s2) with
    | (0, d2, l2) => (0, d2, some { s2 with d := d2, log := l2 })
    | (e, d2, _) => (e, d2, none)
   | (e, _, _) => (e, d1, none)
  | (e, d1, _) => (e, d1, none)
def loggedS (s was : StV) (r : RecL) : Nat × StV :=
 match addL s.d s.log r with
 | (0, d1, l1) => (0, { s with d := d1, log := l1 })
 | (5, d1, l1) => match turnL d1 l1 (recordsS s) with
  | (0, d2, l2) => (0, { s with d := d2, log := l2 })
  | (e, d2, l2) => (e, { was with d := d2, log := l2 })
 | (e, d1, l1) => (e, { was with d := d1, log := l1 })
def nextS (s : StV) : Nat × Int × StV :=
 let go := fun (s : StV) => let s := if s.epoch ≠ s.log.epoch then { s with epoch := s.log.epoch, puts := 0 } else s
  (0, (s.epoch * 1048576 + (s.puts + 1) : Int), { s with puts := s.puts + 1 })
 if s.epoch = s.log.epoch ∧ s.puts = 1048575 then match turnL s.d s.log (recordsS s) with
  | (0, d1, l1) => go { s with d := d1, log := l1 }
  | (e, d1, l1) => (e, 0, { s with d := d1, log := l1 })
 else go s
def getS (s : StV) (n : NameV) : Option SlotV := (s.slices.find? (fun x => x.1 == n)).map (·.2)
def syncS (s : StV) : Nat × StV := match flushD s.d with
 | (e, d) => (e, { s with d := d })
def putStore (s : StV) (n : NameV) (b : List UInt8) : Nat × StV :=
 if rightB n.1 = false ∨ rightB n.2 = false ∨ b.length < 1 ∨ 1048576 < b.length then (1, s)
 else if (getS s n).isSome then (7, s)
 else match takeM s.map (needP s.d.size b.length) with
  | (0, a, m1) => match nextS { s with map := m1 } with
   | (0, mark, s1) => match putP s1.d a.1 83 mark.toNat b with
    | (_, 0, d1) =>
     let x : SlotV := ⟨a.1, a.2, b.length, mark⟩
     let s2 := { s1 with d := d1 }
     loggedS { s2 with slices := putS n x s2.slices } { s2 with map := (giveM s2.map a.1 a.2).2 } (slotRec n x)
    | (_, e, d1) => (e, { s1 with d := d1, map := (giveM s1.map a.1 a.2).2 })
   | (e, _, s1) => (e, { s1 with map := (giveM s1.map a.1 a.2).2 })
  | (e, _, _) => (e, s)
def noteStore (s : StV) (v : Int) (t : List UInt8) : Nat × StV :=
 if rightB v = false ∨ 3000 < t.length then (1, s)
 else match loggedS { s with notes := putN v t s.notes } s (78, wordsS [v] ++ 32 :: t) with
  | (0, s1) => syncS s1
  | (e, s1) => (e, s1)
def giveSlot (m : MapV) (x : SlotV) : MapV := if x.at' < 0 then m else (giveM m x.at'.toNat x.len).2
def dropStore (s : StV) (n : NameV) : Nat × StV :=
 match getS s n with
 | none => (6, s)
 | some x => match loggedS { s with slices := s.slices.filter fun y => y.1 ≠ n } s (68, wordsS [n.1, n.2]) with
  | (0, s1) => (0, { s1 with map := giveSlot s1.map x })
  | (e, s1) => (e, s1)
def flipB (b : List UInt8) (bit : Nat) : List UInt8 := b.set (bit / 8) (b.getD (bit / 8) 0 ^^^ UInt8.ofNat (2 ^ (bit % 8)))
def rotSec (size bit : Nat) : SecV → Nat × SecV
 | .zero => (0, .data (flipB (List.replicate size 0) bit) true)
 | .torn => (9, .torn)
 | .data b true => (11, .data b true)
 | .data b false => (0, .data (flipB b bit) true)
def setLast (n : Nat) (v : SecV) : List (Nat × SecV) → Option (List (Nat × SecV))
 | [] => none
 | w :: l => match setLast n v l with
  | some l' => some (w :: l')
  | none => if w.1 = n then some ((n, v) :: l) else none
def rotD (d : DskV) (n bit : Nat) : Nat × DskV :=
 if d.lasts.length ≤ n ∨ 8 * d.size ≤ bit then (1, d) else if d.off then (10, d) else match rotSec d.size bit (d.told n) with
  | (0, v) => match setLast n v d.waits with
   | some ws => (0, { d with waits := ws })
   | none => (0, { d with lasts := d.lasts.set n v })
  | (e, _) => (e, d)
end Go.Proofs.YtmgmfnimaafkdaaGreatDoor
namespace Go.Proofs.YtmgmfnimaafkdaaGreatDoor
end Go.Proofs.YtmgmfnimaafkdaaGreatDoor
namespace Go.Proofs.YtmgmfnimaafkdaaGreatDoor
set_option maxRecDepth 100000

def DskV.Like (d d' : DskV) : Prop := d'.size = d.size ∧ d'.lasts.length = d.lasts.length ∧ d'.off = d.off
theorem DskV.Like.refl (d : DskV) : d.Like d := ⟨rfl, rfl, rfl⟩
theorem DskV.Like.trans {a b c : DskV} (h : a.Like b) (k : b.Like c) : a.Like c := ⟨k.1.trans h.1, k.2.1.trans h.2.1, k.2.2.trans h.2.2⟩
theorem writeD_ok {d : DskV} {n : Nat} {b : List UInt8} (hn : n < d.lasts.length) (hb : b.length = d.size) (ho : d.off = false) : ∃ d', writeD d n b = (0, d') ∧ d.Like d' := by
 unfold writeD
 rw [if_neg (by omega), if_neg (by rw [ho]; simp)]
 exact ⟨_, rfl, rfl, rfl, rfl⟩
theorem foldl_set_length (ws : List (Nat × SecV)) : ∀ l : List SecV, (ws.foldl (fun l w => l.set w.1 w.2) l).length = l.length := by
 induction ws with
 | nil => intro l; rfl
 | cons w ws ih => intro l; rw [List.foldl_cons, ih, List.length_set]
theorem flushD_ok {d : DskV} (ho : d.off = false) : ∃ d', flushD d = (0, d') ∧ d.Like d' := by
 unfold flushD
 rw [if_neg (by rw [ho]; simp)]
 exact ⟨_, rfl, rfl, foldl_set_length _ _, rfl⟩
theorem putGo_ok {kind mark size at' : Nat} {b : List UInt8} (hs : 18 ≤ size) : ∀ (k i : Nat) (d : DskV), d.size = size → d.off = false → at' + i + k ≤ d.lasts.length → ∃ d', putGo kind mark b size at' k i d = (0, d') ∧ d.Like d'
 | 0, i, d, _, _, _ => ⟨d, rfl, DskV.Like.refl d⟩
 | k + 1, i, d, hz, ho, hl => by
  obtain ⟨d1, h1, hL⟩ := writeD_ok (d := d) (n := at' + i) (b := secP size kind mark (b.drop (i * (size - 18))) (i == 0)) (by omega) (by rw [secP_len hs, hz]) ho
  obtain ⟨d2, h2, hL2⟩ := putGo_ok (kind := kind) (mark := mark) (at' := at') (b := b) hs k (i + 1) d1 (hL.1.trans hz) (hL.2.2.trans ho) (by rw [hL.2.1]; omega)
  refine ⟨d2, ?_, hL.trans hL2⟩
  unfold putGo
  rw [h1]
  exact h2
theorem putP_ok {d : DskV} {at' kind mark : Nat} {b : List UInt8} (hs : 19 ≤ d.size) (hk : 0 < kind) (ho : d.off = false) (h1 : 1 ≤ needP d.size b.length) (hl : at' + needP d.size b.length ≤ d.lasts.length) :
  ∃ d', putP d at' kind mark b = (needP d.size b.length, 0, d') ∧ d.Like d' := by
 obtain ⟨d', h, hL⟩ := putGo_ok (kind := kind) (mark := mark) (b := b) (size := d.size) (at' := at') (by omega) (needP d.size b.length) 0 d rfl ho (by omega)
 refine ⟨d', ?_, hL⟩
 unfold putP
 rw [if_neg (by omega), if_neg (by omega), h]
 rfl
theorem zeros_ok : ∀ (k n : Nat) (d : DskV), d.off = false → n + k ≤ d.lasts.length → ∃ d', zeros k n d = (0, d') ∧ d.Like d'
 | 0, n, d, _, _ => ⟨d, rfl, DskV.Like.refl d⟩
 | k + 1, n, d, ho, hl => by
  obtain ⟨d1, h1, hL⟩ := writeD_ok (d := d) (n := n) (b := List.replicate d.size 0) (by omega) (by simp) ho
  obtain ⟨d2, h2, hL2⟩ := zeros_ok k (n + 1) d1 (hL.2.2.trans ho) (by rw [hL.2.1]; omega)
  refine ⟨d2, ?_, hL.trans hL2⟩
  unfold zeros
  rw [h1]
  exact h2
theorem needP_pos {size bytes : Nat} (h1 : 19 ≤ size) (h2 : size ≤ 4096) (h3 : bytes ≤ 2 ^ 30) : 1 ≤ needP size bytes := by
 unfold needP
 rw [if_neg (by omega)]
 omega
theorem turnRecs_ok {size epoch : Nat} (h1 : 19 ≤ size) (h2 : size ≤ 4096) : ∀ (rs : List RecL) (i at' : Nat) (d : DskV), d.size = size → d.off = false → (∀ r ∈ rs, r.2.length ≤ 4000) → at' + (rs.map fun r => needP size (1 + r.2.length)).sum ≤ d.lasts.length →
  ∃ d', turnRecs size epoch rs i at' d = (0, at' + (rs.map fun r => needP size (1 + r.2.length)).sum, d') ∧ d.Like d'
 | [], i, at', d, _, _, _, _ => ⟨d, rfl, DskV.Like.refl d⟩
 | r :: rs, i, at', d, hz, ho, hr, hl => by
  have hb : (recB r).length = 1 + r.2.length := by unfold recB; simp; omega
  have h4 := hr r (by simp)
  have hp : 1 ≤ needP size (1 + r.2.length) := needP_pos h1 h2 (by omega)
  rw [List.map_cons, List.sum_cons] at hl
  obtain ⟨d1, e1, hL⟩ := putP_ok (d := d) (at' := at') (kind := 82) (mark := epoch * MARKS + i + 1) (b := recB r) (by omega) (by omega) ho (by rw [hz, hb]; exact hp) (by rw [hz, hb]; omega)
  rw [hz, hb] at e1
  obtain ⟨d2, e2, hL2⟩ := turnRecs_ok h1 h2 rs (i + 1) (at' + needP size (1 + r.2.length)) d1 (hL.1.trans hz) (hL.2.2.trans ho) (fun x hx => hr x (by simp [hx])) (by rw [hL.2.1]; omega)
  refine ⟨d2, ?_, hL.trans hL2⟩
  unfold turnRecs
  rw [e1]
  rw [List.map_cons, List.sum_cons, ← Nat.add_assoc]
  exact e2
theorem turnGo_ok {d : DskV} {l : LogV} {keep : List RecL} (h1 : 19 ≤ d.size) (h2 : d.size ≤ 4096) (hz : l.size = d.size) (ho : d.off = false) (hr : ∀ r ∈ keep, r.2.length ≤ 4000)
  (hfit : needP l.size 0 + (keep.map l.needR).sum ≤ l.half) (hin : l.frm + 2 * l.half ≤ d.lasts.length) :
  ∃ d', turnGo d l keep = (0, d', { l with use := 1 - l.use, epoch := l.epoch + 1, at' := l.begin (1 - l.use) + needP l.size 0 + (keep.map l.needR).sum, recs := keep }) ∧ d.Like d' := by
 have hb : l.begin (1 - l.use) + l.half ≤ d.lasts.length := by
  unfold LogV.begin
  have : (1 - l.use) * l.half ≤ 1 * l.half := Nat.mul_le_mul_right _ (by omega)
  omega
 have hn : (keep.map l.needR).sum = (keep.map fun r => needP l.size (1 + r.2.length)).sum := rfl
 rw [hn] at hfit ⊢
 obtain ⟨d1, e1, L1⟩ := turnRecs_ok (size := l.size) (epoch := l.epoch + 1) (by omega) (by omega) keep 0 (l.begin (1 - l.use) + needP l.size 0) d hz.symm ho hr (by omega)
 obtain ⟨d2, e2, L2⟩ := zeros_ok (l.begin (1 - l.use) + l.half - (l.begin (1 - l.use) + needP l.size 0 + (keep.map fun r => needP l.size (1 + r.2.length)).sum)) (l.begin (1 - l.use) + needP l.size 0 + (keep.map fun r => needP l.size (1 + r.2.length)).sum) d1 (L1.2.2.trans ho) (by rw [L1.2.1]; omega)
 have L12 := L1.trans L2
 obtain ⟨d3, e3, L3⟩ := flushD_ok (d := d2) (L12.2.2.trans ho)
 have L13 := L12.trans L3
 have hp : 1 ≤ needP d.size 0 := needP_pos h1 h2 (by omega)
 obtain ⟨d4, e4, L4⟩ := putP_ok (d := d3) (at' := l.begin (1 - l.use)) (kind := 72) (mark := l.epoch + 1) (b := []) (by rw [L13.1]; omega) (by omega) (L13.2.2.trans ho) (by rw [L13.1]; exact hp) (by rw [L13.1, L13.2.1]; rw [hz] at hfit; simp; omega)
 have L14 := L13.trans L4
 obtain ⟨d5, e5, L5⟩ := flushD_ok (d := d4) (L14.2.2.trans ho)
 refine ⟨d5, ?_, L14.trans L5⟩
 unfold turnGo
 simp only [e1, e2, e3, e4, e5]

/-! ### an empty disk -/
theorem told_fresh (n k i : Nat) : (newD n k).told i = .zero := by
 unfold DskV.told newD
 simp only [List.reverse_nil, List.find?_nil]
 rw [List.getD_eq_getElem?_getD, List.getElem?_replicate]
 split <;> rfl
theorem getP_fresh {n k i : Nat} (h : i < n) : getP (newD n k) i = (2, ⟨0, 0, [], 0⟩) := by
 have hl : (newD n k).lasts.length = n := by simp [newD]
 unfold getP
 rw [hl, if_neg (by omega)]
 obtain ⟨m, hm⟩ : ∃ m, n - i = m + 1 := ⟨n - i - 1, by omega⟩
 rw [hm]
 unfold getGo
 have hr : readD (newD n k) (i + 0) = (0, List.replicate k 0) := by
  unfold readD
  rw [hl, if_neg (by omega), told_fresh]
  rfl
 simp only [hr, plainB_rep, and_self, if_true]
theorem needP_zero {size : Nat} (h1 : 19 ≤ size) (h2 : size ≤ 4096) : needP size 0 = 1 := by
 unfold needP
 rw [if_neg (by omega)]
 have : (0 + (size - 18) - 1) / (size - 18) = 0 := Nat.div_eq_of_lt (by omega)
 rw [this]; rfl
theorem needP_some {size bytes : Nat} (h : needP size bytes ≠ 0) : 19 ≤ size ∧ size ≤ 4096 := by
 unfold needP at h
 by_cases hc : size < 19 ∨ 4096 < size ∨ 2 ^ 30 < bytes
 ·rw [if_pos hc] at h; exact absurd rfl h
 ·omega
def standsB (n k : Nat) : Bool := !(n / 4 < 4 || needP k 201 == 0 || n / 4 / 2 - needP k 0 < needP k 201 || n / 4 / 2 < needP k 0)
theorem openL_fresh {n k q : Nat} (h1 : 19 ≤ k) (h2 : k ≤ 4096) (hq : 4 ≤ q) (hqn : q ≤ n) :
  ∃ d, openL (newD n k) 0 q = (0, d, ⟨0, q / 2, k, 0, 1, 1, []⟩) ∧ (newD n k).Like d := by
 have hl : (newD n k).lasts.length = n := by simp [newD]
 have hz : (newD n k).size = k := rfl
 have hn0 := needP_zero h1 h2
 have hf : findL (newD n k) ⟨0, q / 2, k, 0, 0, 0, []⟩ = (0, ⟨0, q / 2, k, 1, 0, q / 2, []⟩) := by
  have g0 : getP (newD n k) 0 = (2, ⟨0, 0, [], 0⟩) := getP_fresh (by omega)
  have g1 : getP (newD n k) (q / 2) = (2, ⟨0, 0, [], 0⟩) := getP_fresh (by omega)
  simp [findL, findHalf, LogV.begin, g0, g1]
 obtain ⟨d', e, L⟩ := turnGo_ok (d := newD n k) (l := ⟨0, q / 2, k, 1, 0, q / 2, []⟩) (keep := []) (by rw [hz]; exact h1) (by rw [hz]; exact h2) rfl rfl (fun r hr => by cases hr) (by simp [hn0]; omega) (by rw [hl]; simp; omega)
 refine ⟨d', ?_, L⟩
 unfold openL
 simp only [hz, hl]
 rw [if_neg (by omega), hf]
 simp only [e]
 simp [LogV.begin, hn0]
end Go.Proofs.YtmgmfnimaafkdaaGreatDoor
namespace Go.Proofs.YtmgmfnimaafkdaaGreatDoor
set_option maxRecDepth 100000

def toldL (lasts : List SecV) (ws : List (Nat × SecV)) (n : Nat) : SecV := match ws.reverse.find? (fun w => w.1 == n) with
 | some w => w.2
 | none => lasts.getD n .zero
theorem told_eq (d : DskV) (n : Nat) : d.told n = toldL d.lasts d.waits n := rfl
theorem toldL_snoc (l : List SecV) (ws : List (Nat × SecV)) (w : Nat × SecV) (n : Nat) : toldL l (ws ++ [w]) n = if w.1 = n then w.2 else toldL l ws n := by
 unfold toldL
 rw [List.reverse_append, List.reverse_singleton, List.singleton_append, List.find?_cons]
 by_cases h : w.1 = n
 ·simp [h]
 ·have : (w.1 == n) = false := by simpa using h
  simp [this, h]
theorem snoc_ind {α : Type} {P : List α → Prop} (h0 : P []) (h1 : ∀ l a, P l → P (l ++ [a])) (l : List α) : P l := by
 suffices h : ∀ n (l : List α), l.length = n → P l from h _ l rfl
 intro n
 induction n with
 | zero => intro l hl; rw [List.eq_nil_of_length_eq_zero hl]; exact h0
 | succ n ih =>
  intro l hl
  have hne : l ≠ [] := fun e => by simp [e] at hl
  rw [← List.dropLast_concat_getLast hne]
  exact h1 _ _ (ih _ (by rw [List.length_dropLast]; omega))
theorem toldL_flush (l : List SecV) (ws : List (Nat × SecV)) (n : Nat) (hn : n < l.length) : toldL (ws.foldl (fun l w => l.set w.1 w.2) l) [] n = toldL l ws n := by
 induction ws using snoc_ind with
 | h0 => rfl
 | h1 ws w ih =>
  rw [List.foldl_append, toldL_snoc]
  show (((ws.foldl (fun l w => l.set w.1 w.2) l).set w.1 w.2).getD n .zero) = _
  have hlen := foldl_set_length ws l
  by_cases h : w.1 = n
  ·rw [if_pos h, h, List.getD_eq_getElem?_getD, List.getElem?_set_self (by omega)]; rfl
  ·rw [if_neg h, List.getD_eq_getElem?_getD, List.getElem?_set_ne h, ← List.getD_eq_getElem?_getD]
   exact ih
theorem told_write {d d' : DskV} {n : Nat} {b : List UInt8} (h : writeD d n b = (0, d')) (m : Nat) : d'.told m = if n = m then .data b false else d.told m := by
 unfold writeD at h
 split at h
 ·simp at h
 ·split at h
  ·simp at h
  ·injection h with _ h
   rw [← h, told_eq, told_eq]
   exact toldL_snoc _ _ _ _
theorem told_flush {d d' : DskV} (h : flushD d = (0, d')) (m : Nat) (hm : m < d.lasts.length) : d'.told m = d.told m := by
 unfold flushD at h
 split at h
 ·simp at h
 ·injection h with _ h
  rw [← h, told_eq, told_eq]
  exact toldL_flush _ _ _ hm

def Holds (d : DskV) (at' kind mark : Nat) (t : List UInt8) : Prop := ∀ i, i < needP d.size t.length → d.told (at' + i) = .data (secP d.size kind mark (t.drop (i * (d.size - 18))) (i == 0)) false
theorem need_enough {size bytes : Nat} (h1 : 19 ≤ size) (h2 : size ≤ 4096) (h3 : bytes ≤ 2 ^ 30) : bytes ≤ needP size bytes * (size - 18) ∧ (0 < bytes → (needP size bytes - 1) * (size - 18) < bytes) := by
 unfold needP
 rw [if_neg (by omega)]
 have hp : 0 < size - 18 := by omega
 generalize size - 18 = k at *
 have h4 := Nat.div_add_mod (bytes + k - 1) k
 have h5 := Nat.mod_lt (bytes + k - 1) hp
 generalize (bytes + k - 1) / k = q at *
 constructor
 ·by_cases hb : bytes = 0
  ·subst hb; simp
  ·have hq : 1 ≤ q := by
    rcases Nat.eq_zero_or_pos q with h | h
    ·subst h; omega
    ·exact h
   rw [Nat.max_eq_left hq, Nat.mul_comm]
   omega
 ·intro hb
  have hq : 1 ≤ q := by
   rcases Nat.eq_zero_or_pos q with h | h
   ·subst h; omega
   ·exact h
  rw [Nat.max_eq_left hq]
  obtain ⟨r, rfl⟩ : ∃ r, q = r + 1 := ⟨q - 1, by omega⟩
  rw [Nat.add_sub_cancel, Nat.mul_comm]
  rw [Nat.mul_add] at h4
  omega
theorem getGo_holds {d : DskV} {at' kind mark : Nat} {t : List UInt8} (h : Holds d at' kind mark t) (hs : 19 ≤ d.size) (hs2 : d.size ≤ 4096) (hk : 0 < kind) (hk2 : kind < 256) (hm : mark < 2 ^ 64) (ht : t.length ≤ 2 ^ 30) (h0 : 0 < t.length)
  (ho : d.off = false) (hl : at' + needP d.size t.length ≤ d.lasts.length) : ∀ (k i : Nat) (head : Sec), i + k = d.lasts.length - at' → i < needP d.size t.length → (0 < i → head = ⟨kind, mark, t.length, true, t.take (d.size - 18)⟩) →
  getGo d at' k i head (t.take (i * (d.size - 18))) = (0, ⟨kind, mark, t, needP d.size t.length⟩)
 | 0, i, head, hk', hi, _ => by omega
 | k + 1, i, head, hk', hi, hh => by
  obtain ⟨n1, n2⟩ := need_enough hs hs2 ht
  have n2 := n2 h0
  have hlt : i * (d.size - 18) < t.length := by
   have : i * (d.size - 18) ≤ (needP d.size t.length - 1) * (d.size - 18) := Nat.mul_le_mul_right _ (by omega)
   omega
  have hr : readD d (at' + i) = (0, secP d.size kind mark (t.drop (i * (d.size - 18))) (i == 0)) := by
   unfold readD
   rw [if_neg (by omega), if_neg (by rw [ho]; simp), h i hi]
  have hsec : secOf (secP d.size kind mark (t.drop (i * (d.size - 18))) (i == 0)) = some ⟨kind, mark, t.length - i * (d.size - 18), i == 0, (t.drop (i * (d.size - 18))).take (d.size - 18)⟩ := by
   have := secOf_secP (size := d.size) (kind := kind) (mark := mark) (b := t.drop (i * (d.size - 18))) (first := i == 0) hs hk hk2 hm (by rw [List.length_drop]; omega) (.inr (fun e => by have := congrArg List.length e; rw [List.length_drop] at this; simp at this; omega))
   rw [List.length_drop] at this
   exact this
  have hpl : plainB (secP d.size kind mark (t.drop (i * (d.size - 18))) (i == 0)) = false := by
   have e : ∃ r, secP d.size kind mark (t.drop (i * (d.size - 18))) (i == 0) = UInt8.ofNat kind :: r := by
    unfold secP headP; exact ⟨_, rfl⟩
   obtain ⟨r, e⟩ := e
   rw [e]
   unfold plainB
   rw [List.all_cons]
   have : (UInt8.ofNat kind == 0) = false := by
    rw [beq_eq_false_iff_ne]
    intro hz
    have := congrArg UInt8.toNat hz
    simp at this
    omega
   rw [this]; rfl
  have htake : t.take (i * (d.size - 18)) ++ (t.drop (i * (d.size - 18))).take (d.size - 18) = t.take ((i + 1) * (d.size - 18)) := by
   rw [← List.take_add, Nat.add_mul, Nat.one_mul]
  unfold getGo
  simp only [hr, hpl, hsec]
  have hlen1 : (t.take (i * (d.size - 18))).length = i * (d.size - 18) := by rw [List.length_take]; omega
  by_cases hi0 : i = 0
  ·subst hi0
   simp only [Nat.zero_mul, List.take_zero, List.drop_zero, List.nil_append, Nat.sub_zero] at htake ⊢
   simp only [Bool.false_eq_true, and_false, if_false, Nat.lt_irrefl, false_and, if_true, beq_self_eq_true, Bool.true_eq_false]
   by_cases hone : t.length ≤ d.size - 18
   ·have hneed : needP d.size t.length = 1 := by
     have hp := needP_pos hs hs2 ht
     rcases Nat.lt_or_ge 1 (needP d.size t.length) with h | h
     ·have : 1 * (d.size - 18) ≤ (needP d.size t.length - 1) * (d.size - 18) := Nat.mul_le_mul_right _ (by omega)
      omega
     ·omega
    rw [if_pos (by rw [List.length_take]; omega), List.take_of_length_le hone, hneed]
   ·rw [if_neg (by rw [List.length_take]; omega)]
    have hneed : 1 < needP d.size t.length := by
     rcases Nat.lt_or_ge 1 (needP d.size t.length) with h | h
     ·exact h
     ·have : needP d.size t.length * (d.size - 18) ≤ 1 * (d.size - 18) := Nat.mul_le_mul_right _ h
      omega
    have := getGo_holds h hs hs2 hk hk2 hm ht h0 ho hl k 1 ⟨kind, mark, t.length, true, t.take (d.size - 18)⟩ (by omega) hneed (fun _ => rfl)
    rw [Nat.one_mul] at this
    exact this
  ·have hh' := hh (by omega)
   subst hh'
   have hb : (i == 0) = false := by simpa using hi0
   have hcond : ¬ (0 < i ∧ ((i == 0) = true ∨ kind ≠ kind ∨ mark ≠ mark ∨ t.length - i * (d.size - 18) + (t.take (i * (d.size - 18))).length ≠ t.length)) := by
    rintro ⟨_, h | h | h | h⟩
    ·rw [hb] at h; cases h
    ·exact h rfl
    ·exact h rfl
    ·rw [hlen1] at h; omega
   simp only [hi0, false_and, if_false]
   rw [if_neg hcond, htake]
   by_cases hfin : t.length ≤ (i + 1) * (d.size - 18)
   ·rw [if_pos (by rw [List.length_take]; omega), List.take_of_length_le hfin]
    have : needP d.size t.length = i + 1 := by
     rcases Nat.lt_or_ge (i + 1) (needP d.size t.length) with h | h
     ·have : (i + 1) * (d.size - 18) ≤ (needP d.size t.length - 1) * (d.size - 18) := Nat.mul_le_mul_right _ (by omega)
      omega
     ·omega
    rw [this]
   ·rw [if_neg (by rw [List.length_take]; omega)]
    have hnx : i + 1 < needP d.size t.length := by
     rcases Nat.lt_or_ge (i + 1) (needP d.size t.length) with h | h
     ·exact h
     ·have : needP d.size t.length * (d.size - 18) ≤ (i + 1) * (d.size - 18) := Nat.mul_le_mul_right _ h
      omega
    exact getGo_holds h hs hs2 hk hk2 hm ht h0 ho hl k (i + 1) _ (by omega) hnx (fun _ => rfl)
theorem getP_holds {d : DskV} {at' kind mark : Nat} {t : List UInt8} (h : Holds d at' kind mark t) (hs : 19 ≤ d.size) (hs2 : d.size ≤ 4096) (hk : 0 < kind) (hk2 : kind < 256) (hm : mark < 2 ^ 64) (ht : t.length ≤ 2 ^ 30) (h0 : 0 < t.length)
  (ho : d.off = false) (hl : at' + needP d.size t.length ≤ d.lasts.length) : getP d at' = (0, ⟨kind, mark, t, needP d.size t.length⟩) := by
 have hp := needP_pos hs hs2 ht
 unfold getP
 rw [if_neg (by omega)]
 have := getGo_holds h hs hs2 hk hk2 hm ht h0 ho hl (d.lasts.length - at') 0 ⟨0, 0, 0, false, []⟩ (by omega) hp (fun h => absurd h (by omega))
 rw [Nat.zero_mul, List.take_zero] at this
 exact this

/-! ### a record that is put stands there -/
theorem putGo_told {kind mark size at' : Nat} {b : List UInt8} : ∀ (k i : Nat) (d d' : DskV), putGo kind mark b size at' k i d = (0, d') →
  (∀ m, (m < at' + i ∨ at' + i + k ≤ m) → d'.told m = d.told m) ∧ ∀ j, i ≤ j → j < i + k → d'.told (at' + j) = .data (secP size kind mark (b.drop (j * (size - 18))) (j == 0)) false
 | 0, i, d, d', h => by
  unfold putGo at h
  injection h with _ h
  subst h
  exact ⟨fun _ _ => rfl, fun j h1 h2 => by omega⟩
 | k + 1, i, d, d', h => by
  unfold putGo at h
  cases hw : writeD d (at' + i) (secP size kind mark (b.drop (i * (size - 18))) (i == 0)) with
  | mk e d1 =>
   rw [hw] at h
   cases e with
   | succ e => simp at h
   | zero =>
    simp only at h
    obtain ⟨h1, h2⟩ := putGo_told k (i + 1) d1 d' h
    have hw' := told_write hw
    refine ⟨fun m hm => ?_, fun j hj1 hj2 => ?_⟩
    ·rw [h1 m (by omega), hw', if_neg (by omega)]
    ·by_cases hji : j = i
     ·subst hji
      rw [h1 _ (by omega), hw', if_pos rfl]
     ·exact h2 j (by omega) (by omega)
theorem putP_told {d d' : DskV} {at' kind mark n : Nat} {b : List UInt8} (h : putP d at' kind mark b = (n, 0, d')) (hz : d'.size = d.size) :
  n = needP d.size b.length ∧ Holds d' at' kind mark b ∧ ∀ m, (m < at' ∨ at' + n ≤ m) → d'.told m = d.told m := by
 unfold putP at h
 split at h
 ·simp at h
 ·split at h
  ·simp at h
  ·cases hg : putGo kind mark b d.size at' (needP d.size b.length) 0 d with
   | mk e d1 =>
    rw [hg] at h
    cases e with
    | succ e => simp at h
    | zero =>
     simp only [Prod.mk.injEq, true_and] at h
     obtain ⟨h1, h2⟩ := h
     subst h1 h2
     obtain ⟨g1, g2⟩ := putGo_told _ _ _ _ hg
     refine ⟨rfl, fun i hi => ?_, fun m hm => g1 m (by omega)⟩
     rw [hz] at hi ⊢
     exact g2 i (by omega) (by omega)
theorem Holds.keep {d d' : DskV} {at' kind mark : Nat} {t : List UInt8} (h : Holds d at' kind mark t) (hz : d'.size = d.size) (hk : ∀ m, at' ≤ m → m < at' + needP d.size t.length → d'.told m = d.told m) : Holds d' at' kind mark t := fun i hi => by
 rw [hz] at hi ⊢
 rw [hk _ (by omega) (by omega)]
 exact h i hi

/-! ### a bit is turned -/
theorem find_one (w : Nat × SecV) (m : Nat) : [w].find? (fun x => x.1 == m) = if w.1 = m then some w else none := by
 rw [List.find?_cons]
 by_cases h : w.1 = m
 ·simp [h]
 ·have : (w.1 == m) = false := by simpa using h
  simp [this, h]
theorem setLast_find (n : Nat) (v : SecV) : ∀ (ws : List (Nat × SecV)), (∀ ws', setLast n v ws = some ws' → ∀ m, (ws'.reverse.find? fun x => x.1 == m) = if m = n then some (n, v) else ws.reverse.find? fun x => x.1 == m) ∧ (setLast n v ws = none → ∀ w ∈ ws, w.1 ≠ n)
 | [] => ⟨fun _ h => (by cases h), fun _ _ hw => (by cases hw)⟩
 | w :: ws => by
  obtain ⟨ih1, ih2⟩ := setLast_find n v ws
  cases hs : setLast n v ws with
  | some l' =>
   refine ⟨fun ws' h m => ?_, fun h => ?_⟩
   ·unfold setLast at h
    rw [hs] at h
    injection h with h
    subst h
    rw [List.reverse_cons, List.find?_append, List.reverse_cons, List.find?_append, ih1 l' hs m]
    by_cases hm : m = n
    ·rw [if_pos hm, if_pos hm]; rfl
    ·rw [if_neg hm, if_neg hm]
   ·unfold setLast at h
    rw [hs] at h
    cases h
  | none =>
   have hno := ih2 hs
   refine ⟨fun ws' h m => ?_, fun h w' hw' => ?_⟩
   ·unfold setLast at h
    rw [hs] at h
    simp only at h
    split at h
    ·rename_i hwn
     injection h with h
     subst h
     have hf : (ws.reverse.find? fun x => x.1 == n) = none := by
      rw [List.find?_eq_none]
      intro x hx
      have := hno x (List.mem_reverse.1 hx)
      simpa using this
     rw [List.reverse_cons, List.find?_append, List.reverse_cons, List.find?_append, find_one, find_one]
     by_cases hm : m = n
     ·subst hm
      rw [hf, if_pos rfl, if_pos rfl]; rfl
     ·rw [if_neg hm, if_neg (fun e => hm e.symm), if_neg (fun e => hm (e.symm.trans hwn))]
    ·cases h
   ·unfold setLast at h
    rw [hs] at h
    simp only at h
    split at h
    ·cases h
    ·rename_i hwn
     rcases List.mem_cons.1 hw' with rfl | hw'
     ·exact hwn
     ·exact hno _ hw'
theorem told_rot {d d' : DskV} {n bit : Nat} (h : rotD d n bit = (0, d')) : d.Like d' ∧ (∃ v, rotSec d.size bit (d.told n) = (0, v) ∧ d'.told n = v) ∧ ∀ m, m ≠ n → d'.told m = d.told m := by
 unfold rotD at h
 split at h
 ·simp at h
 ·rename_i hn
  split at h
  ·simp at h
  ·cases hr : rotSec d.size bit (d.told n) with
   | mk e v =>
    rw [hr] at h
    cases e with
    | succ e => simp at h
    | zero =>
     simp only at h
     obtain ⟨g1, g2⟩ := setLast_find n v d.waits
     cases hs : setLast n v d.waits with
     | some ws =>
      rw [hs] at h
      injection h with _ h
      subst h
      refine ⟨⟨rfl, rfl, rfl⟩, ⟨v, rfl, ?_⟩, fun m hm => ?_⟩
      ·rw [told_eq]; unfold toldL; rw [g1 ws hs n, if_pos rfl]
      ·rw [told_eq, told_eq]; unfold toldL; rw [g1 ws hs m, if_neg hm]
     | none =>
      rw [hs] at h
      injection h with _ h
      subst h
      have hf : (d.waits.reverse.find? fun x => x.1 == n) = none := by
       rw [List.find?_eq_none]
       intro x hx
       have := g2 hs x (List.mem_reverse.1 hx)
       simpa using this
      refine ⟨⟨rfl, List.length_set, rfl⟩, ⟨v, rfl, ?_⟩, fun m hm => ?_⟩
      ·rw [told_eq]; unfold toldL
       rw [hf]
       simp only
       rw [List.getD_eq_getElem?_getD, List.getElem?_set_self (by omega)]; rfl
      ·rw [told_eq, told_eq]; unfold toldL
       cases d.waits.reverse.find? fun x => x.1 == m with
       | some x => rfl
       | none =>
        simp only
        rw [List.getD_eq_getElem?_getD, List.getElem?_set_ne (fun e => hm e.symm), ← List.getD_eq_getElem?_getD]
theorem flipB_ne {b : List UInt8} {bit : Nat} (h : bit / 8 < b.length) : ∃ a c r c', b = a ++ c :: r ∧ flipB b bit = a ++ c' :: r ∧ c ≠ c' := by
 refine ⟨b.take (bit / 8), b[bit / 8], b.drop (bit / 8 + 1), b[bit / 8] ^^^ UInt8.ofNat (2 ^ (bit % 8)), ?_, ?_, fun e => ?_⟩
 ·rw [← List.drop_eq_getElem_cons h, List.take_append_drop]
 ·unfold flipB
  rw [List.set_eq_take_append_cons_drop, if_pos h, List.getD_eq_getElem?_getD, List.getElem?_eq_getElem h]
  rfl
 ·have h1 : b[bit / 8] ^^^ b[bit / 8] = b[bit / 8] ^^^ (b[bit / 8] ^^^ UInt8.ofNat (2 ^ (bit % 8))) := by rw [← e]
  rw [← UInt8.xor_assoc, UInt8.xor_self, UInt8.zero_xor] at h1
  have h2 : ∀ k, k < 8 → (0 : UInt8) ≠ UInt8.ofNat (2 ^ k) := by decide
  exact h2 _ (Nat.mod_lt _ (by omega)) h1
end Go.Proofs.YtmgmfnimaafkdaaGreatDoor
namespace Go.Proofs.YtmgmfnimaafkdaaGreatDoor
set_option maxRecDepth 100000

theorem plainB_sec {size kind mark : Nat} {b : List UInt8} {first : Bool} (hk : 0 < kind) (hk2 : kind < 256) : plainB (secP size kind mark b first) = false := by
 have e : ∃ r, secP size kind mark b first = UInt8.ofNat kind :: r := by
  unfold secP headP; exact ⟨_, rfl⟩
 obtain ⟨r, e⟩ := e
 rw [e]
 unfold plainB
 rw [List.all_cons]
 have : (UInt8.ofNat kind == 0) = false := by
  rw [beq_eq_false_iff_ne]
  intro hz
  have := congrArg UInt8.toNat hz
  simp at this
  omega
 rw [this]; rfl
theorem tells_holds {d : DskV} {x : SlotV} {a mark : Nat} {t : List UInt8} (h : Holds d a 83 mark t) (hx : x = ⟨a, needP d.size t.length, t.length, mark⟩) (hs : 19 ≤ d.size) (hs2 : d.size ≤ 4096) (hm : mark < 2 ^ 64) (ht : t.length ≤ 2 ^ 30) (h0 : 0 < t.length)
  (ho : d.off = false) (hl : a + needP d.size t.length ≤ d.lasts.length) : tellsS d x = (0, t) := by
 subst hx
 unfold tellsS
 rw [if_neg (by simp)]
 simp only [Int.toNat_natCast]
 rw [getP_holds h hs hs2 (by omega) (by omega) hm ht h0 ho hl]
 simp
end Go.Proofs.YtmgmfnimaafkdaaGreatDoor
namespace Go.Proofs.YtmgmfnimaafkdaaGreatDoor
set_option maxRecDepth 100000

theorem zeros_told : ∀ (k n : Nat) (d d' : DskV), zeros k n d = (0, d') → ∀ m, (m < n ∨ n + k ≤ m) → d'.told m = d.told m
 | 0, n, d, d', h, m, _ => by
  unfold zeros at h
  injection h with _ h
  rw [h]
 | k + 1, n, d, d', h, m, hm => by
  unfold zeros at h
  cases hw : writeD d n (List.replicate d.size 0) with
  | mk e d1 =>
   rw [hw] at h
   cases e with
   | succ e => simp at h
   | zero =>
    simp only at h
    rw [zeros_told k (n + 1) d1 d' h m (by omega), told_write hw, if_neg (by omega)]
theorem turnRecs_told {size epoch : Nat} (h1 : 19 ≤ size) (h2 : size ≤ 4096) : ∀ (rs : List RecL) (i at' b : Nat) (d d' : DskV), d.size = size → d.off = false → (∀ r ∈ rs, r.2.length ≤ 4000) → at' + (rs.map fun r => needP size (1 + r.2.length)).sum ≤ d.lasts.length →
  turnRecs size epoch rs i at' d = (0, b, d') → ∀ m, (m < at' ∨ b ≤ m) → d'.told m = d.told m
 | [], i, at', b, d, d', _, _, _, _, h, m, _ => by
  unfold turnRecs at h
  simp only [Prod.mk.injEq, true_and] at h
  rw [h.2]
 | r :: rs, i, at', b, d, d', hz, ho, hr, hl, h, m, hm => by
  have hb : (recB r).length = 1 + r.2.length := by unfold recB; simp; omega
  have h4 := hr r (by simp)
  have hp : 1 ≤ needP size (1 + r.2.length) := needP_pos h1 h2 (by omega)
  rw [List.map_cons, List.sum_cons] at hl
  obtain ⟨d1, e1, hL⟩ := putP_ok (d := d) (at' := at') (kind := 82) (mark := epoch * MARKS + i + 1) (b := recB r) (by omega) (by omega) ho (by rw [hz, hb]; exact hp) (by rw [hz, hb]; omega)
  obtain ⟨_, _, ht⟩ := putP_told e1 hL.1
  rw [hz, hb] at e1 ht
  unfold turnRecs at h
  rw [e1] at h
  simp only at h
  obtain ⟨d2, e2, _⟩ := turnRecs_ok (epoch := epoch) h1 h2 rs (i + 1) (at' + needP size (1 + r.2.length)) d1 (hL.1.trans hz) (hL.2.2.trans ho) (fun x hx => hr x (by simp [hx])) (by rw [hL.2.1]; omega)
  have hbb : b = at' + needP size (1 + r.2.length) + (rs.map fun r => needP size (1 + r.2.length)).sum := by
   rw [h] at e2
   simp only [Prod.mk.injEq, true_and] at e2
   exact e2.1
  rw [turnRecs_told h1 h2 rs (i + 1) _ b d1 d' (hL.1.trans hz) (hL.2.2.trans ho) (fun x hx => hr x (by simp [hx])) (by rw [hL.2.1]; omega) h m (by omega)]
  exact ht m (by omega)
theorem turnGo_told {d d' : DskV} {l l' : LogV} {keep : List RecL} (h1 : 19 ≤ d.size) (h2 : d.size ≤ 4096) (hz : l.size = d.size) (ho : d.off = false) (hr : ∀ r ∈ keep, r.2.length ≤ 4000)
  (hfit : needP l.size 0 + (keep.map l.needR).sum ≤ l.half) (hin : l.frm + 2 * l.half ≤ d.lasts.length) (h : turnGo d l keep = (0, d', l')) :
  ∀ m, m < d.lasts.length → (m < l.begin (1 - l.use) ∨ l.begin (1 - l.use) + l.half ≤ m) → d'.told m = d.told m := by
 intro m hml hm
 have hb : l.begin (1 - l.use) + l.half ≤ d.lasts.length := by
  unfold LogV.begin
  have : (1 - l.use) * l.half ≤ 1 * l.half := Nat.mul_le_mul_right _ (by omega)
  omega
 have hn : (keep.map l.needR).sum = (keep.map fun r => needP l.size (1 + r.2.length)).sum := rfl
 rw [hn] at hfit
 obtain ⟨d1, e1, L1⟩ := turnRecs_ok (size := l.size) (epoch := l.epoch + 1) (by omega) (by omega) keep 0 (l.begin (1 - l.use) + needP l.size 0) d hz.symm ho hr (by omega)
 obtain ⟨d2, e2, L2⟩ := zeros_ok (l.begin (1 - l.use) + l.half - (l.begin (1 - l.use) + needP l.size 0 + (keep.map fun r => needP l.size (1 + r.2.length)).sum)) (l.begin (1 - l.use) + needP l.size 0 + (keep.map fun r => needP l.size (1 + r.2.length)).sum) d1 (L1.2.2.trans ho) (by rw [L1.2.1]; omega)
 have L12 := L1.trans L2
 obtain ⟨d3, e3, L3⟩ := flushD_ok (d := d2) (L12.2.2.trans ho)
 have L13 := L12.trans L3
 have hp : 1 ≤ needP d.size 0 := needP_pos h1 h2 (by omega)
 obtain ⟨d4, e4, L4⟩ := putP_ok (d := d3) (at' := l.begin (1 - l.use)) (kind := 72) (mark := l.epoch + 1) (b := []) (by rw [L13.1]; omega) (by omega) (L13.2.2.trans ho) (by rw [L13.1]; exact hp) (by rw [L13.1, L13.2.1]; rw [hz] at hfit; simp; omega)
 have L14 := L13.trans L4
 obtain ⟨d5, e5, L5⟩ := flushD_ok (d := d4) (L14.2.2.trans ho)
 have ht4 := (putP_told e4 L4.1).2.2
 unfold turnGo at h
 simp only [e1, e2, e3, e4, e5, Prod.mk.injEq, true_and] at h
 rw [← h.1]
 rw [told_flush e5 m (by rw [L14.2.1]; exact hml)]
 rw [ht4 m (by rw [L13.1]; rw [hz] at hfit; simp; omega)]
 rw [told_flush e3 m (by rw [L12.2.1]; exact hml)]
 rw [zeros_told _ _ _ _ e2 m (by omega)]
 exact turnRecs_told (size := l.size) (epoch := l.epoch + 1) (by omega) (by omega) keep 0 _ _ d d1 hz.symm ho hr (by omega) e1 m (by omega)

structure LogInv (d : DskV) (l : LogV) (lo : Nat) : Prop where
 s1 : 19 ≤ d.size
 s2 : d.size ≤ 4096
 on : d.off = false
 sz : l.size = d.size
 frm : l.frm = 0
 half : 2 * l.half ≤ lo
 lo : lo ≤ d.lasts.length
 use : l.use ≤ 1
 at1 : l.begin l.use + 1 ≤ l.at'
 at2 : l.at' ≤ l.begin l.use + l.half
def KeptFrom (lo : Nat) (d d' : DskV) : Prop := d.Like d' ∧ ∀ m, lo ≤ m → m < d.lasts.length → d'.told m = d.told m
theorem KeptFrom.refl (lo : Nat) (d : DskV) : KeptFrom lo d d := ⟨DskV.Like.refl d, fun _ _ _ => rfl⟩
theorem KeptFrom.trans {lo : Nat} {a b c : DskV} (h : KeptFrom lo a b) (k : KeptFrom lo b c) : KeptFrom lo a c := ⟨h.1.trans k.1, fun m h1 h2 => (k.2 m h1 (by rw [h.1.2.1]; exact h2)).trans (h.2 m h1 h2)⟩
theorem needP_size0 {d : DskV} {l : LogV} {lo : Nat} (h : LogInv d l lo) : needP l.size 0 = 1 := by rw [h.sz]; exact needP_zero h.s1 h.s2
theorem LogInv.begin_le {d : DskV} {l : LogV} {lo : Nat} (h : LogInv d l lo) (u : Nat) (hu : u ≤ 1) : l.begin u + l.half ≤ lo := by
 have := h.half
 unfold LogV.begin
 rw [h.frm]
 have : u * l.half ≤ 1 * l.half := Nat.mul_le_mul_right _ hu
 omega
theorem turnL_inv {d : DskV} {l : LogV} {lo : Nat} {keep : List RecL} (h : LogInv d l lo) (hr : ∀ r ∈ keep, r.2.length ≤ 4000) :
  turnL d l keep = (5, d, l) ∨ ∃ d' l', turnL d l keep = (0, d', l') ∧ LogInv d' l' lo ∧ KeptFrom lo d d' ∧ l'.recs = keep ∧ l'.epoch = l.epoch + 1 := by
 unfold turnL
 have ha : keep.any (fun r => decide (4000 < r.2.length)) = false := by
  rw [List.any_eq_false]
  intro r hr'
  have := hr r hr'
  simp; omega
 rw [ha]
 rw [if_neg (by simp)]
 split
 ·exact .inl rfl
 ·rename_i hfit
  have h0 := needP_size0 h
  have hin : l.frm + 2 * l.half ≤ d.lasts.length := by rw [h.frm]; have := h.half; have := h.lo; omega
  obtain ⟨d', e, L⟩ := turnGo_ok h.s1 h.s2 h.sz h.on hr (by omega) hin
  have hb := h.begin_le (1 - l.use) (by omega)
  refine .inr ⟨d', _, e, ⟨by rw [L.1]; exact h.s1, by rw [L.1]; exact h.s2, L.2.2.trans h.on, by rw [L.1]; exact h.sz, h.frm, h.half, by rw [L.2.1]; exact h.lo, by show 1 - l.use ≤ 1; omega, ?_, ?_⟩, ⟨L, fun m h1 h2 => ?_⟩, rfl, rfl⟩
  ·show l.begin (1 - l.use) + 1 ≤ l.begin (1 - l.use) + needP l.size 0 + (keep.map l.needR).sum
   omega
  ·show l.begin (1 - l.use) + needP l.size 0 + (keep.map l.needR).sum ≤ l.begin (1 - l.use) + l.half
   omega
  ·exact turnGo_told h.s1 h.s2 h.sz h.on hr (by omega) hin e m h2 (by omega)
theorem addL_inv {d : DskV} {l : LogV} {lo : Nat} {r : RecL} (h : LogInv d l lo) (hr : r.2.length ≤ 4000) :
  addL d l r = (5, d, l) ∨ ∃ d' l', addL d l r = (0, d', l') ∧ LogInv d' l' lo ∧ KeptFrom lo d d' ∧ l'.recs = l.recs ++ [r] ∧ l'.epoch = l.epoch := by
 unfold addL
 rw [if_neg (by omega)]
 split
 ·exact .inl rfl
 ·rename_i hfit
  have hb : (recB r).length = 1 + r.2.length := by unfold recB; simp; omega
  have hp : 1 ≤ needP d.size (1 + r.2.length) := needP_pos h.s1 h.s2 (by omega)
  have hbl := h.begin_le l.use h.use
  have hlo := h.lo
  have h1 := h.at1
  have h2 := h.at2
  have hneed : l.needR r = needP d.size (1 + r.2.length) := by unfold LogV.needR; rw [h.sz]
  have hleft : needP d.size (1 + r.2.length) ≤ l.begin l.use + l.half - l.at' := by
   rw [← hneed]
   have : l.left = l.begin l.use + l.half - l.at' := rfl
   omega
  obtain ⟨d', e, L⟩ := putP_ok (d := d) (at' := l.at') (kind := 82) (mark := l.epoch * MARKS + l.recs.length + 1) (b := recB r) h.s1 (by omega) h.on (by rw [hb]; exact hp) (by rw [hb]; omega)
  have ht := (putP_told e L.1).2.2
  rw [hb] at e ht
  rw [e]
  refine .inr ⟨d', _, rfl, ⟨by rw [L.1]; exact h.s1, by rw [L.1]; exact h.s2, L.2.2.trans h.on, by rw [L.1]; exact h.sz, h.frm, h.half, by rw [L.2.1]; exact h.lo, h.use, ?_, ?_⟩, ⟨L, fun m g1 g2 => ht m (by omega)⟩, rfl, rfl⟩
  ·show l.begin l.use + 1 ≤ l.at' + needP d.size (1 + r.2.length)
   omega
  ·show l.at' + needP d.size (1 + r.2.length) ≤ l.begin l.use + l.half
   omega
end Go.Proofs.YtmgmfnimaafkdaaGreatDoor
namespace Go.Proofs.YtmgmfnimaafkdaaGreatDoor
set_option maxRecDepth 100000

def Srt (f : List (Nat × Nat)) : Prop := f.Pairwise (fun x y => x.1 + x.2 ≤ y.1) ∧ ∀ e ∈ f, 1 ≤ e.2
def FreeK (f : List (Nat × Nat)) (k : Nat) : Prop := ∃ e ∈ f, e.1 ≤ k ∧ k < e.1 + e.2
theorem Srt.split {A B : List (Nat × Nat)} {x : Nat × Nat} (h : Srt (A ++ x :: B)) : Srt A ∧ Srt B ∧ 1 ≤ x.2 ∧ (∀ a ∈ A, a.1 + a.2 ≤ x.1) ∧ (∀ b ∈ B, x.1 + x.2 ≤ b.1) ∧ ∀ a ∈ A, ∀ b ∈ B, a.1 + a.2 ≤ b.1 := by
 obtain ⟨h1, h2⟩ := h
 rw [List.pairwise_append, List.pairwise_cons] at h1
 obtain ⟨p1, ⟨p2, p3⟩, p4⟩ := h1
 exact ⟨⟨p1, fun e he => h2 e (by simp [he])⟩, ⟨p3, fun e he => h2 e (by simp [he])⟩, h2 x (by simp), fun a ha => p4 a ha x (by simp), p2, fun a ha b hb => p4 a ha b (by simp [hb])⟩
theorem Srt.join {A M B : List (Nat × Nat)} (hA : Srt A) (hM : Srt M) (hB : Srt B) (h1 : ∀ a ∈ A, ∀ m ∈ M, a.1 + a.2 ≤ m.1) (h2 : ∀ m ∈ M, ∀ b ∈ B, m.1 + m.2 ≤ b.1) (h3 : ∀ a ∈ A, ∀ b ∈ B, a.1 + a.2 ≤ b.1) : Srt (A ++ M ++ B) := by
 refine ⟨?_, fun e he => ?_⟩
 ·rw [List.pairwise_append, List.pairwise_append]
  refine ⟨⟨hA.1, hM.1, h1⟩, hB.1, fun a ha b hb => ?_⟩
  rcases List.mem_append.1 ha with ha | ha
  ·exact h3 a ha b hb
  ·exact h2 a ha b hb
 ·rcases List.mem_append.1 he with he | he
  ·rcases List.mem_append.1 he with he | he
   ·exact hA.2 e he
   ·exact hM.2 e he
  ·exact hB.2 e he
theorem freeK_app {A B : List (Nat × Nat)} {k : Nat} : FreeK (A ++ B) k ↔ FreeK A k ∨ FreeK B k := by
 unfold FreeK
 constructor
 ·rintro ⟨e, he, h⟩
  rcases List.mem_append.1 he with he | he
  ·exact .inl ⟨e, he, h⟩
  ·exact .inr ⟨e, he, h⟩
 ·rintro (⟨e, he, h⟩ | ⟨e, he, h⟩)
  ·exact ⟨e, List.mem_append.2 (.inl he), h⟩
  ·exact ⟨e, List.mem_append.2 (.inr he), h⟩
theorem freeK_cons {x : Nat × Nat} {B : List (Nat × Nat)} {k : Nat} : FreeK (x :: B) k ↔ (x.1 ≤ k ∧ k < x.1 + x.2) ∨ FreeK B k := by
 unfold FreeK
 constructor
 ·rintro ⟨e, he, h⟩
  rcases List.mem_cons.1 he with rfl | he
  ·exact .inl h
  ·exact .inr ⟨e, he, h⟩
 ·rintro (h | ⟨e, he, h⟩)
  ·exact ⟨x, by simp, h⟩
  ·exact ⟨e, by simp [he], h⟩
theorem freeK_nil {k : Nat} : ¬ FreeK [] k := by rintro ⟨e, he, _⟩; cases he
theorem split_at {f : List (Nat × Nat)} {i : Nat} (hi : i < f.length) : f = f.take i ++ f.getD i (0, 0) :: f.drop (i + 1) ∧ (f.take i).length = i := by
 refine ⟨?_, by rw [List.length_take]; omega⟩
 rw [List.getD_eq_getElem?_getD, List.getElem?_eq_getElem hi]
 show f = f.take i ++ f[i] :: f.drop (i + 1)
 rw [← List.drop_eq_getElem_cons hi, List.take_append_drop]
theorem takeAt_ok {f : List (Nat × Nat)} {i a n : Nat} (h : Srt f) (hi : i < f.length) (hn : 1 ≤ n) (h1 : (f.getD i (0, 0)).1 ≤ a) (h2 : a + n ≤ (f.getD i (0, 0)).1 + (f.getD i (0, 0)).2) :
  Srt (takeAt f i a n) ∧ (∀ k, FreeK (takeAt f i a n) k ↔ FreeK f k ∧ ¬ (a ≤ k ∧ k < a + n)) ∧ (∀ k, a ≤ k → k < a + n → FreeK f k) ∧ (∀ e ∈ takeAt f i a n, ∃ e' ∈ f, e'.1 ≤ e.1 ∧ e.1 + e.2 ≤ e'.1 + e'.2) := by
 obtain ⟨hf, hl⟩ := split_at hi
 have hmem : f.getD i (0, 0) ∈ f := by
  rw [List.getD_eq_getElem?_getD, List.getElem?_eq_getElem hi]
  exact List.getElem_mem hi
 unfold takeAt
 simp only
 generalize hA : f.take i = A at *
 generalize hB : f.drop (i + 1) = B at *
 generalize hx : f.getD i (0, 0) = x at *
 have hS : Srt (A ++ x :: B) := by rw [← hf]; exact h
 obtain ⟨sA, sB, sx, s1, s2, s3⟩ := hS.split
 generalize hM : ((if x.1 < a then [(x.1, a - x.1)] else []) ++ (if a + n < x.1 + x.2 then [(a + n, x.1 + x.2 - (a + n))] else [])) = M
 have hMm : ∀ e ∈ M, (e = (x.1, a - x.1) ∧ x.1 < a) ∨ (e = (a + n, x.1 + x.2 - (a + n)) ∧ a + n < x.1 + x.2) := by
  rw [← hM]
  intro e he
  rcases List.mem_append.1 he with he | he
  ·split at he
   ·exact .inl ⟨by simpa using he, by assumption⟩
   ·cases he
  ·split at he
   ·exact .inr ⟨by simpa using he, by assumption⟩
   ·cases he
 have hMin : ∀ e ∈ M, x.1 ≤ e.1 ∧ e.1 + e.2 ≤ x.1 + x.2 ∧ 1 ≤ e.2 := by
  intro e he
  rcases hMm e he with ⟨rfl, h3⟩ | ⟨rfl, h3⟩ <;> simp only <;> omega
 have hMs : Srt M := by
  refine ⟨?_, fun e he => (hMin e he).2.2⟩
  rw [← hM]
  split <;> split <;> simp <;> omega
 have hMk : ∀ k, FreeK M k ↔ (x.1 ≤ k ∧ k < x.1 + x.2) ∧ ¬ (a ≤ k ∧ k < a + n) := by
  intro k
  rw [← hM, freeK_app]
  by_cases q1 : x.1 < a <;> by_cases q2 : a + n < x.1 + x.2 <;> simp only [q1, q2, if_true, if_false, freeK_cons, freeK_nil, or_false, false_or, false_iff, not_and] <;> omega
 refine ⟨sA.join hMs sB (fun a' ha m hm => Nat.le_trans (s1 a' ha) (hMin m hm).1) (fun m hm b hb => Nat.le_trans (hMin m hm).2.1 (s2 b hb)) s3, fun k => ?_, fun k h3 h4 => ?_, fun e he => ?_⟩
 ·rw [freeK_app, freeK_app, hMk]
  have e1 : FreeK f k ↔ FreeK A k ∨ (x.1 ≤ k ∧ k < x.1 + x.2) ∨ FreeK B k := by rw [hf, freeK_app, freeK_cons]
  rw [e1]
  constructor
  ·rintro ((h5 | ⟨h5, h6⟩) | h5)
   ·refine ⟨.inl h5, fun h6 => ?_⟩
    obtain ⟨e, he, h7⟩ := h5
    have := s1 e he
    omega
   ·exact ⟨.inr (.inl h5), h6⟩
   ·refine ⟨.inr (.inr h5), fun h6 => ?_⟩
    obtain ⟨e, he, h7⟩ := h5
    have := s2 e he
    omega
  ·rintro ⟨h5 | h5 | h5, h6⟩
   ·exact .inl (.inl h5)
   ·exact .inl (.inr ⟨h5, h6⟩)
   ·exact .inr h5
 ·exact ⟨x, hmem, by omega, by omega⟩
 ·rcases List.mem_append.1 he with he | he
  ·rcases List.mem_append.1 he with he | he
   ·exact ⟨e, by rw [hf]; simp [he], nR0, nR0⟩
   ·exact ⟨x, hmem, (hMin e he).1, (hMin e he).2.1⟩
  ·exact ⟨e, by rw [hf]; simp [he], nR0, nR0⟩

structure MapInv (m : MapV) (lo n : Nat) : Prop where
 frm : m.frm = lo
 sectors : m.sectors = n - lo
 le : lo ≤ n
 srt : Srt m.free
 inn : ∀ e ∈ m.free, lo ≤ e.1 ∧ e.1 + e.2 ≤ n
theorem takeM_ok {m : MapV} {lo n c : Nat} (h : MapInv m lo n) : (∃ e, takeM m c = (e, (0, 0), m) ∧ e ≠ 0) ∨ ∃ a m', takeM m c = (0, (a, c), m') ∧ 1 ≤ c ∧ MapInv m' lo n ∧ lo ≤ a ∧ a + c ≤ n ∧ (∀ k, FreeK m'.free k ↔ FreeK m.free k ∧ ¬ (a ≤ k ∧ k < a + c)) ∧ ∀ k, a ≤ k → k < a + c → FreeK m.free k := by
 unfold takeM
 by_cases hc : c < 1
 ·rw [if_pos hc]; exact .inl ⟨1, rfl, by omega⟩
 ·rw [if_neg hc]
  cases hf : m.free.findIdx? (fun f => decide (c ≤ f.2)) with
  | none => exact .inl ⟨5, rfl, by omega⟩
  | some i =>
   rw [List.findIdx?_eq_some_iff_getElem] at hf
   obtain ⟨hi, hp, _⟩ := hf
   have hg : m.free.getD i (0, 0) = m.free[i] := by rw [List.getD_eq_getElem?_getD, List.getElem?_eq_getElem hi]; rfl
   have hp' : c ≤ (m.free.getD i (0, 0)).2 := by rw [hg]; simpa using hp
   have hin := h.inn (m.free.getD i (0, 0)) (by rw [hg]; exact List.getElem_mem hi)
   obtain ⟨t1, t2, t3, t4⟩ := takeAt_ok (a := (m.free.getD i (0, 0)).1) (n := c) h.srt hi (by omega) nR0 (by omega)
   refine .inr ⟨_, _, rfl, by omega, ⟨h.frm, h.sectors, h.le, t1, fun e he => ?_⟩, hin.1, by omega, t2, t3⟩
   obtain ⟨e', he', h5, h6⟩ := t4 e he
   have := h.inn e' he'
   omega
theorem getD_at {f : List (Nat × Nat)} {i : Nat} (hi : i < f.length) : f.getD i (0, 0) = f[i] := by rw [List.getD_eq_getElem?_getD, List.getElem?_eq_getElem hi]; rfl
theorem meetsM_is {m : MapV} {lo n at' : Nat} (h : MapInv m lo n) : meetsM m at' ≤ m.free.length ∧ (∀ e ∈ m.free.take (meetsM m at'), e.1 + e.2 ≤ at') ∧ (∀ e ∈ m.free.drop (meetsM m at'), at' < e.1 + e.2) := by
 unfold meetsM
 cases hf : m.free.findIdx? (fun f => decide (at' < f.1 + f.2)) with
 | none =>
  rw [List.findIdx?_eq_none_iff] at hf
  simp only [Option.getD_none]
  refine ⟨nR0, fun e he => ?_, fun e he => by simp at he⟩
  have := hf e (List.mem_of_mem_take he)
  simpa using this
 | some i =>
  rw [List.findIdx?_eq_some_iff_getElem] at hf
  obtain ⟨hi, hp, hb⟩ := hf
  simp only [Option.getD_some]
  refine ⟨by omega, fun e he => ?_, fun e he => ?_⟩
  ·obtain ⟨k, hk, rfl⟩ := List.mem_iff_getElem.1 he
   rw [List.length_take] at hk
   rw [List.getElem_take]
   have := hb k (by omega)
   simpa using this
  ·rw [List.drop_eq_getElem_cons hi] at he
   have hp' : at' < m.free[i].1 + m.free[i].2 := by simpa using hp
   rcases List.mem_cons.1 he with rfl | he
   ·exact hp'
   ·obtain ⟨k, hk, rfl⟩ := List.mem_iff_getElem.1 he
    rw [List.length_drop] at hk
    rw [List.getElem_drop]
    have := (List.pairwise_iff_getElem.1 h.srt.1) i (i + 1 + k) hi (by omega) (by omega)
    omega
theorem giveM_ok {m : MapV} {lo n a c : Nat} (h : MapInv m lo n) (hg : (giveM m a c).1 = 0) : MapInv (giveM m a c).2 lo n ∧ ∀ k, FreeK (giveM m a c).2.free k ↔ FreeK m.free k ∨ (a ≤ k ∧ k < a + c) := by
 unfold giveM at hg ⊢
 split at hg
 ·simp at hg
 ·rename_i hours
  rw [if_neg hours]
  simp only at hg ⊢
  obtain ⟨ml, m1, m2⟩ := meetsM_is (at' := a) h
  generalize meetsM m a = i at *
  split at hg
  ·simp at hg
  ·rename_i hfree
   rw [if_neg hfree]
   have hou : 1 ≤ c ∧ lo ≤ a ∧ a + c ≤ n := by
    unfold oursM at hours
    simp only [Bool.not_eq_false, Bool.and_eq_true, decide_eq_true_eq, h.frm, h.sectors] at hours
    have := h.le
    omega
   have hA : Srt (m.free.take i) := ⟨h.srt.1.sublist (List.take_sublist _ _), fun e he => h.srt.2 e (List.mem_of_mem_take he)⟩
   have hB : Srt (m.free.drop i) := ⟨h.srt.1.sublist (List.drop_sublist _ _), fun e he => h.srt.2 e (List.mem_of_mem_drop he)⟩
   have hAB : ∀ x ∈ m.free.take i, ∀ y ∈ m.free.drop i, x.1 + x.2 ≤ y.1 := by
    have := h.srt.1
    rw [← List.take_append_drop i m.free, List.pairwise_append] at this
    exact this.2.2
   have hBa : ∀ y ∈ m.free.drop i, a + c ≤ y.1 := by
    intro y hy
    by_cases hi : i < m.free.length
    ·have h3 : a + c ≤ (m.free.getD i (0, 0)).1 := by omega
     rw [List.drop_eq_getElem_cons hi] at hy
     rcases List.mem_cons.1 hy with rfl | hy
     ·rw [← getD_at hi]; exact h3
     ·obtain ⟨k, hk, rfl⟩ := List.mem_iff_getElem.1 hy
      rw [List.length_drop] at hk
      rw [List.getElem_drop]
      have := (List.pairwise_iff_getElem.1 h.srt.1) i (i + 1 + k) hi (by omega) (by omega)
      rw [getD_at hi] at h3
      omega
    ·rw [List.drop_eq_nil_of_le (by omega)] at hy; cases hy
   have hfm : ∀ k, FreeK m.free k ↔ FreeK (m.free.take i) k ∨ FreeK (m.free.drop i) k := fun k => by rw [← freeK_app, List.take_append_drop]
   -- the part ahead
   obtain ⟨A1, e1, hA1, hA1s, hA1k, hA1e, hA1m⟩ : ∃ (A1 : List (Nat × Nat)) (e1 : Nat × Nat), (A1 = m.free.take (if 0 < i ∧ (m.free.getD (i - 1) (0, 0)).1 + (m.free.getD (i - 1) (0, 0)).2 = a then i - 1 else i) ∧ e1 = (if 0 < i ∧ (m.free.getD (i - 1) (0, 0)).1 + (m.free.getD (i - 1) (0, 0)).2 = a then ((m.free.getD (i - 1) (0, 0)).1, (m.free.getD (i - 1) (0, 0)).2 + c) else (a, c))) ∧ Srt A1 ∧ (∀ k, FreeK A1 k ∨ (e1.1 ≤ k ∧ k < e1.1 + e1.2) ↔ FreeK (m.free.take i) k ∨ (a ≤ k ∧ k < a + c)) ∧ (e1.1 ≤ a ∧ e1.1 + e1.2 = a + c ∧ lo ≤ e1.1 ∧ ∀ x ∈ A1, x.1 + x.2 ≤ e1.1) ∧ ∀ x ∈ A1, x ∈ m.free.take i := by
    by_cases hb : 0 < i ∧ (m.free.getD (i - 1) (0, 0)).1 + (m.free.getD (i - 1) (0, 0)).2 = a
    ·have hi1 : i - 1 < m.free.length := by omega
     have hsp : m.free.take i = m.free.take (i - 1) ++ [m.free.getD (i - 1) (0, 0)] := by
      have e : i = i - 1 + 1 := by omega
      conv => lhs; rw [e, List.take_succ_eq_append_getElem hi1]
      rw [getD_at hi1]
     refine ⟨m.free.take (i - 1), ((m.free.getD (i - 1) (0, 0)).1, (m.free.getD (i - 1) (0, 0)).2 + c), ⟨by rw [if_pos hb], by rw [if_pos hb]⟩, ⟨h.srt.1.sublist (List.take_sublist _ _), fun e he => h.srt.2 e (List.mem_of_mem_take he)⟩, fun k => ?_, ⟨?_, ?_, ?_, fun x hx => ?_⟩, fun x hx => ?_⟩
     ·rw [hsp, freeK_app, freeK_cons]
      have := freeK_nil (k := k)
      simp only
      constructor
      ·rintro (h1 | h1)
       ·exact .inl (.inl h1)
       ·by_cases h2 : a ≤ k
        ·exact .inr ⟨h2, by omega⟩
        ·exact .inl (.inr (.inl ⟨h1.1, by omega⟩))
      ·rintro ((h1 | h1 | h1) | h1)
       ·exact .inl h1
       ·exact .inr ⟨h1.1, by omega⟩
       ·exact absurd h1 this
       ·exact .inr ⟨by omega, by omega⟩
     ·simp only; omega
     ·simp only; omega
     ·have := (h.inn (m.free.getD (i - 1) (0, 0)) (by rw [getD_at hi1]; exact List.getElem_mem hi1)).1
      exact this
     ·have := hA.1
      rw [hsp, List.pairwise_append] at this
      exact this.2.2 x hx (m.free.getD (i - 1) (0, 0)) (List.mem_singleton.2 rfl)
     ·rw [hsp]; simp [hx]
    ·refine ⟨m.free.take i, (a, c), ⟨by rw [if_neg hb], by rw [if_neg hb]⟩, hA, fun k => Iff.rfl, ⟨nR0, rfl, hou.2.1, m1⟩, fun x hx => hx⟩
   -- the part behind
   obtain ⟨B1, e2, hB1, hB1s, hB1k, hB1e, hB1m⟩ : ∃ (B1 : List (Nat × Nat)) (e2 : Nat × Nat), (B1 = m.free.drop (if i < m.free.length ∧ (m.free.getD i (0, 0)).1 = a + c then i + 1 else i) ∧ e2 = (if i < m.free.length ∧ (m.free.getD i (0, 0)).1 = a + c then (e1.1, e1.2 + (m.free.getD i (0, 0)).2) else e1)) ∧ Srt B1 ∧ (∀ k, FreeK B1 k ∨ (e2.1 ≤ k ∧ k < e2.1 + e2.2) ↔ FreeK (m.free.drop i) k ∨ (e1.1 ≤ k ∧ k < e1.1 + e1.2)) ∧ (e2.1 = e1.1 ∧ 1 ≤ e2.2 ∧ e2.1 + e2.2 ≤ n ∧ ∀ x ∈ B1, e2.1 + e2.2 ≤ x.1) ∧ ∀ x ∈ B1, x ∈ m.free.drop i := by
    by_cases hb : i < m.free.length ∧ (m.free.getD i (0, 0)).1 = a + c
    ·have hsp : m.free.drop i = m.free.getD i (0, 0) :: m.free.drop (i + 1) := (List.drop_eq_getElem_cons hb.1).trans (congrArg (fun y => y :: m.free.drop (i + 1)) (getD_at hb.1).symm)
     have hin := h.inn (m.free.getD i (0, 0)) (by rw [getD_at hb.1]; exact List.getElem_mem hb.1)
     have h1 := hB.1
     rw [hsp, List.pairwise_cons] at h1
     refine ⟨m.free.drop (i + 1), (e1.1, e1.2 + (m.free.getD i (0, 0)).2), ⟨by rw [if_pos hb], by rw [if_pos hb]⟩, ⟨h1.2, fun e he => h.srt.2 e (List.mem_of_mem_drop he)⟩, fun k => ?_, ⟨rfl, ?_, ?_, fun x hx => ?_⟩, fun x hx => by rw [hsp]; simp [hx]⟩
     ·rw [hsp, freeK_cons]
      simp only
      constructor
      ·rintro (h1 | h1)
       ·exact .inl (.inr h1)
       ·by_cases h2 : a + c ≤ k
        ·exact .inl (.inl ⟨by omega, by omega⟩)
        ·exact .inr ⟨h1.1, by omega⟩
      ·rintro ((h1 | h1) | h1)
       ·exact .inr ⟨by omega, by omega⟩
       ·exact .inl h1
       ·exact .inr ⟨h1.1, by omega⟩
     ·simp only; omega
     ·simp only; omega
     ·have := h1.1 x hx
      simp only; omega
    ·refine ⟨m.free.drop i, e1, ⟨by rw [if_neg hb], by rw [if_neg hb]⟩, hB, fun k => Iff.rfl, ⟨rfl, by omega, by omega, fun x hx => ?_⟩, fun x hx => hx⟩
     have := hBa x hx
     omega
   rw [← hA1.1, ← hB1.1, ← hA1.2, ← hB1.2]
   have hM : Srt [e2] := ⟨by simp, fun e he => by rw [List.mem_singleton] at he; subst he; exact hB1e.2.1⟩
   have hsr := hA1s.join hM hB1s (fun x hx y hy => by rw [List.mem_singleton] at hy; subst hy; rw [hB1e.1]; exact hA1e.2.2.2 x hx) (fun y hy x hx => by rw [List.mem_singleton] at hy; subst hy; exact hB1e.2.2.2 x hx) (fun x hx y hy => hAB x (hA1m x hx) y (hB1m y hy))
   rw [List.append_assoc, List.singleton_append] at hsr
   refine ⟨⟨h.frm, h.sectors, h.le, hsr, fun e he => ?_⟩, fun k => ?_⟩
   ·rcases List.mem_append.1 he with he | he
    ·exact h.inn e (List.mem_of_mem_take (hA1m e he))
    ·rcases List.mem_cons.1 he with rfl | he
     ·exact ⟨by rw [hB1e.1]; exact hA1e.2.2.1, hB1e.2.2.1⟩
     ·exact h.inn e (List.mem_of_mem_drop (hB1m e he))
   ·show FreeK (A1 ++ e2 :: B1) k ↔ _
    rw [freeK_app, freeK_cons, hfm]
    have h1 := hA1k k
    have h2 := hB1k k
    rw [hB1e.1] at h2 ⊢
    constructor
    ·rintro (h3 | h3 | h3)
     ·rcases h1.1 (.inl h3) with h4 | h4
      ·exact .inl (.inl h4)
      ·exact .inr h4
     ·rcases h2.1 (.inr h3) with h4 | h4
      ·exact .inl (.inr h4)
      ·rcases h1.1 (.inr h4) with h5 | h5
       ·exact .inl (.inl h5)
       ·exact .inr h5
     ·rcases h2.1 (.inl h3) with h4 | h4
      ·exact .inl (.inr h4)
      ·rcases h1.1 (.inr h4) with h5 | h5
       ·exact .inl (.inl h5)
       ·exact .inr h5
    ·rintro ((h3 | h3) | h3)
     ·rcases h1.2 (.inl h3) with h4 | h4
      ·exact .inl h4
      ·rcases h2.2 (.inr h4) with h5 | h5
       ·exact .inr (.inr h5)
       ·exact .inr (.inl h5)
     ·rcases h2.2 (.inl h3) with h5 | h5
      ·exact .inr (.inr h5)
      ·exact .inr (.inl h5)
     ·rcases h1.2 (.inr h3) with h4 | h4
      ·exact .inl h4
      ·rcases h2.2 (.inr h4) with h5 | h5
       ·exact .inr (.inr h5)
       ·exact .inr (.inl h5)
theorem giveM_no {m : MapV} {a c : Nat} (hg : (giveM m a c).1 ≠ 0) : (giveM m a c).2 = m := by
 unfold giveM at hg ⊢
 split
 ·rfl
 ·rename_i h1
  rw [if_neg h1] at hg
  simp only at hg ⊢
  split
  ·rfl
  ·rename_i h2
   rw [if_neg h2] at hg
   exact absurd rfl hg
end Go.Proofs.YtmgmfnimaafkdaaGreatDoor
namespace Go.Proofs.YtmgmfnimaafkdaaGreatDoor
set_option maxRecDepth 100000

theorem loggedS_inv {s was : StV} {r : RecL} {lo : Nat} (h : LogInv s.d s.log lo) (hr : r.2.length ≤ 4000) (hrs : ∀ r ∈ recordsS s, r.2.length ≤ 4000) :
  ∃ d' l', LogInv d' l' lo ∧ KeptFrom lo s.d d' ∧ (s.log.epoch ≤ l'.epoch ∧ l'.epoch ≤ s.log.epoch + 1) ∧ (loggedS s was r = (0, { s with d := d', log := l' }) ∨ loggedS s was r = (5, { was with d := d', log := l' })) := by
 unfold loggedS
 rcases addL_inv h hr with e | ⟨d', l', e, hi, hk, _, hep⟩
 ·rw [e]
  simp only
  rcases turnL_inv h hrs with e2 | ⟨d', l', e2, hi, hk, _, hep⟩
  ·rw [e2]
   exact ⟨s.d, s.log, h, KeptFrom.refl _ _, ⟨nR0, by omega⟩, .inr rfl⟩
  ·rw [e2]
   exact ⟨d', l', hi, hk, ⟨by omega, by omega⟩, .inl rfl⟩
 ·rw [e]
  exact ⟨d', l', hi, hk, ⟨by omega, by omega⟩, .inl rfl⟩
theorem nextS_inv {s : StV} {lo : Nat} (h : LogInv s.d s.log lo) (hrs : ∀ r ∈ recordsS s, r.2.length ≤ 4000) (hp : s.puts < 1048576) (he : s.epoch ≤ s.log.epoch) :
  (∃ d' l', nextS s = (5, 0, { s with d := d', log := l' }) ∧ LogInv d' l' lo ∧ KeptFrom lo s.d d' ∧ s.log.epoch ≤ l'.epoch ∧ l'.epoch ≤ s.log.epoch + 1) ∨
  ∃ d' l' p mark, nextS s = (0, ((mark : Nat) : Int), { s with d := d', log := l', epoch := l'.epoch, puts := p }) ∧ LogInv d' l' lo ∧ KeptFrom lo s.d d' ∧ s.log.epoch ≤ l'.epoch ∧ l'.epoch ≤ s.log.epoch + 1 ∧ p < 1048576 ∧ mark = l'.epoch * 1048576 + p := by
 have hgo : ∀ (q : StV), q.epoch ≤ q.log.epoch → (q.epoch = q.log.epoch → q.puts + 1 < 1048576) → ∃ p mark : Nat, ((0, ((if q.epoch ≠ q.log.epoch then { q with epoch := q.log.epoch, puts := 0 } else q).epoch * 1048576 + ((if q.epoch ≠ q.log.epoch then { q with epoch := q.log.epoch, puts := 0 } else q).puts + 1) : Int), { (if q.epoch ≠ q.log.epoch then { q with epoch := q.log.epoch, puts := 0 } else q) with puts := (if q.epoch ≠ q.log.epoch then { q with epoch := q.log.epoch, puts := 0 } else q).puts + 1 }) : Nat × Int × StV) = (0, ((mark : Nat) : Int), { q with epoch := q.log.epoch, puts := p }) ∧ p < 1048576 ∧ mark = q.log.epoch * 1048576 + p := by
  intro q h1 h2
  by_cases hq : q.epoch = q.log.epoch
  ·refine ⟨q.puts + 1, q.log.epoch * 1048576 + (q.puts + 1), ?_, h2 hq, rfl⟩
   rw [if_neg (by simpa using hq)]
   simp only [Prod.mk.injEq, true_and]
   refine ⟨by omega, ?_⟩
   rw [← hq]
  ·refine ⟨1, q.log.epoch * 1048576 + 1, ?_, by omega, rfl⟩
   rw [if_pos hq]
   simp only [Prod.mk.injEq, true_and]
   refine ⟨by omega, ?_⟩
   first
    | trivial
    | rfl
 unfold nextS
 simp only
 split
 ·rename_i hc
  rcases turnL_inv h hrs with e | ⟨d', l', e, hi, hk, _, hep⟩
  ·rw [e]
   exact .inl ⟨s.d, s.log, rfl, h, KeptFrom.refl _ _, nR0, by omega⟩
  ·rw [e]
   obtain ⟨p, mark, g1, g2, g3⟩ := hgo { s with d := d', log := l' } (by simp only; omega) (by simp only; omega)
   refine .inr ⟨d', l', p, mark, g1, hi, hk, by omega, by omega, g2, g3⟩
 ·rename_i hc
  obtain ⟨p, mark, g1, g2, g3⟩ := hgo s he (by omega)
  exact .inr ⟨s.d, s.log, p, mark, g1, h, KeptFrom.refl _ _, nR0, by omega, g2, g3⟩
end Go.Proofs.YtmgmfnimaafkdaaGreatDoor
namespace Go.Proofs.YtmgmfnimaafkdaaGreatDoor
set_option maxRecDepth 100000

structure Stands (d : DskV) (lo : Nat) (x : SlotV) (t : List UInt8) : Prop where
 intro' ::
 wit : ∃ a mark : Nat, x = ⟨a, needP d.size t.length, t.length, mark⟩ ∧ Holds d a 83 mark t ∧ mark < 2 ^ 63 ∧ lo ≤ a ∧ a + needP d.size t.length ≤ d.lasts.length
 some : 0 < t.length
 few : t.length ≤ 1048576
theorem Stands.keep {d d' : DskV} {lo : Nat} {x : SlotV} {t : List UInt8} (h : Stands d lo x t) (k : KeptFrom lo d d') : Stands d' lo x t := by
 obtain ⟨⟨a, mark, h1, h2, h3, h4, h5⟩, h6, h7⟩ := h
 refine ⟨⟨a, mark, by rw [k.1.1]; exact h1, h2.keep k.1.1 fun m g1 g2 => k.2 m (by omega) (by omega), h3, h4, by rw [k.1.1, k.1.2.1]; exact h5⟩, h6, h7⟩
def SecIn (x : SlotV) (k : Nat) : Prop := x.at' ≤ k ∧ (k : Int) < x.at' + x.len
structure StInv (s : StV) (lo E : Nat) (ts : List (NameV × List UInt8)) : Prop where
 log : LogInv s.d s.log lo
 map : MapInv s.map lo s.d.lasts.length
 puts : s.puts < 1048576
 epoch : s.epoch ≤ s.log.epoch
 ep : s.log.epoch ≤ E
 notes : s.notes = []
 marks : s.marks = []
 names : s.slices.map (·.1) = ts.map (·.1)
 each : ∀ i (h : i < s.slices.length) (h' : i < ts.length), Stands s.d lo (s.slices[i]).2 (ts[i]).2
 apart : s.slices.Pairwise fun x y => ∀ k, SecIn x.2 k → ¬ SecIn y.2 k
 used : ∀ x ∈ s.slices, ∀ k, SecIn x.2 k → ¬ FreeK s.map.free k
end Go.Proofs.YtmgmfnimaafkdaaGreatDoor
namespace Go.Proofs.YtmgmfnimaafkdaaGreatDoor
set_option maxRecDepth 100000

inductive Side {α β : Type} (R : α → β → Prop) : List α → List β → Prop where
 | nil : Side R [] []
 | cons {a b l m} : R a b → Side R l m → Side R (a :: l) (b :: m)
theorem Side.len {α β : Type} {R : α → β → Prop} {l : List α} {m : List β} (h : Side R l m) : l.length = m.length := by
 induction h with
 | nil => rfl
 | cons _ _ ih => simp [ih]
theorem side_of {α β : Type} {R : α → β → Prop} : ∀ (l : List α) (m : List β), l.length = m.length → (∀ i (h1 : i < l.length) (h2 : i < m.length), R l[i] m[i]) → Side R l m
 | [], [], _, _ => .nil
 | [], _ :: _, h, _ => by simp at h
 | _ :: _, [], h, _ => by simp at h
 | a :: l, b :: m, h, hr => .cons (hr 0 (by simp) (by simp)) (side_of l m (by simpa using h) fun i h1 h2 => hr (i + 1) (by simpa using h1) (by simpa using h2))
theorem Side.mono {α β : Type} {R S : α → β → Prop} {l : List α} {m : List β} (h : Side R l m) : (∀ a ∈ l, ∀ b, R a b → S a b) → Side S l m := by
 induction h with
 | nil => exact fun _ => .nil
 | cons hr _ ih => exact fun hs => .cons (hs _ List.mem_cons_self _ hr) (ih fun a ha b hb => hs a (List.mem_cons_of_mem _ ha) b hb)
theorem Side.put {α β : Type} {R : NameV × α → NameV × β → Prop} {l : List (NameV × α)} {m : List (NameV × β)} (h : Side R l m) (hk : ∀ a b, R a b → a.1 = b.1) {k : NameV} {v : α} {u : β} (hr : R (k, v) (k, u)) : Side R (putS k v l) (putS k u m) := by
 induction h with
 | nil => exact .cons hr .nil
 | cons hab ht ih =>
  rename_i a b l m
  have e := hk _ _ hab
  obtain ⟨a1, a2⟩ := a
  obtain ⟨b1, b2⟩ := b
  simp only at e
  subst e
  unfold putS
  split
  ·exact .cons hr (.cons hab ht)
  ·split
   ·exact .cons hr ht
   ·exact .cons hab ih
theorem putS_perm {α : Type} {k : NameV} {v : α} : ∀ {l : List (NameV × α)}, k ∉ l.map (·.1) → (putS k v l).Perm ((k, v) :: l)
 | [], _ => List.Perm.refl _
 | (a, x) :: l, h => by
  simp only [List.map_cons, List.mem_cons, not_or] at h
  unfold putS
  split
  ·exact List.Perm.refl _
  ·rw [if_neg (fun e => h.1 e.symm)]
   exact ((putS_perm h.2).cons _).trans (List.Perm.swap _ _ _)
theorem getS_none {s : StV} {n : NameV} (h : (getS s n).isSome = false) : n ∉ s.slices.map (·.1) := by
 intro hm
 obtain ⟨x, hx, rfl⟩ := List.mem_map.1 hm
 unfold getS at h
 rw [Option.isSome_map, ← Bool.not_eq_true] at h
 apply h
 rw [List.find?_isSome]
 exact ⟨x, hx, by simp⟩
theorem join5 (a b c d e : List UInt8) : (Lib.join [a, b, c, d, e] [32]).length = a.length + b.length + c.length + d.length + e.length + 4 := by
 simp [Lib.join]; omega
theorem slotRec_len {n : NameV} {x : SlotV} (h1 : -9223372036854775808 ≤ n.1 ∧ n.1 ≤ 9223372036854775807) (h2 : -9223372036854775808 ≤ n.2 ∧ n.2 ≤ 9223372036854775807) (h3 : -9223372036854775808 ≤ x.at' ∧ x.at' ≤ 9223372036854775807) (h4 : x.bytes ≤ 9223372036854775807) (h5 : -9223372036854775808 ≤ x.mark ∧ x.mark ≤ 9223372036854775807) : (slotRec n x).2.length ≤ 109 := by
 unfold slotRec wordsS
 simp only [List.map_cons, List.map_nil]
 rw [join5]
 have := Lib.itoa_length_le n.1 h1.1 h1.2
 have := Lib.itoa_length_le n.2 h2.1 h2.2
 have := Lib.itoa_length_le x.at' h3.1 h3.2
 have := Lib.itoa_length_le x.bytes (by omega) (by omega)
 have := Lib.itoa_length_le x.mark h5.1 h5.2
 omega

def NumOK (x : NameV × SlotV) : Prop := rightB x.1.1 = true ∧ rightB x.1.2 = true ∧ (0 ≤ x.2.at' ∧ x.2.at' ≤ 65536) ∧ x.2.bytes ≤ 1048576 ∧ 0 ≤ x.2.mark ∧ x.2.mark < 9223372036854775808
theorem rec_of_num {x : NameV × SlotV} (h : NumOK x) : (slotRec x.1 x.2).2.length ≤ 4000 := by
 obtain ⟨h1, h2, h3, h4, h5, h6⟩ := h
 unfold rightB at h1 h2
 simp only [Bool.and_eq_true, decide_eq_true_eq] at h1 h2
 have := slotRec_len (n := x.1) (x := x.2) (by omega) (by omega) (by omega) (by omega) (by omega)
 omega
theorem mem_putS {α : Type} {k : NameV} {v : α} : ∀ {l : List (NameV × α)} {x : NameV × α}, x ∈ putS k v l → x = (k, v) ∨ x ∈ l
 | [], x, h => by unfold putS at h; simpa using h
 | (a, y) :: l, x, h => by
  unfold putS at h
  split at h
  ·rcases List.mem_cons.1 h with h | h
   ·exact .inl h
   ·exact .inr h
  ·split at h
   ·rcases List.mem_cons.1 h with h | h
    ·exact .inl h
    ·exact .inr (List.mem_cons_of_mem _ h)
   ·rcases List.mem_cons.1 h with h | h
    ·exact .inr (by rw [h]; exact List.mem_cons_self)
    ·rcases mem_putS h with h | h
     ·exact .inl h
     ·exact .inr (List.mem_cons_of_mem _ h)
structure StGood (s : StV) (lo E : Nat) (ts : List (NameV × List UInt8)) : Prop where
 inv : StInv s lo E ts
 right : ∀ x ∈ ts, rightB x.1.1 = true ∧ rightB x.1.2 = true
 few : s.d.lasts.length ≤ 65536
 nd : (s.slices.map (·.1)).Nodup
theorem StInv.side {s : StV} {lo E : Nat} {ts : List (NameV × List UInt8)} (h : StInv s lo E ts) : Side (fun a b => a.1 = b.1 ∧ Stands s.d lo a.2 b.2) s.slices ts := by
 have hl : s.slices.length = ts.length := by have := congrArg List.length h.names; simpa using this
 refine side_of _ _ hl fun i h1 h2 => ⟨?_, h.each i h1 h2⟩
 have e : (s.slices.map (·.1))[i]'(by simpa using h1) = (ts.map (·.1))[i]'(by simpa using h2) := by simp only [h.names]
 simpa using e
theorem Side.names {d : DskV} {lo : Nat} {l : List (NameV × SlotV)} {ts : List (NameV × List UInt8)} (h : Side (fun a b => a.1 = b.1 ∧ Stands d lo a.2 b.2) l ts) : l.map (·.1) = ts.map (·.1) := by
 induction h with
 | nil => rfl
 | cons hr _ ih => simp [hr.1, ih]
theorem Side.mem {α β : Type} {R : α → β → Prop} {l : List α} {m : List β} (h : Side R l m) : ∀ x ∈ l, ∃ y ∈ m, R x y := by
 induction h with
 | nil => intro x hx; cases hx
 | cons hr _ ih =>
  intro x hx
  rcases List.mem_cons.1 hx with rfl | hx
  ·exact ⟨_, List.mem_cons_self, hr⟩
  ·obtain ⟨y, hy, hxy⟩ := ih x hx
   exact ⟨y, List.mem_cons_of_mem _ hy, hxy⟩
theorem StGood.nums {s : StV} {lo E : Nat} {ts : List (NameV × List UInt8)} (h : StGood s lo E ts) : ∀ x ∈ s.slices, NumOK x := by
 intro x hx
 obtain ⟨y, hy, e, ⟨a, mark, h1, h2, h3, h4, h5⟩, h6, h7⟩ := h.inv.side.mem x hx
 obtain ⟨r1, r2⟩ := h.right y hy
 have := h.few
 rw [← e] at r1 r2
 refine ⟨r1, r2, ?_⟩
 rw [h1]
 simp only
 omega
theorem LogInv.like {d d' : DskV} {l : LogV} {lo : Nat} (h : LogInv d l lo) (k : d.Like d') : LogInv d' l lo :=
 ⟨by rw [k.1]; exact h.s1, by rw [k.1]; exact h.s2, by rw [k.2.2]; exact h.on, by rw [k.1]; exact h.sz, h.frm, h.half, by rw [k.2.1]; exact h.lo, h.use, h.at1, h.at2⟩
theorem StGood.next {s s' : StV} {lo E E' : Nat} {ts : List (NameV × List UInt8)} (h : StGood s lo E ts) (hd : s.d.Like s'.d) (hst : ∀ x ∈ s.slices, ∀ t, Stands s.d lo x.2 t → Stands s'.d lo x.2 t) (hlog : LogInv s'.d s'.log lo) (hmap : MapInv s'.map lo s'.d.lasts.length)
  (hf : ∀ k, FreeK s'.map.free k → FreeK s.map.free k) (hp : s'.puts < 1048576) (he : s'.epoch ≤ s'.log.epoch) (hE : s'.log.epoch ≤ E') (hn : s'.notes = s.notes) (hs : s'.slices = s.slices) (hm : s'.marks = s.marks) : StGood s' lo E' ts := by
 refine ⟨⟨hlog, hmap, hp, he, hE, hn.trans h.inv.notes, hm.trans h.inv.marks, by rw [hs]; exact h.inv.names, fun i h1 h2 => ?_, by rw [hs]; exact h.inv.apart, fun x hx k hk hfk => ?_⟩, h.right, by rw [hd.2.1]; exact h.few, by rw [hs]; exact h.nd⟩
 ·have h1' : i < s.slices.length := by rw [← hs]; exact h1
  have := hst _ (List.getElem_mem h1') _ (h.inv.each i h1' h2)
  simp only [hs]
  exact this
 ·rw [hs] at hx
  exact h.inv.used x hx k hk (hf k hfk)
theorem give_back {m m' : MapV} {lo n a c : Nat} (h' : MapInv m' lo n) (hf1 : ∀ k, FreeK m'.free k ↔ FreeK m.free k ∧ ¬ (a ≤ k ∧ k < a + c)) (hf2 : ∀ k, a ≤ k → k < a + c → FreeK m.free k) :
  MapInv (giveM m' a c).2 lo n ∧ ∀ k, FreeK (giveM m' a c).2.free k → FreeK m.free k := by
 by_cases hg : (giveM m' a c).1 = 0
 ·obtain ⟨g1, g2⟩ := giveM_ok h' hg
  refine ⟨g1, fun k hk => ?_⟩
  rcases (g2 k).1 hk with h | h
  ·exact ((hf1 k).1 h).1
  ·exact hf2 k h.1 h.2
 ·rw [giveM_no hg]
  exact ⟨h', fun k hk => ((hf1 k).1 hk).1⟩
end Go.Proofs.YtmgmfnimaafkdaaGreatDoor
namespace Go.Proofs.YtmgmfnimaafkdaaGreatDoor
set_option maxRecDepth 100000

inductive Runs (P : List UInt8 → Prop) : Nat → DskV → DskV → Prop where
 | refl (d : DskV) : Runs P 0 d d
 | write {k n : Nat} {d d1 d2 : DskV} {b : List UInt8} : Runs P k d d1 → P b → writeD d1 n b = (0, d2) → Runs P (k + 1) d d2
 | flush {k : Nat} {d d1 d2 : DskV} : Runs P k d d1 → flushD d1 = (0, d2) → Runs P k d d2
theorem Runs.trans {P : List UInt8 → Prop} {k l : Nat} {a b c : DskV} (h : Runs P k a b) (g : Runs P l b c) : Runs P (k + l) a c := by
 induction g with
 | refl => exact h
 | write _ hp hw ih => exact .write (ih h) hp hw
 | flush _ hf ih => exact .flush (ih h) hf
theorem Runs.mono {P Q : List UInt8 → Prop} (hpq : ∀ b, P b → Q b) {k : Nat} {a b : DskV} (h : Runs P k a b) : Runs Q k a b := by
 induction h with
 | refl => exact .refl _
 | write _ hp hw ih => exact .write ih (hpq _ hp) hw
 | flush _ hf ih => exact .flush ih hf
def RunsB (P : List UInt8 → Prop) (K : Nat) (d d' : DskV) : Prop := ∃ k, k ≤ K ∧ Runs P k d d'
theorem RunsB.refl {P : List UInt8 → Prop} {K : Nat} (d : DskV) : RunsB P K d d := ⟨0, Nat.zero_le _, .refl d⟩
theorem RunsB.trans {P : List UInt8 → Prop} {k l K : Nat} {a b c : DskV} (h : RunsB P k a b) (g : RunsB P l b c) (hK : k + l ≤ K) : RunsB P K a c := by
 obtain ⟨i, hi, h⟩ := h
 obtain ⟨j, hj, g⟩ := g
 exact ⟨i + j, by omega, h.trans g⟩
theorem RunsB.le {P : List UInt8 → Prop} {k K : Nat} {a b : DskV} (h : RunsB P k a b) (hK : k ≤ K) : RunsB P K a b := by
 obtain ⟨i, hi, h⟩ := h
 exact ⟨i, by omega, h⟩
theorem RunsB.mono {P Q : List UInt8 → Prop} (hpq : ∀ b, P b → Q b) {K : Nat} {a b : DskV} (h : RunsB P K a b) : RunsB Q K a b := by
 obtain ⟨i, hi, h⟩ := h
 exact ⟨i, hi, h.mono hpq⟩
theorem writeD_like {d d' : DskV} {n : Nat} {b : List UInt8} (h : writeD d n b = (0, d')) : d.Like d' ∧ d'.waits.length = d.waits.length + 1 := by
 unfold writeD at h
 split at h
 ·simp at h
 ·split at h
  ·simp at h
  ·injection h with _ h; subst h; exact ⟨⟨rfl, rfl, rfl⟩, by simp⟩
theorem flushD_like {d d' : DskV} (h : flushD d = (0, d')) : d.Like d' ∧ d'.waits.length = 0 := by
 unfold flushD at h
 split at h
 ·simp at h
 ·injection h with _ h; subst h; exact ⟨⟨rfl, foldl_set_length _ _, rfl⟩, rfl⟩
theorem Runs.like {P : List UInt8 → Prop} {k : Nat} {a b : DskV} (h : Runs P k a b) : a.Like b ∧ b.waits.length ≤ a.waits.length + k := by
 induction h with
 | refl d => exact ⟨DskV.Like.refl d, by omega⟩
 | write _ _ hw ih => have := writeD_like hw; exact ⟨ih.1.trans this.1, by omega⟩
 | flush _ hf ih => have := flushD_like hf; exact ⟨ih.1.trans this.1, by omega⟩
theorem Runs.told {P : List UInt8 → Prop} {k : Nat} {a b : DskV} (h : Runs P k a b) {m : Nat} (hm : m < a.lasts.length) : b.told m = a.told m ∨ ∃ x, P x ∧ b.told m = .data x false := by
 induction h with
 | refl d => exact .inl rfl
 | write h1 hp hw ih =>
  rw [told_write hw]
  split
  ·exact .inr ⟨_, hp, rfl⟩
  ·exact ih hm
 | flush h1 hf ih =>
  rw [told_flush hf m (by rw [h1.like.1.2.1]; exact hm)]
  exact ih hm
theorem RunsB.like {P : List UInt8 → Prop} {K : Nat} {a b : DskV} (h : RunsB P K a b) : a.Like b ∧ b.waits.length ≤ a.waits.length + K := by
 obtain ⟨i, hi, h⟩ := h
 have := h.like
 exact ⟨this.1, by omega⟩
theorem RunsB.told {P : List UInt8 → Prop} {K : Nat} {a b : DskV} (h : RunsB P K a b) {m : Nat} (hm : m < a.lasts.length) : b.told m = a.told m ∨ ∃ x, P x ∧ b.told m = .data x false := by
 obtain ⟨i, hi, h⟩ := h
 exact h.told hm
theorem writeD_same' {d d' : DskV} {n e : Nat} {b : List UInt8} (h : writeD d n b = (e + 1, d')) : d' = d := by
 unfold writeD at h
 split at h
 ·injection h with _ h; exact h.symm
 ·split at h
  ·injection h with _ h; exact h.symm
  ·simp at h
theorem flushD_same' {d d' : DskV} {e : Nat} (h : flushD d = (e + 1, d')) : d' = d := by
 unfold flushD at h
 split at h
 ·injection h with _ h; exact h.symm
 ·simp at h
theorem putGo_runs {P : List UInt8 → Prop} {kind mark size at' : Nat} {b : List UInt8} (hP : ∀ i, P (secP size kind mark (b.drop (i * (size - 18))) (i == 0))) : ∀ (k i e : Nat) (d d' : DskV), putGo kind mark b size at' k i d = (e, d') → RunsB P k d d'
 | 0, i, e, d, d', h => by
  unfold putGo at h
  injection h with _ h; subst h; exact RunsB.refl _
 | k + 1, i, e, d, d', h => by
  unfold putGo at h
  cases hw : writeD d (at' + i) (secP size kind mark (b.drop (i * (size - 18))) (i == 0)) with
  | mk e1 d1 =>
   rw [hw] at h
   cases e1 with
   | zero => exact RunsB.trans (k := 1) (l := k) ⟨1, nR0, .write (.refl d) (hP i) hw⟩ (putGo_runs hP k (i + 1) e d1 d' h) (by omega)
   | succ e1 =>
    have := writeD_same' hw
    simp only at h
    injection h with _ h
    subst h; subst this; exact RunsB.refl _
theorem putP_runs {P : List UInt8 → Prop} {d d' : DskV} {at' kind mark n e : Nat} {b : List UInt8} (hP : ∀ i, P (secP d.size kind mark (b.drop (i * (d.size - 18))) (i == 0))) (hl : d.lasts.length ≤ 65536) (h : putP d at' kind mark b = (n, e, d')) : RunsB P 65536 d d' := by
 unfold putP at h
 split at h
 ·injection h with _ h; injection h with _ h; subst h; exact RunsB.refl _
 ·split at h
  ·injection h with _ h; injection h with _ h; subst h; exact RunsB.refl _
  ·rename_i h2
   have hn : needP d.size b.length ≤ 65536 := by omega
   cases hg : putGo kind mark b d.size at' (needP d.size b.length) 0 d with
   | mk e1 d1 =>
    rw [hg] at h
    have := (putGo_runs hP _ _ _ _ _ hg).le hn
    cases e1 with
    | zero => injection h with _ h; injection h with _ h; subst h; exact this
    | succ e1 => injection h with _ h; injection h with _ h; subst h; exact this
/-! ### what is written -/
theorem secOf_kind {size kind mark : Nat} {b : List UInt8} {first : Bool} (hk2 : kind < 256) (hm : mark < 2 ^ 64) {x : Sec} (h : secOf (secP size kind mark b first) = some x) : x.kind = kind ∧ x.mark = mark := by
 obtain ⟨p1, p2, _, _, _⟩ := parts_of (UInt8.ofNat kind) (if first then 1 else 0) (be 8 mark) (be 4 b.length) ((b.take (size - 18) ++ List.replicate (size - 18 - b.length) 0) ++ be 4 (crcOf (headP size kind mark b first))) (be_len _ _) (be_len _ _)
 have hform : secP size kind mark b first = UInt8.ofNat kind :: (be 8 mark ++ (be 4 b.length ++ ((if first then 1 else 0) :: ((b.take (size - 18) ++ List.replicate (size - 18 - b.length) 0) ++ be 4 (crcOf (headP size kind mark b first)))))) := by
  conv => lhs; unfold secP
  conv => lhs; lhs; unfold headP
  simp
 rw [← hform] at p1 p2
 unfold secOf at h
 split at h
 ·cases h
 split at h
 ·cases h
 simp only at h
 split at h
 ·cases h
 ·injection h with h
  subst h
  refine ⟨?_, ?_⟩
  ·simp only
   rw [p1, num_one]; simp; omega
  ·simp only
   rw [p2, num_be 8 _ (by omega)]
theorem secOf_zeros {n : Nat} {x : Sec} : ¬ secOf (List.replicate n 0) = some x := by
 intro h
 unfold secOf at h
 split at h
 ·cases h
 rename_i hn
 split at h
 ·cases h
 simp only at h
 split at h
 ·cases h
 ·rename_i hc
  apply hc
  left
  obtain ⟨m, hm⟩ : ∃ m, n = m + 1 := ⟨n - 1, by simp at hn; omega⟩
  subst hm
  simp [List.replicate_succ, num]
def SecOK (E : Nat) (b : List UInt8) : Prop := ∀ x, secOf b = some x → x.mark < 2 ^ 60 ∧ (x.kind = 72 → x.mark ≤ E)
theorem SecOK.le {E E' : Nat} (h : E ≤ E') {b : List UInt8} (hb : SecOK E b) : SecOK E' b := fun x hx => ⟨(hb x hx).1, fun hk => Nat.le_trans ((hb x hx).2 hk) h⟩
theorem secOK_zeros (E n : Nat) : SecOK E (List.replicate n 0) := fun _ hx => absurd hx secOf_zeros
theorem secOK_put {E size kind mark : Nat} {b : List UInt8} {first : Bool} (hk : kind < 256) (hm : mark < 2 ^ 60) (hE : kind = 72 → mark ≤ E) : SecOK E (secP size kind mark b first) := fun x hx => by
 obtain ⟨h1, h2⟩ := secOf_kind hk (by omega) hx
 rw [h1, h2]; exact ⟨hm, hE⟩
/-! ### the log -/
theorem zeros_runs {P : List UInt8 → Prop} {size : Nat} (hP : P (List.replicate size 0)) : ∀ (k n e : Nat) (d d' : DskV), d.size = size → zeros k n d = (e, d') → RunsB P k d d'
 | 0, n, e, d, d', _, h => by
  unfold zeros at h
  injection h with _ h; subst h; exact RunsB.refl _
 | k + 1, n, e, d, d', hz, h => by
  unfold zeros at h
  cases hw : writeD d n (List.replicate d.size 0) with
  | mk e1 d1 =>
   rw [hw] at h
   cases e1 with
   | zero => exact RunsB.trans (k := 1) (l := k) ⟨1, nR0, .write (.refl d) (by rw [hz]; exact hP) hw⟩ (zeros_runs hP k (n + 1) e d1 d' ((writeD_like hw).1.1.trans hz) h) (by omega)
   | succ e1 =>
    have := writeD_same' hw
    simp only at h
    injection h with _ h
    subst h; subst this; exact RunsB.refl _
theorem turnRecs_runs {E size epoch : Nat} (h19 : 19 ≤ size) (he : epoch < 2 ^ 39) : ∀ (rs : List RecL) (i at' e b : Nat) (d d' : DskV), d.size = size → d.lasts.length ≤ 65536 → i + rs.length < 2 ^ 20 → turnRecs size epoch rs i at' d = (e, b, d') → RunsB (SecOK E) (rs.length * 65536) d d'
 | [], i, at', e, b, d, d', _, _, _, h => by
  unfold turnRecs at h
  injection h with _ h; injection h with _ h; subst h; exact RunsB.refl _
 | r :: rs, i, at', e, b, d, d', hz, hl, hi, h => by
  unfold turnRecs at h
  rw [List.length_cons] at hi
  have hmk : epoch * MARKS + i + 1 < 2 ^ 60 := by unfold MARKS; omega
  cases hw : putP d at' 82 (epoch * MARKS + i + 1) (recB r) with
  | mk n q =>
   obtain ⟨e1, d1⟩ := q
   have hr := putP_runs (P := SecOK E) (fun i => secOK_put (by decide) hmk (fun h => absurd h (by decide))) hl hw
   rw [hw] at h
   cases e1 with
   | zero =>
    exact RunsB.trans hr (turnRecs_runs h19 he rs (i + 1) (at' + n) e b d1 d' (hr.like.1.1.trans hz) (by rw [hr.like.1.2.1]; exact hl) (by omega) h) (by rw [List.length_cons]; omega)
   | succ e1 =>
    simp only at h
    injection h with _ h; injection h with _ h
    subst h
    exact hr.le (by rw [List.length_cons]; omega)
theorem flushD_runs {P : List UInt8 → Prop} {K e : Nat} {d d' : DskV} (h : flushD d = (e, d')) : RunsB P K d d' := by
 cases e with
 | zero => exact ⟨0, Nat.zero_le _, .flush (.refl d) h⟩
 | succ e => rw [flushD_same' h]; exact RunsB.refl _
theorem turnGo_runs {d d' : DskV} {l l' : LogV} {keep : List RecL} {e : Nat} (h19 : 19 ≤ d.size) (hz : l.size = d.size) (hl : d.lasts.length ≤ 65536) (he : l.epoch + 1 < 2 ^ 39) (hk : keep.length ≤ 32768) (hh : l.half ≤ 32768) (hf : l.frm = 0) (h : turnGo d l keep = (e, d', l')) : RunsB (SecOK (l.epoch + 1)) 4294967296 d d' := by
 unfold turnGo at h
 simp only at h
 cases h1 : turnRecs l.size (l.epoch + 1) keep 0 (l.begin (1 - l.use) + needP l.size 0) d with
 | mk e1 q =>
  obtain ⟨a1, d1⟩ := q
  rw [h1] at h
  have r1 := turnRecs_runs (E := l.epoch + 1) (by omega) (by omega) keep 0 _ _ _ _ _ hz.symm hl (by omega) h1
  have hb1 : keep.length * 65536 ≤ 2147483648 := by omega
  cases e1 with
  | succ e1 =>
   simp only at h
   injection h with _ h; injection h with h _; subst h
   exact r1.le (by omega)
  | zero =>
   simp only at h
   cases h2 : zeros (l.begin (1 - l.use) + l.half - a1) a1 d1 with
   | mk e2 d2 =>
    rw [h2] at h
    have r2 := zeros_runs (P := SecOK (l.epoch + 1)) (size := d.size) (secOK_zeros _ _) _ _ _ _ _ (r1.like.1.1) h2
    have hbg : l.begin (1 - l.use) ≤ 32768 := by
     unfold LogV.begin
     rw [hf]
     have : (1 - l.use) * l.half ≤ 1 * l.half := Nat.mul_le_mul_right _ (by omega)
     omega
    have hb2 : l.begin (1 - l.use) + l.half - a1 ≤ 65536 := by omega
    have r12 := RunsB.trans (K := 2147549184) (r1.le hb1) (r2.le hb2) nR0
    cases e2 with
    | succ e2 =>
     simp only at h
     injection h with _ h; injection h with h _; subst h
     exact r12.le (by omega)
    | zero =>
     simp only at h
     cases h3 : flushD d2 with
     | mk e3 d3 =>
      rw [h3] at h
      have r3 := RunsB.trans (K := 2147549184) r12 (flushD_runs (K := 0) h3) (by omega)
      cases e3 with
      | succ e3 =>
       simp only at h
       injection h with _ h; injection h with h _; subst h
       exact r3.le (by omega)
      | zero =>
       simp only at h
       cases h4 : putP d3 (l.begin (1 - l.use)) 72 (l.epoch + 1) [] with
       | mk n4 q4 =>
        obtain ⟨e4, d4⟩ := q4
        rw [h4] at h
        have r4 := RunsB.trans (K := 2147614720) r3 (putP_runs (P := SecOK (l.epoch + 1)) (fun i => secOK_put (by decide) (by omega) (fun _ => nR0)) (by rw [r3.like.1.2.1]; exact hl) h4) (by omega)
        cases e4 with
        | succ e4 =>
         simp only at h
         injection h with _ h; injection h with h _; subst h
         exact r4.le (by omega)
        | zero =>
         simp only at h
         cases h5 : flushD d4 with
         | mk e5 d5 =>
          rw [h5] at h
          have r5 := RunsB.trans (K := 2147614720) r4 (flushD_runs (K := 0) h5) (by omega)
          cases e5 with
          | succ e5 =>
           simp only at h
           injection h with _ h; injection h with h _; subst h
           exact r5.le (by omega)
          | zero =>
           simp only at h
           injection h with _ h; injection h with h _; subst h
           exact r5.le (by omega)
theorem sum_ge_len {α : Type} (f : α → Nat) : ∀ (l : List α), (∀ x ∈ l, 1 ≤ f x) → l.length ≤ (l.map f).sum
 | [], _ => by simp
 | a :: l, h => by
  have := sum_ge_len f l fun x hx => h x (by simp [hx])
  have := h a (by simp)
  simp only [List.length_cons, List.map_cons, List.sum_cons]; omega
theorem turnL_runs {d d' : DskV} {l l' : LogV} {lo : Nat} {keep : List RecL} {e : Nat} (hi : LogInv d l lo) (hl : d.lasts.length ≤ 65536) (he : l.epoch + 1 < 2 ^ 39) (h : turnL d l keep = (e, d', l')) : RunsB (SecOK (l.epoch + 1)) 4294967296 d d' := by
 have hlo := hi.lo
 have hhf := hi.half
 unfold turnL at h
 split at h
 ·injection h with _ h; injection h with h _; subst h; exact RunsB.refl _
 ·rename_i ha
  split at h
  ·injection h with _ h; injection h with h _; subst h; exact RunsB.refl _
  ·rename_i hfit
   have hs := sum_ge_len l.needR keep fun r hr => by
    have hr4 : r.2.length ≤ 4000 := by
     apply Decidable.byContradiction
     intro hcon
     apply ha
     rw [List.any_eq_true]
     exact ⟨r, hr, by simp; omega⟩
    unfold LogV.needR
    rw [hi.sz]
    exact needP_pos hi.s1 hi.s2 (by omega)
   exact turnGo_runs hi.s1 hi.sz hl he (by omega) (by omega) hi.frm h
theorem addL_runs {d d' : DskV} {l l' : LogV} {r : RecL} {e : Nat} (hl : d.lasts.length ≤ 65536) (he : l.epoch < 2 ^ 39) (hn : l.recs.length ≤ 1000000) (h : addL d l r = (e, d', l')) : RunsB (SecOK l.epoch) 65536 d d' := by
 unfold addL at h
 split at h
 ·injection h with _ h; injection h with h _; subst h; exact RunsB.refl _
 ·split at h
  ·injection h with _ h; injection h with h _; subst h; exact RunsB.refl _
  ·have hmk : l.epoch * MARKS + l.recs.length + 1 < 2 ^ 60 := by unfold MARKS; omega
   cases hw : putP d l.at' 82 (l.epoch * MARKS + l.recs.length + 1) (recB r) with
   | mk n q =>
    obtain ⟨e1, d1⟩ := q
    have hr := putP_runs (P := SecOK l.epoch) (fun i => secOK_put (by decide) hmk (fun h => absurd h (by decide))) hl hw
    rw [hw] at h
    cases e1 with
    | zero => simp only at h; injection h with _ h; injection h with h _; subst h; exact hr
    | succ e1 => simp only at h; injection h with _ h; injection h with h _; subst h; exact hr
end Go.Proofs.YtmgmfnimaafkdaaGreatDoor
namespace Go.Proofs.YtmgmfnimaafkdaaGreatDoor
set_option maxRecDepth 100000

theorem rot_ok {d : DskV} {n bit : Nat} (hn : n < d.lasts.length) (hb : bit < 8 * d.size) (ho : d.off = false) (h1 : d.told n ≠ .torn) (h2 : ∀ b, d.told n ≠ .data b true) : ∃ d', rotD d n bit = (0, d') := by
 unfold rotD
 rw [if_neg (by omega), if_neg (by rw [ho]; simp)]
 cases ht : d.told n with
 | zero =>
  simp only [rotSec]
  split <;> exact ⟨_, rfl⟩
 | torn => exact absurd ht h1
 | data b t =>
  cases t with
  | true => exact absurd ht (h2 b)
  | false =>
   simp only [rotSec]
   split <;> exact ⟨_, rfl⟩
theorem Side.mem' {α β : Type} {R : α → β → Prop} {l : List α} {m : List β} (h : Side R l m) : ∀ y ∈ m, ∃ x ∈ l, R x y := by
 induction h with
 | nil => intro x hx; cases hx
 | cons hr _ ih =>
  intro x hx
  rcases List.mem_cons.1 hx with rfl | hx
  ·exact ⟨_, List.mem_cons_self, hr⟩
  ·obtain ⟨y, hy, hxy⟩ := ih x hx
   exact ⟨y, List.mem_cons_of_mem _ hy, hxy⟩
end Go.Proofs.YtmgmfnimaafkdaaGreatDoor
namespace Go.Proofs.YtmgmfnimaafkdaaGreatDoor
set_option maxRecDepth 100000

def Fine (d : DskV) (E : Nat) : Prop := ∀ m, m < d.lasts.length → ∀ b t, d.told m = .data b t → SecOK E b
theorem Fine.le {d : DskV} {E E' : Nat} (h : Fine d E) (hE : E ≤ E') : Fine d E' := fun m hm b t hb => (h m hm b t hb).le hE
theorem Fine.runs {d d' : DskV} {E K : Nat} (h : Fine d E) (r : RunsB (SecOK E) K d d') : Fine d' E := fun m hm b t hb => by
 have hm' : m < d.lasts.length := by rw [← r.like.1.2.1]; exact hm
 rcases r.told hm' with e | ⟨x, hx, e⟩
 ·rw [e] at hb; exact h m hm' b t hb
 ·rw [e] at hb; injection hb with hb _; subst hb; exact hx
theorem Fine.read {d : DskV} {E n : Nat} {s : List UInt8} (h : Fine d E) (hr : readD d n = (0, s)) : SecOK E s := by
 unfold readD at hr
 split at hr
 ·simp at hr
 ·rename_i hn
  split at hr
  ·simp at hr
  ·cases ht : d.told n with
   | torn => rw [ht] at hr; simp at hr
   | zero => rw [ht] at hr; injection hr with _ hr; subst hr; exact secOK_zeros _ _
   | data b t => rw [ht] at hr; injection hr with _ hr; subst hr; exact h n (by omega) b t ht
theorem fine_fresh (n k E : Nat) : Fine (newD n k) E := fun m _ b t h => by rw [told_fresh] at h; cases h
theorem getGo_mark {d : DskV} {at' E : Nat} (h : Fine d E) : ∀ (k i : Nat) (head : Sec) (out : List UInt8) (r : RecV), (0 < i → head.mark < 2 ^ 60 ∧ (head.kind = 72 → head.mark ≤ E)) → getGo d at' k i head out = (0, r) → r.mark < 2 ^ 60 ∧ (r.kind = 72 → r.mark ≤ E)
 | 0, i, head, out, r, _, hg => by unfold getGo at hg; simp at hg
 | k + 1, i, head, out, r, hh, hg => by
  unfold getGo at hg
  cases hr : readD d (at' + i) with
  | mk e s =>
   rw [hr] at hg
   cases e with
   | succ e => simp at hg
   | zero =>
    have hs := h.read hr
    simp only at hg
    split at hg
    ·simp at hg
    ·cases hx : secOf s with
     | none => rw [hx] at hg; simp at hg
     | some x =>
      rw [hx] at hg
      have hx' := hs x hx
      simp only at hg
      split at hg
      ·simp at hg
      ·split at hg
       ·simp at hg
       ·by_cases hi : i = 0
        ·subst hi
         simp only [if_pos] at hg
         split at hg
         ·injection hg with _ hg; subst hg; exact hx'
         ·exact getGo_mark h k _ _ _ _ (fun _ => hx') hg
        ·simp only [if_neg hi] at hg
         split at hg
         ·injection hg with _ hg; subst hg; exact hh (by omega)
         ·exact getGo_mark h k _ _ _ _ (fun _ => hh (by omega)) hg
theorem getP_mark {d : DskV} {at' E : Nat} {r : RecV} (h : Fine d E) (hg : getP d at' = (0, r)) : r.mark < 2 ^ 60 ∧ (r.kind = 72 → r.mark ≤ E) := by
 unfold getP at hg
 split at hg
 ·simp at hg
 ·exact getGo_mark h _ _ _ _ _ (fun h => absurd h (by omega)) hg
structure Found (l0 l : LogV) (E : Nat) : Prop where
 frm : l.frm = l0.frm
 half : l.half = l0.half
 size : l.size = l0.size
 use : l.use ≤ 1
 epoch : l.epoch ≤ E
theorem loadGo_found {d : DskV} : ∀ (k e : Nat) (l l' : LogV), loadGo d k l = (e, l') → l'.frm = l.frm ∧ l'.half = l.half ∧ l'.size = l.size ∧ l'.use = l.use ∧ l'.epoch = l.epoch ∧ l'.recs.length ≤ l.recs.length + k
 | 0, e, l, l', h => by unfold loadGo at h; injection h with _ h; subst h; exact ⟨rfl, rfl, rfl, rfl, rfl, by omega⟩
 | k + 1, e, l, l', h => by
  unfold loadGo at h
  split at h
  ·injection h with _ h; subst h; exact ⟨rfl, rfl, rfl, rfl, rfl, by omega⟩
  ·split at h
   ·injection h with _ h; subst h; exact ⟨rfl, rfl, rfl, rfl, rfl, by omega⟩
   ·split at h
    ·injection h with _ h; subst h; exact ⟨rfl, rfl, rfl, rfl, rfl, by omega⟩
    ·obtain ⟨h1, h2, h3, h4, h5, h6⟩ := loadGo_found k e _ l' h
     refine ⟨h1, h2, h3, h4, h5, ?_⟩
     simp only [List.length_append, List.length_cons, List.length_nil] at h6
     omega
   ·injection h with _ h; subst h; exact ⟨rfl, rfl, rfl, rfl, rfl, by omega⟩
theorem findHalf_found {d : DskV} {l l' : LogV} {hf e E : Nat} {f f' : Bool} (hF : Fine d E) (hh : hf ≤ 1) (h : findHalf d l hf f = (e, l', f')) (hu : l.use ≤ 1) (he : l.epoch ≤ E) : Found l l' E ∧ l'.recs = l.recs := by
 unfold findHalf at h
 split at h
 ·injection h with _ h; injection h with h _; subst h; exact ⟨⟨rfl, rfl, rfl, hu, he⟩, rfl⟩
 ·rename_i r hr
  split at h
  ·injection h with _ h; injection h with h _; subst h; exact ⟨⟨rfl, rfl, rfl, hu, he⟩, rfl⟩
  ·rename_i hk
   split at h
   ·injection h with _ h; injection h with h _; subst h
    refine ⟨⟨rfl, rfl, rfl, hh, (getP_mark hF hr).2 ?_⟩, rfl⟩
    apply Decidable.byContradiction
    intro hc
    exact hk (.inl hc)
   ·injection h with _ h; injection h with h _; subst h; exact ⟨⟨rfl, rfl, rfl, hu, he⟩, rfl⟩
 ·injection h with _ h; injection h with h _; subst h; exact ⟨⟨rfl, rfl, rfl, hu, he⟩, rfl⟩
theorem findL_found {d : DskV} {l0 l' : LogV} {e E : Nat} (hF : Fine d E) (h0 : l0.recs = []) (h : findL d l0 = (e, l')) : Found l0 l' E ∧ l'.recs.length ≤ l0.half + 1 := by
 unfold findL at h
 cases h1 : findHalf d { l0 with use := 1, epoch := 0 } 0 false with
 | mk e1 q =>
  obtain ⟨l1, f1⟩ := q
  obtain ⟨k1, r1⟩ := findHalf_found hF (by omega) h1 (by simp) (by simp)
  rw [h1] at h
  cases e1 with
  | succ e1 =>
   injection h with _ h; subst h
   exact ⟨⟨k1.frm, k1.half, k1.size, k1.use, k1.epoch⟩, by rw [r1]; simp [h0]⟩
  | zero =>
   simp only at h
   cases h2 : findHalf d l1 1 f1 with
   | mk e2 q =>
    obtain ⟨l2, f2⟩ := q
    obtain ⟨k2, r2⟩ := findHalf_found hF (by omega) h2 k1.use k1.epoch
    rw [h2] at h
    have hn : l2.recs.length = 0 := by rw [r2, r1]; simp [h0]
    have k : Found l0 l2 E := ⟨k2.frm.trans k1.frm, k2.half.trans k1.half, k2.size.trans k1.size, k2.use, k2.epoch⟩
    cases e2 with
    | succ e2 =>
     injection h with _ h; subst h
     exact ⟨k, by omega⟩
    | zero =>
     simp only at h
     split at h
     ·obtain ⟨g1, g2, g3, g4, g5, g6⟩ := loadGo_found _ _ _ _ h
      simp only at g1 g2 g3 g4 g5 g6
      refine ⟨⟨g1.trans k.frm, g2.trans k.half, g3.trans k.size, by rw [g4]; exact k.use, by rw [g5]; exact k.epoch⟩, ?_⟩
      rw [k.half] at g6
      omega
     ·injection h with _ h; subst h
      exact ⟨⟨k.frm, k.half, k.size, k.use, k.epoch⟩, by simp only; omega⟩
theorem openL_runs {d d' : DskV} {sectors e E : Nat} {l' : LogV} (hF : Fine d E) (hl : d.lasts.length ≤ 65536) (hs : sectors ≤ 65000) (hE : E + 1 < 2 ^ 39) (h : openL d 0 sectors = (e, d', l')) : RunsB (SecOK (E + 1)) 4294967296 d d' := by
 unfold openL at h
 simp only at h
 split at h
 ·injection h with _ h; injection h with h _; subst h; exact RunsB.refl _
 ·rename_i hc
  cases h1 : findL d ⟨0, sectors / 2, d.size, 0, 0, 0, []⟩ with
  | mk e1 l1 =>
   rw [h1] at h
   obtain ⟨k, hn⟩ := findL_found hF rfl h1
   cases e1 with
   | succ e1 => injection h with _ h; injection h with h _; subst h; exact RunsB.refl _
   | zero =>
    simp only at h
    have hhalf : l1.half = sectors / 2 := k.half
    have := turnGo_runs (by omega) k.size hl (by have := k.epoch; omega) (by simp only at hn; omega) (by rw [hhalf]; omega) k.frm h
    exact this.mono fun b hb => hb.le (by have := k.epoch; omega)
end Go.Proofs.YtmgmfnimaafkdaaGreatDoor
namespace Go.Proofs.YtmgmfnimaafkdaaGreatDoor
set_option maxRecDepth 100000

theorem addL_recs {d d' : DskV} {l l' : LogV} {r : RecL} {e : Nat} (hn : l.recs.length ≤ 1000000) (h : addL d l r = (e, d', l')) : l'.recs.length ≤ 1000000 := by
 unfold addL at h
 split at h
 ·injection h with _ h; injection h with _ h; subst h; exact hn
 ·split at h
  ·injection h with _ h; injection h with _ h; subst h; exact hn
  ·rename_i hc
   split at h
   ·injection h with _ h; injection h with _ h; subst h
    simp only [List.length_append, List.length_cons, List.length_nil]
    omega
   ·injection h with _ h; injection h with _ h; subst h; exact hn
theorem turnGo_recs {d d' : DskV} {l l' : LogV} {keep : List RecL} {e : Nat} (hn : l.recs.length ≤ 1000000) (hk : keep.length ≤ 1000000) (h : turnGo d l keep = (e, d', l')) : l'.recs.length ≤ 1000000 := by
 unfold turnGo at h
 simp only at h
 split at h
 ·split at h
  ·split at h
   ·split at h
    ·split at h
     ·injection h with _ h; injection h with _ h; subst h; exact hk
     ·injection h with _ h; injection h with _ h; subst h; exact hn
    ·injection h with _ h; injection h with _ h; subst h; exact hn
   ·injection h with _ h; injection h with _ h; subst h; exact hn
  ·injection h with _ h; injection h with _ h; subst h; exact hn
 ·injection h with _ h; injection h with _ h; subst h; exact hn
theorem turnL_recs {d d' : DskV} {l l' : LogV} {keep : List RecL} {e : Nat} (hn : l.recs.length ≤ 1000000) (h : turnL d l keep = (e, d', l')) : l'.recs.length ≤ 1000000 := by
 unfold turnL at h
 split at h
 ·injection h with _ h; injection h with _ h; subst h; exact hn
 ·split at h
  ·injection h with _ h; injection h with _ h; subst h; exact hn
  ·exact turnGo_recs hn (by omega) h
theorem loggedS_runs {s was s' : StV} {r : RecL} {lo e : Nat} (hi : LogInv s.d s.log lo) (hl : s.d.lasts.length ≤ 65536) (he : s.log.epoch + 1 < 2 ^ 39) (hn : s.log.recs.length ≤ 1000000) (hr : r.2.length ≤ 4000) (h : loggedS s was r = (e, s')) :
  RunsB (SecOK (s.log.epoch + 1)) 8589934592 s.d s'.d ∧ s'.log.recs.length ≤ 1000000 := by
 unfold loggedS at h
 cases h1 : addL s.d s.log r with
 | mk e1 q =>
  obtain ⟨d1, l1⟩ := q
  have r1 := (addL_runs hl (by omega) hn h1).mono fun b hb => hb.le (Nat.le_succ _)
  have n1 := addL_recs hn h1
  rw [h1] at h
  split at h
  ·rename_i g; injection g with g1 g2; injection g2 with g2 g3; subst g1; subst g2; subst g3
   injection h with _ h; subst h; exact ⟨r1.le (by omega), n1⟩
  ·rename_i g; injection g with g1 g2; injection g2 with g2 g3; subst g1; subst g2; subst g3
   have hd : d1 = s.d ∧ l1 = s.log := by
    rcases addL_inv hi hr with q | ⟨d', l', q, _⟩
    ·rw [q] at h1; injection h1 with _ h1; injection h1 with a b; exact ⟨a.symm, b.symm⟩
    ·rw [q] at h1; injection h1 with h1 _; simp at h1
   obtain ⟨rfl, rfl⟩ := hd
   cases h2 : turnL s.d s.log (recordsS s) with
   | mk e2 q =>
    obtain ⟨d2, l2⟩ := q
    have r2 := turnL_runs hi hl he h2
    have n2 := turnL_recs hn h2
    rw [h2] at h
    cases e2 with
    | zero => simp only at h; injection h with _ h; subst h; exact ⟨r2.le (by omega), n2⟩
    | succ e2 => simp only at h; injection h with _ h; subst h; exact ⟨r2.le (by omega), n2⟩
  ·rename_i g; injection g with g1 g2; injection g2 with g2 g3; subst g1; subst g2; subst g3
   injection h with _ h; subst h; exact ⟨r1.le (by omega), n1⟩
theorem nextS_runs {s s' : StV} {lo e : Nat} {mk : Int} (hi : LogInv s.d s.log lo) (hl : s.d.lasts.length ≤ 65536) (he : s.log.epoch + 1 < 2 ^ 39) (hn : s.log.recs.length ≤ 1000000) (h : nextS s = (e, mk, s')) :
  RunsB (SecOK (s.log.epoch + 1)) 4294967296 s.d s'.d ∧ s'.log.recs.length ≤ 1000000 := by
 unfold nextS at h
 simp only at h
 split at h
 ·cases h2 : turnL s.d s.log (recordsS s) with
  | mk e2 q =>
   obtain ⟨d2, l2⟩ := q
   have r2 := turnL_runs hi hl he h2
   have n2 := turnL_recs hn h2
   rw [h2] at h
   cases e2 with
   | zero =>
    simp only at h
    injection h with _ h; injection h with _ h; subst h
    split <;> exact ⟨r2, n2⟩
   | succ e2 =>
    injection h with _ h; injection h with _ h; subst h; exact ⟨r2, n2⟩
 ·injection h with _ h; injection h with _ h; subst h
  split <;> exact ⟨RunsB.refl _, hn⟩
def Whole (d : DskV) : Prop := ∀ m, m < d.lasts.length → d.told m ≠ .torn ∧ ∀ b, d.told m ≠ .data b true
theorem Whole.runs {P : List UInt8 → Prop} {d d' : DskV} {K : Nat} (h : Whole d) (r : RunsB P K d d') : Whole d' := fun m hm => by
 have hm' : m < d.lasts.length := by rw [← r.like.1.2.1]; exact hm
 rcases r.told hm' with e | ⟨x, _, e⟩
 ·rw [e]; exact h m hm'
 ·rw [e]; exact ⟨by simp, by simp⟩
structure StLive (s : StV) (lo E K : Nat) : Prop where
 fine : Fine s.d E
 waits : s.d.waits.length ≤ K
 recs : s.log.recs.length ≤ 1000000
 whole : Whole s.d
theorem StLive.runs {s s' : StV} {lo E E' K K' L : Nat} (h : StLive s lo E K) (r : RunsB (SecOK E') L s.d s'.d) (hE : E ≤ E') (hK : K + L ≤ K') (hn : s'.log.recs.length ≤ 1000000) : StLive s' lo E' K' :=
 ⟨(h.fine.le hE).runs r, by have := r.like.2; have := h.waits; omega, hn, h.whole.runs r⟩
end Go.Proofs.YtmgmfnimaafkdaaGreatDoor
