/- The slices found in a log, looked at one by one. No program in sight. -/
import Derived.Test.YtmgmfnimaafkdaaGreatDoorVA
import Derived.Lib.ItoaLen
import Derived.Lib.ParseIntBTie
import Derived.Lib.IndexLaws
namespace Go.Proofs.YtmgmfnimaafkdaaGreatDoor
set_option maxRecDepth 100000

theorem open_fresh2 {n k : Nat} (hs : standsB n k = true) : ∃ d1 d, openL (newD n k) 0 (n / 4) = (0, d1, ⟨0, n / 4 / 2, k, 0, 1, 1, []⟩) ∧ turnL d1 ⟨0, n / 4 / 2, k, 0, 1, 1, []⟩ [] = (0, d, ⟨0, n / 4 / 2, k, 1, 2, n / 4 / 2 + 1, []⟩) ∧ (newD n k).Like d1 ∧ (newD n k).Like d ∧
  openS (newD n k) = (0, d, some ⟨d, ⟨0, n / 4 / 2, k, 1, 2, n / 4 / 2 + 1, []⟩, ⟨n / 4, n - n / 4, if 0 < n - n / 4 then [(n / 4, n - n / 4)] else []⟩, [], [], [], 0, 0⟩) := by
 unfold standsB at hs
 simp only [Bool.not_eq_true', Bool.or_eq_false_iff, decide_eq_false_iff_not, beq_eq_false_iff_ne] at hs
 obtain ⟨⟨⟨hq, hne⟩, hfit⟩, hfit2⟩ := hs
 obtain ⟨h1, h2⟩ := needP_some hne
 have hl : (newD n k).lasts.length = n := by simp [newD]
 have hz : (newD n k).size = k := rfl
 have hn0 := needP_zero h1 h2
 have hp : 1 ≤ needP k 201 := needP_pos h1 h2 (by omega)
 obtain ⟨d1, e1, L1⟩ := openL_fresh (n := n) (k := k) (q := n / 4) h1 h2 (by omega) (by omega)
 obtain ⟨d2, e2, L2⟩ := turnGo_ok (d := d1) (l := ⟨0, n / 4 / 2, k, 0, 1, 1, []⟩) (keep := []) (by rw [L1.1, hz]; exact h1) (by rw [L1.1, hz]; exact h2) (by rw [L1.1, hz]) (L1.2.2.trans rfl) (fun r hr => by cases hr) (by simp [hn0]; omega) (by rw [L1.2.1, hl]; simp; omega)
 have ht : turnL d1 ⟨0, n / 4 / 2, k, 0, 1, 1, []⟩ [] = (0, d2, ⟨0, n / 4 / 2, k, 1, 2, n / 4 / 2 + 1, []⟩) := by
  unfold turnL
  rw [if_neg (by simp), if_neg (by simp [hn0]; omega), e2]
  simp [LogV.begin, hn0]
 refine ⟨d1, d2, e1, ht, L1, L1.trans L2, ?_⟩
 unfold openS
 simp only [hl, hz]
 rw [if_neg (by omega), e1]
 simp only [List.foldl_nil, claimAll]
 have hr : ∀ d l m, recordsS (⟨d, l, m, [], [], [], 0, 0⟩ : StV) = [] := fun _ _ _ => rfl
 simp only [hr, ht]
theorem stands_some {n k : Nat} (hs : standsB n k = true) : 16 ≤ n ∧ 19 ≤ k ∧ k ≤ 4096 := by
 unfold standsB at hs
 simp only [Bool.not_eq_true', Bool.or_eq_false_iff, decide_eq_false_iff_not, beq_eq_false_iff_ne] at hs
 obtain ⟨⟨⟨hq, hne⟩, hfit⟩, hfit2⟩ := hs
 obtain ⟨h1, h2⟩ := needP_some hne
 omega
end Go.Proofs.YtmgmfnimaafkdaaGreatDoor
namespace Go.Proofs.YtmgmfnimaafkdaaGreatDoor
set_option maxRecDepth 100000

def getL {κ α : Type} [DecidableEq κ] (l : List (κ × α)) (x : κ) : Option α := (l.find? (fun y => decide (y.1 = x))).map (·.2)
theorem getL_nil {κ α : Type} [DecidableEq κ] (x : κ) : getL ([] : List (κ × α)) x = none := rfl
theorem getL_cons {κ α : Type} [DecidableEq κ] (a : κ) (v : α) (l : List (κ × α)) (x : κ) : getL ((a, v) :: l) x = if x = a then some v else getL l x := by
 unfold getL
 rw [List.find?_cons]
 by_cases h : x = a
 ·subst h; simp
 ·have : ¬ a = x := fun e => h e.symm
  simp [h, this]
theorem getL_some {κ α : Type} [DecidableEq κ] {x : κ} : ∀ {l : List (κ × α)}, (getL l x).isSome = true ↔ x ∈ l.map (·.1)
 | [] => by simp [getL_nil]
 | (a, v) :: l => by
  rw [getL_cons]
  by_cases h : x = a
  ·subst h; simp
  ·simp only [List.map_cons, List.mem_cons, h, false_or]
   exact getL_some
theorem getL_mem {κ α : Type} [DecidableEq κ] {x : κ} {v : α} : ∀ {l : List (κ × α)}, getL l x = some v → (x, v) ∈ l
 | [], h => by simp [getL_nil] at h
 | (a, u) :: l, h => by
  rw [getL_cons] at h
  split at h
  ·rename_i e; injection h with h; subst e; subst h; exact List.mem_cons_self
  ·exact List.mem_cons_of_mem _ (getL_mem h)
theorem getL_filter {κ α : Type} [DecidableEq κ] (p : κ → Bool) (x : κ) : ∀ (l : List (κ × α)), getL (l.filter fun y => p y.1) x = if p x = true then getL l x else none
 | [] => by simp [getL_nil]
 | (a, u) :: l => by
  have ih := getL_filter p x l
  rw [List.filter_cons, getL_cons]
  by_cases h : x = a
  ·subst h
   cases hp : p x
   ·simp [ih, hp]
   ·simp [getL_cons]
  ·cases hp : p a
   ·simp [ih, h]
   ·simp only [if_true, getL_cons, if_neg h]
    exact ih
theorem getL_putS {α : Type} (k : NameV) (v : α) (y : NameV) : ∀ (l : List (NameV × α)), getL (putS k v l) y = if y = k then some v else getL l y
 | [] => by rw [putS, getL_cons]
 | (a, x) :: l => by
  unfold putS
  split
  ·rw [getL_cons]
  ·split
   ·rename_i _ e
    subst e
    rw [getL_cons, getL_cons]
    by_cases h : y = a <;> simp [h]
   ·rename_i _ e
    rw [getL_cons, getL_cons, getL_putS k v y l]
    by_cases h : y = a
    ·subst h; simp [e]
    ·simp [h]
theorem getL_putN {α : Type} (k : Int) (v : α) (y : Int) : ∀ (l : List (Int × α)), getL (putN k v l) y = if y = k then some v else getL l y
 | [] => by rw [putN, getL_cons]
 | (a, x) :: l => by
  unfold putN
  split
  ·rw [getL_cons]
  ·split
   ·rename_i _ e
    subst e
    rw [getL_cons, getL_cons]
    by_cases h : y = a <;> simp [h]
   ·rename_i _ e
    rw [getL_cons, getL_cons, getL_putN k v y l]
    by_cases h : y = a
    ·subst h; simp [e]
    ·simp [h]
theorem getS_eq (s : StV) (n : NameV) : getS s n = getL s.slices n := by
 unfold getS getL
 congr 1
 congr 1
 funext y
 rw [Bool.eq_iff_iff]
 simp
theorem ltN_iff {a b : NameV} : ltN a b = true ↔ a.1 < b.1 ∨ (a.1 = b.1 ∧ a.2 < b.2) := by
 unfold ltN
 simp
theorem ltN_trans {a b c : NameV} (h : ltN a b = true) (g : ltN b c = true) : ltN a c = true := by
 rw [ltN_iff] at h g ⊢
 omega
theorem ltN_ne {a b : NameV} (h : ltN a b = true) : a ≠ b := by
 rintro rfl
 rw [ltN_iff] at h
 omega
theorem ltN_total {a b : NameV} (h : ¬ ltN a b = true) (hn : ¬ b = a) : ltN b a = true := by
 rw [ltN_iff] at h ⊢
 have : ¬ (b.1 = a.1 ∧ b.2 = a.2) := fun e => hn (Prod.ext e.1 e.2)
 omega
def SrtS {α : Type} (l : List (NameV × α)) : Prop := l.Pairwise fun x y => ltN x.1 y.1 = true
def SrtN {α : Type} (l : List (Int × α)) : Prop := l.Pairwise fun x y => x.1 < y.1
theorem putS_srt {α : Type} {k : NameV} {v : α} : ∀ {l : List (NameV × α)}, SrtS l → SrtS (putS k v l)
 | [], _ => List.pairwise_singleton _ _
 | (a, x) :: l, h => by
  obtain ⟨h1, h2⟩ := List.pairwise_cons.1 h
  unfold putS
  split
  ·rename_i hk
   refine List.pairwise_cons.2 ⟨fun y hy => ?_, h⟩
   rcases List.mem_cons.1 hy with rfl | hy
   ·exact hk
   ·exact ltN_trans hk (h1 y hy)
  ·split
   ·rename_i _ e
    subst e
    exact List.pairwise_cons.2 ⟨fun y hy => h1 y hy, h2⟩
   ·rename_i hk e
    refine List.pairwise_cons.2 ⟨fun y hy => ?_, putS_srt h2⟩
    rcases mem_putS hy with rfl | hy
    ·exact ltN_total hk e
    ·exact h1 y hy
theorem mem_putN {α : Type} {k : Int} {v : α} : ∀ {l : List (Int × α)} {x : Int × α}, x ∈ putN k v l → x = (k, v) ∨ x ∈ l
 | [], x, h => by unfold putN at h; rw [List.mem_singleton] at h; exact .inl h
 | (a, u) :: l, x, h => by
  unfold putN at h
  split at h
  ·rcases List.mem_cons.1 h with h | h
   ·exact .inl h
   ·exact .inr h
  ·split at h
   ·rcases List.mem_cons.1 h with h | h
    ·exact .inl h
    ·exact .inr (List.mem_cons_of_mem _ h)
   ·rcases List.mem_cons.1 h with h | h
    ·exact .inr (by rw [h]; exact List.mem_cons_self)
    ·rcases mem_putN h with h | h
     ·exact .inl h
     ·exact .inr (List.mem_cons_of_mem _ h)
theorem putN_srt {α : Type} {k : Int} {v : α} : ∀ {l : List (Int × α)}, SrtN l → SrtN (putN k v l)
 | [], _ => List.pairwise_singleton _ _
 | (a, x) :: l, h => by
  obtain ⟨h1, h2⟩ := List.pairwise_cons.1 h
  unfold putN
  split
  ·rename_i hk
   refine List.pairwise_cons.2 ⟨fun y hy => ?_, h⟩
   rcases List.mem_cons.1 hy with rfl | hy
   ·exact hk
   ·exact Int.lt_trans hk (h1 y hy)
  ·split
   ·rename_i _ e
    subst e
    exact List.pairwise_cons.2 ⟨fun y hy => h1 y hy, h2⟩
   ·rename_i hk e
    refine List.pairwise_cons.2 ⟨fun y hy => ?_, putN_srt h2⟩
    rcases mem_putN hy with rfl | hy
    ·simp only; omega
    ·exact h1 y hy
theorem putS_len {α : Type} {k : NameV} {v : α} : ∀ (l : List (NameV × α)), (putS k v l).length ≤ l.length + 1
 | [] => by simp [putS]
 | (a, x) :: l => by
  unfold putS
  split
  ·simp
  ·split
   ·simp
   ·have := putS_len (k := k) (v := v) l
    simp only [List.length_cons]
    omega
theorem putN_len {α : Type} {k : Int} {v : α} : ∀ (l : List (Int × α)), (putN k v l).length ≤ l.length + 1
 | [] => by simp [putN]
 | (a, x) :: l => by
  unfold putN
  split
  ·simp
  ·split
   ·simp
   ·have := putN_len (k := k) (v := v) l
    simp only [List.length_cons]
    omega
theorem SrtS.nodup {α : Type} {l : List (NameV × α)} (h : SrtS l) : (l.map (·.1)).Nodup := List.pairwise_map.2 (h.imp fun hh => ltN_ne hh)
theorem SrtN.nodup {α : Type} {l : List (Int × α)} (h : SrtN l) : (l.map (·.1)).Nodup := List.pairwise_map.2 (h.imp fun hh => by omega)
structure StOK (s : StV) : Prop where
 at' : s.log.at' ≤ s.log.begin s.log.use + s.log.half
 lsz : s.log.size = s.d.size
 d19 : 19 ≤ s.d.size
 ep : s.log.epoch + 4 < 549755813888
 wt : s.d.waits.length ≤ 824633720832
 map : MapInv s.map s.map.frm s.d.lasts.length
 srtS : SrtS s.slices
 num : ∀ x ∈ s.slices, NumOK x ∧ x.2.len ≤ 1048576
 srtN : SrtN s.notes
 txt : ∀ x ∈ s.notes, rightB x.1 = true ∧ x.2.length ≤ 3000
 mks : ∀ x ∈ s.marks, x.length ≤ 3000
 nS : s.slices.length ≤ 100000
 nN : s.notes.length ≤ 100000
 nM : s.marks.length ≤ 100000
 pts : s.puts ≤ 1048576
 epo : s.epoch < 549755813888
theorem StGood.ok {s : StV} {lo E K : Nat} {ts : List (NameV × List UInt8)} (h : StGood s lo E ts) (hv : StLive s lo E K) (hs : SrtS s.slices) (hE : E + 4 < 549755813888) (hK : K ≤ 824633720832) (hn : ts.length ≤ 100000) : StOK s := by
 have hi := h.inv.log
 have hep := h.inv.ep
 have hm := h.inv.map
 have hl : s.slices.length = ts.length := by have := congrArg List.length h.inv.names; simpa using this
 have hw := hv.waits
 refine ⟨hi.at2, hi.sz, hi.s1, by omega, by omega, by rw [hm.frm]; exact hm, hs, fun x hx => ?_, by rw [h.inv.notes]; exact List.Pairwise.nil, fun x hx => (by rw [h.inv.notes] at hx; cases hx), fun x hx => (by rw [h.inv.marks] at hx; cases hx), by omega, by rw [h.inv.notes]; simp, by rw [h.inv.marks]; simp, Nat.le_of_lt h.inv.puts, by have := h.inv.epoch; omega⟩
 refine ⟨h.nums x hx, ?_⟩
 obtain ⟨y, hy, e, ⟨a, mark, h1, h2, h3, h4, h5⟩, h6, h7⟩ := h.inv.side.mem x hx
 have := h.few
 rw [h1]
 simp only
 omega
end Go.Proofs.YtmgmfnimaafkdaaGreatDoor
namespace Go.Proofs.YtmgmfnimaafkdaaGreatDoor
set_option maxRecDepth 100000

theorem claimM_inv {m : MapV} {lo n a l : Nat} (h : MapInv m lo n) : MapInv (claimM m a l).2 lo n := by
 unfold claimM
 split
 ·exact h
 ·rename_i ho
  simp only
  split
  ·exact h
  ·rename_i hc
   have hm := (meetsM_is (at' := a) h).1
   have hl : 1 ≤ l := by
    unfold oursM at ho
    simp only [Bool.not_eq_false, Bool.and_eq_true, decide_eq_true_eq] at ho
    omega
   obtain ⟨t1, t2, t3, t4⟩ := takeAt_ok (i := meetsM m a) (a := a) (n := l) h.srt (by omega) hl (by omega) (by omega)
   refine ⟨h.frm, h.sectors, h.le, t1, fun e he => ?_⟩
   obtain ⟨e', he', h5, h6⟩ := t4 e he
   have := h.inn e' he'
   omega
def sliceOf (r : RecL) : Option (NameV × Int × Nat × Int) := if r.1 = 83 then match numbersS r.2 5 with
  | some [v, n, a, b, m] => if rightB v && rightB n && decide (1 ≤ b ∧ b ≤ 1048576) && decide (0 ≤ a ∧ a ≤ 65536) && decide (0 ≤ m ∧ m < 9223372036854775808) then some ((v, n), a, b.toNat, m) else none
  | _ => none
 else none
theorem heed_slice {s : StV} {r : RecL} {n : NameV} {a m : Int} {b : Nat} (h : sliceOf r = some (n, a, b, m)) : heedS s r = { s with slices := putS n ⟨a, needP s.d.size b, b, m⟩ s.slices } := by
 unfold sliceOf at h
 split at h
 ·rename_i hk
  split at h
  ·rename_i v n' a' b' m' hn
   split at h
   ·rename_i hc
    injection h with h
    injection h with h1 h
    injection h with h2 h
    injection h with h3 h4
    subst h1; subst h2; subst h3; subst h4
    simp only [Bool.and_eq_true, decide_eq_true_eq] at hc
    obtain ⟨⟨⟨⟨c1, c2⟩, c3⟩, c4⟩, c5⟩ := hc
    unfold heedS
    rw [if_neg (by omega), if_neg (by omega), if_pos hk, hn]
    simp only
    rw [if_pos (by simp [c1, c2, c3.1, c3.2])]
   ·cases h
  ·cases h
 ·cases h
def openS1 (d1 : DskV) (l1 : LogV) (q n : Nat) : StV := l1.recs.foldl heedS ⟨d1, l1, ⟨q, n - q, if 0 < n - q then [(q, n - q)] else []⟩, [], [], [], 0, 0⟩
end Go.Proofs.YtmgmfnimaafkdaaGreatDoor
namespace Go.Proofs.YtmgmfnimaafkdaaGreatDoor
end Go.Proofs.YtmgmfnimaafkdaaGreatDoor
namespace Go.Proofs.YtmgmfnimaafkdaaGreatDoor
set_option maxRecDepth 100000

/-! ### numerals -/
theorem parseM_app (M : Nat) : ∀ (l r : List UInt8) (acc : Nat), Lib.parseUintM M acc (l ++ r) = match Lib.parseUintM M acc l with
  | .ok v => Lib.parseUintM M v r
  | e => e
 | [], r, acc => rfl
 | c :: l, r, acc => by
  rw [List.cons_append, Lib.parseUintM, Lib.parseUintM]
  split
  ·split
   ·rfl
   ·split
    ·rfl
    ·exact parseM_app M l r _
  ·rfl
theorem dig_nat {d : Nat} (h : d < 10) : (UInt8.ofNat (48 + d)).toNat = 48 + d := by
 rw [UInt8.toNat_ofNat']
 omega
theorem parseM_dec {M : Nat} (hM : M ≤ 18446744073709551615) (u : Nat) : u ≤ M → Lib.parseUintM M 0 (Lib.decDigits u) = .ok u := by
 induction u using Nat.strongRecOn with
 | _ u ih =>
  intro hu
  have stp : ∀ a d, d < 10 → a < 1844674407370955162 → a * 10 + d ≤ M → Lib.parseUintM M a [UInt8.ofNat (48 + d)] = .ok (a * 10 + d) := fun a d hd ha hle => by
   rw [Lib.parseUintM, dig_nat hd, if_pos (by omega), if_neg (by omega), show 48 + d - 48 = d by omega, if_neg (by omega)]
   rfl
  by_cases h : u < 10
  ·rw [Lib.decDigits_one h, stp 0 u h (by omega) (by omega)]
   simp
  ·rw [Lib.decDigits, dif_neg h, parseM_app, ih (u / 10) (by omega) (by omega)]
   show Lib.parseUintM M (u / 10) [UInt8.ofNat (48 + u % 10)] = _
   rw [stp (u / 10) (u % 10) (by omega) (by omega) (by omega)]
   congr 1
   omega
theorem dec_digit (u : Nat) : ∀ c ∈ Lib.decDigits u, 48 ≤ c.toNat ∧ c.toNat ≤ 57 := by
 induction u using Nat.strongRecOn with
 | _ u ih =>
  intro c hc
  by_cases h : u < 10
  ·rw [Lib.decDigits_one h, List.mem_singleton] at hc
   subst hc
   rw [dig_nat h]; omega
  ·rw [Lib.decDigits, dif_neg h, List.mem_append, List.mem_singleton] at hc
   rcases hc with hc | hc
   ·exact ih (u / 10) (by omega) c hc
   ·subst hc
    rw [dig_nat (by omega)]; omega
theorem dec_ne (u : Nat) : Lib.decDigits u ≠ [] := by
 intro h
 have := Lib.decDigits_length u
 rw [h] at this
 have := Lib.nDigits_pos u
 simp at *; omega
theorem parse_itoa {n : Int} (h0 : -9223372036854775808 ≤ n) (h1 : n ≤ 9223372036854775807) : Lib.parseIntB 64 (Lib.itoa n) = .ok n := by
 have hb : ∀ u : Nat, u ≤ 9223372036854775808 → Lib.parseUintB 64 (Lib.decDigits u) = .ok u := fun u hu => by
  unfold Lib.parseUintB
  rw [if_neg (dec_ne u)]
  exact parseM_dec (by decide) u (by omega)
 by_cases hn : n < 0
 ·obtain ⟨u, rfl⟩ : ∃ u : Nat, n = -(u : Int) := ⟨n.natAbs, by omega⟩
  have e : Lib.itoa (-(u : Int)) = 45 :: Lib.decDigits u := by unfold Lib.itoa; rw [if_pos hn]; simp
  rw [e]
  unfold Lib.parseIntB
  have h45 : (45 : UInt8).toNat = 45 := rfl
  simp only [h45, or_true, if_true, hb u (by omega)]
  rw [if_neg (by simp), if_neg (by simp; omega)]
 ·obtain ⟨u, rfl⟩ : ∃ u : Nat, n = (u : Int) := ⟨n.toNat, by omega⟩
  have e : Lib.itoa (u : Int) = Lib.decDigits u := by unfold Lib.itoa; rw [if_neg hn]; simp
  rw [e]
  have hb' := hb u (by omega)
  have hdig := dec_digit u
  have hne := dec_ne u
  generalize Lib.decDigits u = l at *
  cases l with
  | nil => exact absurd rfl hne
  | cons c r =>
   have hc := hdig c (by simp)
   unfold Lib.parseIntB
   have c2 : ¬ c.toNat = 45 := by omega
   have c3 : ¬ c.toNat = 43 := by omega
   simp only [c2, c3, or_self, if_false, hb']
   rw [if_neg (by simp; omega), if_neg (by simp)]
theorem itoa_chars {n : Int} : ∀ c ∈ Lib.itoa n, c.toNat = 45 ∨ (48 ≤ c.toNat ∧ c.toNat ≤ 57) := by
 intro c hc
 unfold Lib.itoa at hc
 split at hc
 ·rw [List.mem_cons] at hc
  rcases hc with rfl | hc
  ·exact .inl rfl
  ·exact .inr (dec_digit _ c hc)
 ·exact .inr (dec_digit _ c hc)
theorem itoa_no32 (n : Int) : (32 : UInt8) ∉ Lib.itoa n := fun h => by
 have := itoa_chars _ h
 simp at this
theorem index_out {c : UInt8} : ∀ (w : List UInt8), c ∉ w → Lib.indexByte w c = -1
 | [], _ => rfl
 | b :: w, h => by
  have hb : ¬ (b == c) = true := fun e => h (by rw [beq_iff_eq] at e; simp [e])
  unfold Lib.indexByte
  rw [if_neg hb, index_out w (fun hm => h (List.mem_cons_of_mem _ hm))]
  rfl
theorem index_in {c : UInt8} : ∀ (w r : List UInt8), c ∉ w → Lib.indexByte (w ++ c :: r) c = (w.length : Int)
 | [], r, _ => by unfold Lib.indexByte; simp
 | b :: w, r, h => by
  have hb : ¬ (b == c) = true := fun e => h (by rw [beq_iff_eq] at e; simp [e])
  have ih := index_in w r (fun hm => h (List.mem_cons_of_mem _ hm))
  rw [List.cons_append]
  unfold Lib.indexByte
  rw [if_neg hb, ih, if_neg (by simp)]
  simp
theorem mapM_some {α β : Type} {f : α → Option β} : ∀ {l : List α} {r : List β}, l.mapM f = some r → r.length = l.length ∧ ∀ y ∈ r, ∃ x ∈ l, f x = some y
 | [], r, h => by simp at h; subst h; exact ⟨rfl, fun y hy => by cases hy⟩
 | a :: l, r, h => by
  rw [List.mapM_cons] at h
  cases ha : f a with
  | none => rw [ha] at h; simp at h
  | some b =>
   rw [ha] at h
   cases hl : l.mapM f with
   | none => rw [hl] at h; simp at h
   | some r' =>
    rw [hl] at h
    simp at h
    subst h
    obtain ⟨h1, h2⟩ := mapM_some hl
    refine ⟨by simp [h1], fun y hy => ?_⟩
    rcases List.mem_cons.1 hy with rfl | hy
    ·exact ⟨a, List.mem_cons_self, ha⟩
    ·obtain ⟨x, hx, e⟩ := h2 y hy
     exact ⟨x, List.mem_cons_of_mem _ hx, e⟩
theorem splitK_ne (sep : List UInt8) (k : Nat) (s : List UInt8) : Lib.splitK sep 0 k s ≠ [] := by
 cases k with
 | zero => simp [Lib.splitK]
 | succ k => unfold Lib.splitK; split <;> simp
theorem numbers_some {s : List UInt8} {k : Nat} {l : List Int} (h : numbersS s k = some l) : wordsS l = s ∧ l.length = k ∧ l ≠ [] ∧ ∀ x ∈ l, -9223372036854775808 ≤ x ∧ x ≤ 9223372036854775807 := by
 unfold numbersS at h
 split at h
 ·rename_i l' hm
  split at h
  ·rename_i hc
   injection h with h
   subst h
   obtain ⟨h1, h2⟩ := mapM_some hm
   refine ⟨hc.2, hc.1, fun e => ?_, fun x hx => ?_⟩
   ·rw [e] at h1
    exact splitK_ne _ _ _ (List.eq_nil_of_length_eq_zero h1.symm)
   ·obtain ⟨w, _, hw⟩ := h2 x hx
    unfold intOfW at hw
    split at hw
    ·rename_i v hv
     injection hw with hw
     subst hw
     have := Lib.parseIntB_bounds hv
     simp at this
     omega
    ·cases hw
  ·cases h
 ·cases h
end Go.Proofs.YtmgmfnimaafkdaaGreatDoor
namespace Go.Proofs.YtmgmfnimaafkdaaGreatDoor
set_option maxRecDepth 100000

structure OpenGo (d : DskV) (d1 : DskV) (l1 : LogV) (sl : List (NameV × SlotV)) (mp : MapV) (d2 : DskV) (l2 : LogV) : Prop where
 q4 : 4 ≤ d.lasts.length / 4
 n0 : needP d.size 201 ≠ 0
 nd : needP d.size 201 + needP d.size 0 ≤ d.lasts.length / 4 / 2
 s19 : 19 ≤ d.size
 fine : ∃ E, E + 3 < 549755813880 ∧ Fine d E
 wt : d.waits.length ≤ 412316860416
 ol : openL d 0 (d.lasts.length / 4) = (0, d1, l1)
 recs : ∀ r ∈ l1.recs, ∃ x, sliceOf r = some x
 few : l1.recs.length ≤ 100000
 fine1 : l1.recs ≠ [] → ∃ E, Fine d1 E
 on1 : l1.recs ≠ [] → ∀ x, (tellsS d1 x).1 ≠ 10
 sz1 : d1.size = d.size
 len1 : d1.lasts.length = d.lasts.length
 wt1 : d1.waits.length ≤ 824633720832
 lsz : l1.size = d1.size
 ep : l1.epoch + 1 < 549755813888
 cl : claimAll d1 (openS1 d1 l1 (d.lasts.length / 4) d.lasts.length).slices (openS1 d1 l1 (d.lasts.length / 4) d.lasts.length).map = (0, sl, mp)
 tn : turnL d1 l1 (recordsS { openS1 d1 l1 (d.lasts.length / 4) d.lasts.length with slices := sl, map := mp }) = (0, d2, l2)
def openEnd (d d1 : DskV) (l1 : LogV) (sl : List (NameV × SlotV)) (mp : MapV) (d2 : DskV) (l2 : LogV) : StV := { openS1 d1 l1 (d.lasts.length / 4) d.lasts.length with slices := sl, map := mp, d := d2, log := l2 }
def openS0 (d1 : DskV) (l1 : LogV) (q n : Nat) : StV := ⟨d1, l1, ⟨q, n - q, if 0 < n - q then [(q, n - q)] else []⟩, [], [], [], 0, 0⟩
theorem OpenGo.is {d d1 d2 : DskV} {l1 l2 : LogV} {sl : List (NameV × SlotV)} {mp : MapV} (h : OpenGo d d1 l1 sl mp d2 l2) : openS d = (0, d2, some (openEnd d d1 l1 sl mp d2 l2)) := by
 have h1 := h.q4
 have h2 := h.n0
 have h3 := h.nd
 have h4 := h.cl
 have h5 := h.tn
 unfold openS
 simp only
 rw [if_neg (by omega), h.ol]
 simp only
 unfold openS1 at h4 h5
 rw [h4]
 simp only
 rw [h5]
 rfl
structure Heeded (s0 s : StV) (k : Nat) : Prop where
 eq : s = { s0 with slices := s.slices }
 srt : SrtS s.slices
 num : ∀ x ∈ s.slices, NumOK x ∧ x.2.len ≤ 1048576
 len : s.slices.length ≤ k
theorem needP_le {size b : Nat} (hb : 1 ≤ b) : needP size b ≤ b := by
 unfold needP
 split
 ·omega
 ·rename_i h
  obtain ⟨k, hk⟩ : ∃ k, size - 18 = k + 1 := ⟨size - 19, by omega⟩
  rw [hk]
  have : (b + (k + 1) - 1) / (k + 1) ≤ b := by
   refine Nat.div_le_of_le_mul ?_
   obtain ⟨b', rfl⟩ : ∃ b', b = b' + 1 := ⟨b - 1, by omega⟩
   have e : (k + 1) * (b' + 1) = k * b' + k + b' + 1 := by
    rw [Nat.add_mul, Nat.mul_add]; omega
   rw [e]
   omega
  omega
theorem sliceOf_num {r : RecL} {n : NameV} {a m : Int} {b : Nat} (h : sliceOf r = some (n, a, b, m)) (size : Nat) : NumOK (n, (⟨a, needP size b, b, m⟩ : SlotV)) ∧ needP size b ≤ 1048576 := by
 unfold sliceOf at h
 split at h
 ·split at h
  ·rename_i v n' a' b' m' hn
   split at h
   ·rename_i hc
    injection h with h
    injection h with h1 h
    injection h with h2 h
    injection h with h3 h4
    subst h1; subst h2; subst h3; subst h4
    simp only [Bool.and_eq_true, decide_eq_true_eq] at hc
    obtain ⟨⟨⟨⟨c1, c2⟩, c3⟩, c4⟩, c5⟩ := hc
    have := needP_le (size := size) (b := b'.toNat) (by omega)
    exact ⟨⟨c1, c2, c4, by show b'.toNat ≤ 1048576; omega, c5.1, c5.2⟩, by omega⟩
   ·cases h
  ·cases h
 ·cases h
theorem Heeded.step {s0 s : StV} {k : Nat} {r : RecL} (h : Heeded s0 s k) (hr : ∃ x, sliceOf r = some x) : Heeded s0 (heedS s r) (k + 1) := by
 obtain ⟨⟨n, a, b, m⟩, hx⟩ := hr
 have hd : s.d = s0.d := by rw [h.eq]
 have hn := sliceOf_num hx s.d.size
 rw [heed_slice hx]
 refine ⟨?_, putS_srt h.srt, fun y hy => ?_, Nat.le_trans (putS_len _) (Nat.succ_le_succ h.len)⟩
 ·have := h.eq
  show { s with slices := _ } = { s0 with slices := _ }
  rw [this]
 ·rcases mem_putS hy with e | hy
  ·subst e; exact hn
  ·exact h.num y hy
theorem heeded_all {s0 : StV} : ∀ (rs : List RecL) (s : StV) (k : Nat), Heeded s0 s k → (∀ r ∈ rs, ∃ x, sliceOf r = some x) → Heeded s0 (rs.foldl heedS s) (k + rs.length)
 | [], s, k, h, _ => h
 | r :: rs, s, k, h, hr => by
  have := heeded_all rs (heedS s r) (k + 1) (h.step (hr r List.mem_cons_self)) (fun x hx => hr x (List.mem_cons_of_mem _ hx))
  have e : k + (r :: rs).length = k + 1 + rs.length := by simp only [List.length_cons]; omega
  rw [e]
  exact this
theorem heeded_none (d1 : DskV) (l1 : LogV) (q n : Nat) : Heeded (openS0 d1 l1 q n) (openS0 d1 l1 q n) 0 := ⟨rfl, List.Pairwise.nil, (fun x hx => by cases hx), nR0⟩
theorem OpenGo.heeded {d d1 d2 : DskV} {l1 l2 : LogV} {sl : List (NameV × SlotV)} {mp : MapV} (h : OpenGo d d1 l1 sl mp d2 l2) (k : Nat) :
  Heeded (openS0 d1 l1 (d.lasts.length / 4) d.lasts.length) ((l1.recs.take k).foldl heedS (openS0 d1 l1 (d.lasts.length / 4) d.lasts.length)) (0 + (l1.recs.take k).length) :=
 heeded_all _ _ 0 (heeded_none d1 l1 _ _) fun r hr => h.recs r (List.mem_of_mem_take hr)
theorem claimAll_cons (d : DskV) (n : NameV) (x : SlotV) (l : List (NameV × SlotV)) (m : MapV) (hx : 0 ≤ x.at') (h10 : (tellsS d x).1 ≠ 10) :
  claimAll d ((n, x) :: l) m = if (tellsS d x).1 = 0 ∧ (claimM m x.at'.toNat x.len).1 = 0 then (match claimAll d l (claimM m x.at'.toNat x.len).2 with
   | (e, r, m') => (e, (n, x) :: r, m')) else claimAll d l m := by
 rw [claimAll]
 rcases ht : tellsS d x with ⟨e, b⟩
 rw [ht] at h10
 simp only at h10 ⊢
 cases e with
 | zero =>
  simp only [true_and]
  rw [if_neg (by omega)]
  rcases hc : claimM m x.at'.toNat x.len with ⟨e2, m1⟩
  cases e2 with
  | zero => simp
  | succ e2 => simp
 | succ e =>
  by_cases h9 : e = 9
  ·subst h9; exact absurd rfl h10
  ·rw [if_neg (by omega)]
   split
   ·rename_i h; injection h with h; omega
   ·rename_i h; injection h with h; omega
   ·rfl
theorem claimM_no {m : MapV} {a l : Nat} (h : (claimM m a l).1 ≠ 0) : (claimM m a l).2 = m := by
 unfold claimM at h ⊢
 split at h
 ·rename_i h1; rw [if_pos h1]
 ·rename_i h1
  rw [if_neg h1]
  simp only at h ⊢
  split at h
  ·rename_i h2; rw [if_pos h2]
  ·exact absurd rfl h
end Go.Proofs.YtmgmfnimaafkdaaGreatDoor
namespace Go.Proofs.YtmgmfnimaafkdaaGreatDoor
set_option maxRecDepth 100000

theorem getL_append {κ α : Type} [DecidableEq κ] (x : κ) : ∀ (a b : List (κ × α)), getL (a ++ b) x = (getL a x).or (getL b x)
 | [], b => by simp [getL_nil]
 | (k, v) :: a, b => by
  rw [List.cons_append, getL_cons, getL_cons, getL_append x a b]
  by_cases h : x = k <;> simp [h]
theorem getL_out {κ α : Type} [DecidableEq κ] {x : κ} {l : List (κ × α)} (h : x ∉ l.map (·.1)) : getL l x = none := by
 cases hg : getL l x with
 | none => rfl
 | some v => exact absurd (getL_some.1 (by rw [hg]; rfl)) h
theorem getL_struck {κ α : Type} [DecidableEq κ] {a b : List (κ × α)} {n : κ} {x : α} (hn : ((a ++ (n, x) :: b).map (·.1)).Nodup) (y : κ) : getL (a ++ b) y = if y = n then none else getL (a ++ (n, x) :: b) y := by
 rw [List.map_append, List.map_cons, List.nodup_append] at hn
 obtain ⟨h1, h2, h3⟩ := hn
 rw [List.nodup_cons] at h2
 rw [getL_append, getL_append, getL_cons]
 by_cases e : y = n
 ·subst e
  rw [if_pos rfl]
  rw [getL_out (l := a) (fun hh => h3 y hh y List.mem_cons_self rfl), getL_out h2.1]; rfl
 ·simp [e]
structure ClaimR (d1 : DskV) (all : List (NameV × SlotV)) (mp : MapV) (sl : List (NameV × SlotV)) (lo N k : Nat) (kept : List (NameV × SlotV)) (mj : MapV) : Prop where
 sub : kept.Sublist (all.take k)
 inv : MapInv mj lo N
 go : ∃ r, claimAll d1 (all.drop k) mj = (0, r, mp) ∧ sl = kept ++ r
theorem ClaimR.start {d1 : DskV} {all sl : List (NameV × SlotV)} {mp m0 : MapV} {lo N : Nat} (h : claimAll d1 all m0 = (0, sl, mp)) (hi : MapInv m0 lo N) : ClaimR d1 all mp sl lo N 0 [] m0 :=
 ⟨List.nil_sublist _, hi, sl, h, rfl⟩
section
variable {d1 : DskV} {all sl kept : List (NameV × SlotV)} {mp mj : MapV} {lo N k : Nat} {n : NameV} {x : SlotV}
theorem ClaimR.subAll (h : ClaimR d1 all mp sl lo N k kept mj) : (kept ++ all.drop k).Sublist all := by
 have := h.sub.append (List.Sublist.refl (all.drop k))
 rwa [List.take_append_drop] at this
theorem ClaimR.srt (h : ClaimR d1 all mp sl lo N k kept mj) (hs : SrtS all) : SrtS (kept ++ all.drop k) := List.Pairwise.sublist h.subAll hs
theorem ClaimR.num (h : ClaimR d1 all mp sl lo N k kept mj) {P : NameV × SlotV → Prop} (hp : ∀ y ∈ all, P y) : ∀ y ∈ kept ++ all.drop k, P y := fun y hy => hp y (h.subAll.mem hy)
theorem drop_at (hk : k < all.length) (hx : all[k] = (n, x)) : all.drop k = (n, x) :: all.drop (k + 1) := by rw [List.drop_eq_getElem_cons hk, hx]
theorem ClaimR.keep (h : ClaimR d1 all mp sl lo N k kept mj) (hk : k < all.length) (hx : all[k] = (n, x)) (h0 : 0 ≤ x.at') (h10 : (tellsS d1 x).1 ≠ 10) (ht : (tellsS d1 x).1 = 0) (hc : (claimM mj x.at'.toNat x.len).1 = 0) :
  ClaimR d1 all mp sl lo N (k + 1) (kept ++ [(n, x)]) (claimM mj x.at'.toNat x.len).2 := by
 obtain ⟨r, hr, hsl⟩ := h.go
 rw [drop_at hk hx, claimAll_cons d1 n x _ mj h0 h10, if_pos ⟨ht, hc⟩] at hr
 rcases hq : claimAll d1 (all.drop (k + 1)) (claimM mj x.at'.toNat x.len).2 with ⟨e, r', m'⟩
 rw [hq] at hr
 injection hr with h1 hr
 injection hr with h2 h3
 subst h1; subst h3
 refine ⟨?_, claimM_inv h.inv, r', hq, by rw [hsl, ← h2, List.append_assoc]; rfl⟩
 rw [List.take_succ_eq_append_getElem hk, hx]
 exact h.sub.append (List.Sublist.refl _)
theorem ClaimR.skip (h : ClaimR d1 all mp sl lo N k kept mj) (hk : k < all.length) (hx : all[k] = (n, x)) (h0 : 0 ≤ x.at') (h10 : (tellsS d1 x).1 ≠ 10) (hn : ¬ ((tellsS d1 x).1 = 0 ∧ (claimM mj x.at'.toNat x.len).1 = 0)) :
  ClaimR d1 all mp sl lo N (k + 1) kept mj := by
 obtain ⟨r, hr, hsl⟩ := h.go
 rw [drop_at hk hx, claimAll_cons d1 n x _ mj h0 h10, if_neg hn] at hr
 refine ⟨?_, h.inv, r, hr, hsl⟩
 rw [List.take_succ_eq_append_getElem hk]
 exact h.sub.trans (List.sublist_append_left _ _)
theorem ClaimR.ended (h : ClaimR d1 all mp sl lo N k kept mj) (hk : all.length ≤ k) : kept = sl ∧ mj = mp := by
 obtain ⟨r, hr, hsl⟩ := h.go
 rw [List.drop_eq_nil_of_le hk] at hr
 unfold claimAll at hr
 injection hr with _ hr
 injection hr with h1 h2
 subst h1
 exact ⟨by rw [hsl, List.append_nil], h2⟩
end
theorem mapInv_fresh {q n : Nat} (h : q ≤ n) : MapInv ⟨q, n - q, if 0 < n - q then [(q, n - q)] else []⟩ q n := by
 refine ⟨rfl, rfl, h, ?_, ?_⟩
 ·split
  ·exact ⟨List.pairwise_singleton _ _, fun e he => by rw [List.mem_singleton] at he; subst he; simp only; omega⟩
  ·exact ⟨List.Pairwise.nil, fun e he => by cases he⟩
 ·intro e he
  split at he
  ·rw [List.mem_singleton] at he; subst he; simp only; omega
  ·cases he
end Go.Proofs.YtmgmfnimaafkdaaGreatDoor
