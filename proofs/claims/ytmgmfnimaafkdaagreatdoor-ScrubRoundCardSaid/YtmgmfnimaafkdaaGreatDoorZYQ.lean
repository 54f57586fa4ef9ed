/- Round and round: names behind one, then the others. No program in sight. -/
import Derived.Test.YtmgmfnimaafkdaaGreatDoorXT
namespace Go.Proofs.YtmgmfnimaafkdaaGreatDoor
set_option maxRecDepth 100000

def firstL (l : List NameV) (f : NameV) : Nat := (l.takeWhile fun x => !ltN f x).length
def rotL (l : List NameV) (f : NameV) : List NameV := l.drop (firstL l f) ++ l.take (firstL l f)
theorem first_le (l : List NameV) (f : NameV) : firstL l f ≤ l.length := by
 unfold firstL
 induction l with
 | nil => simp
 | cons a l ih =>
  rw [List.takeWhile_cons]
  split <;> simp
  omega
theorem rot_len (l : List NameV) (f : NameV) : (rotL l f).length = l.length := by
 have := first_le l f
 unfold rotL
 rw [List.length_append, List.length_drop, List.length_take]
 omega
theorem rot_get (l : List NameV) (f : NameV) (i : Nat) (hi : i < l.length) : (rotL l f)[i]'(by rw [rot_len]; exact hi) = l[(firstL l f + i) % l.length]'(Nat.mod_lt _ (by omega)) := by
 have h1 := first_le l f
 unfold rotL
 by_cases h : i < l.length - firstL l f
 ·rw [List.getElem_append_left (by rw [List.length_drop]; exact h), List.getElem_drop]
  congr 1
  rw [Nat.mod_eq_of_lt (by omega)]
 ·rw [List.getElem_append_right (by rw [List.length_drop]; omega), List.getElem_take]
  congr 1
  rw [List.length_drop]
  have e : firstL l f + i = (i - (l.length - firstL l f)) + l.length := by omega
  rw [e, Nat.add_mod_right, Nat.mod_eq_of_lt (by omega)]
theorem tw_len {α : Type} (p : α → Bool) : ∀ (l : List α) (k : Nat), k ≤ l.length → (∀ j (h : j < l.length), j < k → p l[j] = true) → (∀ h : k < l.length, p l[k] = false) → (l.takeWhile p).length = k
 | [], k, hk, _, _ => by simp at hk; simp [hk]
 | a :: l, 0, _, _, h2 => by
  have := h2 (by simp)
  simp only [List.getElem_cons_zero] at this
  rw [List.takeWhile_cons, if_neg (by rw [this]; simp)]
  rfl
 | a :: l, k + 1, hk, h1, h2 => by
  have h0 := h1 0 (by simp) (by omega)
  simp only [List.getElem_cons_zero] at h0
  rw [List.takeWhile_cons, if_pos h0, List.length_cons]
  congr 1
  refine tw_len p l k (by simpa using hk) (fun j h hj => ?_) (fun h => ?_)
  ·have := h1 (j + 1) (by simpa using h) (by omega)
   simpa using this
  ·have := h2 (by simpa using h)
   simpa using this
theorem ltN_irrefl (a : NameV) : ltN a a = false := by
 cases h : ltN a a with
 | false => rfl
 | true => exact absurd rfl (ltN_ne h)
theorem ltN_asymm {a b : NameV} (h : ltN a b = true) : ltN b a = false := by
 cases h2 : ltN b a with
 | false => rfl
 | true => have := ltN_trans h h2; rw [ltN_irrefl] at this; cases this
theorem first_of {l : List NameV} (hs : l.Pairwise fun x y => ltN x y = true) (i : Nat) (hi : i < l.length) : firstL l l[i] = i + 1 := by
 have hp := List.pairwise_iff_getElem.1 hs
 refine tw_len _ l (i + 1) (by omega) (fun j h hj => ?_) (fun h => ?_)
 ·rcases Nat.lt_or_eq_of_le (show j ≤ i by omega) with h1 | h1
  ·rw [ltN_asymm (hp j i h hi h1)]; rfl
  ·subst h1; rw [ltN_irrefl]; rfl
 ·rw [hp i (i + 1) hi h (by omega)]; rfl
theorem first_spec {l : List NameV} (hs : l.Pairwise fun x y => ltN x y = true) (f : NameV) (j : Nat) (hj : j < l.length) : (j < firstL l f → ltN f l[j] = false) ∧ (firstL l f ≤ j → ltN f l[j] = true) := by
 induction l generalizing j with
 | nil => simp at hj
 | cons a l ih =>
  obtain ⟨h1, h2⟩ := List.pairwise_cons.1 hs
  unfold firstL
  rw [List.takeWhile_cons]
  cases ha : ltN f a with
  | true =>
   rw [if_neg (by simp)]
   refine ⟨fun h => by simp at h, fun _ => ?_⟩
   cases j with
   | zero => exact ha
   | succ j => exact ltN_trans ha (h1 _ (List.getElem_mem _))
  | false =>
   rw [if_pos (by simp), List.length_cons]
   cases j with
   | zero => exact ⟨fun _ => ha, fun h => by omega⟩
   | succ j =>
    have := ih h2 j (by simpa using hj)
    unfold firstL at this
    exact ⟨fun h => this.1 (by omega), fun h => this.2 (by omega)⟩
theorem filter_behind {l : List NameV} (hs : l.Pairwise fun x y => ltN x y = true) (f : NameV) : l.filter (fun x => ltN f x) = l.drop (firstL l f) ∧ l.filter (fun x => !ltN f x) = l.take (firstL l f) := by
 induction l with
 | nil => simp [firstL]
 | cons a l ih =>
  obtain ⟨h1, h2⟩ := List.pairwise_cons.1 hs
  obtain ⟨i1, i2⟩ := ih h2
  unfold firstL at i1 i2 ⊢
  rw [List.takeWhile_cons]
  cases ha : ltN f a with
  | true =>
   have hall : ∀ x ∈ a :: l, ltN f x = true := fun x hx => by
    rcases List.mem_cons.1 hx with rfl | hx
    ·exact ha
    ·exact ltN_trans ha (h1 x hx)
   rw [if_neg (by simp)]
   simp only [List.length_nil, List.drop_zero, List.take_zero]
   exact ⟨List.filter_eq_self.2 hall, List.filter_eq_nil_iff.2 fun x hx => by rw [hall x hx]; simp⟩
  | false =>
   rw [if_pos (by simp), List.length_cons, List.drop_succ_cons, List.take_succ_cons, List.filter_cons, List.filter_cons, if_neg (by rw [ha]; simp), if_pos (by rw [ha]; simp)]
   exact ⟨i1, by rw [i2]⟩
theorem rot_filter {l : List NameV} (hs : l.Pairwise fun x y => ltN x y = true) (f : NameV) : rotL l f = l.filter (fun x => ltN f x) ++ l.filter (fun x => !ltN f x) := by
 obtain ⟨h1, h2⟩ := filter_behind hs f
 rw [h1, h2]; rfl
theorem rot_mem (l : List NameV) (f : NameV) {n : NameV} (h : n ∈ rotL l f) : n ∈ l := by
 unfold rotL at h
 rcases List.mem_append.1 h with h | h
 ·exact List.mem_of_mem_drop h
 ·exact List.mem_of_mem_take h
def lastN (V : List NameV) (f : NameV) : NameV := V.getLast?.getD f
theorem lastN_snoc (V : List NameV) (f n : NameV) : lastN (V ++ [n]) f = n := by unfold lastN; simp
theorem take_one {α : Type} : ∀ (xs : List α) (h : 0 < xs.length), xs.take 1 = [xs[0]]
 | a :: r, _ => by simp
theorem rot_next {l : List NameV} (hs : l.Pairwise fun x y => ltN x y = true) (f : NameV) (t : Nat) (ht : t < l.length) : (rotL l (lastN ((rotL l f).take t) f)).take 1 = [(rotL l f)[t]'(by rw [rot_len]; exact ht)] := by
 have h1 : ∀ (g : NameV), (rotL l g).take 1 = [l[firstL l g % l.length]'(Nat.mod_lt _ (by omega))] := fun g => by
  have hlen := rot_len l g
  have hg := rot_get l g 0 (by omega)
  simp only [Nat.add_zero] at hg
  rw [← hg]
  exact take_one _ (by omega)
 rw [h1]
 congr 1
 rw [rot_get l f t ht]
 congr 1
 cases t with
 | zero => simp [lastN]
 | succ t =>
  have hlen := rot_len l f
  have e : lastN ((rotL l f).take (t + 1)) f = l[(firstL l f + t) % l.length]'(Nat.mod_lt _ (by omega)) := by
   rw [List.take_succ_eq_append_getElem (by rw [hlen]; omega), lastN_snoc, rot_get l f t (by omega)]
  rw [e, first_of hs]
  rw [Nat.mod_add_mod, Nat.add_assoc]
theorem rot_filter_len (l : List NameV) (f : NameV) (p : NameV → Bool) : ((rotL l f).filter p).length = (l.filter p).length := by
 unfold rotL
 conv => rhs; rw [← List.take_append_drop (firstL l f) l]
 rw [List.filter_append, List.filter_append, List.length_append, List.length_append]
 omega
theorem take_snoc_lt {α : Type} (xs : List α) (a : α) (m : Nat) : (xs ++ [a]).take m = if (xs.take m).length < m then xs.take m ++ [a] else xs.take m := by
 rw [List.take_append]
 by_cases h : xs.length < m
 ·rw [if_pos (by rw [List.length_take]; omega)]
  obtain ⟨k, hk⟩ : ∃ k, m - xs.length = k + 1 := ⟨m - xs.length - 1, by omega⟩
  rw [hk]
  simp
 ·rw [if_neg (by rw [List.length_take]; omega), show m - xs.length = 0 by omega]
  simp
end Go.Proofs.YtmgmfnimaafkdaaGreatDoor
