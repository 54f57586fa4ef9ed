/- A cheaper check that a region of many operations may be walked in the order of its text. No condition. -/
import Derived.Lib.QuietBelow
namespace Go.Proofs.YtoaiamgcegnjjaaGreatDoor

/-- what the check reads of an operation: the slot that it writes, the slots that it looks at, the operations that it follows -/
structure LexRow where
  dst : Option Nat
  looks : List Nat
  ons : List Nat

def lexRow (md : Region.Mode) (ops : Array Oper) (o : Oper) : LexRow :=
  ⟨o.dst, o.looksAt ops, (o.after.toList.filter fun e => Region.binds md e).map (·.on)⟩

def LexRow.apart (x y : LexRow) : Bool :=
  (match x.dst with
   | some d => !(y.looks.contains d) && (match y.dst with | some d' => !(d' == d) | none => true)
   | none => true) &&
  (match y.dst with
   | some d => !(x.looks.contains d)
   | none => true)

def lexFast : Nat → List LexRow → Bool
  | _, [] => true
  | k, r :: rest => r.ons.all (fun i => Nat.blt i k) && rest.all (fun s => s.ons.any (fun i => Nat.beq i k) || r.apart s) && lexFast (k + 1) rest

theorem apart_row {md : Region.Mode} {ops : Array Oper} {x y : Oper} (h : (lexRow md ops x).apart (lexRow md ops y) = true) : x.apart ops y = true := by
  unfold LexRow.apart lexRow at h
  unfold Oper.apart
  simp only [Bool.and_eq_true] at h ⊢
  refine ⟨?_, h.2⟩
  have h1 := h.1
  cases hx : x.dst with
  | none => rfl
  | some d =>
    simp only [hx] at h1
    cases hy : y.dst with
    | none => simpa [hy] using h1
    | some d' => simpa [hy] using h1

theorem lexFrom_fast (md : Region.Mode) (l : List Oper) : ∀ (suf : List Oper) (k : Nat) (listed : Array Bool), k + suf.length = l.length → (∀ j, suf[j]? = l[k + j]?) → listed.size = l.length →
    (∀ j, j < l.length → listed[j]? = some (decide (j < k))) → lexFast k (suf.map (lexRow md l.toArray)) = true → Region.lexFrom md l.toArray suf.length k listed = true
  | [], k, listed, hk, _, hs, hL, _ => by
    simp only [List.length_nil, Region.lexFrom, Region.ready]
    rw [List.isEmpty_iff, List.filter_eq_nil_iff]
    intro i hi
    have hi' : i < l.length := by simpa using hi
    have h1 := hL i hi'
    have h2 : i < k := by simp at hk; omega
    simp [Array.getD_eq_getD_getElem?, h1, h2]
  | o :: suf, k, listed, hk, hj, hs, hL, hf => by
    have hkl : k < l.length := by simp at hk; omega
    have ho : l[k]? = some o := by simpa using (hj 0).symm
    simp only [List.map_cons, lexFast, Bool.and_eq_true] at hf
    obtain ⟨⟨hf1, hf2⟩, hf3⟩ := hf
    simp only [List.length_cons, Region.lexFrom, Bool.and_eq_true]
    refine ⟨⟨?_, ?_⟩, ?_⟩
    · simp only [Region.ready, List.contains_iff_mem, List.mem_filter, List.mem_range, Bool.and_eq_true]
      refine ⟨by simpa using hkl, ?_, ?_⟩
      · simp [Array.getD_eq_getD_getElem?, hL k hkl]
      · simp only [List.getElem?_toArray, ho, Option.map_some, Option.getD_some, Array.all_eq_true_iff_forall_mem]
        intro e he
        cases hb : Region.binds md e with
        | false => rfl
        | true =>
          have : e.on ∈ (lexRow md l.toArray o).ons := List.mem_map.2 ⟨e, List.mem_filter.2 ⟨by simpa using he, hb⟩, rfl⟩
          have h3 := List.all_eq_true.1 hf1 _ this
          have h4 : e.on < k := by simpa using h3
          simp [Array.getD_eq_getD_getElem?, hL e.on (by omega), h4]
    · simp only [Region.free, List.getElem?_toArray, ho, List.all_eq_true, List.mem_range]
      intro j hjn
      have hjn' : j < l.length := by simpa using hjn
      by_cases hjk : j ≤ k
      · rcases Nat.lt_or_eq_of_le hjk with h | h
        · simp [Array.getD_eq_getD_getElem?, hL j hjn', h]
        · simp [h]
      · have hsj : suf[j - (k + 1)]? = l[j]? := by
          have := hj (j - k)
          rw [show j - k = (j - (k + 1)) + 1 by omega] at this
          simpa [show k + (j - (k + 1) + 1) = j by omega] using this
        have hoj : l[j]? = some l[j] := List.getElem?_eq_getElem hjn'
        have hmem : l[j] ∈ suf := List.mem_of_getElem? (hsj.trans hoj)
        have h5 := List.all_eq_true.1 hf2 _ (List.mem_map.2 ⟨_, hmem, rfl⟩)
        simp only [hoj, Bool.or_eq_true]
        refine .inr ?_
        rw [Bool.or_eq_true] at h5
        rcases h5 with h5 | h5
        · refine .inl ?_
          obtain ⟨i, hi, hik⟩ := List.any_eq_true.1 h5
          obtain ⟨e, he, hei⟩ := List.mem_map.1 hi
          obtain ⟨he1, he2⟩ := List.mem_filter.1 he
          rw [Array.any_eq_true']
          exact ⟨e, by simpa using he1, by simp only [Bool.and_eq_true, beq_iff_eq]; exact ⟨he2, hei.trans (by simpa using hik)⟩⟩
        · exact .inr (apart_row h5)
    · refine lexFrom_fast md l suf (k + 1) _ (by simp at hk; omega) (fun j => ?_) (by simpa using hs) (fun j hjn => ?_) hf3
      · have := hj (j + 1)
        simpa [Nat.add_assoc, Nat.add_comm 1 j] using this
      · rw [Array.getElem?_setIfInBounds]
        by_cases h : k = j
        · subst h
          simp [hs, hkl]
        · rw [if_neg h, hL j hjn]
          congr 1
          apply decide_eq_decide.2
          omega

/-- The check by rows that are written out. -/
theorem lexB_of_fast (l : List Oper) (T : List LexRow) (hs : Region.noSelect l.toArray = true) (hT : l.map (lexRow .any l.toArray) = T) (hf : lexFast 0 T = true) : Region.lexB .any l.toArray = true := by
  unfold Region.lexB
  rw [Bool.and_eq_true]
  refine ⟨hs, ?_⟩
  have := lexFrom_fast .any l l 0 (Array.replicate l.length false) (by simp) (fun j => by simp) (by simp) (fun j hj => by simp [hj]) (by rw [hT]; exact hf)
  simpa using this

end Go.Proofs.YtoaiamgcegnjjaaGreatDoor
