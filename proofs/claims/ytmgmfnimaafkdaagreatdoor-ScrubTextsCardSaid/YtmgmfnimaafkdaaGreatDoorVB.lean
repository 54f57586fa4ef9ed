/- A store on a fresh disk, and behind puts: all that its contracts ask. No program in sight.  Sorted lists of names and of numbers; what a store's contracts ask; the second example, counted by the kernel. No program in sight.  What the opening of a store asks of a disk; both examples, counted by the kernel with all that the contracts ask. No program in sight.  Numerals are read back; the numbers of a text of words. No program in sight.  The opening of a store, step by step, and what its contract asks. No program in sight.  The slices found in a log, looked at one by one. No program in sight.  -/
import Derived.Test.YtmgmfnimaafkdaaGreatDoorVA
import Derived.Lib.ItoaLen
import Derived.Lib.ParseIntBTie
import Derived.Lib.IndexLaws
namespace Go.Proofs.YtmgmfnimaafkdaaGreatDoor
set_option maxRecDepth 100000

theorem open_fresh2 {n k : Nat} (hs : standsB n k = true) : ∃ d1 d, openL (newD n k) 0 (n / 4) = (0, d1, ⟨0, n / 4 / 2, k, 0, 1, 1, []⟩) ∧ turnL d1 ⟨0, n / 4 / 2, k, 0, 1, 1, []⟩ [] = (0, d, ⟨0, n / 4 / 2, k, 1, 2, n / 4 / 2 + 1, []⟩) ∧ (newD n k).Like d1 ∧ (newD n k).Like d ∧
    openS (newD n k) = (0, d, some ⟨d, ⟨0, n / 4 / 2, k, 1, 2, n / 4 / 2 + 1, []⟩, ⟨n / 4, n - n / 4, if 0 < n - n / 4 then [(n / 4, n - n / 4)] else []⟩, [], [], [], 0, 0⟩) := by
  unfold standsB at hs
  simp only [Bool.not_eq_true', Bool.or_eq_false_iff, decide_eq_false_iff_not, beq_eq_false_iff_ne] at hs
  obtain ⟨⟨⟨hq, hne⟩, hfit⟩, hfit2⟩ := hs
  obtain ⟨h1, h2⟩ := needP_some hne
  have hl : (newD n k).lasts.length = n := by simp [newD]
  have hz : (newD n k).size = k := rfl
  have hn0 := needP_zero h1 h2
  have hp : 1 ≤ needP k 201 := needP_pos h1 h2 (by omega)
  obtain ⟨d1, e1, L1⟩ := openL_fresh (n := n) (k := k) (q := n / 4) h1 h2 (by omega) (by omega)
  obtain ⟨d2, e2, L2⟩ := turnGo_ok (d := d1) (l := ⟨0, n / 4 / 2, k, 0, 1, 1, []⟩) (keep := []) (by rw [L1.1, hz]; exact h1) (by rw [L1.1, hz]; exact h2) (by rw [L1.1, hz]) (L1.2.2.trans rfl) (fun r hr => by cases hr) (by simp [hn0]; omega) (by rw [L1.2.1, hl]; simp; omega)
  have ht : turnL d1 ⟨0, n / 4 / 2, k, 0, 1, 1, []⟩ [] = (0, d2, ⟨0, n / 4 / 2, k, 1, 2, n / 4 / 2 + 1, []⟩) := by
    unfold turnL
    rw [if_neg (by simp), if_neg (by simp [hn0]; omega), e2]
    simp [LogV.begin, hn0]
  refine ⟨d1, d2, e1, ht, L1, L1.trans L2, ?_⟩
  unfold openS
  simp only [hl, hz]
  rw [if_neg (by omega), e1]
  simp only [List.foldl_nil, claimAll]
  have hr : ∀ d l m, recordsS (⟨d, l, m, [], [], [], 0, 0⟩ : StV) = [] := fun _ _ _ => rfl
  simp only [hr, ht]
theorem stands_some {n k : Nat} (hs : standsB n k = true) : 16 ≤ n ∧ 19 ≤ k ∧ k ≤ 4096 := by
  unfold standsB at hs
  simp only [Bool.not_eq_true', Bool.or_eq_false_iff, decide_eq_false_iff_not, beq_eq_false_iff_ne] at hs
  obtain ⟨⟨⟨hq, hne⟩, hfit⟩, hfit2⟩ := hs
  obtain ⟨h1, h2⟩ := needP_some hne
  omega
/-- a store on a fresh disk -/
theorem fresh_good {n k : Nat} (hs : standsB n k = true) (hn : n ≤ 65536) : ∃ d s, openS (newD n k) = (0, d, some s) ∧ s.d = d ∧ StGood s (n / 4) 2 [] ∧ StLive s (n / 4) 2 8589934592 ∧ (newD n k).Like d ∧ s.log.epoch = 2 := by
  obtain ⟨d1, d, e1, e2, L1, L, h⟩ := open_fresh2 hs
  obtain ⟨g1, g2, g3⟩ := stands_some hs
  have hl : (newD n k).lasts.length = n := by simp [newD]
  have hz : (newD n k).size = k := rfl
  have r1 := openL_runs (E := 1) (fine_fresh n k 1) (by rw [hl]; exact hn) (by omega) (by omega) e1
  have hi1 : LogInv d1 ⟨0, n / 4 / 2, k, 0, 1, 1, []⟩ (n / 4) :=
    ⟨by rw [L1.1, hz]; exact g2, by rw [L1.1, hz]; exact g3, L1.2.2, by rw [L1.1, hz], rfl, by simp only; omega, by rw [L1.2.1, hl]; omega, by simp only; omega, by simp [LogV.begin], by simp [LogV.begin]; omega⟩
  have r2 := turnL_runs hi1 (by rw [L1.2.1, hl]; exact hn) (by simp only; omega) e2
  have hi : LogInv d ⟨0, n / 4 / 2, k, 1, 2, n / 4 / 2 + 1, []⟩ (n / 4) :=
    ⟨by rw [L.1, hz]; exact g2, by rw [L.1, hz]; exact g3, L.2.2, by rw [L.1, hz], rfl, by simp only; omega, by rw [L.2.1, hl]; omega, by simp only; omega, by simp [LogV.begin], by simp [LogV.begin]; omega⟩
  have r3 : RunsB (SecOK 2) 8589934592 (newD n k) d := r1.trans r2 (by omega)
  refine ⟨d, _, h, rfl, ⟨⟨hi, ?_, by simp only; omega, by simp only; omega, by simp only; omega, rfl, rfl, rfl, fun i h => absurd h (by simp), List.Pairwise.nil, fun x hx => by cases hx⟩, fun x hx => (by cases hx), by simp only; rw [L.2.1, hl]; exact hn, List.nodup_nil⟩, ?_, L, rfl⟩
  · have h0 : 0 < n - n / 4 := by omega
    simp only [h0, if_true]
    refine ⟨rfl, by rw [L.2.1, hl], by rw [L.2.1, hl]; omega, ⟨List.pairwise_singleton _ _, fun e he => by rw [List.mem_singleton] at he; subst he; simp only; omega⟩, fun e he => by rw [List.mem_singleton] at he; subst he; rw [L.2.1, hl]; simp only; omega⟩
  · refine ⟨(fine_fresh n k 2).runs r3, ?_, by simp, Whole.runs (fun m _ => by rw [told_fresh]; exact ⟨by simp, by simp⟩) r3⟩
    have := r3.like.2
    simp only
    have h0 : (newD n k).waits.length = 0 := rfl
    omega
theorem putStore_live {s : StV} {lo E K : Nat} {ts : List (NameV × List UInt8)} (h : StGood s lo E ts) (hv : StLive s lo E K) (hE : E + 2 < 2 ^ 39) (n : NameV) (b : List UInt8) :
    StLive (putStore s n b).2 lo (E + 2) (K + 12884967424) := by
  have hrs := recs_of_num h.inv.notes h.inv.marks h.nums
  have hlog := h.inv.log
  have hep := h.inv.ep
  have h2 : ∀ s' : StV, RunsB (SecOK (E + 2)) 12884967424 s.d s'.d → s'.log.recs.length ≤ 1000000 → StLive s' lo (E + 2) (K + 12884967424) := fun s' r hn => hv.runs r (by omega) (Nat.le_refl _) hn
  unfold putStore
  split
  · exact h2 s (RunsB.refl _) hv.recs
  rename_i hc
  split
  · exact h2 s (RunsB.refl _) hv.recs
  rename_i hg
  have hbl : b.length ≤ 1048576 := by omega
  have hb1 : 1 ≤ b.length := by omega
  have hr1 : rightB n.1 = true := by cases hh : rightB n.1 <;> simp_all
  have hr2 : rightB n.2 = true := by cases hh : rightB n.2 <;> simp_all
  rcases takeM_ok (c := needP s.d.size b.length) h.inv.map with ⟨e, he, hne⟩ | ⟨a, m', he, hc1, hm', ha1, ha2, hf1, hf2⟩
  · rw [he]
    obtain ⟨e', rfl⟩ : ∃ e', e = e' + 1 := ⟨e - 1, by omega⟩
    exact h2 s (RunsB.refl _) hv.recs
  · rw [he]
    simp only
    rcases nextS_inv (s := { s with map := m' }) (lo := lo) hlog hrs h.inv.puts h.inv.epoch with ⟨d1, l1, e1, hl1, hk1, hep1, hep2⟩ | ⟨d1, l1, p, mark, e1, hl1, hk1, hep1, hep2, hp, hmk⟩
    · obtain ⟨r1, n1⟩ := nextS_runs (s := { s with map := m' }) (lo := lo) hlog h.few (by simp only; omega) hv.recs e1
      rw [e1]
      exact h2 _ ((r1.mono fun b hb => hb.le (by simp only; omega)).le (by omega)) n1
    · obtain ⟨r1, n1⟩ := nextS_runs (s := { s with map := m' }) (lo := lo) hlog h.few (by simp only; omega) hv.recs e1
      rw [e1]
      simp only [Int.toNat_natCast]
      simp only at hep1 hep2 hk1 r1 n1
      have hsz : d1.size = s.d.size := hk1.1.1
      have hln : d1.lasts.length = s.d.lasts.length := hk1.1.2.1
      have hfew := h.few
      obtain ⟨d2, hp2, hL2⟩ := putP_ok (d := d1) (at' := a) (kind := 83) (mark := mark) (b := b) hl1.s1 (by decide) hl1.on (by rw [hsz]; exact hc1) (by rw [hsz, hln]; exact ha2)
      have r2 := putP_runs (P := SecOK (E + 2)) (fun i => secOK_put (by decide) (by omega) (fun hh => by cases hh)) (by rw [hln]; exact hfew) hp2
      rw [hp2]
      simp only
      have hrl : (slotRec n (⟨a, needP s.d.size b.length, b.length, mark⟩ : SlotV)).2.length ≤ 4000 := rec_of_num (x := (n, ⟨a, needP s.d.size b.length, b.length, mark⟩)) ⟨hr1, hr2, by simp only; omega, hbl, by simp only; omega, by simp only; omega⟩
      cases hlg : loggedS { s with d := d2, log := l1, map := m', epoch := l1.epoch, puts := p, slices := putS n ⟨a, needP s.d.size b.length, b.length, mark⟩ s.slices } { s with d := d2, log := l1, map := (giveM m' a (needP s.d.size b.length)).2, epoch := l1.epoch, puts := p } (slotRec n ⟨a, needP s.d.size b.length, b.length, mark⟩) with
      | mk e3 s3 =>
        obtain ⟨r3, n3⟩ := loggedS_runs (lo := lo) (hl1.like hL2) (by simp only; rw [hL2.2.1, hln]; exact hfew) (by simp only; omega) n1 hrl hlg
        simp only at r3
        exact h2 _ (((r1.mono fun b hb => hb.le (by omega)).trans r2 (Nat.le_refl _)).trans (r3.mono fun b hb => hb.le (by omega)) (by omega)) n3
end Go.Proofs.YtmgmfnimaafkdaaGreatDoor
namespace Go.Proofs.YtmgmfnimaafkdaaGreatDoor
set_option maxRecDepth 100000

def getL {κ α : Type} [DecidableEq κ] (l : List (κ × α)) (x : κ) : Option α := (l.find? (fun y => decide (y.1 = x))).map (·.2)
theorem getL_nil {κ α : Type} [DecidableEq κ] (x : κ) : getL ([] : List (κ × α)) x = none := rfl
theorem getL_cons {κ α : Type} [DecidableEq κ] (a : κ) (v : α) (l : List (κ × α)) (x : κ) : getL ((a, v) :: l) x = if x = a then some v else getL l x := by
  unfold getL
  rw [List.find?_cons]
  by_cases h : x = a
  · subst h; simp
  · have : ¬ a = x := fun e => h e.symm
    simp [h, this]
theorem getL_some {κ α : Type} [DecidableEq κ] {x : κ} : ∀ {l : List (κ × α)}, (getL l x).isSome = true ↔ x ∈ l.map (·.1)
  | [] => by simp [getL_nil]
  | (a, v) :: l => by
    rw [getL_cons]
    by_cases h : x = a
    · subst h; simp
    · simp only [List.map_cons, List.mem_cons, h, false_or]
      exact getL_some
theorem getL_mem {κ α : Type} [DecidableEq κ] {x : κ} {v : α} : ∀ {l : List (κ × α)}, getL l x = some v → (x, v) ∈ l
  | [], h => by simp [getL_nil] at h
  | (a, u) :: l, h => by
    rw [getL_cons] at h
    split at h
    · rename_i e; injection h with h; subst e; subst h; exact List.mem_cons_self
    · exact List.mem_cons_of_mem _ (getL_mem h)
theorem getL_filter {κ α : Type} [DecidableEq κ] (p : κ → Bool) (x : κ) : ∀ (l : List (κ × α)), getL (l.filter fun y => p y.1) x = if p x = true then getL l x else none
  | [] => by simp [getL_nil]
  | (a, u) :: l => by
    have ih := getL_filter p x l
    rw [List.filter_cons, getL_cons]
    by_cases h : x = a
    · subst h
      cases hp : p x
      · simp [ih, hp]
      · simp [getL_cons]
    · cases hp : p a
      · simp [ih, h]
      · simp only [if_true, getL_cons, if_neg h]
        exact ih
theorem getL_putS {α : Type} (k : NameV) (v : α) (y : NameV) : ∀ (l : List (NameV × α)), getL (putS k v l) y = if y = k then some v else getL l y
  | [] => by rw [putS, getL_cons]
  | (a, x) :: l => by
    unfold putS
    split
    · rw [getL_cons]
    · split
      · rename_i _ e
        subst e
        rw [getL_cons, getL_cons]
        by_cases h : y = a <;> simp [h]
      · rename_i _ e
        rw [getL_cons, getL_cons, getL_putS k v y l]
        by_cases h : y = a
        · subst h; simp [e]
        · simp [h]
theorem getL_putN {α : Type} (k : Int) (v : α) (y : Int) : ∀ (l : List (Int × α)), getL (putN k v l) y = if y = k then some v else getL l y
  | [] => by rw [putN, getL_cons]
  | (a, x) :: l => by
    unfold putN
    split
    · rw [getL_cons]
    · split
      · rename_i _ e
        subst e
        rw [getL_cons, getL_cons]
        by_cases h : y = a <;> simp [h]
      · rename_i _ e
        rw [getL_cons, getL_cons, getL_putN k v y l]
        by_cases h : y = a
        · subst h; simp [e]
        · simp [h]
theorem getS_eq (s : StV) (n : NameV) : getS s n = getL s.slices n := by
  unfold getS getL
  congr 1
  congr 1
  funext y
  rw [Bool.eq_iff_iff]
  simp
theorem ltN_iff {a b : NameV} : ltN a b = true ↔ a.1 < b.1 ∨ (a.1 = b.1 ∧ a.2 < b.2) := by
  unfold ltN
  simp
theorem ltN_trans {a b c : NameV} (h : ltN a b = true) (g : ltN b c = true) : ltN a c = true := by
  rw [ltN_iff] at h g ⊢
  omega
theorem ltN_ne {a b : NameV} (h : ltN a b = true) : a ≠ b := by
  rintro rfl
  rw [ltN_iff] at h
  omega
theorem ltN_total {a b : NameV} (h : ¬ ltN a b = true) (hn : ¬ b = a) : ltN b a = true := by
  rw [ltN_iff] at h ⊢
  have : ¬ (b.1 = a.1 ∧ b.2 = a.2) := fun e => hn (Prod.ext e.1 e.2)
  omega
def SrtS {α : Type} (l : List (NameV × α)) : Prop := l.Pairwise fun x y => ltN x.1 y.1 = true
def SrtN {α : Type} (l : List (Int × α)) : Prop := l.Pairwise fun x y => x.1 < y.1
theorem putS_srt {α : Type} {k : NameV} {v : α} : ∀ {l : List (NameV × α)}, SrtS l → SrtS (putS k v l)
  | [], _ => List.pairwise_singleton _ _
  | (a, x) :: l, h => by
    obtain ⟨h1, h2⟩ := List.pairwise_cons.1 h
    unfold putS
    split
    · rename_i hk
      refine List.pairwise_cons.2 ⟨fun y hy => ?_, h⟩
      rcases List.mem_cons.1 hy with rfl | hy
      · exact hk
      · exact ltN_trans hk (h1 y hy)
    · split
      · rename_i _ e
        subst e
        exact List.pairwise_cons.2 ⟨fun y hy => h1 y hy, h2⟩
      · rename_i hk e
        refine List.pairwise_cons.2 ⟨fun y hy => ?_, putS_srt h2⟩
        rcases mem_putS hy with rfl | hy
        · exact ltN_total hk e
        · exact h1 y hy
theorem mem_putN {α : Type} {k : Int} {v : α} : ∀ {l : List (Int × α)} {x : Int × α}, x ∈ putN k v l → x = (k, v) ∨ x ∈ l
  | [], x, h => by unfold putN at h; rw [List.mem_singleton] at h; exact .inl h
  | (a, u) :: l, x, h => by
    unfold putN at h
    split at h
    · rcases List.mem_cons.1 h with h | h
      · exact .inl h
      · exact .inr h
    · split at h
      · rcases List.mem_cons.1 h with h | h
        · exact .inl h
        · exact .inr (List.mem_cons_of_mem _ h)
      · rcases List.mem_cons.1 h with h | h
        · exact .inr (by rw [h]; exact List.mem_cons_self)
        · rcases mem_putN h with h | h
          · exact .inl h
          · exact .inr (List.mem_cons_of_mem _ h)
theorem putN_srt {α : Type} {k : Int} {v : α} : ∀ {l : List (Int × α)}, SrtN l → SrtN (putN k v l)
  | [], _ => List.pairwise_singleton _ _
  | (a, x) :: l, h => by
    obtain ⟨h1, h2⟩ := List.pairwise_cons.1 h
    unfold putN
    split
    · rename_i hk
      refine List.pairwise_cons.2 ⟨fun y hy => ?_, h⟩
      rcases List.mem_cons.1 hy with rfl | hy
      · exact hk
      · exact Int.lt_trans hk (h1 y hy)
    · split
      · rename_i _ e
        subst e
        exact List.pairwise_cons.2 ⟨fun y hy => h1 y hy, h2⟩
      · rename_i hk e
        refine List.pairwise_cons.2 ⟨fun y hy => ?_, putN_srt h2⟩
        rcases mem_putN hy with rfl | hy
        · simp only; omega
        · exact h1 y hy
theorem putS_len {α : Type} {k : NameV} {v : α} : ∀ (l : List (NameV × α)), (putS k v l).length ≤ l.length + 1
  | [] => by simp [putS]
  | (a, x) :: l => by
    unfold putS
    split
    · simp
    · split
      · simp
      · have := putS_len (k := k) (v := v) l
        simp only [List.length_cons]
        omega
theorem putN_len {α : Type} {k : Int} {v : α} : ∀ (l : List (Int × α)), (putN k v l).length ≤ l.length + 1
  | [] => by simp [putN]
  | (a, x) :: l => by
    unfold putN
    split
    · simp
    · split
      · simp
      · have := putN_len (k := k) (v := v) l
        simp only [List.length_cons]
        omega
theorem SrtS.nodup {α : Type} {l : List (NameV × α)} (h : SrtS l) : (l.map (·.1)).Nodup := List.pairwise_map.2 (h.imp fun hh => ltN_ne hh)
theorem SrtN.nodup {α : Type} {l : List (Int × α)} (h : SrtN l) : (l.map (·.1)).Nodup := List.pairwise_map.2 (h.imp fun hh => by omega)
/-- what the contracts ask of a store -/
structure StOK (s : StV) : Prop where
  at' : s.log.at' ≤ s.log.begin s.log.use + s.log.half
  lsz : s.log.size = s.d.size
  d19 : 19 ≤ s.d.size
  ep : s.log.epoch + 4 < 549755813888
  wt : s.d.waits.length ≤ 824633720832
  map : MapInv s.map s.map.frm s.d.lasts.length
  srtS : SrtS s.slices
  num : ∀ x ∈ s.slices, NumOK x ∧ x.2.len ≤ 1048576
  srtN : SrtN s.notes
  txt : ∀ x ∈ s.notes, rightB x.1 = true ∧ x.2.length ≤ 3000
  mks : ∀ x ∈ s.marks, x.length ≤ 3000
  nS : s.slices.length ≤ 100000
  nN : s.notes.length ≤ 100000
  nM : s.marks.length ≤ 100000
  pts : s.puts ≤ 1048576
  epo : s.epoch < 549755813888
def stOKB (s : StV) : Bool :=
  decide (s.log.at' ≤ s.log.begin s.log.use + s.log.half) && decide (s.log.size = s.d.size) && decide (19 ≤ s.d.size) && decide (s.log.epoch + 4 < 549755813888) && decide (s.d.waits.length ≤ 824633720832) &&
  (decide (s.map.sectors = s.d.lasts.length - s.map.frm) && decide (s.map.frm ≤ s.d.lasts.length) && decide (s.map.free.Pairwise (fun x y => x.1 + x.2 ≤ y.1)) && s.map.free.all (fun e => decide (1 ≤ e.2)) && s.map.free.all (fun e => decide (s.map.frm ≤ e.1 ∧ e.1 + e.2 ≤ s.d.lasts.length))) &&
  decide (s.slices.Pairwise fun x y => ltN x.1 y.1 = true) && s.slices.all (fun x => rightB x.1.1 && rightB x.1.2 && decide (0 ≤ x.2.at' ∧ x.2.at' ≤ 65536) && decide (x.2.bytes ≤ 1048576) && decide (0 ≤ x.2.mark) && decide (x.2.mark < 9223372036854775808) && decide (x.2.len ≤ 1048576)) &&
  decide (s.notes.Pairwise fun x y => x.1 < y.1) && s.notes.all (fun x => rightB x.1 && decide (x.2.length ≤ 3000)) && s.marks.all (fun x => decide (x.length ≤ 3000)) &&
  decide (s.slices.length ≤ 100000) && decide (s.notes.length ≤ 100000) && decide (s.marks.length ≤ 100000) && decide (s.puts ≤ 1048576) && decide (s.epoch < 549755813888)
theorem stOK_of {s : StV} (h : stOKB s = true) : StOK s := by
  unfold stOKB at h
  simp only [Bool.and_eq_true, decide_eq_true_eq, List.all_eq_true] at h
  obtain ⟨⟨⟨⟨⟨⟨⟨⟨⟨⟨⟨⟨⟨⟨⟨a1, a2⟩, a3⟩, a4⟩, a5⟩, ⟨⟨⟨⟨b1, b2⟩, b3⟩, b4⟩, b5⟩⟩, c1⟩, c2⟩, c3⟩, c4⟩, c5⟩, c6⟩, c7⟩, c8⟩, c9⟩, c10⟩ := h
  refine ⟨a1, a2, a3, a4, a5, ⟨rfl, b1, b2, ⟨b3, b4⟩, b5⟩, c1, fun x hx => ?_, c3, c4, c5, c6, c7, c8, c9, c10⟩
  obtain ⟨⟨⟨⟨⟨⟨d1, d2⟩, d3⟩, d4⟩, d5⟩, d6⟩, d7⟩ := c2 x hx
  exact ⟨⟨d1, d2, d3, d4, d5, d6⟩, d7⟩
/-- behind puts a store is as its contracts ask -/
theorem StGood.ok {s : StV} {lo E K : Nat} {ts : List (NameV × List UInt8)} (h : StGood s lo E ts) (hv : StLive s lo E K) (hs : SrtS s.slices) (hE : E + 4 < 549755813888) (hK : K ≤ 824633720832) (hn : ts.length ≤ 100000) : StOK s := by
  have hi := h.inv.log
  have hep := h.inv.ep
  have hm := h.inv.map
  have hl : s.slices.length = ts.length := by have := congrArg List.length h.inv.names; simpa using this
  have hw := hv.waits
  refine ⟨hi.at2, hi.sz, hi.s1, by omega, by omega, by rw [hm.frm]; exact hm, hs, fun x hx => ?_, by rw [h.inv.notes]; exact List.Pairwise.nil, fun x hx => (by rw [h.inv.notes] at hx; cases hx), fun x hx => (by rw [h.inv.marks] at hx; cases hx), by omega, by rw [h.inv.notes]; simp, by rw [h.inv.marks]; simp, Nat.le_of_lt h.inv.puts, by have := h.inv.epoch; omega⟩
  refine ⟨h.nums x hx, ?_⟩
  obtain ⟨y, hy, e, ⟨a, mark, h1, h2, h3, h4, h5⟩, h6, h7⟩ := h.inv.side.mem x hx
  have := h.few
  rw [h1]
  simp only
  omega
end Go.Proofs.YtmgmfnimaafkdaaGreatDoor
namespace Go.Proofs.YtmgmfnimaafkdaaGreatDoor
set_option maxRecDepth 100000

theorem claimM_inv {m : MapV} {lo n a l : Nat} (h : MapInv m lo n) : MapInv (claimM m a l).2 lo n := by
  unfold claimM
  split
  · exact h
  · rename_i ho
    simp only
    split
    · exact h
    · rename_i hc
      have hm := (meetsM_is (at' := a) h).1
      have hl : 1 ≤ l := by
        unfold oursM at ho
        simp only [Bool.not_eq_false, Bool.and_eq_true, decide_eq_true_eq] at ho
        omega
      obtain ⟨t1, t2, t3, t4⟩ := takeAt_ok (i := meetsM m a) (a := a) (n := l) h.srt (by omega) hl (by omega) (by omega)
      refine ⟨h.frm, h.sectors, h.le, t1, fun e he => ?_⟩
      obtain ⟨e', he', h5, h6⟩ := t4 e he
      have := h.inn e' he'
      omega
def fineB (d : DskV) (E : Nat) : Bool := (List.range d.lasts.length).all fun m => match d.told m with
  | .data b _ => match secOf b with
    | some x => decide (x.mark < 2 ^ 60) && (decide (x.kind ≠ 72) || decide (x.mark ≤ E))
    | none => true
  | _ => true
theorem fine_of {d : DskV} {E : Nat} (h : fineB d E = true) : Fine d E := by
  intro m hm b t hb x hx
  unfold fineB at h
  have := List.all_eq_true.1 h m (List.mem_range.2 hm)
  rw [hb] at this
  simp only [hx, Bool.and_eq_true, Bool.or_eq_true, decide_eq_true_eq] at this
  refine ⟨this.1, fun hk => ?_⟩
  rcases this.2 with h1 | h1
  · exact absurd hk h1
  · exact h1
/-- a record of a slice, and what it tells -/
def sliceOf (r : RecL) : Option (NameV × Int × Nat × Int) := if r.1 = 83 then match numbersS r.2 5 with
    | some [v, n, a, b, m] => if rightB v && rightB n && decide (1 ≤ b ∧ b ≤ 1048576) && decide (0 ≤ a ∧ a ≤ 65536) && decide (0 ≤ m ∧ m < 9223372036854775808) then some ((v, n), a, b.toNat, m) else none
    | _ => none
  else none
theorem heed_slice {s : StV} {r : RecL} {n : NameV} {a m : Int} {b : Nat} (h : sliceOf r = some (n, a, b, m)) : heedS s r = { s with slices := putS n ⟨a, needP s.d.size b, b, m⟩ s.slices } := by
  unfold sliceOf at h
  split at h
  · rename_i hk
    split at h
    · rename_i v n' a' b' m' hn
      split at h
      · rename_i hc
        injection h with h
        injection h with h1 h
        injection h with h2 h
        injection h with h3 h4
        subst h1; subst h2; subst h3; subst h4
        simp only [Bool.and_eq_true, decide_eq_true_eq] at hc
        obtain ⟨⟨⟨⟨c1, c2⟩, c3⟩, c4⟩, c5⟩ := hc
        unfold heedS
        rw [if_neg (by omega), if_neg (by omega), if_pos hk, hn]
        simp only
        rw [if_pos (by simp [c1, c2, c3.1, c3.2])]
      · cases h
    · cases h
  · cases h
/-- the store ahead of its slices' being looked at -/
def openS1 (d1 : DskV) (l1 : LogV) (q n : Nat) : StV := l1.recs.foldl heedS ⟨d1, l1, ⟨q, n - q, if 0 < n - q then [(q, n - q)] else []⟩, [], [], [], 0, 0⟩
/-- what the opening of a store asks of a disk -/
structure OpenOK (d : DskV) : Prop where
  fine : ∃ E, E + 3 < 549755813880 ∧ Fine d E
  wt : d.waits.length ≤ 412316860416
  recs : ∀ d1 l1, openL d 0 (d.lasts.length / 4) = (0, d1, l1) → ∀ r ∈ l1.recs, ∃ x, sliceOf r = some x
def openOKB (d : DskV) : Bool := fineB d 1000 && decide (d.waits.length ≤ 1000) && (match openL d 0 (d.lasts.length / 4) with
  | (0, _, l1) => l1.recs.all fun r => (sliceOf r).isSome
  | _ => true)
theorem openOK_of {d : DskV} (h : openOKB d = true) : OpenOK d := by
  unfold openOKB at h
  simp only [Bool.and_eq_true, decide_eq_true_eq] at h
  obtain ⟨⟨h1, h2⟩, h3⟩ := h
  refine ⟨⟨1000, by omega, fine_of h1⟩, by omega, fun d1 l1 e r hr => ?_⟩
  rw [e] at h3
  exact Option.isSome_iff_exists.1 (List.all_eq_true.1 h3 r hr)
theorem open_fresh_ok {n k : Nat} (hs : standsB n k = true) : OpenOK (newD n k) := by
  obtain ⟨d1, d, e1, e2, L1, L, h⟩ := open_fresh2 hs
  have hl : (newD n k).lasts.length = n := by simp [newD]
  refine ⟨⟨1, by omega, fine_fresh n k 1⟩, by simp [newD], fun d1' l1 e r hr => ?_⟩
  rw [hl, e1] at e
  injection e with _ e
  injection e with _ e
  subst e
  cases hr
/-- a disk on which no store stands asks nothing more -/
theorem open_no_ok {n k : Nat} (_hs : standsB n k = false) (h : ∀ d1 l1, openL (newD n k) 0 (n / 4) = (0, d1, l1) → l1.recs = []) : OpenOK (newD n k) := by
  have hl : (newD n k).lasts.length = n := by simp [newD]
  refine ⟨⟨1, by omega, fine_fresh n k 1⟩, by simp [newD], fun d1' l1 e r hr => ?_⟩
  rw [hl] at e
  rw [h _ _ e] at hr
  cases hr
/-- the first example, with all that is asked -/
def aliveX : Bool :=
  openOKB (newD 64 64) && match openS (newD 64 64) with
  | (0, _, some s0) => stOKB s0 && match putStore s0 (1, 0) [49, 50, 51, 52, 53, 54, 55, 56] with
    | (0, s1) => stOKB s1 && match syncS s1 with
      | (0, s2) => stOKB s2 && match putStore s2 (1, 1) [120] with
        | (0, s3) => stOKB s3 && openOKB (onD (cutD s3.d [] (-1))) && match openS (onD (cutD s3.d [] (-1))) with
          | (0, _, some s4) => stOKB s4 && (s4.slices.map (·.1) == [(1, 0)]) && (match getS s4 (1, 0) with
            | some x => tellsS s4.d x == (0, [49, 50, 51, 52, 53, 54, 55, 56])
            | none => false)
          | _ => false
        | _ => false
      | _ => false
    | _ => false
  | _ => false
/-- the second example: a bit turned in the first slice's sector -/
def awakeX : Bool :=
  openOKB (newD 128 64) && match openS (newD 128 64) with
  | (0, _, some s0) => stOKB s0 && match noteStore s0 1 [110] with
    | (0, s1) => stOKB s1 && match putStore s1 (1, 0) [97] with
      | (0, s2) => stOKB s2 && match putStore s2 (1, 1) [98] with
        | (0, s3) => stOKB s3 && match syncS s3 with
          | (0, s4) => stOKB s4 && match rotD s4.d 32 200 with
            | (0, d5) => stOKB { s4 with d := d5 } && (s4.slices.map (·.1) == [(1, 0), (1, 1)]) && (s4.notes.map (·.1) == [1]) && (match getS s4 (1, 0), getS s4 (1, 1) with
              | some x, some y => (tellsS d5 x == (8, [])) && (tellsS d5 y == (0, [98]))
              | _, _ => false)
            | _ => false
          | _ => false
        | _ => false
      | _ => false
    | _ => false
  | _ => false
end Go.Proofs.YtmgmfnimaafkdaaGreatDoor
namespace Go.Proofs.YtmgmfnimaafkdaaGreatDoor
theorem aliveX_true : aliveX = true := by kernel_rfl
theorem awakeX_true : awakeX = true := by kernel_rfl
end Go.Proofs.YtmgmfnimaafkdaaGreatDoor
namespace Go.Proofs.YtmgmfnimaafkdaaGreatDoor
set_option maxRecDepth 100000

/-! ### numerals -/
theorem parseM_app (M : Nat) : ∀ (l r : List UInt8) (acc : Nat), Lib.parseUintM M acc (l ++ r) = match Lib.parseUintM M acc l with
    | .ok v => Lib.parseUintM M v r
    | e => e
  | [], r, acc => rfl
  | c :: l, r, acc => by
    rw [List.cons_append, Lib.parseUintM, Lib.parseUintM]
    split
    · split
      · rfl
      · split
        · rfl
        · exact parseM_app M l r _
    · rfl
theorem dig_nat {d : Nat} (h : d < 10) : (UInt8.ofNat (48 + d)).toNat = 48 + d := by
  rw [UInt8.toNat_ofNat']
  omega
theorem parseM_dec {M : Nat} (hM : M ≤ 18446744073709551615) (u : Nat) : u ≤ M → Lib.parseUintM M 0 (Lib.decDigits u) = .ok u := by
  induction u using Nat.strongRecOn with
  | _ u ih =>
    intro hu
    have stp : ∀ a d, d < 10 → a < 1844674407370955162 → a * 10 + d ≤ M → Lib.parseUintM M a [UInt8.ofNat (48 + d)] = .ok (a * 10 + d) := fun a d hd ha hle => by
      rw [Lib.parseUintM, dig_nat hd, if_pos (by omega), if_neg (by omega), show 48 + d - 48 = d by omega, if_neg (by omega)]
      rfl
    by_cases h : u < 10
    · rw [Lib.decDigits_one h, stp 0 u h (by omega) (by omega)]
      simp
    · rw [Lib.decDigits, dif_neg h, parseM_app, ih (u / 10) (by omega) (by omega)]
      show Lib.parseUintM M (u / 10) [UInt8.ofNat (48 + u % 10)] = _
      rw [stp (u / 10) (u % 10) (by omega) (by omega) (by omega)]
      congr 1
      omega
theorem dec_digit (u : Nat) : ∀ c ∈ Lib.decDigits u, 48 ≤ c.toNat ∧ c.toNat ≤ 57 := by
  induction u using Nat.strongRecOn with
  | _ u ih =>
    intro c hc
    by_cases h : u < 10
    · rw [Lib.decDigits_one h, List.mem_singleton] at hc
      subst hc
      rw [dig_nat h]; omega
    · rw [Lib.decDigits, dif_neg h, List.mem_append, List.mem_singleton] at hc
      rcases hc with hc | hc
      · exact ih (u / 10) (by omega) c hc
      · subst hc
        rw [dig_nat (by omega)]; omega
theorem dec_ne (u : Nat) : Lib.decDigits u ≠ [] := by
  intro h
  have := Lib.decDigits_length u
  rw [h] at this
  have := Lib.nDigits_pos u
  simp at *; omega
theorem parse_itoa {n : Int} (h0 : -9223372036854775808 ≤ n) (h1 : n ≤ 9223372036854775807) : Lib.parseIntB 64 (Lib.itoa n) = .ok n := by
  have hb : ∀ u : Nat, u ≤ 9223372036854775808 → Lib.parseUintB 64 (Lib.decDigits u) = .ok u := fun u hu => by
    unfold Lib.parseUintB
    rw [if_neg (dec_ne u)]
    exact parseM_dec (by decide) u (by omega)
  by_cases hn : n < 0
  · obtain ⟨u, rfl⟩ : ∃ u : Nat, n = -(u : Int) := ⟨n.natAbs, by omega⟩
    have e : Lib.itoa (-(u : Int)) = 45 :: Lib.decDigits u := by unfold Lib.itoa; rw [if_pos hn]; simp
    rw [e]
    unfold Lib.parseIntB
    have h45 : (45 : UInt8).toNat = 45 := rfl
    simp only [h45, or_true, if_true, hb u (by omega)]
    rw [if_neg (by simp), if_neg (by simp; omega)]
  · obtain ⟨u, rfl⟩ : ∃ u : Nat, n = (u : Int) := ⟨n.toNat, by omega⟩
    have e : Lib.itoa (u : Int) = Lib.decDigits u := by unfold Lib.itoa; rw [if_neg hn]; simp
    rw [e]
    have hb' := hb u (by omega)
    have hdig := dec_digit u
    have hne := dec_ne u
    generalize Lib.decDigits u = l at *
    cases l with
    | nil => exact absurd rfl hne
    | cons c r =>
      have hc := hdig c (by simp)
      unfold Lib.parseIntB
      have c2 : ¬ c.toNat = 45 := by omega
      have c3 : ¬ c.toNat = 43 := by omega
      simp only [c2, c3, or_self, if_false, hb']
      rw [if_neg (by simp; omega), if_neg (by simp)]
theorem itoa_chars {n : Int} : ∀ c ∈ Lib.itoa n, c.toNat = 45 ∨ (48 ≤ c.toNat ∧ c.toNat ≤ 57) := by
  intro c hc
  unfold Lib.itoa at hc
  split at hc
  · rw [List.mem_cons] at hc
    rcases hc with rfl | hc
    · exact .inl rfl
    · exact .inr (dec_digit _ c hc)
  · exact .inr (dec_digit _ c hc)
theorem itoa_ne (n : Int) : Lib.itoa n ≠ [] := by
  unfold Lib.itoa
  split
  · simp
  · exact dec_ne _


theorem itoa_no32 (n : Int) : (32 : UInt8) ∉ Lib.itoa n := fun h => by
  have := itoa_chars _ h
  simp at this
theorem index_out {c : UInt8} : ∀ (w : List UInt8), c ∉ w → Lib.indexByte w c = -1
  | [], _ => rfl
  | b :: w, h => by
    have hb : ¬ (b == c) = true := fun e => h (by rw [beq_iff_eq] at e; simp [e])
    unfold Lib.indexByte
    rw [if_neg hb, index_out w (fun hm => h (List.mem_cons_of_mem _ hm))]
    rfl
theorem index_in {c : UInt8} : ∀ (w r : List UInt8), c ∉ w → Lib.indexByte (w ++ c :: r) c = (w.length : Int)
  | [], r, _ => by unfold Lib.indexByte; simp
  | b :: w, r, h => by
    have hb : ¬ (b == c) = true := fun e => h (by rw [beq_iff_eq] at e; simp [e])
    have ih := index_in w r (fun hm => h (List.mem_cons_of_mem _ hm))
    rw [List.cons_append]
    unfold Lib.indexByte
    rw [if_neg hb, ih, if_neg (by simp)]
    simp
theorem mapM_some {α β : Type} {f : α → Option β} : ∀ {l : List α} {r : List β}, l.mapM f = some r → r.length = l.length ∧ ∀ y ∈ r, ∃ x ∈ l, f x = some y
  | [], r, h => by simp at h; subst h; exact ⟨rfl, fun y hy => by cases hy⟩
  | a :: l, r, h => by
    rw [List.mapM_cons] at h
    cases ha : f a with
    | none => rw [ha] at h; simp at h
    | some b =>
      rw [ha] at h
      cases hl : l.mapM f with
      | none => rw [hl] at h; simp at h
      | some r' =>
        rw [hl] at h
        simp at h
        subst h
        obtain ⟨h1, h2⟩ := mapM_some hl
        refine ⟨by simp [h1], fun y hy => ?_⟩
        rcases List.mem_cons.1 hy with rfl | hy
        · exact ⟨a, List.mem_cons_self, ha⟩
        · obtain ⟨x, hx, e⟩ := h2 y hy
          exact ⟨x, List.mem_cons_of_mem _ hx, e⟩
theorem splitK_ne (sep : List UInt8) (k : Nat) (s : List UInt8) : Lib.splitK sep 0 k s ≠ [] := by
  cases k with
  | zero => simp [Lib.splitK]
  | succ k => unfold Lib.splitK; split <;> simp
theorem numbers_some {s : List UInt8} {k : Nat} {l : List Int} (h : numbersS s k = some l) : wordsS l = s ∧ l.length = k ∧ l ≠ [] ∧ ∀ x ∈ l, -9223372036854775808 ≤ x ∧ x ≤ 9223372036854775807 := by
  unfold numbersS at h
  split at h
  · rename_i l' hm
    split at h
    · rename_i hc
      injection h with h
      subst h
      obtain ⟨h1, h2⟩ := mapM_some hm
      refine ⟨hc.2, hc.1, fun e => ?_, fun x hx => ?_⟩
      · rw [e] at h1
        exact splitK_ne _ _ _ (List.eq_nil_of_length_eq_zero h1.symm)
      · obtain ⟨w, _, hw⟩ := h2 x hx
        unfold intOfW at hw
        split at hw
        · rename_i v hv
          injection hw with hw
          subst hw
          have := Lib.parseIntB_bounds hv
          simp at this
          omega
        · cases hw
    · cases h
  · cases h
end Go.Proofs.YtmgmfnimaafkdaaGreatDoor
namespace Go.Proofs.YtmgmfnimaafkdaaGreatDoor
set_option maxRecDepth 100000

/-- what a store's opening goes through, where it is told OK -/
structure OpenGo (d : DskV) (d1 : DskV) (l1 : LogV) (sl : List (NameV × SlotV)) (mp : MapV) (d2 : DskV) (l2 : LogV) : Prop where
  q4 : 4 ≤ d.lasts.length / 4
  n0 : needP d.size 201 ≠ 0
  nd : needP d.size 201 + needP d.size 0 ≤ d.lasts.length / 4 / 2
  s19 : 19 ≤ d.size
  fine : ∃ E, E + 3 < 549755813880 ∧ Fine d E
  wt : d.waits.length ≤ 412316860416
  ol : openL d 0 (d.lasts.length / 4) = (0, d1, l1)
  recs : ∀ r ∈ l1.recs, ∃ x, sliceOf r = some x
  few : l1.recs.length ≤ 100000
  fine1 : l1.recs ≠ [] → ∃ E, Fine d1 E
  on1 : l1.recs ≠ [] → ∀ x, (tellsS d1 x).1 ≠ 10
  sz1 : d1.size = d.size
  len1 : d1.lasts.length = d.lasts.length
  wt1 : d1.waits.length ≤ 824633720832
  lsz : l1.size = d1.size
  ep : l1.epoch + 1 < 549755813888
  cl : claimAll d1 (openS1 d1 l1 (d.lasts.length / 4) d.lasts.length).slices (openS1 d1 l1 (d.lasts.length / 4) d.lasts.length).map = (0, sl, mp)
  tn : turnL d1 l1 (recordsS { openS1 d1 l1 (d.lasts.length / 4) d.lasts.length with slices := sl, map := mp }) = (0, d2, l2)
def openEnd (d d1 : DskV) (l1 : LogV) (sl : List (NameV × SlotV)) (mp : MapV) (d2 : DskV) (l2 : LogV) : StV := { openS1 d1 l1 (d.lasts.length / 4) d.lasts.length with slices := sl, map := mp, d := d2, log := l2 }
/-- the store ahead of the log's records -/
def openS0 (d1 : DskV) (l1 : LogV) (q n : Nat) : StV := ⟨d1, l1, ⟨q, n - q, if 0 < n - q then [(q, n - q)] else []⟩, [], [], [], 0, 0⟩
theorem openS1_eq (d1 : DskV) (l1 : LogV) (q n : Nat) : openS1 d1 l1 q n = l1.recs.foldl heedS (openS0 d1 l1 q n) := rfl
theorem OpenGo.is {d d1 d2 : DskV} {l1 l2 : LogV} {sl : List (NameV × SlotV)} {mp : MapV} (h : OpenGo d d1 l1 sl mp d2 l2) : openS d = (0, d2, some (openEnd d d1 l1 sl mp d2 l2)) := by
  have h1 := h.q4
  have h2 := h.n0
  have h3 := h.nd
  have h4 := h.cl
  have h5 := h.tn
  unfold openS
  simp only
  rw [if_neg (by omega), h.ol]
  simp only
  unfold openS1 at h4 h5
  rw [h4]
  simp only
  rw [h5]
  rfl
/-- slices' records heeded: only the slices turn, and they stay in order -/
structure Heeded (s0 s : StV) (k : Nat) : Prop where
  eq : s = { s0 with slices := s.slices }
  srt : SrtS s.slices
  num : ∀ x ∈ s.slices, NumOK x ∧ x.2.len ≤ 1048576
  len : s.slices.length ≤ k
theorem needP_le {size b : Nat} (hb : 1 ≤ b) : needP size b ≤ b := by
  unfold needP
  split
  · omega
  · rename_i h
    obtain ⟨k, hk⟩ : ∃ k, size - 18 = k + 1 := ⟨size - 19, by omega⟩
    rw [hk]
    have : (b + (k + 1) - 1) / (k + 1) ≤ b := by
      refine Nat.div_le_of_le_mul ?_
      obtain ⟨b', rfl⟩ : ∃ b', b = b' + 1 := ⟨b - 1, by omega⟩
      have e : (k + 1) * (b' + 1) = k * b' + k + b' + 1 := by
        rw [Nat.add_mul, Nat.mul_add]; omega
      rw [e]
      omega
    omega
theorem sliceOf_num {r : RecL} {n : NameV} {a m : Int} {b : Nat} (h : sliceOf r = some (n, a, b, m)) (size : Nat) : NumOK (n, (⟨a, needP size b, b, m⟩ : SlotV)) ∧ needP size b ≤ 1048576 := by
  unfold sliceOf at h
  split at h
  · split at h
    · rename_i v n' a' b' m' hn
      split at h
      · rename_i hc
        injection h with h
        injection h with h1 h
        injection h with h2 h
        injection h with h3 h4
        subst h1; subst h2; subst h3; subst h4
        simp only [Bool.and_eq_true, decide_eq_true_eq] at hc
        obtain ⟨⟨⟨⟨c1, c2⟩, c3⟩, c4⟩, c5⟩ := hc
        have := needP_le (size := size) (b := b'.toNat) (by omega)
        exact ⟨⟨c1, c2, c4, by show b'.toNat ≤ 1048576; omega, c5.1, c5.2⟩, by omega⟩
      · cases h
    · cases h
  · cases h
theorem Heeded.step {s0 s : StV} {k : Nat} {r : RecL} (h : Heeded s0 s k) (hr : ∃ x, sliceOf r = some x) : Heeded s0 (heedS s r) (k + 1) := by
  obtain ⟨⟨n, a, b, m⟩, hx⟩ := hr
  have hd : s.d = s0.d := by rw [h.eq]
  have hn := sliceOf_num hx s.d.size
  rw [heed_slice hx]
  refine ⟨?_, putS_srt h.srt, fun y hy => ?_, Nat.le_trans (putS_len _) (Nat.succ_le_succ h.len)⟩
  · have := h.eq
    show { s with slices := _ } = { s0 with slices := _ }
    rw [this]
  · rcases mem_putS hy with e | hy
    · subst e; exact hn
    · exact h.num y hy
theorem heeded_all {s0 : StV} : ∀ (rs : List RecL) (s : StV) (k : Nat), Heeded s0 s k → (∀ r ∈ rs, ∃ x, sliceOf r = some x) → Heeded s0 (rs.foldl heedS s) (k + rs.length)
  | [], s, k, h, _ => h
  | r :: rs, s, k, h, hr => by
    have := heeded_all rs (heedS s r) (k + 1) (h.step (hr r List.mem_cons_self)) (fun x hx => hr x (List.mem_cons_of_mem _ hx))
    have e : k + (r :: rs).length = k + 1 + rs.length := by simp only [List.length_cons]; omega
    rw [e]
    exact this
theorem heeded_none (d1 : DskV) (l1 : LogV) (q n : Nat) : Heeded (openS0 d1 l1 q n) (openS0 d1 l1 q n) 0 := ⟨rfl, List.Pairwise.nil, (fun x hx => by cases hx), Nat.le_refl _⟩
theorem OpenGo.heeded {d d1 d2 : DskV} {l1 l2 : LogV} {sl : List (NameV × SlotV)} {mp : MapV} (h : OpenGo d d1 l1 sl mp d2 l2) (k : Nat) :
    Heeded (openS0 d1 l1 (d.lasts.length / 4) d.lasts.length) ((l1.recs.take k).foldl heedS (openS0 d1 l1 (d.lasts.length / 4) d.lasts.length)) (0 + (l1.recs.take k).length) :=
  heeded_all _ _ 0 (heeded_none d1 l1 _ _) fun r hr => h.recs r (List.mem_of_mem_take hr)
/-- one slice looked at -/
theorem claimAll_cons (d : DskV) (n : NameV) (x : SlotV) (l : List (NameV × SlotV)) (m : MapV) (hx : 0 ≤ x.at') (h10 : (tellsS d x).1 ≠ 10) :
    claimAll d ((n, x) :: l) m = if (tellsS d x).1 = 0 ∧ (claimM m x.at'.toNat x.len).1 = 0 then (match claimAll d l (claimM m x.at'.toNat x.len).2 with
      | (e, r, m') => (e, (n, x) :: r, m')) else claimAll d l m := by
  rw [claimAll]
  rcases ht : tellsS d x with ⟨e, b⟩
  rw [ht] at h10
  simp only at h10 ⊢
  cases e with
  | zero =>
    simp only [true_and]
    rw [if_neg (by omega)]
    rcases hc : claimM m x.at'.toNat x.len with ⟨e2, m1⟩
    cases e2 with
    | zero => simp
    | succ e2 => simp
  | succ e =>
    by_cases h9 : e = 9
    · subst h9; exact absurd rfl h10
    · rw [if_neg (by omega)]
      split
      · rename_i h; injection h with h; omega
      · rename_i h; injection h with h; omega
      · rfl
theorem claimM_no {m : MapV} {a l : Nat} (h : (claimM m a l).1 ≠ 0) : (claimM m a l).2 = m := by
  unfold claimM at h ⊢
  split at h
  · rename_i h1; rw [if_pos h1]
  · rename_i h1
    rw [if_neg h1]
    simp only at h ⊢
    split at h
    · rename_i h2; rw [if_pos h2]
    · exact absurd rfl h
def openGoB (d : DskV) : Bool :=
  decide (4 ≤ d.lasts.length / 4) && decide (needP d.size 201 ≠ 0) && decide (needP d.size 201 + needP d.size 0 ≤ d.lasts.length / 4 / 2) && decide (19 ≤ d.size) && fineB d 1000 && decide (d.waits.length ≤ 1000) && (match openL d 0 (d.lasts.length / 4) with
  | (0, d1, l1) => (l1.recs.all fun r => (sliceOf r).isSome) && decide (l1.recs.length ≤ 1000) && fineB d1 1000 && !d1.off && decide (d1.size = d.size) && decide (d1.lasts.length = d.lasts.length) && decide (d1.waits.length ≤ 1000) && decide (l1.size = d1.size) && decide (l1.epoch ≤ 1000) && (match claimAll d1 (openS1 d1 l1 (d.lasts.length / 4) d.lasts.length).slices (openS1 d1 l1 (d.lasts.length / 4) d.lasts.length).map with
    | (0, sl, mp) => (match turnL d1 l1 (recordsS { openS1 d1 l1 (d.lasts.length / 4) d.lasts.length with slices := sl, map := mp }) with
      | (0, _, _) => true
      | _ => false)
    | _ => false)
  | _ => false)
theorem readD_on {d : DskV} (h : d.off = false) (n : Nat) : (readD d n).1 ≠ 10 := by
  unfold readD
  split
  · simp
  · rw [h]
    simp only [Bool.false_eq_true, if_false]
    cases d.told n <;> simp
theorem getGo_on {d : DskV} (h : d.off = false) (a : Nat) : ∀ (k i : Nat) (hd : Sec) (out : List UInt8), (getGo d a k i hd out).1 ≠ 10
  | 0, _, _, _ => by simp [getGo]
  | k + 1, i, hd, out => by
    unfold getGo
    have h1 := readD_on h (a + i)
    rcases hr : readD d (a + i) with ⟨e, s⟩
    rw [hr] at h1
    cases e with
    | succ e => exact h1
    | zero =>
      simp only
      split
      · simp
      · cases hx : secOf s with
        | none => simp
        | some x =>
          simp only
          split
          · simp
          · split
            · simp
            · by_cases hi : i = 0
              · simp only [if_pos hi]
                split
                · simp
                · exact getGo_on h a k _ _ _
              · simp only [if_neg hi]
                split
                · simp
                · exact getGo_on h a k _ _ _
theorem tellsS_on {d : DskV} (h : d.off = false) (x : SlotV) : (tellsS d x).1 ≠ 10 := by
  unfold tellsS
  split
  · simp
  · have h1 : (getP d x.at'.toNat).1 ≠ 10 := by
      unfold getP
      split
      · simp
      · exact getGo_on h _ _ _ _ _
    rcases hg : getP d x.at'.toNat with ⟨e, r⟩
    rw [hg] at h1
    split
    · rename_i h2; injection h2 with h2; exact absurd h2 h1
    · split <;> simp
    · simp
theorem openGo_of {d : DskV} (h : openGoB d = true) : ∃ d1 l1 sl mp d2 l2, OpenGo d d1 l1 sl mp d2 l2 := by
  unfold openGoB at h
  simp only [Bool.and_eq_true, decide_eq_true_eq] at h
  obtain ⟨⟨⟨⟨⟨⟨h1, h2⟩, h3⟩, h4⟩, h5⟩, h6⟩, h7⟩ := h
  split at h7
  · rename_i d1 l1 ho
    simp only [Bool.and_eq_true, decide_eq_true_eq, Bool.not_eq_true'] at h7
    obtain ⟨⟨⟨⟨⟨⟨⟨⟨⟨g1, g2⟩, g3⟩, g4⟩, g5⟩, g6⟩, g7⟩, g8⟩, g9⟩, h7⟩ := h7
    split at h7
    · rename_i sl mp hc
      split at h7
      · rename_i d2 l2 ht
        exact ⟨d1, l1, sl, mp, d2, l2, h1, h2, h3, h4, ⟨1000, by omega, fine_of h5⟩, by omega, ho, fun r hr => Option.isSome_iff_exists.1 (List.all_eq_true.1 g1 r hr), by omega, fun _ => ⟨1000, fine_of g3⟩, fun _ x => tellsS_on g4 x, g5, g6, by omega, g8, by omega, hc, ht⟩
      · cases h7
    · cases h7
  · cases h7
end Go.Proofs.YtmgmfnimaafkdaaGreatDoor
namespace Go.Proofs.YtmgmfnimaafkdaaGreatDoor
set_option maxRecDepth 100000

theorem getL_append {κ α : Type} [DecidableEq κ] (x : κ) : ∀ (a b : List (κ × α)), getL (a ++ b) x = (getL a x).or (getL b x)
  | [], b => by simp [getL_nil]
  | (k, v) :: a, b => by
    rw [List.cons_append, getL_cons, getL_cons, getL_append x a b]
    by_cases h : x = k <;> simp [h]
theorem getL_out {κ α : Type} [DecidableEq κ] {x : κ} {l : List (κ × α)} (h : x ∉ l.map (·.1)) : getL l x = none := by
  cases hg : getL l x with
  | none => rfl
  | some v => exact absurd (getL_some.1 (by rw [hg]; rfl)) h
/-- one key struck out of a list -/
theorem getL_struck {κ α : Type} [DecidableEq κ] {a b : List (κ × α)} {n : κ} {x : α} (hn : ((a ++ (n, x) :: b).map (·.1)).Nodup) (y : κ) : getL (a ++ b) y = if y = n then none else getL (a ++ (n, x) :: b) y := by
  rw [List.map_append, List.map_cons, List.nodup_append] at hn
  obtain ⟨h1, h2, h3⟩ := hn
  rw [List.nodup_cons] at h2
  rw [getL_append, getL_append, getL_cons]
  by_cases e : y = n
  · subst e
    rw [if_pos rfl]
    rw [getL_out (l := a) (fun hh => h3 y hh y List.mem_cons_self rfl), getL_out h2.1]; rfl
  · simp [e]
/-- so far: which slices are kept, which sectors are free -/
structure ClaimR (d1 : DskV) (all : List (NameV × SlotV)) (mp : MapV) (sl : List (NameV × SlotV)) (lo N k : Nat) (kept : List (NameV × SlotV)) (mj : MapV) : Prop where
  sub : kept.Sublist (all.take k)
  inv : MapInv mj lo N
  go : ∃ r, claimAll d1 (all.drop k) mj = (0, r, mp) ∧ sl = kept ++ r
theorem ClaimR.start {d1 : DskV} {all sl : List (NameV × SlotV)} {mp m0 : MapV} {lo N : Nat} (h : claimAll d1 all m0 = (0, sl, mp)) (hi : MapInv m0 lo N) : ClaimR d1 all mp sl lo N 0 [] m0 :=
  ⟨List.nil_sublist _, hi, sl, h, rfl⟩
section
variable {d1 : DskV} {all sl kept : List (NameV × SlotV)} {mp mj : MapV} {lo N k : Nat} {n : NameV} {x : SlotV}
theorem ClaimR.subAll (h : ClaimR d1 all mp sl lo N k kept mj) : (kept ++ all.drop k).Sublist all := by
  have := h.sub.append (List.Sublist.refl (all.drop k))
  rwa [List.take_append_drop] at this
theorem ClaimR.srt (h : ClaimR d1 all mp sl lo N k kept mj) (hs : SrtS all) : SrtS (kept ++ all.drop k) := List.Pairwise.sublist h.subAll hs
theorem ClaimR.num (h : ClaimR d1 all mp sl lo N k kept mj) {P : NameV × SlotV → Prop} (hp : ∀ y ∈ all, P y) : ∀ y ∈ kept ++ all.drop k, P y := fun y hy => hp y (h.subAll.mem hy)
theorem drop_at (hk : k < all.length) (hx : all[k] = (n, x)) : all.drop k = (n, x) :: all.drop (k + 1) := by rw [List.drop_eq_getElem_cons hk, hx]
theorem ClaimR.keep (h : ClaimR d1 all mp sl lo N k kept mj) (hk : k < all.length) (hx : all[k] = (n, x)) (h0 : 0 ≤ x.at') (h10 : (tellsS d1 x).1 ≠ 10) (ht : (tellsS d1 x).1 = 0) (hc : (claimM mj x.at'.toNat x.len).1 = 0) :
    ClaimR d1 all mp sl lo N (k + 1) (kept ++ [(n, x)]) (claimM mj x.at'.toNat x.len).2 := by
  obtain ⟨r, hr, hsl⟩ := h.go
  rw [drop_at hk hx, claimAll_cons d1 n x _ mj h0 h10, if_pos ⟨ht, hc⟩] at hr
  rcases hq : claimAll d1 (all.drop (k + 1)) (claimM mj x.at'.toNat x.len).2 with ⟨e, r', m'⟩
  rw [hq] at hr
  injection hr with h1 hr
  injection hr with h2 h3
  subst h1; subst h3
  refine ⟨?_, claimM_inv h.inv, r', hq, by rw [hsl, ← h2, List.append_assoc]; rfl⟩
  rw [List.take_succ_eq_append_getElem hk, hx]
  exact h.sub.append (List.Sublist.refl _)
theorem ClaimR.skip (h : ClaimR d1 all mp sl lo N k kept mj) (hk : k < all.length) (hx : all[k] = (n, x)) (h0 : 0 ≤ x.at') (h10 : (tellsS d1 x).1 ≠ 10) (hn : ¬ ((tellsS d1 x).1 = 0 ∧ (claimM mj x.at'.toNat x.len).1 = 0)) :
    ClaimR d1 all mp sl lo N (k + 1) kept mj := by
  obtain ⟨r, hr, hsl⟩ := h.go
  rw [drop_at hk hx, claimAll_cons d1 n x _ mj h0 h10, if_neg hn] at hr
  refine ⟨?_, h.inv, r, hr, hsl⟩
  rw [List.take_succ_eq_append_getElem hk]
  exact h.sub.trans (List.sublist_append_left _ _)
theorem ClaimR.ended (h : ClaimR d1 all mp sl lo N k kept mj) (hk : all.length ≤ k) : kept = sl ∧ mj = mp := by
  obtain ⟨r, hr, hsl⟩ := h.go
  rw [List.drop_eq_nil_of_le hk] at hr
  unfold claimAll at hr
  injection hr with _ hr
  injection hr with h1 h2
  subst h1
  exact ⟨by rw [hsl, List.append_nil], h2⟩
end
theorem mapInv_fresh {q n : Nat} (h : q ≤ n) : MapInv ⟨q, n - q, if 0 < n - q then [(q, n - q)] else []⟩ q n := by
  refine ⟨rfl, rfl, h, ?_, ?_⟩
  · split
    · exact ⟨List.pairwise_singleton _ _, fun e he => by rw [List.mem_singleton] at he; subst he; simp only; omega⟩
    · exact ⟨List.Pairwise.nil, fun e he => by cases he⟩
  · intro e he
    split at he
    · rw [List.mem_singleton] at he; subst he; simp only; omega
    · cases he
end Go.Proofs.YtmgmfnimaafkdaaGreatDoor
