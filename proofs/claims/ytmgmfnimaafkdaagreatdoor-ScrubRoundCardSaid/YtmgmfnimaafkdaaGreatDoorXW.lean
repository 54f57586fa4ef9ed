/- What is healed: what is good of versions that are noted stays, nothing else; nothing is bad behind it, or lost. No program in sight. -/
import Derived.Test.YtmgmfnimaafkdaaGreatDoorXB
import Derived.Test.YtmgmfnimaafkdaaGreatDoorXT
import Derived.BigQuiet
namespace Go.Proofs.YtmgmfnimaafkdaaGreatDoor
section
open Go.RowKit Go.Maps
set_option maxRecDepth 100000

theorem names_rd {w : World} {B : Nat} {A : Option Addr} {n : Nat} {l : List NameV} (h : Rd w B 2 A n (nameRows l)) (i : Nat) (hi : i < l.length) (hn : n = l.length) : ∃ b o, A = some ⟨b, o, none⟩ ∧ b < B ∧ w.cell? ⟨b, o + i * 2, none⟩ = some (.int .i64 l[i].1) ∧ w.cell? ⟨b, o + i * 2 + 1, none⟩ = some (.int .i64 l[i].2) := by
 obtain ⟨bb, oo, hA, hbl, hcc⟩ := h.2 (by omega)
 obtain ⟨p1, p2⟩ := pair_cells (fun x : NameV => Value.int .i64 x.1) (fun x => .int .i64 x.2) l i hi
 have l1 : i * 2 < (nameRows l).length := by rw [nameRows_len]; omega
 have l2 : i * 2 + 1 < (nameRows l).length := by rw [nameRows_len]; omega
 refine ⟨bb, oo, hA, hbl, ?_, ?_⟩
 ·rw [hcc _ l1, ← p1]; exact (List.getElem?_eq_getElem l1).symm
 ·rw [Nat.add_assoc, hcc _ l2, ← p2]; exact (List.getElem?_eq_getElem l2).symm
theorem nums_rd {w : World} {B : Nat} {A : Option Addr} {n : Nat} {l : List Int} (h : Rd w B 1 A n (numVs l)) (i : Nat) (hi : i < l.length) (hn : n = l.length) : ∃ b o, A = some ⟨b, o, none⟩ ∧ b < B ∧ w.cell? ⟨b, o + i, none⟩ = some (.int .i64 l[i]) := by
 obtain ⟨bb, oo, hA, hbl, hcc⟩ := h.2 (by omega)
 refine ⟨bb, oo, hA, hbl, ?_⟩
 have := hcc i (by unfold numVs; simpa using hi)
 rw [this]
 simp [numVs]
set_option maxHeartbeats 4000000 in
theorem same_any {w : World} (l : List NameV) (A1 A2 : Option Addr) (c1 c2 : Nat) (h1 : Sl w 105 2 A1 l.length (nameRows l)) (h2 : Sl w 105 2 A2 l.length (nameRows l)) (hl : l.length ≤ 100000) :
  Calls Tryz.prog 47 #[.slice A1 l.length c1, .slice A2 l.length c2] w fun e w' => e = .returned (.bool true) ∧ Below w.heap.size w w' := by
 have H1 := hZ9 h1
 have H2 := hZ9 h2
 have HB0 : Hid (Below w.heap.size w w) := bR0
 clear h1 h2
 go_enter Tryz.func47, Tryz.ntmps47
 go_wp2_with fail
 go_loopw [13] (fun i wr => ∃ j : Nat, j ≤ l.length ∧ i = .int .i64 (j : Nat) ∧ Below w.heap.size w wr) (fun i _ => l.length - (intOf i).toNat)
 case atStart => exact ⟨0, Nat.zero_le _, rfl, HB0.out⟩
 case round =>
  obtain ⟨j, hj, rfl, hb⟩ := hrel
  have HB := hZ9 hb
  clear hb HB0
  by_cases hlt : j < l.length
  ·obtain ⟨b1, o1, rfl, hl1, q0, q1⟩ := names_rd (H1.out.below HB.out).1 j hlt rfl
   obtain ⟨b2, o2, rfl, hl2, q2, q3⟩ := names_rd (H2.out.below HB.out).1 j hlt rfl
   generalize l[j] = x at *
   obtain ⟨n1, n2⟩ := x
   simp only at q0 q1 q2 q3
   have j1 : (j : Int) < (l.length : Int) := by omega
   have j2 : (0 : Int) ≤ (j : Int) := by omega
   go_upto_region 6 with fail
   go_quiet (fail)
   generalize hw1 : World.drewN wr _ = w1
   have HB1 : Hid (Below w.heap.size w w1) := by rw [← hw1]; exact bl_drewN HB.out _
   clear hw1 q0 q1 q2 q3 hl1 hl2
   go_wp2_with fail
   go_roundw
   case rel => exact ⟨j + 1, by omega, by go_num, HB1.out⟩
   case measure => simp [intOf]; omega
  ·obtain rfl : j = l.length := by omega
   go_wp2_with fail
   go_ret
   exact ⟨rfl, HB.out⟩
set_option maxHeartbeats 4000000 in
theorem numbersSame_any {w : World} (l : List Int) (A1 A2 : Option Addr) (c1 c2 : Nat) (h1 : Sl w 2 1 A1 l.length (numVs l)) (h2 : Sl w 2 1 A2 l.length (numVs l)) (hl : l.length ≤ 100000) :
  Calls Tryz.prog 49 #[.slice A1 l.length c1, .slice A2 l.length c2] w fun e w' => e = .returned (.bool true) ∧ Below w.heap.size w w' := by
 have H1 := hZ9 h1
 have H2 := hZ9 h2
 have HB0 : Hid (Below w.heap.size w w) := bR0
 clear h1 h2
 go_enter Tryz.func49, Tryz.ntmps49
 go_wp2_with fail
 go_loopw [13] (fun i wr => ∃ j : Nat, j ≤ l.length ∧ i = .int .i64 (j : Nat) ∧ Below w.heap.size w wr) (fun i _ => l.length - (intOf i).toNat)
 case atStart => exact ⟨0, Nat.zero_le _, rfl, HB0.out⟩
 case round =>
  obtain ⟨j, hj, rfl, hb⟩ := hrel
  have HB := hZ9 hb
  clear hb HB0
  by_cases hlt : j < l.length
  ·obtain ⟨b1, o1, rfl, hl1, q0⟩ := nums_rd (H1.out.below HB.out).1 j hlt rfl
   obtain ⟨b2, o2, rfl, hl2, q2⟩ := nums_rd (H2.out.below HB.out).1 j hlt rfl
   generalize l[j] = x at *
   have j1 : (j : Int) < (l.length : Int) := by omega
   have j2 : (0 : Int) ≤ (j : Int) := by omega
   go_upto_region 6 with fail
   go_quiet (fail)
   generalize hw1 : World.drewN wr _ = w1
   have HB1 : Hid (Below w.heap.size w w1) := by rw [← hw1]; exact bl_drewN HB.out _
   clear hw1 q0 q2 hl1 hl2
   go_wp2_with fail
   go_roundw
   case rel => exact ⟨j + 1, by omega, by go_num, HB1.out⟩
   case measure => simp [intOf]; omega
  ·obtain rfl : j = l.length := by omega
   go_wp2_with fail
   go_ret
   exact ⟨rfl, HB.out⟩
set_option maxHeartbeats 4000000 in
theorem storeText_any {w : World} {base Sb : Nat} {s : StV} {m : StM} (h : StR w base Sb s m) (v : Int) (hv : wfI v) :
  Calls Tryz.prog 33 #[.pointer (some ⟨Sb, 0, none⟩), .int .i64 v] w fun e w' => e = .returned (.tuple #[strV ((getL s.notes v).getD []), .bool (getL s.notes v).isSome]) ∧ w = w' := by
 have hlk := h.nmap.look_ok (x := v) hv
 have c4 : w.cell? ⟨Sb, 4, none⟩ = some (.map (some m.Nb)) := h.blk.cell 4
 have sl := h.blk.lt
 have e1 : (Instr.lookup 124 (.map (some m.Nb)) (.int .i64 v) true).run Tryz.prog w = .ok (.tuple #[strV ((getL s.notes v).getD []), .bool (getL s.notes v).isSome]) w := hlk
 generalize strV ((getL s.notes v).getD []) = tv at *
 generalize (getL s.notes v).isSome = tb at *
 clear h hlk
 go_enter Tryz.func33, Tryz.ntmps33
 go_wp2_with fail
 go_ret2
 exact ⟨rfl, rfl⟩
end
section
set_option maxRecDepth 100000

theorem readD_kept {d d' : DskV} {lo n : Nat} (h : KeptFrom lo d d') (hn : lo ≤ n) : readD d' n = readD d n := by
 unfold readD
 rw [h.1.2.1, h.1.2.2, h.1.1]
 by_cases hl : d.lasts.length ≤ n
 ·rw [if_pos hl, if_pos hl]
 ·rw [if_neg hl, if_neg hl, h.2 n hn (by omega)]
theorem getGo_kept {d d' : DskV} {lo a : Nat} (h : KeptFrom lo d d') (ha : lo ≤ a) : ∀ (k i : Nat) (hd : Sec) (out : List UInt8), getGo d' a k i hd out = getGo d a k i hd out
 | 0, _, _, _ => rfl
 | k + 1, i, hd, out => by
  unfold getGo
  rw [readD_kept h (show lo ≤ a + i by omega)]
  simp only [getGo_kept h ha k]
theorem getP_kept {d d' : DskV} {lo a : Nat} (h : KeptFrom lo d d') (ha : lo ≤ a) : getP d' a = getP d a := by
 unfold getP
 rw [h.1.2.1, getGo_kept h ha]
theorem tellsS_kept {d d' : DskV} {lo : Nat} {x : SlotV} (h : KeptFrom lo d d') (ha : (lo : Int) ≤ x.at') : tellsS d' x = tellsS d x := by
 unfold tellsS
 by_cases hx : x.at' < 0
 ·rw [if_pos hx, if_pos hx]
 ·rw [if_neg hx, if_neg hx, getP_kept h (show lo ≤ x.at'.toNat by omega)]
theorem StAll.from {s : StV} {lo E : Nat} {ts : List (NameV × List UInt8)} (h : StAll s lo E ts) {x : NameV × SlotV} (hx : x ∈ s.slices) : (lo : Int) ≤ x.2.at' := by
 obtain ⟨y, hy, e, ⟨a, mark, h1, h2, h3, h4, h5⟩, h6, h7⟩ := h.side.mem x hx
 rw [h1]
 simp only
 omega
theorem drop_kept {s : StV} {lo E : Nat} {ts : List (NameV × List UInt8)} (h : StAll s lo E ts) (n : NameV) (hn : (dropStore s n).1 = 0) :
  KeptFrom lo s.d (dropStore s n).2.d ∧ (dropStore s n).2.slices = s.slices.filter (fun y => decide (y.1 ≠ n)) ∧ (dropStore s n).2.notes = s.notes := by
 unfold dropStore at hn ⊢
 rw [getS_eq] at hn ⊢
 cases hg : getL s.slices n with
 | none => rw [hg] at hn; exact absurd hn (by simp)
 | some x =>
  rw [hg] at hn
  simp only at hn ⊢
  obtain ⟨q1, q2⟩ := h.right _ (getL_mem hg)
  have hwl := words2_len q1 q2
  obtain ⟨d', l', _, hk, _, hres⟩ := loggedS_inv (s := { s with slices := s.slices.filter fun y => decide (y.1 ≠ n) }) (was := s) (r := (68, wordsS [n.1, n.2])) (lo := lo) h.log (by simp only at hwl ⊢; omega) (recs_ok h.txt h.mks fun x hx => h.nums x (List.mem_filter.1 hx).1)
  rcases hres with e | e
  ·rw [e]
   exact ⟨hk, rfl, rfl⟩
  ·rw [e] at hn
   exact absurd hn (by simp)
theorem forget_kept {s : StV} {lo E : Nat} {ts : List (NameV × List UInt8)} (h : StAll s lo E ts) (v : Int) (gone : List (NameV × SlotV)) (hn : (forgetG s v gone).1 = 0) :
  KeptFrom lo s.d (forgetG s v gone).2.d ∧ (forgetG s v gone).2.slices = s.slices.filter (fun y => decide (y.1.1 ≠ v)) ∧ (forgetG s v gone).2.notes = s.notes.filter (fun y => decide (y.1 ≠ v)) := by
 unfold forgetG at hn ⊢
 by_cases hc : getL s.notes v = none ∧ goneL s v = []
 ·rw [if_pos hc] at hn
  exact absurd hn (by simp)
 rw [if_neg hc] at hn ⊢
 have hv : rightB v = true := by
  cases hn : getL s.notes v with
  | some t => exact (h.txt _ (getL_mem hn)).1
  | none =>
   cases hgl : goneL s v with
   | nil => exact absurd ⟨hn, hgl⟩ hc
   | cons y l =>
    have hy : y ∈ goneL s v := by rw [hgl]; exact List.mem_cons_self
    obtain ⟨y1, y2⟩ := List.mem_filter.1 hy
    have := (h.right y y1).1
    rw [of_decide_eq_true y2] at this
    exact this
 have hwl := words1_len hv
 rw [backed_nil] at hn ⊢
 obtain ⟨d', l', _, hk, _, hres⟩ := loggedS_inv (s := { s with notes := s.notes.filter (fun y => decide (y.1 ≠ v)), slices := s.slices.filter (fun y => decide (y.1.1 ≠ v)) }) (was := s) (r := (70, wordsS [v])) (lo := lo) h.log (by simp only at hwl ⊢; omega)
  (recs_ok (fun x hx => h.txt x (List.mem_filter.1 hx).1) h.mks fun x hx => h.nums x (List.mem_filter.1 hx).1)
 rcases hres with e | e
 ·rw [e]
  exact ⟨hk, rfl, rfl⟩
 ·rw [e] at hn
  exact absurd hn (by simp)
structure Less (s0 s : StV) (p : NameV → Bool) (q : Int → Bool) : Prop where
 kept : KeptFrom 32 s0.d s.d
 sl : s.slices = s0.slices.filter fun y => p y.1
 nt : s.notes = s0.notes.filter fun y => q y.1
theorem Less.refl (s : StV) : Less s s (fun _ => true) (fun _ => true) := ⟨KeptFrom.refl _ _, (List.filter_eq_self.2 fun _ _ => rfl).symm, (List.filter_eq_self.2 fun _ _ => rfl).symm⟩
theorem Less.drop {s0 s : StV} {p : NameV → Bool} {q : Int → Bool} {E : Nat} {ts : List (NameV × List UInt8)} (h : Less s0 s p q) (ha : StAll s 32 E ts) (n : NameV) (hn : (dropStore s n).1 = 0) : Less s0 (dropStore s n).2 (fun y => p y && decide (y ≠ n)) q := by
 obtain ⟨h1, h2, h3⟩ := drop_kept ha n hn
 refine ⟨h.kept.trans h1, ?_, h3.trans h.nt⟩
 rw [h2, h.sl, List.filter_filter]
 congr 1
 funext y
 rw [Bool.and_comm]
theorem Less.forget {s0 s : StV} {p : NameV → Bool} {q : Int → Bool} {E : Nat} {ts : List (NameV × List UInt8)} (h : Less s0 s p q) (ha : StAll s 32 E ts) (v : Int) (gone : List (NameV × SlotV)) (hn : (forgetG s v gone).1 = 0) : Less s0 (forgetG s v gone).2 (fun y => p y && decide (y.1 ≠ v)) (fun u => q u && decide (u ≠ v)) := by
 obtain ⟨h1, h2, h3⟩ := forget_kept ha v gone hn
 refine ⟨h.kept.trans h1, ?_, ?_⟩
 ·rw [h2, h.sl, List.filter_filter]
  congr 1
  funext y
  rw [Bool.and_comm]
 ·rw [h3, h.nt, List.filter_filter]
  congr 1
  funext y
  rw [Bool.and_comm]
theorem Less.congr {s0 s : StV} {p p' : NameV → Bool} {q q' : Int → Bool} (h : Less s0 s p q) (hp : ∀ n, p n = p' n) (hq : ∀ v, q v = q' v) : Less s0 s p' q' := by
 obtain rfl : p = p' := funext hp
 obtain rfl : q = q' := funext hq
 exact h
theorem map_filter_fst {α β : Type} (p : α → Bool) (l : List (α × β)) : (l.filter fun y => p y.1).map (·.1) = (l.map (·.1)).filter p := by
 induction l with
 | nil => rfl
 | cons a l ih =>
  simp only [List.filter_cons, List.map_cons]
  split <;> simp [ih]
theorem Less.names {s0 s : StV} {p : NameV → Bool} {q : Int → Bool} (h : Less s0 s p q) : namesL s = (namesL s0).filter p := by
 unfold namesL
 rw [h.sl]
 exact map_filter_fst p s0.slices
theorem Less.notes {s0 s : StV} {p : NameV → Bool} {q : Int → Bool} (h : Less s0 s p q) : notesL s = (notesL s0).filter q := by
 unfold notesL
 rw [h.nt]
 exact map_filter_fst q s0.notes
theorem Less.good {s0 s : StV} {p : NameV → Bool} {q : Int → Bool} {E : Nat} {ts : List (NameV × List UInt8)} (h : Less s0 s p q) (ha : StAll s0 32 E ts) {n : NameV} (hn : n ∈ namesL s0) (hp : p n = true) : goodN s n = goodN s0 n := by
 obtain ⟨y, hy, rfl⟩ := List.mem_map.1 hn
 have hg : getL s0.slices y.1 = some y.2 := getL_in ha.srtS.nodup hy
 have hg2 : getL s.slices y.1 = some y.2 := by rw [h.sl, getL_filter p, if_pos hp, hg]
 unfold goodN
 rw [hg, hg2]
 simp only [Option.getD_some]
 have e := tellsS_kept h.kept (ha.from hy)
 simp only [e]
def healP (s : StV) (n : NameV) : Bool := !decide (n ∈ badNs s ∧ n.1 ∉ lostVs s) && !decide (n.1 ∈ lostVs s)
def healQ (s : StV) (v : Int) : Bool := !decide (v ∈ lostVs s)
def wantL (s : StV) : List NameV := (goodL s).filter fun n => !decide (n.1 ∈ lostVs s)
theorem Less.healed {s0 s : StV} {E : Nat} {ts : List (NameV × List UInt8)} (h : Less s0 s (healP s0) (healQ s0)) (ha : StAll s0 32 E ts) (hs : SrtS s.slices) : goodL s = wantL s0 ∧ badNs s = [] ∧ lostVs s = [] := by
 have hb : ∀ n, n ∈ badNs s0 ↔ n ∈ namesL s0 ∧ goodN s0 n = false := fun n => by unfold badNs; rw [List.mem_filter]; simp
 refine ⟨?_, ?_, ?_⟩
 ·unfold goodL wantL
  rw [h.names, List.filter_filter]
  unfold goodL
  rw [List.filter_filter]
  refine List.filter_congr fun n hn => ?_
  by_cases hp : healP s0 n = true
  ·rw [h.good ha hn hp, hp]
   unfold healP at hp
   rw [Bool.and_eq_true] at hp
   rw [hp.2]
   simp
  ·have hp' : healP s0 n = false := by simpa using hp
   rw [hp', Bool.and_false]
   by_cases hl : n.1 ∈ lostVs s0
   ·simp [hl]
   ·have : n ∈ badNs s0 := by
     apply Decidable.byContradiction
     intro hnb
     unfold healP at hp'
     simp [hl, hnb] at hp'
    rw [((hb n).1 this).2]
    simp
 ·unfold badNs
  rw [h.names, List.filter_filter]
  rw [List.filter_eq_nil_iff]
  intro n hn hc
  rw [Bool.and_eq_true] at hc
  obtain ⟨h1, h2⟩ := hc
  rw [h.good ha hn h2] at h1
  have hbad : n ∈ badNs s0 := (hb n).2 ⟨hn, by simpa using h1⟩
  unfold healP at h2
  simp only [Bool.and_eq_true, Bool.not_eq_true', decide_eq_false_iff_not] at h2
  exact h2.1 ⟨hbad, h2.2⟩
 ·unfold lostVs
  rw [List.filter_eq_nil_iff]
  intro v hv hc
  obtain ⟨n, hn, rfl⟩ := ((versL_ok (namesL s) (List.pairwise_map.2 hs)).2.2 v).1 hv
  rw [h.names, List.mem_filter] at hn
  have h2 := hn.2
  unfold healP at h2
  simp only [Bool.and_eq_true, Bool.not_eq_true', decide_eq_false_iff_not] at h2
  have hvers : n.1 ∈ versL (namesL s0) := ((versL_ok (namesL s0) (List.pairwise_map.2 ha.srtS)).2.2 n.1).2 ⟨n, hn.1, rfl⟩
  have hnote : n.1 ∈ notesL s0 := by
   apply Decidable.byContradiction
   intro hno
   exact h2.2 (List.mem_filter.2 ⟨hvers, by simpa using hno⟩)
  have : n.1 ∈ notesL s := by
   rw [h.notes, List.mem_filter]
   exact ⟨hnote, by unfold healQ; simpa using h2.2⟩
  simp [this] at hc
end
end Go.Proofs.YtmgmfnimaafkdaaGreatDoor
