/- A store of 128 sectors, whatever is put, noted, dropped, forgotten, whatever bits turn. No program in sight. -/
import Derived.Test.YtmgmfnimaafkdaaGreatDoorXQ
import Derived.Test.YtmgmfnimaafkdaaGreatDoorVV
namespace Go.Proofs.YtmgmfnimaafkdaaGreatDoor
section
set_option maxRecDepth 100000

def needsL (l : LogV) (rs : List RecL) : Nat := (rs.map l.needR).sum
def roomS (s : StV) : Nat := needsL s.log (recordsS s)
structure Room (s : StV) : Prop where
 sec : s.log.begin s.log.use + 1 + roomS s ≤ s.log.at'
 cnt : (recordsS s).length ≤ s.log.recs.length
theorem turnL_room {d : DskV} {l : LogV} {lo : Nat} {keep : List RecL} (h : LogInv d l lo) (hr : ∀ r ∈ keep, r.2.length ≤ 4000) :
  (turnL d l keep = (5, d, l) ∧ (l.half < 1 + needsL l keep ∨ 1000000 < keep.length)) ∨ ∃ d', turnL d l keep = (0, d', { l with use := 1 - l.use, epoch := l.epoch + 1, at' := l.begin (1 - l.use) + 1 + needsL l keep, recs := keep }) := by
 unfold turnL
 have ha : keep.any (fun r => decide (4000 < r.2.length)) = false := by
  rw [List.any_eq_false]
  intro r hr'
  have := hr r hr'
  simp; omega
 have h0 := needP_size0 h
 rw [ha, if_neg (by simp)]
 split
 ·rename_i hf
  rw [h0] at hf
  exact .inl ⟨rfl, hf⟩
 ·rename_i hfit
  have hin : l.frm + 2 * l.half ≤ d.lasts.length := by rw [h.frm]; have := h.half; have := h.lo; omega
  obtain ⟨d', e, L⟩ := turnGo_ok h.s1 h.s2 h.sz h.on hr (by omega) hin
  rw [h0] at e
  exact .inr ⟨d', e⟩
theorem addL_room {d : DskV} {l : LogV} {lo : Nat} {r : RecL} (h : LogInv d l lo) (hr : r.2.length ≤ 4000) :
  addL d l r = (5, d, l) ∨ ∃ d', addL d l r = (0, d', { l with at' := l.at' + l.needR r, recs := l.recs ++ [r] }) := by
 unfold addL
 rw [if_neg (by omega)]
 split
 ·exact .inl rfl
 ·rename_i hfit
  have hb : (recB r).length = 1 + r.2.length := by unfold recB; simp; omega
  have hp : 1 ≤ needP d.size (1 + r.2.length) := needP_pos h.s1 h.s2 (by omega)
  have hbl := h.begin_le l.use h.use
  have hlo := h.lo
  have h1 := h.at1
  have h2 := h.at2
  have hneed : l.needR r = needP d.size (1 + r.2.length) := by unfold LogV.needR; rw [h.sz]
  have hleft : needP d.size (1 + r.2.length) ≤ l.begin l.use + l.half - l.at' := by
   rw [← hneed]
   have : l.left = l.begin l.use + l.half - l.at' := rfl
   omega
  obtain ⟨d', e, L⟩ := putP_ok (d := d) (at' := l.at') (kind := 82) (mark := l.epoch * MARKS + l.recs.length + 1) (b := recB r) h.s1 (by omega) h.on (by rw [hb]; exact hp) (by rw [hb]; omega)
  rw [hb, ← hneed] at e
  rw [e]
  exact .inr ⟨d', rfl⟩
theorem loggedS_room {s was : StV} {r : RecL} {lo : Nat} (h : LogInv s.d s.log lo) (hl : was.log = s.log) (hr : r.2.length ≤ 4000) (hrs : ∀ r ∈ recordsS s, r.2.length ≤ 4000) (hw : Room was)
  (h1 : roomS s ≤ roomS was + s.log.needR r) (h2 : (recordsS s).length ≤ (recordsS was).length + 1) : Room (loggedS s was r).2 := by
 have e1 := hw.sec
 have e2 := hw.cnt
 have e3 : needsL s.log (recordsS was) = roomS was := by rw [← hl]; rfl
 have e4 : roomS s = needsL s.log (recordsS s) := rfl
 rw [hl] at e1 e2
 unfold loggedS
 rcases addL_room h hr with e | ⟨d', e⟩
 ·rw [e]
  simp only
  rcases turnL_room h hrs with ⟨g, _⟩ | ⟨d', g⟩
  ·rw [g]
   refine ⟨?_, e2⟩
   show s.log.begin s.log.use + 1 + needsL s.log (recordsS was) ≤ s.log.at'
   omega
  ·rw [g]
   refine ⟨?_, nR0⟩
   show s.log.begin (1 - s.log.use) + 1 + needsL s.log (recordsS s) ≤ s.log.begin (1 - s.log.use) + 1 + needsL s.log (recordsS s)
   omega
 ·rw [e]
  refine ⟨?_, ?_⟩
  ·show s.log.begin s.log.use + 1 + needsL s.log (recordsS s) ≤ s.log.at' + s.log.needR r
   omega
  ·show (recordsS s).length ≤ (s.log.recs ++ [r]).length
   rw [List.length_append, List.length_singleton]
   omega
theorem loggedS_sure {s was : StV} {r : RecL} {lo : Nat} (h : LogInv s.d s.log lo) (hr : r.2.length ≤ 4000) (hrs : ∀ r ∈ recordsS s, r.2.length ≤ 4000) (hw : s.log.begin s.log.use + 1 + roomS s ≤ s.log.at') (hn : (recordsS s).length ≤ 1000000) :
  (loggedS s was r).1 = 0 := by
 have e4 : roomS s = needsL s.log (recordsS s) := rfl
 have h2 := h.at2
 unfold loggedS
 rcases addL_room h hr with e | ⟨d', e⟩
 ·rw [e]
  simp only
  rcases turnL_room h hrs with ⟨g, hf⟩ | ⟨d', g⟩
  ·omega
  ·rw [g]; rfl
 ·rw [e]; rfl
theorem sum_filter_le {α : Type} (f : α → Nat) (p : α → Bool) : ∀ l : List α, ((l.filter p).map f).sum ≤ (l.map f).sum
 | [] => by simp
 | a :: l => by
  have := sum_filter_le f p l
  rw [List.filter_cons]
  split <;> simp only [List.map_cons, List.sum_cons] <;> omega
theorem sum_putN_le {α : Type} (f : Int × α → Nat) (k : Int) (v : α) : ∀ l : List (Int × α), ((putN k v l).map f).sum ≤ (l.map f).sum + f (k, v)
 | [] => by simp [putN]
 | (a, x) :: l => by
  have := sum_putN_le f k v l
  unfold putN
  split
  ·simp only [List.map_cons, List.sum_cons]; omega
  ·split <;> simp only [List.map_cons, List.sum_cons] <;> omega
theorem sum_putS_le {α : Type} (f : NameV × α → Nat) (k : NameV) (v : α) : ∀ l : List (NameV × α), ((putS k v l).map f).sum ≤ (l.map f).sum + f (k, v)
 | [] => by simp [putS]
 | (a, x) :: l => by
  have := sum_putS_le f k v l
  unfold putS
  split
  ·simp only [List.map_cons, List.sum_cons]; omega
  ·split <;> simp only [List.map_cons, List.sum_cons] <;> omega
theorem needs_append (l : LogV) (a b : List RecL) : needsL l (a ++ b) = needsL l a + needsL l b := by unfold needsL; rw [List.map_append, List.sum_append]
def noteNeed (l : LogV) (n : Int × List UInt8) : Nat := l.needR (78, wordsS [n.1] ++ 32 :: n.2)
def slotNeed (l : LogV) (n : NameV × SlotV) : Nat := l.needR (slotRec n.1 n.2)
def markNeed (l : LogV) (m : List UInt8) : Nat := l.needR (77, m)
theorem roomS_eq (s : StV) : roomS s = (s.notes.map (noteNeed s.log)).sum + (s.slices.map (slotNeed s.log)).sum + (s.marks.map (markNeed s.log)).sum := by
 unfold roomS recordsS
 rw [needs_append, needs_append]
 unfold needsL
 rw [List.map_map, List.map_map, List.map_map]
 rfl
theorem recs_len (s : StV) : (recordsS s).length = s.notes.length + s.slices.length + s.marks.length := by
 unfold recordsS
 simp
 omega
theorem put_room {s : StV} {lo E : Nat} {ts : List (NameV × List UInt8)} (h : StAll s lo E ts) (hE : E + 4 < 549755813888) (hp : s.puts < 1048575) (hw : Room s) (n : NameV) (b : List UInt8) : Room (putStore s n b).2 := by
 by_cases hn : rightB n.1 = false ∨ rightB n.2 = false ∨ b.length < 1 ∨ 1048576 < b.length
 ·rw [putStore_arg hn]; exact hw
 ·have r1 : rightB n.1 = true := by cases hh : rightB n.1 <;> simp_all
  have r2 : rightB n.2 = true := by cases hh : rightB n.2 <;> simp_all
  have b1 : 1 ≤ b.length := by omega
  have b2 : b.length ≤ 1048576 := by omega
  have hep := h.ep
  have hfew := h.few
  cases hg : getL s.slices n with
  | some x => rw [putStore_twice r1 r2 b1 b2 hg]; exact hw
  | none =>
   rcases takeM_ok (c := needP s.d.size b.length) h.map with ⟨e, he, hne⟩ | ⟨a, m', he, hc1, hm', ha1, ha2, _, _⟩
   ·rw [putStore_full r1 r2 b1 b2 hg he hne]; exact hw
   ·obtain ⟨p, mark, e1, p1, p2, hmk⟩ := next_plain (s := { s with map := m' }) hp
    simp only at hmk p2 e1
    obtain ⟨d2, hp2, L⟩ := putP_ok (d := s.d) (at' := a) (kind := 83) (mark := mark) (b := b) h.log.s1 (by decide) h.log.on hc1 ha2
    have hq : putStore s n b = putLS { s with map := m', epoch := s.log.epoch, puts := p } n b a (needP s.d.size b.length) mark d2 := by
     unfold putStore
     rw [if_neg (args_no r1 r2 b1 b2), getS_eq, hg, if_neg (by simp), he]
     simp only
     rw [e1]
     simp only [Int.toNat_natCast]
     rw [hp2]
     rfl
    have hnum : NumOK (n, (⟨a, needP s.d.size b.length, b.length, mark⟩ : SlotV)) := ⟨r1, r2, by simp only; omega, b2, by simp only; omega, by simp only; omega⟩
    rw [hq]
    unfold putLS
    refine loggedS_room (lo := lo) (h.log.like L) rfl (rec_of_num hnum) (recs_ok h.txt h.mks fun x hx => ?_) ⟨hw.sec, hw.cnt⟩ ?_ ?_
    ·rcases mem_putS hx with rfl | hx
     ·exact hnum
     ·exact h.nums x hx
    ·rw [roomS_eq, roomS_eq]
     have := sum_putS_le (slotNeed s.log) n (⟨a, needP s.d.size b.length, b.length, mark⟩ : SlotV) s.slices
     show _ + ((putS n (⟨a, needP s.d.size b.length, b.length, mark⟩ : SlotV) s.slices).map (slotNeed s.log)).sum + _ ≤ _ + slotNeed s.log (n, ⟨a, needP s.d.size b.length, b.length, mark⟩)
     simp only
     omega
    ·rw [recs_len, recs_len]
     have := putS_len (k := n) (v := (⟨a, needP s.d.size b.length, b.length, mark⟩ : SlotV)) s.slices
     simp only
     omega
theorem Room.disk {s : StV} (h : Room s) (d : DskV) : Room { s with d := d } := ⟨h.sec, h.cnt⟩
theorem Room.mapped {s : StV} (h : Room s) (m : MapV) : Room { s with map := m } := ⟨h.sec, h.cnt⟩
theorem note_room {s : StV} {lo E : Nat} {ts : List (NameV × List UInt8)} (h : StAll s lo E ts) (hw : Room s) (v : Int) (t : List UInt8) : Room (noteStore s v t).2 := by
 unfold noteStore
 split
 ·exact hw
 rename_i hc
 have hv : rightB v = true := by cases hh : rightB v <;> simp_all
 have htl : t.length ≤ 3000 := by omega
 have hwl := words1_len hv
 have hr : Room (loggedS { s with notes := putN v t s.notes } s (78, wordsS [v] ++ 32 :: t)).2 := by
  refine loggedS_room (lo := lo) h.log rfl (by simp only [List.length_append, List.length_cons]; omega) (recs_ok (fun x hx => ?_) h.mks h.nums) hw ?_ ?_
  ·rcases mem_putN hx with rfl | hx
   ·exact ⟨hv, htl⟩
   ·exact h.txt x hx
  ·rw [roomS_eq, roomS_eq]
   have := sum_putN_le (noteNeed s.log) v t s.notes
   show ((putN v t s.notes).map (noteNeed s.log)).sum + _ + _ ≤ _ + noteNeed s.log (v, t)
   simp only
   omega
  ·rw [recs_len, recs_len]
   have := putN_len (k := v) (v := t) s.notes
   simp only
   omega
 generalize loggedS { s with notes := putN v t s.notes } s (78, wordsS [v] ++ 32 :: t) = q at *
 obtain ⟨e, s1⟩ := q
 cases e with
 | zero => exact hr.disk _
 | succ e => exact hr
theorem struck_room {s : StV} {lo E : Nat} {ts : List (NameV × List UInt8)} {r : RecL} (h : StAll s lo E ts) (hw : Room s) (p : NameV × SlotV → Bool) (q : Int × List UInt8 → Bool) (hr : r.2.length ≤ 4000) :
  (loggedS { s with notes := s.notes.filter q, slices := s.slices.filter p } s r).1 = 0 ∧ Room (loggedS { s with notes := s.notes.filter q, slices := s.slices.filter p } s r).2 := by
 have hrs : ∀ r ∈ recordsS { s with notes := s.notes.filter q, slices := s.slices.filter p }, r.2.length ≤ 4000 := recs_ok (fun x hx => h.txt x (List.mem_filter.1 hx).1) h.mks (fun x hx => h.nums x (List.mem_filter.1 hx).1)
 have h1 : roomS { s with notes := s.notes.filter q, slices := s.slices.filter p } ≤ roomS s := by
  rw [roomS_eq, roomS_eq]
  have g1 := sum_filter_le (noteNeed s.log) q s.notes
  have g2 := sum_filter_le (slotNeed s.log) p s.slices
  simp only
  omega
 have h2 : (recordsS { s with notes := s.notes.filter q, slices := s.slices.filter p }).length ≤ (recordsS s).length := by
  rw [recs_len, recs_len]
  have g1 := List.length_filter_le q s.notes
  have g2 := List.length_filter_le p s.slices
  simp only
  omega
 have hsec := hw.sec
 have hcnt := hw.cnt
 have hrec := h.recs
 refine ⟨loggedS_sure (lo := lo) h.log hr hrs ?_ (by omega), loggedS_room (lo := lo) h.log rfl hr hrs hw (by omega) (by omega)⟩
 show s.log.begin s.log.use + 1 + roomS { s with notes := s.notes.filter q, slices := s.slices.filter p } ≤ s.log.at'
 omega
theorem filter_yes {α : Type} (l : List α) : l.filter (fun _ => true) = l := List.filter_eq_self.2 fun _ _ => rfl
theorem drop_room {s : StV} {lo E : Nat} {ts : List (NameV × List UInt8)} (h : StAll s lo E ts) (hw : Room s) (n : NameV) : Room (dropStore s n).2 ∧ ((getL s.slices n).isSome = true → (dropStore s n).1 = 0) := by
 unfold dropStore
 rw [getS_eq]
 cases hg : getL s.slices n with
 | none => exact ⟨hw, fun e => by cases e⟩
 | some x =>
  simp only
  obtain ⟨q1, q2⟩ := h.right _ (getL_mem hg)
  have hwl := words2_len q1 q2
  obtain ⟨g1, g2⟩ := struck_room (r := (68, wordsS [n.1, n.2])) h hw (fun y => decide (y.1 ≠ n)) (fun _ => true) (by simp only at hwl ⊢; omega)
  rw [filter_yes] at g1 g2
  generalize loggedS { s with slices := s.slices.filter fun y => decide (y.1 ≠ n) } s (68, wordsS [n.1, n.2]) = q at *
  obtain ⟨e, s1⟩ := q
  simp only at g1 g2
  subst g1
  exact ⟨g2.mapped _, fun _ => rfl⟩
theorem forgetG_room {s : StV} {lo E : Nat} {ts : List (NameV × List UInt8)} (h : StAll s lo E ts) (hw : Room s) (v : Int) (gone : List (NameV × SlotV)) : Room (forgetG s v gone).2 ∧ (goneL s v ≠ [] → (forgetG s v gone).1 = 0) := by
 unfold forgetG
 by_cases hc : getL s.notes v = none ∧ goneL s v = []
 ·rw [if_pos hc]
  exact ⟨hw, fun e => absurd hc.2 e⟩
 rw [if_neg hc]
 have hv : rightB v = true := by
  cases hn : getL s.notes v with
  | some t => exact (h.txt _ (getL_mem hn)).1
  | none =>
   cases hgl : goneL s v with
   | nil => exact absurd ⟨hn, hgl⟩ hc
   | cons y l =>
    have hy : y ∈ goneL s v := by rw [hgl]; exact List.mem_cons_self
    obtain ⟨y1, y2⟩ := List.mem_filter.1 hy
    have := (h.right y y1).1
    rw [of_decide_eq_true y2] at this
    exact this
 have hwl := words1_len hv
 obtain ⟨g1, g2⟩ := struck_room (r := (70, wordsS [v])) h hw (fun y => decide (y.1.1 ≠ v)) (fun y => decide (y.1 ≠ v)) (by simp only at hwl ⊢; omega)
 rw [backed_nil]
 generalize loggedS { s with notes := s.notes.filter (fun y => decide (y.1 ≠ v)), slices := s.slices.filter (fun y => decide (y.1.1 ≠ v)) } s (70, wordsS [v]) = q at *
 obtain ⟨e, s1⟩ := q
 simp only at g1 g2
 subst g1
 exact ⟨g2.mapped _, fun _ => rfl⟩
theorem empty_room {s : StV} {lo E : Nat} {ts : List (NameV × List UInt8)} (h : StAll s lo E ts) (h1 : s.notes = []) (h2 : s.slices = []) (h3 : s.marks = []) : Room s := by
 have := h.log.at1
 refine ⟨?_, ?_⟩
 ·rw [roomS_eq, h1, h2, h3]
  simp only [List.map_nil, List.sum_nil]
  omega
 ·rw [recs_len, h1, h2, h3]
  simp
end
section
set_option maxRecDepth 100000

theorem forgetG_all {s : StV} {lo E : Nat} {ts : List (NameV × List UInt8)} (h : StAll s lo E ts) (hE : E + 2 < 2 ^ 39) (v : Int) (gone : List (NameV × SlotV)) (hg : ∀ y ∈ gone, y ∈ goneL s v) :
  ∃ e s', forgetG s v gone = (e, s') ∧ RunsB (SecOK (E + 2)) 12884967424 s.d s'.d ∧ ((e ≠ 0 ∧ StAll s' lo (E + 2) ts) ∨ (e = 0 ∧ StAll s' lo (E + 2) (ts.filter fun y => decide (y.1.1 ≠ v)))) := by
 unfold forgetG
 by_cases hc : getL s.notes v = none ∧ goneL s v = []
 ·rw [if_pos hc]
  exact ⟨6, s, rfl, RunsB.refl _, .inl ⟨by decide, h.le (by omega)⟩⟩
 rw [if_neg hc]
 have hv : rightB v = true := by
  cases hn : getL s.notes v with
  | some t => exact (h.txt _ (getL_mem hn)).1
  | none =>
   cases hgl : goneL s v with
   | nil => exact absurd ⟨hn, hgl⟩ hc
   | cons y l =>
    have hy : y ∈ goneL s v := by rw [hgl]; exact List.mem_cons_self
    obtain ⟨y1, y2⟩ := List.mem_filter.1 hy
    have := (h.right y y1).1
    rw [of_decide_eq_true y2] at this
    exact this
 have hw := words1_len hv
 obtain ⟨d', l', hres, hr, h1, h2⟩ := struck_all (r := (70, wordsS [v])) h hE (fun y => decide (y.1 ≠ v)) (s.notes.filter fun y => decide (y.1 ≠ v)) (fun x hx => h.txt x ((List.mem_filter.1 hx).1)) (List.Pairwise.filter _ h.srtN) (by simp only at hw ⊢; omega) gone (fun y hy => by
  obtain ⟨y1, y2⟩ := List.mem_filter.1 (hg y hy)
  exact ⟨y1, by simpa using y2⟩)
 rw [backed_nil]
 rcases hres with hres | hres
 ·rw [hres]
  exact ⟨_, _, rfl, (hr.mono fun b hb => hb.le (by omega)).le (by omega), .inr ⟨rfl, h1.le (by omega)⟩⟩
 ·rw [hres]
  exact ⟨_, _, rfl, (hr.mono fun b hb => hb.le (by omega)).le (by omega), .inl ⟨by decide, h2.le (by omega)⟩⟩
theorem logged_frame (t was : StV) (r : RecL) : ((loggedS t was r).2.notes = t.notes ∨ (loggedS t was r).2.notes = was.notes) ∧ ((loggedS t was r).2.marks = t.marks ∨ (loggedS t was r).2.marks = was.marks) ∧ ((loggedS t was r).2.puts = t.puts ∨ (loggedS t was r).2.puts = was.puts) := by
 rw [loggedS_eq]
 rcases addTurn t r with ⟨e, d, l⟩
 cases e with
 | zero => exact ⟨.inl rfl, .inl rfl, .inl rfl⟩
 | succ e => exact ⟨.inr rfl, .inr rfl, .inr rfl⟩
theorem note_frame (s : StV) (v : Int) (t : List UInt8) : (noteStore s v t).2.notes.length ≤ s.notes.length + 1 ∧ (noteStore s v t).2.marks = s.marks ∧ (noteStore s v t).2.puts = s.puts := by
 unfold noteStore
 split
 ·exact ⟨Nat.le_succ _, rfl, rfl⟩
 ·obtain ⟨f1, f2, f3⟩ := logged_frame { s with notes := putN v t s.notes } s (78, wordsS [v] ++ 32 :: t)
  have hp := putN_len (k := v) (v := t) s.notes
  generalize loggedS { s with notes := putN v t s.notes } s (78, wordsS [v] ++ 32 :: t) = q at *
  obtain ⟨e, s1⟩ := q
  have g1 : s1.notes.length ≤ s.notes.length + 1 := by
   rcases f1 with f1 | f1 <;> simp only at f1 <;> rw [f1]
   ·exact hp
   ·omega
  have g2 : s1.marks = s.marks := by rcases f2 with f2 | f2 <;> exact f2
  have g3 : s1.puts = s.puts := by rcases f3 with f3 | f3 <;> exact f3
  cases e with
  | zero => exact ⟨g1, g2, g3⟩
  | succ e => exact ⟨g1, g2, g3⟩
theorem drop_frame (s : StV) (n : NameV) : (dropStore s n).2.notes = s.notes ∧ (dropStore s n).2.marks = s.marks ∧ (dropStore s n).2.puts = s.puts := by
 unfold dropStore
 split
 ·exact ⟨rfl, rfl, rfl⟩
 ·obtain ⟨f1, f2, f3⟩ := logged_frame { s with slices := s.slices.filter fun y => y.1 ≠ n } s (68, wordsS [n.1, n.2])
  generalize loggedS { s with slices := s.slices.filter fun y => y.1 ≠ n } s (68, wordsS [n.1, n.2]) = q at *
  obtain ⟨e, s1⟩ := q
  have g1 : s1.notes = s.notes := by rcases f1 with f1 | f1 <;> exact f1
  have g2 : s1.marks = s.marks := by rcases f2 with f2 | f2 <;> exact f2
  have g3 : s1.puts = s.puts := by rcases f3 with f3 | f3 <;> exact f3
  cases e with
  | zero => exact ⟨g1, g2, g3⟩
  | succ e => exact ⟨g1, g2, g3⟩
theorem forgetG_frame (s : StV) (v : Int) (gone : List (NameV × SlotV)) : (forgetG s v gone).2.notes.length ≤ s.notes.length ∧ (forgetG s v gone).2.marks = s.marks ∧ (forgetG s v gone).2.puts = s.puts := by
 unfold forgetG
 split
 ·exact ⟨nR0, rfl, rfl⟩
 ·obtain ⟨f1, f2, f3⟩ := logged_frame (backed s v []) s (70, wordsS [v])
  generalize loggedS (backed s v []) s (70, wordsS [v]) = q at *
  obtain ⟨e, s1⟩ := q
  have g1 : s1.notes.length ≤ s.notes.length := by
   rcases f1 with f1 | f1 <;> simp only at f1 <;> rw [f1]
   ·exact List.length_filter_le _ _
   ·exact nR0
  have g2 : s1.marks = s.marks := by rcases f2 with f2 | f2 <;> exact f2
  have g3 : s1.puts = s.puts := by rcases f3 with f3 | f3 <;> exact f3
  cases e with
  | zero => exact ⟨g1, g2, g3⟩
  | succ e => exact ⟨g1, g2, g3⟩
def lastOf (puts : List (NameV × List UInt8)) (n : NameV) : List UInt8 := puts.foldl (fun a p => if p.1 = n then p.2 else a) []
theorem lastOf_snoc (puts : List (NameV × List UInt8)) (p : NameV × List UInt8) (n : NameV) : lastOf (puts ++ [p]) n = if p.1 = n then p.2 else lastOf puts n := by unfold lastOf; rw [List.foldl_append]; rfl
structure MadeI (s : StV) (K : Nat) (ts puts : List (NameV × List UInt8)) (T : Nat) : Prop where
 all : StAll s 32 (2 + 2 * K) ts
 pu : s.puts ≤ K
 nt : s.notes.length ≤ K
 mrk : s.marks = []
 few : ts.length ≤ K
 wt : s.d.waits.length ≤ 8589934592 + K * 12884967424
 sz : s.d.size = 64
 ln : s.d.lasts.length = 128
 trn : (turnedL s.d).length ≤ T
 tk : T ≤ K
 pl : puts.length ≤ K
 last : ∀ n t, getL ts n = some t → lastOf puts n = t
 room : Room s
theorem MadeI.waits {s : StV} {K T : Nat} {ts puts : List (NameV × List UInt8)} (h : MadeI s K ts puts T) (hK : K ≤ 60) : s.d.waits.length ≤ 824633720832 := by
 have := h.wt
 omega
theorem MadeI.ok {s : StV} {K T : Nat} {ts puts : List (NameV × List UInt8)} (h : MadeI s K ts puts T) (hK : K ≤ 60) : StOK s :=
 h.all.ok (by omega) (h.waits hK) (by rw [h.all.side.len]; have := h.few; omega) (by have := h.nt; omega) (by rw [h.mrk]; simp)
theorem MadeI.step {s s' : StV} {K T : Nat} {ts ts' puts puts' : List (NameV × List UInt8)} (h : MadeI s K ts puts T) (ha : StAll s' 32 (2 + 2 * K + 2) ts') (hr : RunsB (SecOK (2 + 2 * K + 2)) 12884967424 s.d s'.d) (h1 : s'.puts ≤ K + 1) (h2 : s'.notes.length ≤ K + 1) (h3 : s'.marks = s.marks)
  (h4 : ts'.length ≤ K + 1) (h5 : puts'.length ≤ K + 1) (h6 : ∀ n t, getL ts' n = some t → lastOf puts' n = t) (h7 : Room s') : MadeI s' (K + 1) ts' puts' T := by
 have e2 : 2 + 2 * (K + 1) = 2 + 2 * K + 2 := by omega
 have hl := hr.like
 refine ⟨by rw [e2]; exact ha, h1, h2, h3.trans h.mrk, h4, ?_, ?_, ?_, Nat.le_trans (turned_runs hr) h.trn, Nat.le_succ_of_le h.tk, h5, h6, h7⟩
 ·have := hl.2
  have := h.wt
  omega
 ·rw [hl.1.1]; exact h.sz
 ·rw [hl.1.2.1]; exact h.ln
theorem MadeI.put {s : StV} {K T : Nat} {ts puts : List (NameV × List UInt8)} (h : MadeI s K ts puts T) (hK : K ≤ 60) (n : NameV) (b : List UInt8) :
  ((putStore s n b).1 = 0 ∧ MadeI (putStore s n b).2 (K + 1) (putS n b ts) (puts ++ [(n, b)]) T) ∨ ((putStore s n b).1 ≠ 0 ∧ MadeI (putStore s n b).2 (K + 1) ts puts T) := by
 obtain ⟨f1, f2, f3⟩ := put_frame h.all (by omega) (h.waits hK) (by have := h.pu; omega) n b
 have f4 := put_room h.all (by omega) (by have := h.pu; omega) h.room n b
 obtain ⟨e, s', hq, hr, hres⟩ := putStore_all h.all (by omega) n b
 rw [hq] at f1 f2 f3 f4 ⊢
 simp only at f1 f2 f3 f4 ⊢
 have hpu := h.pu
 have hfew := h.few
 have hpl := h.pl
 have hnt := h.nt
 rcases hres with ⟨he, ha⟩ | ⟨rfl, _, ha⟩
 ·exact .inr ⟨he, h.step ha hr (by omega) (by rw [f1]; omega) f2 (by omega) (by omega) h.last f4⟩
 ·refine .inl ⟨rfl, h.step ha hr (by omega) (by rw [f1]; omega) f2 ?_ (by simp; omega) (fun y t hy => ?_) f4⟩
  ·have := putS_len (k := n) (v := b) ts
   omega
  ·rw [getL_putS] at hy
   rw [lastOf_snoc]
   by_cases e : y = n
   ·subst e
    rw [if_pos rfl] at hy ⊢
    injection hy
   ·rw [if_neg e] at hy
    rw [if_neg (fun g => e g.symm)]
    exact h.last y t hy
theorem MadeI.note {s : StV} {K T : Nat} {ts puts : List (NameV × List UInt8)} (h : MadeI s K ts puts T) (hK : K ≤ 60) (v : Int) (t : List UInt8) : MadeI (noteStore s v t).2 (K + 1) ts puts T := by
 obtain ⟨f1, f2, f3⟩ := note_frame s v t
 have f4 := note_room h.all h.room v t
 obtain ⟨e, s', hq, hr, ha, _⟩ := noteStore_all h.all (by omega) v t
 rw [hq] at f1 f2 f3 f4 ⊢
 simp only at f1 f2 f3 f4 ⊢
 have hpu := h.pu
 have hfew := h.few
 have hpl := h.pl
 have hnt := h.nt
 exact h.step ha hr (by omega) (by omega) f2 (by omega) (by omega) h.last f4
theorem MadeI.fewer {s s' : StV} {K T : Nat} {ts puts : List (NameV × List UInt8)} (h : MadeI s K ts puts T) (p : NameV → Bool) (ha : StAll s' 32 (2 + 2 * K + 2) (ts.filter fun y => p y.1)) (hr : RunsB (SecOK (2 + 2 * K + 2)) 12884967424 s.d s'.d) (h1 : s'.puts = s.puts) (h2 : s'.notes.length ≤ s.notes.length) (h3 : s'.marks = s.marks) (h4 : Room s') : MadeI s' (K + 1) (ts.filter fun y => p y.1) puts T := by
 have hpu := h.pu
 have hfew := h.few
 have hpl := h.pl
 have hnt := h.nt
 have hfl : (ts.filter fun y => p y.1).length ≤ ts.length := List.length_filter_le _ _
 refine h.step ha hr (by omega) (by omega) h3 (by omega) (by omega) (fun n t hn => ?_) h4
 rw [getL_filter p] at hn
 split at hn
 ·exact h.last n t hn
 ·cases hn
theorem MadeI.drop {s : StV} {K T : Nat} {ts puts : List (NameV × List UInt8)} (h : MadeI s K ts puts T) (hK : K ≤ 60) (n : NameV) : ∃ ts', MadeI (dropStore s n).2 (K + 1) ts' puts T ∧ ((getL s.slices n).isSome = true → (dropStore s n).1 = 0 ∧ ts' = ts.filter fun y => decide (y.1 ≠ n)) := by
 obtain ⟨f1, f2, f3⟩ := drop_frame s n
 obtain ⟨f4, f5⟩ := drop_room h.all h.room n
 obtain ⟨e, s', hq, hr, hres⟩ := dropStore_all h.all (by omega) n
 rw [hq] at f1 f2 f3 f4 f5 ⊢
 simp only at f1 f2 f3 f4 f5 ⊢
 have hpu := h.pu
 have hfew := h.few
 have hpl := h.pl
 have hnt := h.nt
 rcases hres with ⟨he, ha⟩ | ⟨he, ha⟩
 ·exact ⟨ts, h.step ha hr (by omega) (by rw [f1]; omega) f2 (by omega) (by omega) h.last f4, fun hs => absurd (f5 hs) he⟩
 ·exact ⟨_, h.fewer (fun y => decide (y ≠ n)) ha hr f3 (by rw [f1]; exact nR0) f2 f4, fun _ => ⟨he, rfl⟩⟩
theorem MadeI.forget {s : StV} {K T : Nat} {ts puts : List (NameV × List UInt8)} (h : MadeI s K ts puts T) (hK : K ≤ 60) (v : Int) (gone : List (NameV × SlotV)) (hg : ∀ y ∈ gone, y ∈ goneL s v) : ∃ ts', MadeI (forgetG s v gone).2 (K + 1) ts' puts T ∧ (goneL s v ≠ [] → (forgetG s v gone).1 = 0 ∧ ts' = ts.filter fun y => decide (y.1.1 ≠ v)) := by
 obtain ⟨f1, f2, f3⟩ := forgetG_frame s v gone
 obtain ⟨f4, f5⟩ := forgetG_room h.all h.room v gone
 obtain ⟨e, s', hq, hr, hres⟩ := forgetG_all h.all (by omega) v gone hg
 rw [hq] at f1 f2 f3 f4 f5 ⊢
 simp only at f1 f2 f3 f4 f5 ⊢
 have hpu := h.pu
 have hfew := h.few
 have hpl := h.pl
 have hnt := h.nt
 rcases hres with ⟨he, ha⟩ | ⟨he, ha⟩
 ·exact ⟨ts, h.step ha hr (by omega) (by omega) f2 (by omega) (by omega) h.last f4, fun hs => absurd (f5 hs) he⟩
 ·exact ⟨_, h.fewer (fun y => decide (y.1 ≠ v)) ha hr f3 f1 f2 f4, fun _ => ⟨he, rfl⟩⟩
theorem MadeI.idle {s : StV} {K T : Nat} {ts puts : List (NameV × List UInt8)} (h : MadeI s K ts puts T) : MadeI s (K + 1) ts puts T :=
 h.step (h.all.le (by omega)) (RunsB.refl _) (Nat.le_succ_of_le h.pu) (Nat.le_succ_of_le h.nt) rfl (Nat.le_succ_of_le h.few) (Nat.le_succ_of_le h.pl) h.last h.room
theorem rotD_cases (d : DskV) (n bit : Nat) : ((rotD d n bit).1 ≠ 0 ∧ (rotD d n bit).2 = d) ∨ ((rotD d n bit).1 = 0 ∧ bit < 8 * d.size) := by
 unfold rotD
 split
 ·exact .inl ⟨by simp, rfl⟩
 ·rename_i hno
  split
  ·exact .inl ⟨by simp, rfl⟩
  ·cases hq : rotSec d.size bit (d.told n) with
   | mk e v =>
    cases e with
    | zero =>
     simp only
     split <;> exact .inr ⟨rfl, by omega⟩
    | succ e => exact .inl ⟨by simp, rfl⟩
theorem setLast_len {n : Nat} {v : SecV} : ∀ {l l' : List (Nat × SecV)}, setLast n v l = some l' → l'.length = l.length
 | [], l', h => by simp [setLast] at h
 | a :: l, l', h => by
  unfold setLast at h
  cases hs : setLast n v l with
  | some l1 =>
   rw [hs] at h
   simp only [Option.some.injEq] at h
   subst h
   simp [setLast_len hs]
  | none =>
   rw [hs] at h
   simp only at h
   split at h
   ·injection h with h
    subst h
    rfl
   ·cases h
theorem rot_waits {d d' : DskV} {n bit : Nat} (h : rotD d n bit = (0, d')) : d'.waits.length = d.waits.length := by
 unfold rotD at h
 split at h
 ·simp at h
 split at h
 ·simp at h
 split at h
 ·split at h
  ·rename_i hs
   injection h with _ h
   subst h
   exact setLast_len hs
  ·injection h with _ h
   subst h
   rfl
 ·rename_i hne
  injection h with h1 h2
  subst h2
  rfl
theorem MadeI.rot {s : StV} {K T : Nat} {ts puts : List (NameV × List UInt8)} (h : MadeI s K ts puts T) (n bit : Nat) :
  ((rotD s.d n bit).1 = 0 ∧ MadeI { s with d := (rotD s.d n bit).2 } (K + 1) ts puts (T + 1)) ∨ ((rotD s.d n bit).1 ≠ 0 ∧ MadeI { s with d := (rotD s.d n bit).2 } (K + 1) ts puts T) := by
 rcases rotD_cases s.d n bit with ⟨h1, h2⟩ | ⟨h1, h2⟩
 ·refine .inr ⟨h1, ?_⟩
  rw [h2]
  exact h.idle
 ·refine .inl ⟨h1, ?_⟩
  obtain ⟨d', hd⟩ : ∃ d', rotD s.d n bit = (0, d') := ⟨(rotD s.d n bit).2, Prod.ext h1 rfl⟩
  rw [hd]
  have ha := rotStore_all h.all hd h2
  obtain ⟨L, _, _⟩ := told_rot hd
  have h5 := turned_rot hd
  have e2 : 2 + 2 * (K + 1) = 2 + 2 * K + 2 := by omega
  have hpu := h.pu
  have hfew := h.few
  have hpl := h.pl
  have hnt := h.nt
  have htk := h.tk
  have htr := h.trn
  have hwt := h.wt
  have hw : d'.waits.length = s.d.waits.length := rot_waits hd
  exact ⟨(ha.le (by omega)), by simp only; omega, by simp only; omega, h.mrk, by omega, by simp only; omega, by simp only; rw [L.1]; exact h.sz, by simp only; rw [L.2.1]; exact h.ln, by simp only; omega, by omega, by omega, h.last, h.room.disk _⟩
end
end Go.Proofs.YtmgmfnimaafkdaaGreatDoor
