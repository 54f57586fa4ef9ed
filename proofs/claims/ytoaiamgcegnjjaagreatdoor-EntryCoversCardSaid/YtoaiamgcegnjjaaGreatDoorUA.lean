/- fresh.State, cmp.Compare and cmp.Or of two, purge.Log.Last. No condition. -/
import Derived.Test.YtoaiamgcegnjjaaGreatDoorMF
namespace Go.Proofs.YtoaiamgcegnjjaaGreatDoor
open Go.RowKit Go.Maps Go.WideMaps Go.Sort
set_option maxRecDepth 100000

/-- how a version may be told -/
def stateOf (fr wh er said now : Int) : Int :=
  if ageOf said now < tickOf fr then 1 else if ageOf said now < tickOf fr + tickOf wh then 2 else if ageOf said now < tickOf fr + tickOf er then 3 else 4

theorem ageOf_bd (s n : Int) : 0 ≤ ageOf s n ∧ ageOf s n ≤ 1099511627776 := by
  have h1 := tickOf_bd n
  have h2 := tickOf_bd s
  unfold ageOf
  omega

theorem state_any (t : ByteArray) (wk : Bool) (mo le ha fr wh er : Int) (A : Option Addr) (n c : Nat) (ten : ByteArray) (kp : Bool) (said now : Int) (w : World) :
    Calls Tryz.prog 73 #[.agg (metaC t wk mo le ha fr wh er A n c ten kp), .int .i64 said, .int .i64 now] w fun e w' => e = .returned (.int .i64 (stateOf fr wh er said now)) ∧ Below w.heap.size w w' := by
  have hb0 : Below w.heap.size w (w.alloc (.cells (metaC t wk mo le ha fr wh er A n c ten kp) 39)) := (Below.refl _ _).alloc (Nat.le_refl _) _
  have HB := Lib.hid hb0
  have b0 := ageOf_bd said now
  have b1 := tickOf_bd fr
  have b2 := tickOf_bd wh
  have b3 := tickOf_bd er
  clear hb0
  have E1 : Hid (ageOf said now < tickOf fr → stateOf fr wh er said now = 1) := fun h => by unfold stateOf; rw [if_pos h]
  have E2 : Hid (¬ ageOf said now < tickOf fr → ageOf said now < tickOf fr + tickOf wh → stateOf fr wh er said now = 2) := fun h h2 => by unfold stateOf; rw [if_neg h, if_pos h2]
  have E3 : Hid (¬ ageOf said now < tickOf fr → ¬ ageOf said now < tickOf fr + tickOf wh → ageOf said now < tickOf fr + tickOf er → stateOf fr wh er said now = 3) := fun h h2 h3 => by unfold stateOf; rw [if_neg h, if_neg h2, if_pos h3]
  have E4 : Hid (¬ ageOf said now < tickOf fr → ¬ ageOf said now < tickOf fr + tickOf wh → ¬ ageOf said now < tickOf fr + tickOf er → stateOf fr wh er said now = 4) := fun h h2 h3 => by unfold stateOf; rw [if_neg h, if_neg h2, if_neg h3]
  go_enter Tryz.func73, Tryz.ntmps73
  go_wp2_with (first
    | (go_at_call 130; refine (age_any _ _ _).mono ?_; rintro e w' ⟨rfl, rfl⟩)
    | (go_at_call 72; refine (tick_any _ _).mono ?_; rintro e w' ⟨rfl, rfl⟩))
  all_goals
    go_ret
    refine ⟨?_, HB.out⟩
  all_goals first
    | exact ret_int (E1.out (by omega)).symm
    | exact ret_int (E2.out (by omega) (by omega)).symm
    | exact ret_int (E3.out (by omega) (by omega) (by omega)).symm
    | exact ret_int (E4.out (by omega) (by omega) (by omega)).symm

def cmpI (a b : Int) : Int := if a < b then -1 else if b < a then 1 else 0
theorem nan_any (a : Int) (w : World) : Calls Tryz.prog 111 #[.int .i64 a] w fun e w' => e = .returned (.bool false) ∧ w = w' := by
  go_enter Tryz.func111, Tryz.ntmps111
  go_wp2
  go_ret
  exact ⟨rfl, rfl⟩
theorem compare_any (a b : Int) (w : World) : Calls Tryz.prog 49 #[.int .i64 a, .int .i64 b] w fun e w' => e = .returned (.int .i64 (cmpI a b)) ∧ w = w' := by
  go_enter Tryz.func49, Tryz.ntmps49
  go_wp2_with (go_at_call 111; refine (nan_any _ _).mono ?_; rintro e w' ⟨rfl, rfl⟩)
  all_goals
    go_ret
    exact ⟨ret_int (by unfold cmpI; (repeat' split) <;> omega), rfl⟩

/-- a purge -/
structure LineS where
  no : Int
  keys : List ByteArray
  hard : Bool
structure LineM where
  l : LineS
  A : Option Addr
  n : Nat
  c : Nat
abbrev LineM.cs (r : LineM) : Array Value := #[.int .i64 r.l.no, .slice r.A r.n r.c, .bool r.l.hard]
def LineM.cells (r : LineM) : List Value := r.cs.toList
theorem LineM.cells_len (r : LineM) : r.cells.length = 3 := rfl
structure LogAt (w : World) (B lb : Nat) (fl : Int) (ms : List LineM) : Prop where
  lt : lb < B
  blk : ∃ A n c, n ≤ 1000 ∧ Blk w lb 201 #[.int .i64 fl, .slice A n c] ∧ Rd w B 3 A n (ms.flatMap LineM.cells)
  keys : ∀ r ∈ ms, r.n ≤ 1000 ∧ Strs w B r.A r.n r.l.keys
theorem LogAt.below {w w' : World} {B lb : Nat} {fl : Int} {ms : List LineM} (h : LogAt w B lb fl ms) (hb : Below B w w') : LogAt w' B lb fl ms := by
  obtain ⟨A, n, c, hn, hk, hr⟩ := h.blk
  exact ⟨h.lt, ⟨A, n, c, hn, hk.below hb h.lt, hr.below hb (Nat.le_refl _)⟩, fun r hr => ⟨(h.keys r hr).1, (h.keys r hr).2.below hb (Nat.le_refl _)⟩⟩

/-- is a purge meant? -/
def meantS (keys : List ByteArray) (hard : Bool) (l : LineS) : Bool := !(hard && !l.hard) && l.keys.any (inB keys)
def scanS (b up : Int) (p : LineS → Bool) : List LineS → Option Int
  | [] => none
  | l :: r => if l.no ≤ b then none else if l.no ≤ up ∧ p l = true then some l.no else scanS b up p r
def endP (b up fl : Int) : Option Int → Int
  | some n => n
  | none => if b < min up fl then min up fl else 0
def lastP (fl : Int) (ls : List LineS) (keys : List ByteArray) (behind up : Int) (hard : Bool) : Int :=
  endP (max behind 0) up fl (scanS (max behind 0) up (meantS keys hard) ls.reverse)

theorem hmf (fn : Fn) (first cap : Array Value) (w : World) : (Instr.makeFunc fn first cap).run Tryz.prog w = .ok (.func fn first cap) w := rfl

theorem inKeys_any (s : ByteArray) (kb : Nat) (KA : Option Addr) (kn kc : Nat) (keys : List ByteArray) (B : Nat) (w : World) (hk : Blk w kb 37 #[.slice KA kn kc]) (hs : Strs w B KA kn keys) (hn : kn ≤ 9223372036854775807) :
    Calls Tryz.prog 180 #[.string s, .pointer (some ⟨kb, 0, none⟩)] w fun e w' => e = .returned (.bool (inB keys s)) ∧ w = w' := by
  have HS := Lib.hid hs
  have c0 : w.cell? ⟨kb, 0, none⟩ = some (.slice KA kn kc) := (hk.cell 0).trans rfl
  clear hs hk
  go_enter Tryz.func180, Tryz.ntmps180
  go_wp2_with (go_at_call 138; refine (slicesContains_any KA kn kc keys s B _ HS.out hn).mono ?_; rintro e w' ⟨rfl, rfl⟩)
  go_ret
  exact ⟨rfl, rfl⟩

theorem indexFunc_any (A : Option Addr) (n c : Nat) (ks : List ByteArray) (kb : Nat) (KA : Option Addr) (kn kc : Nat) (keys : List ByteArray) (B : Nat) (w : World) (hr : Strs w B A n ks) (hn : n ≤ 9223372036854775807) (hk : Blk w kb 37 #[.slice KA kn kc]) (hs : Strs w B KA kn keys) (hkn : kn ≤ 9223372036854775807) :
    Calls Tryz.prog 216 #[.slice A n c, .func (.func 180) #[] #[.pointer (some ⟨kb, 0, none⟩)]] w fun e w' => (∃ i : Int, e = .returned (.int .i64 i) ∧ (decide (0 ≤ i) = ks.any (inB keys))) ∧ w = w' := by
  have hl := hr.len
  have CK : Hid (∀ s, Calls Tryz.prog 180 #[.string s, .pointer (some ⟨kb, 0, none⟩)] w fun e w' => e = .returned (.bool (inB keys s)) ∧ w = w') := fun s => inKeys_any s kb KA kn kc keys B w hk hs hkn
  clear hk hs
  by_cases h0 : n = 0
  · subst h0
    have : ks = [] := List.eq_nil_of_length_eq_zero hl
    subst this
    clear hr hl
    go_enter Tryz.func216, Tryz.ntmps216
    go_wp2
    go_loop [8] (fun i => i = .int .i64 0) (fun _ => 0)
    case atStart => rfl
    case round =>
      subst hrel
      go_wp2
      go_ret
      exact ⟨⟨_, rfl, by simp⟩, rfl⟩
  obtain ⟨b, o, rfl, _, hc⟩ := hr.at_ (by omega)
  have HC := Lib.hid hc
  have HL := Lib.hid hl
  clear hc hr hl
  go_enter Tryz.func216, Tryz.ntmps216
  go_wp2
  go_loop [8] (fun i => ∃ k : Nat, k ≤ n ∧ i = .int .i64 k ∧ (ks.take k).any (inB keys) = false) (fun i => n - (intOf i).toNat)
  case atStart => exact ⟨0, Nat.zero_le _, rfl, by simp⟩
  case round =>
    obtain ⟨k, hk, rfl, hin⟩ := hrel
    have HI := Lib.hid hin
    clear hin
    by_cases hlt : k < n
    · have hk' : k < ks.length := by have := HL.out; omega
      have hcell := HC.out k hk'
      have hsn : ks.take (k + 1) = ks.take k ++ [ks[k]] := by rw [List.take_succ_eq_append_getElem hk']
      have HSN := Lib.hid hsn
      have HM := Lib.hid (List.getElem_mem hk')
      clear hsn
      generalize ks[k] = s at *
      cases he : inB keys s with
      | true =>
        have HE := Lib.hid he
        clear he
        go_wp2_with (go_at_call 180; refine (CK.out s).mono ?_; rintro e w' ⟨rfl, rfl⟩; rw [HE.out])
        go_ret
        refine ⟨⟨k, rfl, ?_⟩, rfl⟩
        rw [(List.any_eq_true.2 ⟨s, HM.out, HE.out⟩ : ks.any (inB keys) = true)]
        simp
      | false =>
        have HE := Lib.hid he
        clear he
        go_wp2_with (go_at_call 180; refine (CK.out s).mono ?_; rintro e w' ⟨rfl, rfl⟩; rw [HE.out])
        refine ⟨⟨k + 1, by omega, by go_num, ?_⟩, by simp [intOf]; omega⟩
        rw [HSN.out, List.any_append, HI.out]
        simp [HE.out]
    · go_wp2
      go_ret
      refine ⟨⟨_, rfl, ?_⟩, rfl⟩
      have := HI.out
      rw [List.take_of_length_le (by have := HL.out; omega)] at this
      rw [this]; rfl

theorem containsFunc_any (A : Option Addr) (n c : Nat) (ks : List ByteArray) (kb : Nat) (KA : Option Addr) (kn kc : Nat) (keys : List ByteArray) (B : Nat) (w : World) (hr : Strs w B A n ks) (hn : n ≤ 9223372036854775807) (hk : Blk w kb 37 #[.slice KA kn kc]) (hs : Strs w B KA kn keys) (hkn : kn ≤ 9223372036854775807) :
    Calls Tryz.prog 179 #[.slice A n c, .func (.func 180) #[] #[.pointer (some ⟨kb, 0, none⟩)]] w fun e w' => e = .returned (.bool (ks.any (inB keys))) ∧ w = w' := by
  have CI := Lib.hid (indexFunc_any A n c ks kb KA kn kc keys B w hr hn hk hs hkn)
  clear hr hk hs
  go_enter Tryz.func179, Tryz.ntmps179
  go_wp2_with fail
  refine CI.out.mono ?_
  rintro e w' ⟨⟨i, rfl, hi⟩, rfl⟩
  have HI := Lib.hid hi
  clear hi
  go_wp2
  go_ret
  exact ⟨ret_bool HI.out, rfl⟩

theorem meant_any (r : LineM) (hb kb : Nat) (hard : Bool) (KA : Option Addr) (kn kc : Nat) (keys : List ByteArray) (B : Nat) (w : World) (hr : Strs w B r.A r.n r.l.keys) (hn : r.n ≤ 1000) (hh : Blk w hb 4 #[.bool hard]) (hk : Blk w kb 37 #[.slice KA kn kc]) (hs : Strs w B KA kn keys) (hkn : kn ≤ 9223372036854775807) (hB : B ≤ w.heap.size) :
    Calls Tryz.prog 178 #[.agg r.cs, .pointer (some ⟨hb, 0, none⟩), .pointer (some ⟨kb, 0, none⟩)] w fun e w' => e = .returned (.bool (meantS keys hard r.l)) ∧ Below w.heap.size w w' := by
  have hb0 : Below w.heap.size w (w.alloc (.cells r.cs 144)) := (Below.refl _ _).alloc (Nat.le_refl _) _
  have CC := Lib.hid (containsFunc_any r.A r.n r.c r.l.keys kb KA kn kc keys B (w.alloc (.cells r.cs 144)) (hr.below (hb0.mono hB) (Nat.le_refl _)) (by omega) (hk.alloc _) (hs.below (hb0.mono hB) (Nat.le_refl _)) hkn)
  have kx : Blk (w.alloc (.cells r.cs 144)) w.heap.size 144 r.cs := Blk.new _ _ _
  have d0 : (w.alloc (.cells r.cs 144)).cell? ⟨hb, 0, none⟩ = some (.bool hard) := ((hh.alloc _).cell 0).trans rfl
  have x1 : (w.alloc (.cells r.cs 144)).cell? ⟨w.heap.size, 1, none⟩ = some (.slice r.A r.n r.c) := (kx.cell 1).trans rfl
  have x2 : (w.alloc (.cells r.cs 144)).cell? ⟨w.heap.size, 2, none⟩ = some (.bool r.l.hard) := (kx.cell 2).trans rfl
  have HB0 := Lib.hid hb0
  have E1 : Hid (hard = true → r.l.hard = false → meantS keys hard r.l = false) := fun h1 h2 => by simp [meantS, h1, h2]
  have E2 : Hid (hard = false ∨ r.l.hard = true → meantS keys hard r.l = r.l.keys.any (inB keys)) := fun h => by rcases h with h | h <;> simp [meantS, h]
  clear hb0 hr hh hk hs kx
  have hmk := hmf
  go_enter Tryz.func178, Tryz.ntmps178
  go_upto_region 1 with fail
  generalize w.alloc (.cells r.cs 144) = w1 at *
  cases hard <;> cases hlh : r.l.hard
  all_goals
    rw [hlh] at x2
    have HLH := Lib.hid hlh
    clear hlh
    go_wp2_with (go_at_call 179; refine CC.out.mono ?_; rintro e w' ⟨rfl, rfl⟩)
    go_ret
    refine ⟨?_, HB0.out⟩
  all_goals first
    | exact ret_bool (E1.out (by first | rfl | trivial) HLH.out).symm
    | exact ret_bool (E2.out (Or.inl (by first | rfl | trivial))).symm
    | exact ret_bool (E2.out (Or.inr HLH.out)).symm

set_option maxHeartbeats 1000000 in
theorem newest_any (lb : Nat) (fl : Int) (ms : List LineM) (behind up : Int) (hb kb : Nat) (hard : Bool) (KA : Option Addr) (kn kc : Nat) (keys : List ByteArray) (B B2 : Nat) (w : World) (hL : LogAt w B lb fl ms) (hh : Blk w hb 4 #[.bool hard]) (hk : Blk w kb 37 #[.slice KA kn kc]) (hs : Strs w B2 KA kn keys) (hkn : kn ≤ 9223372036854775807) (hB : B ≤ w.heap.size) (hB2 : B2 ≤ w.heap.size) :
    Calls Tryz.prog 177 #[.pointer (some ⟨lb, 0, none⟩), .int .i64 behind, .int .i64 up, .func (.func 178) #[] #[.pointer (some ⟨hb, 0, none⟩), .pointer (some ⟨kb, 0, none⟩)]] w fun e w' => e = .returned (.int .i64 (lastP fl (ms.map (·.l)) keys behind up hard)) ∧ Below w.heap.size w w' := by
  obtain ⟨A, n, c, hn, hkb, hrd⟩ := hL.blk
  have CM : Hid (∀ wy, Below w.heap.size w wy → ∀ r ∈ ms, Calls Tryz.prog 178 #[.agg r.cs, .pointer (some ⟨hb, 0, none⟩), .pointer (some ⟨kb, 0, none⟩)] wy fun e w' => e = .returned (.bool (meantS keys hard r.l)) ∧ Below wy.heap.size wy w') := by
    show ∀ wy, Below w.heap.size w wy → _
    intro wy hy r hr
    have h1 := (hL.keys r hr)
    refine meant_any r hb kb hard KA kn kc keys w.heap.size wy ?_ h1.1 (hh.below hy hh.lt) (hk.below hy hk.lt) ?_ hkn hy.size
    · exact (h1.2.below (Below.refl _ _) hB).below hy (Nat.le_refl _)
    · exact (hs.below (Below.refl _ _) hB2).below hy (Nat.le_refl _)
  have hpr : PR w w.heap.size 3 A n (ms.flatMap LineM.cells) := PR.of_old (hrd.below (Below.refl _ _) hB) (Nat.le_refl _)
  obtain ⟨hl, hrow⟩ := hpr.row LineM.cells_len (by decide)
  have HL := Lib.hid hl
  have HROW := Lib.hid hrow
  have HK := Lib.hid hkb
  have hlb := hkb.lt
  have hlen : ms.length = n := by have := hl; omega
  have HLEN := Lib.hid hlen
  obtain ⟨P, hP⟩ : ∃ P, scanS (max behind 0) up (meantS keys hard) (ms.map (·.l)).reverse = P := ⟨_, rfl⟩
  have LP : Hid (lastP fl (ms.map (·.l)) keys behind up hard = endP (max behind 0) up fl P) := by
    show lastP fl (ms.map (·.l)) keys behind up hard = _
    unfold lastP
    rw [hP]
  have HP0 : Hid (scanS (max behind 0) up (meantS keys hard) ((ms.take n).map (·.l)).reverse = P) := by
    show scanS (max behind 0) up (meantS keys hard) ((ms.take n).map (·.l)).reverse = P
    rw [List.take_of_length_le (by omega)]
    exact hP
  clear hL hh hk hs hrd hpr hl hrow hkb hlen hP
  have c0 : w.cell? ⟨lb, 0, none⟩ = some (.int .i64 fl) := (HK.out.cell 0).trans rfl
  have c1 : w.cell? ⟨lb, 1, none⟩ = some (.slice A n c) := (HK.out.cell 1).trans rfl
  go_enter Tryz.func177, Tryz.ntmps177
  go_upto_region 2 with fail
  have hbz : 0 ≤ max behind 0 := by omega
  generalize max behind 0 = bz at *
  go_wp2_with fail
  have EN : Hid (∀ P, P = none → lastP fl (ms.map (·.l)) keys behind up hard = endP bz up fl P → (bz < min up fl → min up fl = lastP fl (ms.map (·.l)) keys behind up hard) ∧ (¬ bz < min up fl → 0 = lastP fl (ms.map (·.l)) keys behind up hard)) := by
    show ∀ P, _
    rintro P rfl h
    rw [h]
    unfold endP
    exact ⟨fun h => by rw [if_pos h], fun h => by rw [if_neg h]⟩
  go_loopw [9] (fun i wr => ∃ k : Nat, k ≤ n ∧ i = .int .i64 ((k : Int) - 1) ∧ scanS bz up (meantS keys hard) ((ms.take k).map (·.l)).reverse = P ∧ Below w.heap.size w wr) (fun i _ => (intOf i + 1).toNat)
  case atStart => exact ⟨n, Nat.le_refl _, by first | rfl | go_num, HP0.out, Below.refl _ _⟩
  case round =>
    obtain ⟨k, hk, rfl, hp, hbr⟩ := hrel
    have HP := Lib.hid hp
    have HBR := Lib.hid hbr
    have hsr := hbr.size
    have c0 : wr.cell? ⟨lb, 0, none⟩ = some (.int .i64 fl) := (hbr.cell (p := ⟨lb, 0, none⟩) hlb).trans c0
    have c1 : wr.cell? ⟨lb, 1, none⟩ = some (.slice A n c) := (hbr.cell (p := ⟨lb, 1, none⟩) hlb).trans c1
    clear hp hbr
    have done : P = none → ∀ v, (bz < min up fl → v = min up fl) → (¬ bz < min up fl → v = 0) → Ending.returned (.int .i64 v) = .returned (.int .i64 (lastP fl (ms.map (·.l)) keys behind up hard)) := fun h v h1 h2 => by
      have := EN.out P h LP.out
      by_cases hq : bz < min up fl
      · rw [h1 hq, this.1 hq]
      · rw [h2 hq, ← this.2 hq]
    have DONE := Lib.hid done
    clear done
    cases k with
    | zero =>
      have hPn : P = none := HP.out.symm
      have HPN := Lib.hid hPn
      clear hPn
      go_wp2_with fail
      all_goals
        go_ret
        refine ⟨DONE.out HPN.out _ ?_ ?_, HBR.out⟩
      all_goals (intro h; omega)
    | succ k =>
      have hk' : k < ms.length := by have := HLEN.out; omega
      obtain ⟨b, o, rfl, hbl, hra⟩ := HROW.out k hk'
      have hst : ((ms.take (k + 1)).map (·.l)).reverse = ms[k].l :: ((ms.take k).map (·.l)).reverse := by rw [List.take_succ_eq_append_getElem hk', List.map_append, List.reverse_append]; rfl
      have HST := Lib.hid hst
      have HMM := Lib.hid (List.getElem_mem hk')
      generalize ms[k] = r at *
      have HP2 : Hid ((if r.l.no ≤ bz then none else if r.l.no ≤ up ∧ meantS keys hard r.l = true then some r.l.no else scanS bz up (meantS keys hard) ((ms.take k).map (·.l)).reverse) = P) := by
        have := HP.out
        rw [HST.out, scanS] at this
        exact this
      have d0 : wr.cell? ⟨b, o + k * 3, none⟩ = some (.int .i64 r.l.no) := (HBR.out.cell (p := ⟨b, o + k * 3, none⟩) hbl).trans (hra 0 _ rfl)
      have d1 : wr.cell? ⟨b, o + k * 3 + 1, none⟩ = some (.slice r.A r.n r.c) := (HBR.out.cell (p := ⟨b, o + k * 3 + 1, none⟩) hbl).trans (hra 1 _ rfl)
      have d2 : wr.cell? ⟨b, o + k * 3 + 2, none⟩ = some (.bool r.l.hard) := (HBR.out.cell (p := ⟨b, o + k * 3 + 2, none⟩) hbl).trans (hra 2 _ rfl)
      have i1 : (0 : Int) ≤ (k : Int) := by omega
      have i2 : (k : Int) < (n : Int) := by omega
      have ik : ((k + 1 : Nat) : Int) - 1 = (k : Int) := by omega
      rw [ik]
      clear hst hra ik HP
      by_cases h1 : r.l.no ≤ bz
      · have hPn : P = none := by have := HP2.out; rw [if_pos h1] at this; exact this.symm
        have HPN := Lib.hid hPn
        clear hPn
        go_wp2_with fail
        all_goals
          go_ret
          refine ⟨DONE.out HPN.out _ ?_ ?_, HBR.out⟩
        all_goals (intro h; omega)
      · by_cases h2 : r.l.no ≤ up
        · have hbk : b < wr.heap.size := by omega
          have hlk : lb < wr.heap.size := by omega
          cases hm : meantS keys hard r.l with
          | true =>
            have HM := Lib.hid hm
            have hP1 : P = some r.l.no := by have := HP2.out; rw [if_neg h1, if_pos ⟨h2, hm⟩] at this; exact this.symm
            have HP1 := Lib.hid hP1
            clear hm hP1
            go_wp2_with (go_at_call 178; refine (CM.out _ HBR.out r HMM.out).mono ?_; rw [HM.out]; rintro en w2 ⟨rfl, hb2⟩; (have HB2 := Lib.hid (HBR.out.trans (hb2.mono hsr))); (have e1 := (hb2.cell (p := ⟨lb, 1, none⟩) hlk).trans c1); (have e2 := (hb2.cell (p := ⟨b, o + k * 3, none⟩) hbk).trans d0); clear hb2)
            go_ret
            refine ⟨ret_int ?_, HB2.out⟩
            rw [LP.out, HP1.out]
            rfl
          | false =>
            have HM := Lib.hid hm
            have hP1 : scanS bz up (meantS keys hard) ((ms.take k).map (·.l)).reverse = P := by have := HP2.out; rw [if_neg h1, if_neg (fun h => by rw [hm] at h; exact absurd h.2 (by decide))] at this; exact this
            have HP1 := Lib.hid hP1
            clear hm hP1
            go_wp2_with (go_at_call 178; refine (CM.out _ HBR.out r HMM.out).mono ?_; rw [HM.out]; rintro en w2 ⟨rfl, hb2⟩; (have HB2 := Lib.hid (HBR.out.trans (hb2.mono hsr))); clear hb2)
            go_roundw
            case rel => exact ⟨k, by omega, by go_num, HP1.out, HB2.out⟩
            case measure => simp [intOf]
        · go_wp2_with fail
          go_roundw
          case rel =>
            refine ⟨k, by omega, by go_num, ?_, HBR.out⟩
            have := HP2.out
            rw [if_neg h1, if_neg (fun h => h2 h.1)] at this
            exact this
          case measure => simp [intOf]

theorem logLast_any (lb : Nat) (fl : Int) (ms : List LineM) (behind up : Int) (hard : Bool) (KA : Option Addr) (kn kc : Nat) (keys : List ByteArray) (B B2 : Nat) (w : World) (hL : LogAt w B lb fl ms) (hs : Strs w B2 KA kn keys) (hkn : kn ≤ 9223372036854775807) (hB : B ≤ w.heap.size) (hB2 : B2 ≤ w.heap.size) :
    Calls Tryz.prog 128 #[.pointer (some ⟨lb, 0, none⟩), .slice KA kn kc, .int .i64 behind, .int .i64 up, .bool hard] w fun e w' => e = .returned (.int .i64 (lastP fl (ms.map (·.l)) keys behind up hard)) ∧ Below w.heap.size w w' := by
  have hb0 : Below w.heap.size w ((w.alloc (.cells #[.slice KA kn kc] 37)).alloc (.cells #[.bool hard] 4)) := ((Below.refl _ _).alloc (Nat.le_refl _) _).alloc (by simp) _
  have CN := Lib.hid (newest_any lb fl ms behind up (w.heap.size + 1) w.heap.size hard KA kn kc keys B B2 _ (hL.below (hb0.mono hB)) (new2 w _ 4 _) ((Blk.new w 37 _).alloc _) (hs.below (hb0.mono hB2) (Nat.le_refl _)) hkn (Nat.le_trans hB hb0.size) (Nat.le_trans hB2 hb0.size))
  have HB0 := Lib.hid hb0
  have hmk := hmf
  clear hL hs hb0
  go_enter Tryz.func128, Tryz.ntmps128
  go_wp2_with (go_at_call 177; refine CN.out.mono ?_; rintro e w' ⟨rfl, hb⟩; (have HB1 := Lib.hid (HB0.out.trans (hb.mono HB0.out.size))); clear hb)
  go_ret
  exact ⟨rfl, HB1.out⟩
end Go.Proofs.YtoaiamgcegnjjaaGreatDoor
