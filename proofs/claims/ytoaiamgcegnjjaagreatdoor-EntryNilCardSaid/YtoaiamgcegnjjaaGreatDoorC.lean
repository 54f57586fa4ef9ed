/- The contract of meta.Right, and of what is asked of two tags or Metas. No condition. -/
import Derived.Test.YtoaiamgcegnjjaaGreatDoorB
import Derived.Deep.DeepCutAuto
namespace Go.Proofs.YtoaiamgcegnjjaaGreatDoor
open Go.RowKit
set_option maxRecDepth 100000

theorem bcell {W w1 : World} (hb : Below W.heap.size W w1) : (∀ b o, b < W.heap.size → w1.cell? ⟨b, o, none⟩ = W.cell? ⟨b, o, none⟩) ∧ (∀ b o, b < W.heap.size → w1.frozen? ⟨b, o, none⟩ = W.frozen? ⟨b, o, none⟩) :=
  ⟨fun b o h => hb.cell (p := ⟨b, o, none⟩) h, fun b o h => hb.frozen (p := ⟨b, o, none⟩) h⟩

def tagNone (t : ByteArray) (wk : Bool) : Bool := t.toList.isEmpty && !wk
def tick0 (n : Int) : Bool := decide (0 ≤ n) && decide (n ≤ 1099511627776)
theorem ticks0 (n : Int) (w : World) : Calls Tryz.prog 135 #[.int .i64 n] w fun e w' => e = .returned (.bool (tick0 n)) ∧ w = w' := ticks_any n w
theorem number0 (n : Int) (w : World) : Calls Tryz.prog 81 #[.int .i64 n] w fun e w' => e = .returned (.bool (tick0 n)) ∧ w = w' := number_any n w
/-- the first k keys may be -/
def keysUp (ks : List ByteArray) : Nat → Bool
  | 0 => true
  | k + 1 => keysUp ks k && (match ks[k]? with | some x => keyOK x && !inB (ks.take k) x | none => true)
def keysOK (ks : List ByteArray) : Bool := keysUp ks ks.length
theorem keysUp_mono {ks : List ByteArray} {k m : Nat} (h : keysUp ks k = false) (hm : k ≤ m) : keysUp ks m = false := by
  induction m with
  | zero => obtain rfl : k = 0 := by omega
            exact h
  | succ m ih =>
    by_cases hk : k ≤ m
    · simp [keysUp, ih hk]
    · obtain rfl : k = m + 1 := by omega
      exact h
theorem keysUp_succ {ks : List ByteArray} {k : Nat} (hk : k < ks.length) : keysUp ks (k + 1) = (keysUp ks k && (keyOK ks[k] && !inB (ks.take k) ks[k])) := by
  simp [keysUp, List.getElem?_eq_getElem hk]
def numsA (mo le : Int) : Bool := decide (-1 ≤ mo ∧ mo ≤ 253402300799 ∧ -1 ≤ le ∧ le ≤ 1099511627776)
def numsB (le ha : Int) : Bool := decide (0 ≤ ha ∧ ha ≤ 1099511627776 ∧ (le = -1 ∨ ha = le))
def metaOK (t : ByteArray) (wk : Bool) (mo le ha fr wh er : Int) (ks : List ByteArray) (ten : ByteArray) : Bool :=
  (tagNone t wk || tagOK t) && numsA mo le && numsB le ha && tick0 fr && tick0 wh && tick0 er && decide (ks.length ≤ 32) && tenOK ten && keysOK ks

/-- A block known whole. -/
def Blk (w : World) (g : Nat) (t : TypeId) (cs : Array Value) : Prop := w.heap[g]? = some (.cells cs t (0, 0))
theorem Blk.lt {w : World} {g : Nat} {t : TypeId} {cs : Array Value} (h : Blk w g t cs) : g < w.heap.size := (Array.getElem?_eq_some_iff.1 h).1
theorem Blk.cell {w : World} {g : Nat} {t : TypeId} {cs : Array Value} (h : Blk w g t cs) (i : Nat) : w.cell? ⟨g, i, none⟩ = cs[i]? := cell_of_row w g i cs t (0, 0) h
theorem Blk.free {w : World} {g : Nat} {t : TypeId} {cs : Array Value} (h : Blk w g t cs) (i : Nat) : w.frozen? ⟨g, i, none⟩ = false := by
  unfold Blk at h; simp [World.frozen?, h]
theorem Blk.new (w : World) (t : TypeId) (cs : Array Value) : Blk (w.alloc (.cells cs t)) w.heap.size t cs := heap_alloc_new w _
theorem Blk.below {w w' : World} {g B : Nat} {t : TypeId} {cs : Array Value} (h : Blk w g t cs) (hb : Below B w w') (hg : g < B) : Blk w' g t cs := (hb.block g hg).trans h

/-- the cells of a Meta -/
abbrev metaC (t : ByteArray) (wk : Bool) (mo le ha fr wh er : Int) (A : Option Addr) (n c : Nat) (ten : ByteArray) (kp : Bool) : Array Value :=
  #[.string t, .bool wk, .int .i64 mo, .int .i64 le, .int .i64 ha, .int .i64 fr, .int .i64 wh, .int .i64 er, .slice A n c, .string ten, .bool kp]

theorem metaCells {w : World} {g : Nat} {ty : TypeId} {t : ByteArray} {wk : Bool} {mo le ha fr wh er : Int} {A : Option Addr} {n c : Nat} {ten : ByteArray} {kp : Bool} (h : Blk w g ty (metaC t wk mo le ha fr wh er A n c ten kp)) :
    w.cell? ⟨g, 0, none⟩ = some (.string t) ∧ w.cell? ⟨g, 1, none⟩ = some (.bool wk) ∧ w.cell? ⟨g, 2, none⟩ = some (.int .i64 mo) ∧ w.cell? ⟨g, 3, none⟩ = some (.int .i64 le) ∧ w.cell? ⟨g, 4, none⟩ = some (.int .i64 ha) ∧
    w.cell? ⟨g, 5, none⟩ = some (.int .i64 fr) ∧ w.cell? ⟨g, 6, none⟩ = some (.int .i64 wh) ∧ w.cell? ⟨g, 7, none⟩ = some (.int .i64 er) ∧ w.cell? ⟨g, 8, none⟩ = some (.slice A n c) ∧ w.cell? ⟨g, 9, none⟩ = some (.string ten) ∧ w.cell? ⟨g, 10, none⟩ = some (.bool kp) := by
  refine ⟨?_, ?_, ?_, ?_, ?_, ?_, ?_, ?_, ?_, ?_, ?_⟩ <;> rw [h.cell] <;> rfl

set_option maxHeartbeats 1000000 in
theorem metaRight_any (t : ByteArray) (wk : Bool) (mo le ha fr wh er : Int) (A : Option Addr) (n c : Nat) (ten : ByteArray) (kp : Bool) (w : World) (ks : List ByteArray) (B : Nat)
    (hk : Strs w B A n ks) (hB : B ≤ w.heap.size) (hn : n ≤ 9223372036854775807) (hnc : n ≤ c) :
    Calls Tryz.prog 80 #[.agg (metaC t wk mo le ha fr wh er A n c ten kp)] w fun e w' => e = .returned (.bool (metaOK t wk mo le ha fr wh er ks ten)) ∧ Below w.heap.size w w' := by
  have HK := Lib.hid hk
  have hl := hk.len
  have HL := Lib.hid hl
  clear hk hl
  go_enter Tryz.func80, Tryz.ntmps80
  go_upto_region 1 with fail
  go_cut [14] (fun s wx => s = .bool (!(tagNone t wk || tagOK t)) ∧ Below w.heap.size w wx ∧ Blk wx w.heap.size 39 (metaC t wk mo le ha fr wh er A n c ten kp))
  case first =>
    have hb0 : Below w.heap.size w (w.alloc (.cells (metaC t wk mo le ha fr wh er A n c ten kp) 39)) := (Below.refl _ _).alloc (Nat.le_refl _) _
    have hk0 := Blk.new w 39 (metaC t wk mo le ha fr wh er A n c ten kp)
    have HB := Lib.hid hb0
    have HK0 := Lib.hid hk0
    clear hb0 hk0
    by_cases h1 : tagNone t wk = true
    · have h1' : t.toList = [] := by unfold tagNone at h1; simp at h1; exact h1.1
      have h2 : wk = false := by unfold tagNone at h1; simp at h1; exact h1.2
      have H1 := Lib.hid h1
      clear h1
      subst h2
      go_wp2_with fail
      go_meet
      refine ⟨?_, HB.out, HK0.out⟩
      rw [H1.out]; rfl
    · have h1 : tagNone t wk = false := by simpa using h1
      have H1 := Lib.hid h1
      by_cases he : t.toList = []
      · have h2 : wk = true := by unfold tagNone at h1; simp [he] at h1; exact h1
        clear h1
        subst h2
        go_wp2_with fail
        refine (tagRight_any _ _ _).mono ?_
        rintro e w' ⟨rfl, hb⟩
        have HB1 := Lib.hid hb
        clear hb
        go_wp2_with fail
        go_meet
        refine ⟨?_, HB.out.trans (HB1.out.mono (by simp)), HK0.out.below HB1.out (by simp)⟩
        rw [H1.out]; rfl
      · clear h1
        go_wp2_with fail
        refine (tagRight_any _ _ _).mono ?_
        rintro e w' ⟨rfl, hb⟩
        have HB1 := Lib.hid hb
        clear hb
        go_wp2_with fail
        go_meet
        refine ⟨?_, HB.out.trans (HB1.out.mono (by simp)), HK0.out.below HB1.out (by simp)⟩
        rw [H1.out]; rfl
  case rest =>
    obtain ⟨rfl, hbl, hbk⟩ := hcut
    obtain ⟨c0, c1, c2, c3, c4, c5, c6, c7, c8, c9, c10⟩ := metaCells hbk
    have HBL := Lib.hid hbl
    have HBK := Lib.hid hbk
    clear hbl hbk
    by_cases hT : (tagNone t wk || tagOK t) = true
    case neg =>
      have hT : (tagNone t wk || tagOK t) = false := by simpa using hT
      have HT := Lib.hid hT
      rw [hT]
      clear hT
      go_wp2_with fail
      go_ret
      exact ⟨ret_bool (by simp only [metaOK, HT.out]; rfl), HBL.out⟩
    have HT := Lib.hid hT
    rw [hT]
    clear hT
    by_cases hA : -1 ≤ mo ∧ mo ≤ 253402300799 ∧ -1 ≤ le ∧ le ≤ 1099511627776
    case neg =>
      have HA : Hid (numsA mo le = false) := (decide_eq_false hA : numsA mo le = false)
      go_wp2_with fail
      all_goals (go_ret; exact ⟨ret_bool (by simp only [metaOK, HA.out]; simp), HBL.out⟩)
    have HA : Hid (numsA mo le = true) := (decide_eq_true hA : numsA mo le = true)
    obtain ⟨a1, a2, a3, a4⟩ := hA
    by_cases hN : 0 ≤ ha ∧ ha ≤ 1099511627776 ∧ (le = -1 ∨ ha = le)
    case neg =>
      have HN : Hid (numsB le ha = false) := (decide_eq_false hN : numsB le ha = false)
      by_cases hle : le = -1
      · subst hle
        have hN' : ¬ (0 ≤ ha ∧ ha ≤ 1099511627776) := fun h => hN ⟨h.1, h.2, .inl rfl⟩
        clear hN
        go_wp2_with fail
        all_goals (go_ret; exact ⟨ret_bool (by simp only [metaOK, HN.out]; simp), HBL.out⟩)
      · have hN1 : 0 ≤ ha → ha ≤ 1099511627776 → ha ≠ le := fun h h' e => hN ⟨h, h', .inr e⟩
        have e1 : (le != -1) = true := by simpa using hle
        clear hN hle
        by_cases hx : 0 ≤ ha ∧ ha ≤ 1099511627776
        · have e2 : (ha != le) = true := by simpa using hN1 hx.1 hx.2
          obtain ⟨x1, x2⟩ := hx
          clear hN1
          go_wp2_with fail
          all_goals (go_ret; exact ⟨ret_bool (by simp only [metaOK, HN.out]; simp), HBL.out⟩)
        · clear hN1
          go_wp2_with fail
          all_goals (go_ret; exact ⟨ret_bool (by simp only [metaOK, HN.out]; simp), HBL.out⟩)
    have HN : Hid (numsB le ha = true) := (decide_eq_true hN : numsB le ha = true)
    go_upto_region 5 with fail
    go_cut [52] (fun s wx => s = .bool false ∧ wx = wc)
    case first =>
      obtain ⟨x1, x2, hx⟩ := hN
      by_cases hle : le = -1
      · subst hle
        clear hx
        go_wp2_with fail
        go_meet
        exact ⟨congrArg Value.bool (by simp; omega), rfl⟩
      · have e1 : (le != -1) = true := by simpa using hle
        have e2 : (ha != le) = false := by simp; rcases hx with h | h; exact absurd h hle; exact h
        clear hx hle
        go_wp2_with fail
        go_meet
        exact ⟨congrArg Value.bool (by simp; omega), rfl⟩
    case rest =>
      obtain ⟨rfl, rfl⟩ := hcut
      clear hN a1 a2 a3 a4
      by_cases hfr : tick0 fr = true
      case neg =>
        have hfr : tick0 fr = false := by simpa using hfr
        have HF := Lib.hid hfr
        clear hfr
        go_wp2_with fail
        refine (ticks0 _ _).mono ?_
        rintro e w' ⟨rfl, rfl⟩
        rw [HF.out]
        go_wp2_with fail
        go_ret
        exact ⟨ret_bool (by simp only [metaOK, HF.out]; simp), HBL.out⟩
      have HF := Lib.hid hfr
      clear hfr
      go_wp2_with fail
      refine (ticks0 _ _).mono ?_
      rintro e w' ⟨rfl, rfl⟩
      rw [HF.out]
      by_cases hwh : tick0 wh = true
      case neg =>
        have hwh : tick0 wh = false := by simpa using hwh
        have HW := Lib.hid hwh
        clear hwh
        go_wp2_with fail
        refine (ticks0 _ _).mono ?_
        rintro e w' ⟨rfl, rfl⟩
        rw [HW.out]
        go_wp2_with fail
        go_ret
        exact ⟨ret_bool (by simp only [metaOK, HW.out]; simp), HBL.out⟩
      have HW := Lib.hid hwh
      clear hwh
      go_wp2_with fail
      refine (ticks0 _ _).mono ?_
      rintro e w' ⟨rfl, rfl⟩
      rw [HW.out]
      by_cases her : tick0 er = true
      case neg =>
        have her : tick0 er = false := by simpa using her
        have HE := Lib.hid her
        clear her
        go_wp2_with fail
        refine (ticks0 _ _).mono ?_
        rintro e w' ⟨rfl, rfl⟩
        rw [HE.out]
        go_wp2_with fail
        go_ret
        exact ⟨ret_bool (by simp only [metaOK, HE.out]; simp), HBL.out⟩
      have HE := Lib.hid her
      clear her
      go_wp2_with fail
      refine (ticks0 _ _).mono ?_
      rintro e w' ⟨rfl, rfl⟩
      rw [HE.out]
      by_cases hl : 32 < n
      · go_wp2_with fail
        go_ret
        refine ⟨ret_bool ?_, HBL.out⟩
        have : decide (ks.length ≤ 32) = false := decide_eq_false (by have := HL.out; omega)
        simp only [metaOK, this]; simp
      have HLL : Hid (decide (ks.length ≤ 32) = true) := decide_eq_true (by have := HL.out; omega)
      by_cases hte : tenOK ten = true
      case neg =>
        have hte : tenOK ten = false := by simpa using hte
        have HTE := Lib.hid hte
        clear hte
        go_wp2_with fail
        refine (tenant_any _ _).mono ?_
        rintro e w' ⟨rfl, rfl⟩
        rw [HTE.out]
        go_wp2_with fail
        go_ret
        exact ⟨ret_bool (by simp only [metaOK, HTE.out]; simp), HBL.out⟩
      have HTE := Lib.hid hte
      clear hte
      go_wp2_with fail
      refine (tenant_any _ _).mono ?_
      rintro e w' ⟨rfl, rfl⟩
      rw [HTE.out]
      go_wp2_with fail
      have HALL : Hid (metaOK t wk mo le ha fr wh er ks ten = keysOK ks) := by
        show metaOK t wk mo le ha fr wh er ks ten = keysOK ks
        simp only [metaOK, HT.out, HA.out, HN.out, HF.out, HW.out, HE.out, HLL.out, HTE.out, Bool.true_and]
      clear HT HA HN HF HW HE HLL HTE
      have hs : Strs wc B A n ks := HK.out.below (HBL.out.mono hB) (Nat.le_refl _)
      have HS := Lib.hid hs
      clear hs
      by_cases h0 : n = 0
      · subst h0
        go_loop [84] (fun i => i = .int .i64 0) (fun _ => 0)
        case atStart => rfl
        case round =>
          subst hrel
          go_wp2_with fail
          go_ret
          refine ⟨ret_bool ?_, HBL.out⟩
          have : ks = [] := List.eq_nil_of_length_eq_zero HL.out
          rw [HALL.out, this]; rfl
      obtain ⟨b, o, rfl, _, hc⟩ := HS.out.at_ (by omega)
      have HC := Lib.hid hc
      clear hc
      go_loop [84] (fun i => ∃ k : Nat, k ≤ n ∧ i = .int .i64 k ∧ keysUp ks k = true) (fun i => n - (intOf i).toNat)
      case atStart => exact ⟨0, Nat.zero_le _, rfl, rfl⟩
      case round =>
        obtain ⟨k, hk, rfl, hup⟩ := hrel
        have HU := Lib.hid hup
        clear hup
        by_cases hlt : k < n
        · have hk' : k < ks.length := by have := HL.out; omega
          have hcell := HC.out k hk'
          have HSU := Lib.hid (keysUp_succ hk')
          by_cases hkey : keyOK ks[k] = true
          case neg =>
            have hkey : keyOK ks[k] = false := by simpa using hkey
            have HKY := Lib.hid hkey
            clear hkey
            go_wp2_with fail
            refine (metaKey_any _ _).mono ?_
            rintro e w' ⟨rfl, rfl⟩
            rw [HKY.out]
            go_wp2_with fail
            go_ret
            refine ⟨ret_bool ?_, HBL.out⟩
            rw [HALL.out]
            exact (keysUp_mono (k := k + 1) (by rw [HSU.out, HKY.out]; simp) (by omega)).symm
          have HKY := Lib.hid hkey
          clear hkey
          have hst : Strs wc B (some ⟨b, o, none⟩) k (ks.take k) := HS.out.take (by omega)
          have HST := Lib.hid hst
          clear hst
          by_cases hin : inB (ks.take k) ks[k] = true
          · have HIN := Lib.hid hin
            clear hin
            go_wp2_with fail
            refine (metaKey_any _ _).mono ?_
            rintro e w' ⟨rfl, rfl⟩
            rw [HKY.out]
            go_wp2_with fail
            refine (slicesContains_any _ _ _ _ _ _ _ HST.out (by omega)).mono ?_
            rintro e w' ⟨rfl, rfl⟩
            rw [HIN.out]
            go_wp2_with fail
            go_ret
            refine ⟨ret_bool ?_, HBL.out⟩
            rw [HALL.out]
            exact (keysUp_mono (k := k + 1) (by rw [HSU.out, HIN.out]; simp) (by omega)).symm
          · have HIN : Hid (inB (ks.take k) ks[k] = false) := by show inB (ks.take k) ks[k] = false; simpa using hin
            clear hin
            go_wp2_with fail
            refine (metaKey_any _ _).mono ?_
            rintro e w' ⟨rfl, rfl⟩
            rw [HKY.out]
            go_wp2_with fail
            refine (slicesContains_any _ _ _ _ _ _ _ HST.out (by omega)).mono ?_
            rintro e w' ⟨rfl, rfl⟩
            rw [HIN.out]
            go_wp2_with fail
            refine ⟨⟨k + 1, by omega, by go_num, ?_⟩, by simp [intOf]; omega⟩
            rw [HSU.out, HU.out, HKY.out, HIN.out]; rfl
        · go_wp2_with fail
          go_ret
          refine ⟨ret_bool ?_, HBL.out⟩
          rw [HALL.out, keysOK, ← HU.out]
          have := HL.out
          congr 1
          omega

end Go.Proofs.YtoaiamgcegnjjaaGreatDoor
