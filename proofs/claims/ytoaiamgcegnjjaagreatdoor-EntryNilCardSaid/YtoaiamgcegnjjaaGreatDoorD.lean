/- The contracts of what is asked of two tags or Metas, of ticks, and of small structs. No condition. -/
import Derived.Test.YtoaiamgcegnjjaaGreatDoorC
namespace Go.Proofs.YtoaiamgcegnjjaaGreatDoor
open Go.RowKit
set_option maxRecDepth 100000

theorem metaJoins_any (t : ByteArray) (wk : Bool) (mo le ha fr wh er : Int) (A : Option Addr) (n c : Nat) (ten : ByteArray) (kp : Bool) (w : World) :
    Calls Tryz.prog 85 #[.agg (metaC t wk mo le ha fr wh er A n c ten kp)] w fun e w' => e = .returned (.bool (tagOK t && !wk)) ∧ Below w.heap.size w w' := by
  have hb0 : Below w.heap.size w (w.alloc (.cells (metaC t wk mo le ha fr wh er A n c ten kp) 39)) := (Below.refl _ _).alloc (Nat.le_refl _) _
  have hk0 := Blk.new w 39 (metaC t wk mo le ha fr wh er A n c ten kp)
  have HB := Lib.hid hb0
  have HK0 := Lib.hid hk0
  clear hb0 hk0
  go_enter Tryz.func85, Tryz.ntmps85
  go_wp2_with fail
  refine (tagRight_any _ _ _).mono ?_
  rintro e w' ⟨rfl, hb⟩
  obtain ⟨c0, c1, c2, c3, c4, c5, c6, c7, c8, c9, c10⟩ := metaCells (HK0.out.below hb (by simp))
  have HB1 := Lib.hid hb
  clear hb
  by_cases h : tagOK t = true
  · have H := Lib.hid h
    rw [h]
    clear h
    go_wp2_with fail
    go_ret
    exact ⟨ret_bool (by simp [H.out]), HB.out.trans (HB1.out.mono (by simp))⟩
  · have h : tagOK t = false := by simpa using h
    have H := Lib.hid h
    rw [h]
    clear h
    go_wp2_with fail
    go_ret
    exact ⟨ret_bool (by simp [H.out]), HB.out.trans (HB1.out.mono (by simp))⟩

def strongB (t : ByteArray) (wk : Bool) (t' : ByteArray) (wk' : Bool) : Bool := !wk && !wk' && tagOK t && tagOK t' && decide (t = t')

theorem Blk.alloc {w : World} {g : Nat} {t : TypeId} {cs : Array Value} (h : Blk w g t cs) (o : Obj) : Blk (w.alloc o) g t cs := (Below.heap_alloc w o g h.lt).trans h
theorem tagCells {w : World} {g : Nat} {ty : TypeId} {t : ByteArray} {wk : Bool} (h : Blk w g ty #[.string t, .bool wk]) : w.cell? ⟨g, 0, none⟩ = some (.string t) ∧ w.cell? ⟨g, 1, none⟩ = some (.bool wk) := by
  refine ⟨?_, ?_⟩ <;> rw [h.cell] <;> rfl

theorem tagWeak_any (t : ByteArray) (wk : Bool) (t' : ByteArray) (wk' : Bool) (w : World) :
    Calls Tryz.prog 139 #[.agg #[.string t, .bool wk], .agg #[.string t', .bool wk']] w fun e w' => e = .returned (.bool (tagOK t && tagOK t' && decide (t = t'))) ∧ Below w.heap.size w w' := by
  have hb0 : Below w.heap.size w ((w.alloc (.cells #[.string t, .bool wk] 36)).alloc (.cells #[.string t', .bool wk'] 36)) := ((Below.refl _ _).alloc (Nat.le_refl _) _).alloc (by simp) _
  have HB := Lib.hid hb0
  have k0 : Blk ((w.alloc (.cells #[.string t, .bool wk] 36)).alloc (.cells #[.string t', .bool wk'] 36)) w.heap.size 36 #[.string t, .bool wk] := (Blk.new w 36 _).alloc _
  have k1 : Blk ((w.alloc (.cells #[.string t, .bool wk] 36)).alloc (.cells #[.string t', .bool wk'] 36)) (w.heap.size + 1) 36 #[.string t', .bool wk'] := by
    have := Blk.new (w.alloc (.cells #[.string t, .bool wk] 36)) 36 #[.string t', .bool wk']
    simpa using this
  have K0 := Lib.hid k0
  have K1 := Lib.hid k1
  clear hb0 k0 k1
  go_enter Tryz.func139, Tryz.ntmps139
  go_wp2_with fail
  refine (tagRight_any _ _ _).mono ?_
  rintro e w1 ⟨rfl, hb⟩
  have hs : w.heap.size + 1 + 1 ≤ w1.heap.size := by simpa using hb.size
  have k0 := K0.out.below hb (by simp; omega)
  have k1 := K1.out.below hb (by simp)
  obtain ⟨c0, c1⟩ := tagCells k0
  obtain ⟨c2, c3⟩ := tagCells k1
  clear K0 K1
  have K0 := Lib.hid k0
  have K1 := Lib.hid k1
  have HB1 := Lib.hid hb
  clear hb k0 k1
  by_cases h : tagOK t = true
  case neg =>
    have h : tagOK t = false := by simpa using h
    have H := Lib.hid h
    rw [h]
    clear h
    go_wp2_with fail
    go_ret
    exact ⟨ret_bool (by simp [H.out]), HB.out.trans (HB1.out.mono (by simp; omega))⟩
  have H := Lib.hid h
  rw [h]
  clear h
  go_wp2_with fail
  refine (tagRight_any _ _ _).mono ?_
  rintro e w2 ⟨rfl, hb⟩
  obtain ⟨d0, d1⟩ := tagCells (K0.out.below hb (by omega))
  obtain ⟨d2, d3⟩ := tagCells (K1.out.below hb (by omega))
  have HB2 := Lib.hid hb
  clear hb
  by_cases h' : tagOK t' = true
  · have H' := Lib.hid h'
    rw [h']
    clear h'
    go_wp2_with fail
    go_ret
    refine ⟨ret_bool ?_, (HB.out.trans (HB1.out.mono (by simp; omega))).trans (HB2.out.mono (by omega))⟩
    rw [bytes_beq]; simp [H.out, H'.out]
  · have h' : tagOK t' = false := by simpa using h'
    have H' := Lib.hid h'
    rw [h']
    clear h'
    go_wp2_with fail
    go_ret
    refine ⟨ret_bool ?_, (HB.out.trans (HB1.out.mono (by simp; omega))).trans (HB2.out.mono (by omega))⟩
    simp [H.out, H'.out]

theorem tagStrong_any (t : ByteArray) (wk : Bool) (t' : ByteArray) (wk' : Bool) (w : World) :
    Calls Tryz.prog 86 #[.agg #[.string t, .bool wk], .agg #[.string t', .bool wk']] w fun e w' => e = .returned (.bool (strongB t wk t' wk')) ∧ Below w.heap.size w w' := by
  have hb0 : Below w.heap.size w ((w.alloc (.cells #[.string t, .bool wk] 36)).alloc (.cells #[.string t', .bool wk'] 36)) := ((Below.refl _ _).alloc (Nat.le_refl _) _).alloc (by simp) _
  have HB := Lib.hid hb0
  clear hb0
  cases wk
  case true =>
    go_enter Tryz.func86, Tryz.ntmps86
    go_wp2_with fail
    go_ret
    exact ⟨ret_bool (by simp [strongB]), HB.out⟩
  cases wk'
  case true =>
    go_enter Tryz.func86, Tryz.ntmps86
    go_wp2_with fail
    go_ret
    exact ⟨ret_bool (by simp [strongB]), HB.out⟩
  go_enter Tryz.func86, Tryz.ntmps86
  go_wp2_with fail
  refine (tagWeak_any _ _ _ _ _).mono ?_
  rintro e w1 ⟨rfl, hb⟩
  have HB1 := Lib.hid hb
  clear hb
  go_wp2_with fail
  go_ret
  exact ⟨ret_bool (by simp [strongB]), HB.out.trans (HB1.out.mono (by simp; omega))⟩


def followsB (t : ByteArray) (wk : Bool) (mo le ha fr wh er : Int) (ks : List ByteArray) (ten : ByteArray) (t' : ByteArray) (wk' : Bool) (mo' le' ha' fr' wh' er' : Int) (ks' : List ByteArray) (ten' : ByteArray) : Bool :=
  metaOK t wk mo le ha fr wh er ks ten && metaOK t' wk' mo' le' ha' fr' wh' er' ks' ten' && (tagOK t && !wk) && strongB t wk t' wk' && decide (mo = mo') && (if le = -1 then decide (ha ≤ ha') else decide (le = le'))

set_option maxHeartbeats 1000000 in
theorem metaFollows_any (t : ByteArray) (wk : Bool) (mo le ha fr wh er : Int) (A : Option Addr) (n c : Nat) (ten : ByteArray) (kp : Bool) (ks : List ByteArray)
    (t' : ByteArray) (wk' : Bool) (mo' le' ha' fr' wh' er' : Int) (A' : Option Addr) (n' c' : Nat) (ten' : ByteArray) (kp' : Bool) (ks' : List ByteArray) (w : World)
    (hk : Strs w w.heap.size A n ks) (hk' : Strs w w.heap.size A' n' ks') (hn : n ≤ 9223372036854775807) (hn' : n' ≤ 9223372036854775807) (hnc : n ≤ c) (hnc' : n' ≤ c') :
    Calls Tryz.prog 87 #[.agg (metaC t wk mo le ha fr wh er A n c ten kp), .agg (metaC t' wk' mo' le' ha' fr' wh' er' A' n' c' ten' kp')] w fun e w' => e = .returned (.bool (followsB t wk mo le ha fr wh er ks ten t' wk' mo' le' ha' fr' wh' er' ks' ten')) ∧ Below w.heap.size w w' := by
  have hb0 : Below w.heap.size w ((w.alloc (.cells (metaC t wk mo le ha fr wh er A n c ten kp) 39)).alloc (.cells (metaC t' wk' mo' le' ha' fr' wh' er' A' n' c' ten' kp') 39)) := ((Below.refl _ _).alloc (Nat.le_refl _) _).alloc (by simp) _
  have k0 : Blk ((w.alloc (.cells (metaC t wk mo le ha fr wh er A n c ten kp) 39)).alloc (.cells (metaC t' wk' mo' le' ha' fr' wh' er' A' n' c' ten' kp') 39)) w.heap.size 39 (metaC t wk mo le ha fr wh er A n c ten kp) := (Blk.new w 39 _).alloc _
  have k1 : Blk ((w.alloc (.cells (metaC t wk mo le ha fr wh er A n c ten kp) 39)).alloc (.cells (metaC t' wk' mo' le' ha' fr' wh' er' A' n' c' ten' kp') 39)) (w.heap.size + 1) 39 (metaC t' wk' mo' le' ha' fr' wh' er' A' n' c' ten' kp') := by
    have := Blk.new (w.alloc (.cells (metaC t wk mo le ha fr wh er A n c ten kp) 39)) 39 (metaC t' wk' mo' le' ha' fr' wh' er' A' n' c' ten' kp')
    simpa using this
  have sa := hk.below hb0 (Nat.le_refl _)
  have sb := hk'.below hb0 (Nat.le_refl _)
  have HB := Lib.hid hb0
  have K0 := Lib.hid k0
  have K1 := Lib.hid k1
  have SA := Lib.hid sa
  have SB := Lib.hid sb
  clear hb0 k0 k1 sa sb hk hk'
  go_enter Tryz.func87, Tryz.ntmps87
  go_wp2_with fail
  refine (metaRight_any t wk mo le ha fr wh er A n c ten kp _ ks w.heap.size SA.out (by simp; omega) hn hnc).mono ?_
  rintro e w1 ⟨rfl, hb⟩
  have hs1 : w.heap.size + 1 + 1 ≤ w1.heap.size := by simpa using hb.size
  have k0 := K0.out.below hb (by simp; omega)
  have k1 := K1.out.below hb (by simp)
  have sa := SA.out.below (hb.mono (by simp; omega)) (Nat.le_refl _)
  have sb := SB.out.below (hb.mono (by simp; omega)) (Nat.le_refl _)
  obtain ⟨a0, a1, a2, a3, a4, a5, a6, a7, a8, a9, a10⟩ := metaCells k0
  obtain ⟨b0, b1, b2, b3, b4, b5, b6, b7, b8, b9, b10⟩ := metaCells k1
  have hbb := HB.out.trans (hb.mono (by simp; omega))
  clear K0 K1 SA SB HB
  have K0 := Lib.hid k0
  have K1 := Lib.hid k1
  have SA := Lib.hid sa
  have SB := Lib.hid sb
  have HB := Lib.hid hbb
  clear hb k0 k1 sa sb hbb
  by_cases h : metaOK t wk mo le ha fr wh er ks ten = true
  case neg =>
    have h : metaOK t wk mo le ha fr wh er ks ten = false := by simpa using h
    have H1 := Lib.hid h
    rw [h]
    clear h
    go_wp2_with fail
    go_ret
    exact ⟨ret_bool (by simp [followsB, H1.out]), HB.out⟩
  have H1 := Lib.hid h
  rw [h]
  clear h
  go_wp2_with fail
  refine (metaRight_any t' wk' mo' le' ha' fr' wh' er' A' n' c' ten' kp' _ ks' w.heap.size SB.out (by omega) hn' hnc').mono ?_
  rintro e w2 ⟨rfl, hb⟩
  clear a0 a1 a2 a3 a4 a5 a6 a7 a8 a9 a10 b0 b1 b2 b3 b4 b5 b6 b7 b8 b9 b10
  have hs2 : w.heap.size + 1 + 1 ≤ w2.heap.size := by have := hb.size; omega
  have k0 := K0.out.below hb (by omega)
  have k1 := K1.out.below hb (by omega)
  have sa := SA.out.below (hb.mono (by omega)) (Nat.le_refl _)
  have sb := SB.out.below (hb.mono (by omega)) (Nat.le_refl _)
  obtain ⟨a0, a1, a2, a3, a4, a5, a6, a7, a8, a9, a10⟩ := metaCells k0
  obtain ⟨b0, b1, b2, b3, b4, b5, b6, b7, b8, b9, b10⟩ := metaCells k1
  have hbb := HB.out.trans (hb.mono (by omega))
  clear K0 K1 SA SB HB
  have K0 := Lib.hid k0
  have K1 := Lib.hid k1
  have SA := Lib.hid sa
  have SB := Lib.hid sb
  have HB := Lib.hid hbb
  clear hb k0 k1 sa sb hbb
  by_cases h : metaOK t' wk' mo' le' ha' fr' wh' er' ks' ten' = true
  case neg =>
    have h : metaOK t' wk' mo' le' ha' fr' wh' er' ks' ten' = false := by simpa using h
    have H2 := Lib.hid h
    rw [h]
    clear h
    go_wp2_with fail
    go_ret
    exact ⟨ret_bool (by simp [followsB, H2.out]), HB.out⟩
  have H2 := Lib.hid h
  rw [h]
  clear h
  go_wp2_with fail
  refine (metaJoins_any t wk mo le ha fr wh er A n c ten kp _).mono ?_
  rintro e w3 ⟨rfl, hb⟩
  clear a0 a1 a2 a3 a4 a5 a6 a7 a8 a9 a10 b0 b1 b2 b3 b4 b5 b6 b7 b8 b9 b10
  have hs3 : w.heap.size + 1 + 1 ≤ w3.heap.size := by have := hb.size; omega
  have k0 := K0.out.below hb (by omega)
  have k1 := K1.out.below hb (by omega)
  have sa := SA.out.below (hb.mono (by omega)) (Nat.le_refl _)
  have sb := SB.out.below (hb.mono (by omega)) (Nat.le_refl _)
  obtain ⟨a0, a1, a2, a3, a4, a5, a6, a7, a8, a9, a10⟩ := metaCells k0
  obtain ⟨b0, b1, b2, b3, b4, b5, b6, b7, b8, b9, b10⟩ := metaCells k1
  have hbb := HB.out.trans (hb.mono (by omega))
  clear K0 K1 SA SB HB
  have K0 := Lib.hid k0
  have K1 := Lib.hid k1
  have SA := Lib.hid sa
  have SB := Lib.hid sb
  have HB := Lib.hid hbb
  clear hb k0 k1 sa sb hbb
  by_cases h : (tagOK t && !wk) = true
  case neg =>
    have h : (tagOK t && !wk) = false := by simpa using h
    have H3 := Lib.hid h
    rw [h]
    clear h
    go_wp2_with fail
    go_ret
    exact ⟨ret_bool (by simp only [followsB, H3.out]; simp), HB.out⟩
  have H3 := Lib.hid h
  rw [h]
  clear h
  go_wp2_with fail
  refine (tagStrong_any t wk t' wk' _).mono ?_
  rintro e w4 ⟨rfl, hb⟩
  clear a0 a1 a2 a3 a4 a5 a6 a7 a8 a9 a10 b0 b1 b2 b3 b4 b5 b6 b7 b8 b9 b10
  have hs4 : w.heap.size + 1 + 1 ≤ w4.heap.size := by have := hb.size; omega
  have k0 := K0.out.below hb (by omega)
  have k1 := K1.out.below hb (by omega)
  have sa := SA.out.below (hb.mono (by omega)) (Nat.le_refl _)
  have sb := SB.out.below (hb.mono (by omega)) (Nat.le_refl _)
  obtain ⟨a0, a1, a2, a3, a4, a5, a6, a7, a8, a9, a10⟩ := metaCells k0
  obtain ⟨b0, b1, b2, b3, b4, b5, b6, b7, b8, b9, b10⟩ := metaCells k1
  have hbb := HB.out.trans (hb.mono (by omega))
  clear K0 K1 SA SB HB
  have K0 := Lib.hid k0
  have K1 := Lib.hid k1
  have SA := Lib.hid sa
  have SB := Lib.hid sb
  have HB := Lib.hid hbb
  clear hb k0 k1 sa sb hbb
  by_cases h : strongB t wk t' wk' = true
  case neg =>
    have h : strongB t wk t' wk' = false := by simpa using h
    have H4 := Lib.hid h
    rw [h]
    clear h
    go_wp2_with fail
    go_ret
    exact ⟨ret_bool (by simp [followsB, H4.out]), HB.out⟩
  have H4 := Lib.hid h
  rw [h]
  clear h
  by_cases hm : (mo != mo') = true
  · go_wp2_with fail
    go_ret
    refine ⟨ret_bool ?_, HB.out⟩
    have : decide (mo = mo') = false := by simpa using hm
    simp [followsB, this]
  have hm : (mo != mo') = false := by simpa using hm
  have HM : Hid (decide (mo = mo') = true) := by show decide (mo = mo') = true; simpa using hm
  by_cases hl : (le != -1) = true
  · have HL := Lib.hid hl
    go_wp2_with fail
    go_ret
    refine ⟨ret_bool ?_, HB.out⟩
    have : ¬ le = -1 := by simpa using HL.out
    simp only [followsB, H1.out, H2.out, H3.out, H4.out, HM.out, if_neg this, Bool.true_and]
    rw [Bool.eq_iff_iff]; simp
  · have hl : (le != -1) = false := by simpa using hl
    have HL := Lib.hid hl
    go_wp2_with fail
    go_ret
    refine ⟨ret_bool ?_, HB.out⟩
    have : le = -1 := by simpa using HL.out
    simp only [followsB, H1.out, H2.out, H3.out, H4.out, HM.out, if_pos this, Bool.true_and]


end Go.Proofs.YtoaiamgcegnjjaaGreatDoor
