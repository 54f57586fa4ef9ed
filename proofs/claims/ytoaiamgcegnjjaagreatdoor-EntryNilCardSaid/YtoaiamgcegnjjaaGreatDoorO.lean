/- The law's example: wakes returns true. No condition. -/
import Derived.Test.YtoaiamgcegnjjaaGreatDoorN
namespace Go.Proofs.YtoaiamgcegnjjaaGreatDoor
open Go.RowKit Go.Maps Go.WideMaps Go.Sort
set_option maxRecDepth 100000

theorem land_ok {w : World} {base tb m : Nat} {T : TabS} (h : Tab w base tb m T) (hm : m < 40000) (obj : ByteArray) (st : Int) (M : MetaS) (A : Option Addr) (n c : Nat) (sf sto age ti mo ge : Int) (hk : Strs w base A n M.ks) (hn : n ≤ 9223372036854775807) (hnc : n ≤ c)
    (hok : landOK obj M age ti mo ge = true) {id : Int} {b : Bool} (hl : (landS T obj M age ti mo ge).2 = (id, b)) :
    Calls Tryz.prog 29 #[.pointer (some ⟨tb, 0, none⟩), .string obj, .agg (replyC st M A n c sf sto age), .agg #[.int .i64 ti, .int .i64 mo, .int .i64 ge]] w fun en w' => en = .returned (.tuple #[.int .i64 id, .bool b]) ∧ Keeps base w w' ∧ Tab w' base tb (m + 4) (landS T obj M age ti mo ge).1 := by
  obtain ⟨be, bo, kf, of_, rf, hR⟩ := h
  refine land_guard hR hm obj st M A n c sf sto age ti mo ge hk hn hnc _ (fun h => by rw [hok] at h; cases h) (fun _ w' T' id' b' he hkp ht => ?_)
  rw [he] at hl ⊢
  simp only [Prod.mk.injEq] at hl
  obtain ⟨rfl, rfl⟩ := hl
  exact ⟨rfl, hkp, ht⟩

def metaL (s : ByteArray) : MetaS := { t := s, wk := false, mo := -1, le := 4, ha := 4, fr := 9, wh := 0, er := 0, ks := [], ten := ByteArray.empty, kp := true }

theorem meta_any (s : ByteArray) (w : World) : Calls Tryz.prog 43 #[.string s] w fun e w' => e = .returned (.agg (metaC s false (-1) 4 4 9 0 0 none 0 0 ByteArray.empty true)) ∧ Below w.heap.size w w' := by
  go_enter Tryz.func43, Tryz.ntmps43
  go_wp2
  exact bodyPost_ret (v := .agg (metaC s false (-1) 4 4 9 0 0 none 0 0 ByteArray.empty true)) (by simp [results, Tryz.results43, go_sem]; rfl) rfl ⟨rfl, (Below.refl _ _).alloc (Nat.le_refl _) _⟩

def so : ByteArray := ⟨#[47, 111]⟩
def v1 : ByteArray := ⟨#[118, 49]⟩
def v2 : ByteArray := ⟨#[118, 50]⟩
def T1 : TabS := (landS (emptyT 1) so (metaL v1) 0 0 5 0).1
def T2 : TabS := (landS T1 so (metaL v2) 0 0 9 0).1
def T3 : TabS := (landS T2 so (metaL v1) 0 0 7 0).1
def E1 : Ent := newEnt 1 so (metaL v1) 0 7 0
theorem ok1 : landOK so (metaL v1) 0 0 5 0 = true := by kernel_rfl
theorem ok2 : landOK so (metaL v2) 0 0 9 0 = true := by kernel_rfl
theorem ok3 : landOK so (metaL v1) 0 0 7 0 = true := by kernel_rfl
theorem id1 : (landS (emptyT 1) so (metaL v1) 0 0 5 0).2 = (1, true) := by kernel_rfl
theorem id2 : (landS T1 so (metaL v2) 0 0 9 0).2 = (2, true) := by kernel_rfl
theorem id3 : (landS T2 so (metaL v1) 0 0 7 0).2 = (1, false) := by kernel_rfl
theorem last3 : lastS T3 so = some 2 := by kernel_rfl
theorem ent3 : T3.ents 1 = some E1 := by kernel_rfl
theorem turn3 : turnedS T3 E1 = true := by kernel_rfl

theorem tab_grow {w w' : World} {base tb m : Nat} {T : TabS} (h : Tab w base tb m T) (hb : Below w.heap.size w w') : Tab w' base tb m T := by
  obtain ⟨be, bo, kf, of_, rf, hR⟩ := h
  exact ⟨be, bo, kf, of_, rf, hR.grow hb⟩

set_option maxHeartbeats 1000000 in
theorem wakes_any (w : World) : Calls Tryz.prog 11 #[] w fun e w' => e = .returned (.bool true) ∧ Below w.heap.size w w' := by
  go_enter Tryz.func11, Tryz.ntmps11
  go_wp2_with fail
  refine (load_nil w).mono ?_
  rintro en w1 ⟨tb, rfl, ht, hb⟩
  have HT := Lib.hid ht
  have HB := Lib.hid hb
  clear ht hb
  go_wp2_with fail
  refine (meta_any _ _).mono ?_
  rintro en w2 ⟨rfl, hb⟩
  have htw2 := tab_grow HT.out hb
  have HBw2 := Lib.hid (HB.out.trans (hb.mono HB.out.size))
  clear hb HT HB
  have HT := Lib.hid htw2
  have HB := Lib.hid HBw2.out
  clear htw2 HBw2
  go_wp2_with fail
  refine (land_ok HT.out (by omega) so 200 (metaL v1) none 0 0 0 0 0 0 5 0 Rd.nil (by omega) (Nat.le_refl _) ok1 id1).mono ?_
  rintro en w3 ⟨rfl, hk, ht⟩
  have hbb := HB.out.trans hk.below
  clear HT HB
  have HT := Lib.hid (show Tab w3 w.heap.size tb _ T1 from ht)
  have HB := Lib.hid hbb
  clear hk ht hbb
  go_wp2_with fail
  refine (meta_any _ _).mono ?_
  rintro en w4 ⟨rfl, hb⟩
  have htw4 := tab_grow HT.out hb
  have HBw4 := Lib.hid (HB.out.trans (hb.mono HB.out.size))
  clear hb HT HB
  have HT := Lib.hid htw4
  have HB := Lib.hid HBw4.out
  clear htw4 HBw4
  go_wp2_with fail
  refine (land_ok HT.out (by omega) so 200 (metaL v2) none 0 0 0 0 0 0 9 0 Rd.nil (by omega) (Nat.le_refl _) ok2 id2).mono ?_
  rintro en w5 ⟨rfl, hk, ht⟩
  have hbb := HB.out.trans hk.below
  clear HT HB
  have HT := Lib.hid (show Tab w5 w.heap.size tb _ T2 from ht)
  have HB := Lib.hid hbb
  clear hk ht hbb
  go_wp2_with fail
  refine (meta_any _ _).mono ?_
  rintro en w6 ⟨rfl, hb⟩
  have htw6 := tab_grow HT.out hb
  have HBw6 := Lib.hid (HB.out.trans (hb.mono HB.out.size))
  clear hb HT HB
  have HT := Lib.hid htw6
  have HB := Lib.hid HBw6.out
  clear htw6 HBw6
  go_wp2_with fail
  refine (land_ok HT.out (by omega) so 200 (metaL v1) none 0 0 0 0 0 0 7 0 Rd.nil (by omega) (Nat.le_refl _) ok3 id3).mono ?_
  rintro en w7 ⟨rfl, hk, ht⟩
  have hbb := HB.out.trans hk.below
  clear HT HB
  have HT := Lib.hid (show Tab w7 w.heap.size tb _ T3 from ht)
  have HB := Lib.hid hbb
  clear hk ht hbb
  go_wp2_with fail
  obtain ⟨be, bo, kf, of_, rf, hR⟩ := HT.out
  refine (last_any hR (s := so) (by unfold maxLen; decide)).mono ?_
  rintro en w8 ⟨rfl, hb8⟩
  have hR8 := hR.grow hb8
  have HB8 := Lib.hid (HB.out.trans (hb8.mono HB.out.size))
  have HR8 := Lib.hid hR8
  clear hR hb8 hR8 HB HT
  rw [last3]
  go_wp2_with fail
  obtain ⟨g, hg⟩ := HR8.out.kf_some (id := 1) (by rw [ent3]; rfl)
  refine (get_some HR8.out (e := E1) (by decide) hg ent3).mono ?_
  rintro en w9 ⟨⟨A', n, c', rfl, hnc, hown⟩, hb9⟩
  rw [turn3]
  have HB9 := Lib.hid (HB8.out.trans (hb9.mono HB8.out.size))
  clear hown hb9 hnc
  go_wp2_with fail
  go_ret
  exact ⟨rfl, HB9.out.alloc HB9.out.size _⟩

end Go.Proofs.YtoaiamgcegnjjaaGreatDoor
