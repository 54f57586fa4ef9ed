/- A note is kept. -/
import Derived.Test.YtmgmfnimaafkdaaGreatDoorUC
import Derived.Test.YtmgmfnimaafkdaaGreatDoorVX
namespace Go.Proofs.YtmgmfnimaafkdaaGreatDoor
section
open Go.RowKit Go.Maps
set_option maxRecDepth 100000

theorem StR.noting {w : World} {base Sb : Nat} {s : StV} {m : StM} (h : StR w base Sb s m) (v : Int) (hv : wfI v) (t : List UInt8) (l' : List (Int × List UInt8)) (hl : ∀ y, getL l' y = if y = v then some t else getL s.notes y) (hs : SrtN l') (hr : ∀ x ∈ l', rightB x.1 = true ∧ x.2.length ≤ 3000) (hn : s.notes.length < 1000000) :
  ∃ w', (Instr.mapUpdate 124 (.map (some m.Nb)) (.int .i64 v) (strV t)).run Tryz.prog w = .ok () w' ∧ StR w' base Sb { s with notes := l' } m ∧ KeepS base m m w w' ∧ Keeps base [1000000] w w' ∧ w.mapTurned w' m.Nb := by
 obtain ⟨w', hrun, hin, htu⟩ := h.nmap.put (by unfold maxLen; omega) hv t
 obtain ⟨h1, h2⟩ := h.noted htu (hin.congr fun y _ => hl y) hs hr
 exact ⟨w', hrun, h1, h2, KV.turned htu h.nlow h.lt, htu⟩
theorem StR.unnoting {w : World} {base Sb : Nat} {s : StV} {m : StM} (h : StR w base Sb s m) (v : Int) (hv : wfI v) (l' : List (Int × List UInt8)) (hl : ∀ y, getL l' y = if y = v then none else getL s.notes y) (hs : SrtN l') (hr : ∀ x ∈ l', rightB x.1 = true ∧ x.2.length ≤ 3000) :
  ∃ w', (Builtin.delete_ #[124, 2] 0 #[.map (some m.Nb), .int .i64 v]).run Tryz.prog w = .ok (.tuple #[]) w' ∧ StR w' base Sb { s with notes := l' } m ∧ KeepS base m m w w' ∧ Keeps base [1000000] w w' ∧ w.mapTurned w' m.Nb := by
 obtain ⟨w', hrun, hin, htu⟩ := h.nmap.drop hv 0
 obtain ⟨h1, h2⟩ := h.noted htu (hin.congr fun y _ => hl y) hs hr
 exact ⟨w', hrun, h1, h2, KV.turned htu h.nlow h.lt, htu⟩
set_option maxHeartbeats 8000000 in
theorem undoNote_any {w : World} {base Sb T Z X Y : Nat} {s : StV} {m : StM} {v : Int} {t was : List UInt8} {there : Bool} (h : StR w base Sb { s with notes := putN v t s.notes } m) (hv : wfI v)
  (hT : Blk w T 4 #[.bool there]) (hZ : Blk w Z 9 #[.string ⟨was.toArray⟩]) (hX : Blk w X 28 #[.pointer (some ⟨Sb, 0, none⟩)]) (hY : Blk w Y 2 #[.int .i64 v])
  (hw : getL s.notes v = if there = true then some was else none) (hs : SrtN s.notes) (hr : ∀ x ∈ s.notes, rightB x.1 = true ∧ x.2.length ≤ 3000) (hn : s.notes.length < 999999) :
  Calls Tryz.prog 132 #[.pointer (some ⟨T, 0, none⟩), .pointer (some ⟨Z, 0, none⟩), .pointer (some ⟨X, 0, none⟩), .pointer (some ⟨Y, 0, none⟩)] w fun e w' => e = .returned (.tuple #[]) ∧ StR w' base Sb s m ∧ KeepS base m m w w' ∧ Keeps base [1000000] w w' := by
 have hbw := h.lt
 have sl := h.blk.lt
 have tl := hT.lt
 have zl := hZ.lt
 have xl := hX.lt
 have yl := hY.lt
 have t0 : w.cell? ⟨T, 0, none⟩ = some (.bool there) := hT.cell 0
 have HK := hZ9 (show Below w.heap.size w w.drew from bR0.drew)
 cases there with
 | true =>
  rw [if_pos rfl] at hw
  have hl : ∀ y, getL s.notes y = if y = v then some was else getL (putN v t s.notes) y := fun y => by
   by_cases e : y = v
   ·rw [if_pos e, e]; exact hw
   ·rw [if_neg e, getL_putN, if_neg e]
  obtain ⟨w8, hrun, hs8, hk8, hkk8, htu⟩ := (h.below HK.out).noting v hv was s.notes hl hs hr (by show (putN v t s.notes).length < _; have := putN_len (k := v) (v := t) s.notes; omega)
  replace hrun : (Instr.mapUpdate 124 (.map (some m.Nb)) (.int .i64 v) (.string ⟨was.toArray⟩)).run Tryz.prog w.drew = .ok () w8 := hrun
  have S0 := hZ9 (show w.drew.cell? ⟨X, 0, none⟩ = some (.pointer (some ⟨Sb, 0, none⟩)) ∧ w.drew.cell? ⟨Sb, 4, none⟩ = some (.map (some m.Nb)) ∧ w.drew.cell? ⟨Y, 0, none⟩ = some (.int .i64 v) ∧ w.drew.cell? ⟨Z, 0, none⟩ = some (.string ⟨was.toArray⟩) from
   ⟨hX.drew.cell 0, h.blk.drew.cell 4, hY.drew.cell 0, hZ.drew.cell 0⟩)
  have S8 := hZ9 (show w8.cell? ⟨X, 0, none⟩ = some (.pointer (some ⟨Sb, 0, none⟩)) ∧ w8.cell? ⟨Sb, 4, none⟩ = some (.map (some m.Nb)) ∧ w8.cell? ⟨Y, 0, none⟩ = some (.int .i64 v) ∧ w8.cell? ⟨Z, 0, none⟩ = some (.string ⟨was.toArray⟩) from
   ⟨(hX.drew.keeps hkk8 (by decide)).cell 0, (h.blk.drew.keeps hkk8 (by decide)).cell 4, (hY.drew.keeps hkk8 (by decide)).cell 0, (hZ.drew.keeps hkk8 (by decide)).cell 0⟩)
  have HQ := hZ9 (show StR w8 base Sb s m ∧ KeepS base m m w w8 ∧ Keeps base [1000000] w w8 from ⟨hs8, (KeepS.of_below (m := m) HK.out hbw).trans hk8, (Keeps.of_below HK.out hbw).trans hkk8⟩)
  clear h hT hZ hX hY hs8 hk8 hkk8 htu hw hl hs hr
  go_enter Tryz.func132, Tryz.ntmps132
  go_upto_region 1 with fail
  go_region_held3 (fun wy => wy.cell? ⟨X, 0, none⟩ = some (.pointer (some ⟨Sb, 0, none⟩)) ∧ wy.cell? ⟨Sb, 4, none⟩ = some (.map (some m.Nb)) ∧ wy.cell? ⟨Y, 0, none⟩ = some (.int .i64 v) ∧ wy.cell? ⟨Z, 0, none⟩ = some (.string ⟨was.toArray⟩))
   (first | exact S0.out | exact S8.out)
   (fail)
  all_goals
   go_wp2_with fail
   go_end0
   exact ⟨rfl, HQ.out⟩
 | false =>
  rw [if_neg (by simp)] at hw
  have hl : ∀ y, getL s.notes y = if y = v then none else getL (putN v t s.notes) y := fun y => by
   by_cases e : y = v
   ·rw [if_pos e, e]; exact hw
   ·rw [if_neg e, getL_putN, if_neg e]
  obtain ⟨w8, hrun, hs8, hk8, hkk8, htu⟩ := (h.below HK.out).unnoting v hv s.notes hl hs hr
  have S0 := hZ9 (show w.drew.cell? ⟨X, 0, none⟩ = some (.pointer (some ⟨Sb, 0, none⟩)) ∧ w.drew.cell? ⟨Sb, 4, none⟩ = some (.map (some m.Nb)) ∧ w.drew.cell? ⟨Y, 0, none⟩ = some (.int .i64 v) from
   ⟨hX.drew.cell 0, h.blk.drew.cell 4, hY.drew.cell 0⟩)
  have S8 := hZ9 (show w8.cell? ⟨X, 0, none⟩ = some (.pointer (some ⟨Sb, 0, none⟩)) ∧ w8.cell? ⟨Sb, 4, none⟩ = some (.map (some m.Nb)) ∧ w8.cell? ⟨Y, 0, none⟩ = some (.int .i64 v) from
   ⟨(hX.drew.keeps hkk8 (by decide)).cell 0, (h.blk.drew.keeps hkk8 (by decide)).cell 4, (hY.drew.keeps hkk8 (by decide)).cell 0⟩)
  have HQ := hZ9 (show StR w8 base Sb s m ∧ KeepS base m m w w8 ∧ Keeps base [1000000] w w8 from ⟨hs8, (KeepS.of_below (m := m) HK.out hbw).trans hk8, (Keeps.of_below HK.out hbw).trans hkk8⟩)
  clear h hT hZ hX hY hs8 hk8 hkk8 htu hw hl hs hr
  go_enter Tryz.func132, Tryz.ntmps132
  go_upto_region 2 with fail
  go_region_held3 (fun wy => wy.cell? ⟨X, 0, none⟩ = some (.pointer (some ⟨Sb, 0, none⟩)) ∧ wy.cell? ⟨Sb, 4, none⟩ = some (.map (some m.Nb)) ∧ wy.cell? ⟨Y, 0, none⟩ = some (.int .i64 v))
   (first | exact S0.out | exact S8.out)
   (fail)
  all_goals
   go_wp2_with fail
   go_end0
   exact ⟨rfl, HQ.out⟩
end
section
open Go.RowKit Go.Maps Go.Shelf Go.Sort
set_option maxRecDepth 100000

theorem StOK.noted {s : StV} (ok : StOK s) {v : Int} {t : List UInt8} (hv : rightB v = true) (ht : t.length ≤ 3000) : StL { s with notes := putN v t s.notes } := by
 have h := ok.l
 refine ⟨h.srtS, h.num, putN_srt h.srtN, fun x hx => ?_, h.mks, h.nS, ?_, h.nM⟩
 ·rcases mem_putN hx with rfl | hx
  ·exact ⟨hv, ht⟩
  ·exact h.txt x hx
 ·have := ok.nN
  have := putN_len (k := v) (v := t) s.notes
  show (putN v t s.notes).length ≤ _
  omega
set_option maxHeartbeats 8000000 in
theorem note_any {w : World} {base Sb : Nat} {s : StV} {m : StM} (h : StR w base Sb s m) (ok : StOK s) (v : Int) (t : List UInt8) :
  Calls Tryz.prog 75 #[.pointer (some ⟨Sb, 0, none⟩), .int .i64 v, strV t] w fun e w' => ActOut w w' base Sb m (noteStore s v t) e := by
 have HH := hZ9 h
 have HK := hZ9 ok
 have hlt := h.lt
 have hsl := h.blk.lt
 have hsz : (⟨t.toArray⟩ : ByteArray).size = t.length := by simp [ByteArray.size]
 have HX := hZ9 (show Blk ((w.alloc (.cells #[.pointer (some ⟨Sb, 0, none⟩)] 28)).alloc (.cells #[.int .i64 v] 2)) w.heap.size 28 #[.pointer (some ⟨Sb, 0, none⟩)] from (Blk.new _ _ _).alloc _)
 have HY := hZ9 (show Blk ((w.alloc (.cells #[.pointer (some ⟨Sb, 0, none⟩)] 28)).alloc (.cells #[.int .i64 v] 2)) (w.heap.size + 1) 2 #[.int .i64 v] from Blk.new_eq0 (by simp))
 have HB0 : Hid (Below w.heap.size w ((w.alloc (.cells #[.pointer (some ⟨Sb, 0, none⟩)] 28)).alloc (.cells #[.int .i64 v] 2))) := (bR0.alloc nR0 _).alloc (by simp) _
 obtain ⟨q, hq⟩ : ∃ q, q = noteStore s v t := ⟨_, rfl⟩
 rw [← hq]
 have HQ := hZ9 hq
 have R1 := hZ9 (fun wy => show Calls Tryz.prog 104 #[.int .i64 v] wy fun e w' => e = .returned (.bool (rightB v)) ∧ wy = w' from right_any v wy)
 clear h ok hq
 unfold strV
 go_enter Tryz.func75, Tryz.ntmps75
 go_upto_region 1 with fail
 generalize (w.alloc (.cells #[.pointer (some ⟨Sb, 0, none⟩)] 28)).alloc (.cells #[.int .i64 v] 2) = w1 at *
 have hw1 := HB0.out.size
 have c0 : w1.cell? ⟨w.heap.size, 0, none⟩ = some (.pointer (some ⟨Sb, 0, none⟩)) := HX.out.cell 0
 have c1 : w1.cell? ⟨w.heap.size + 1, 0, none⟩ = some (.int .i64 v) := HY.out.cell 0
 have xl := HX.out.lt
 have yl := HY.out.lt
 by_cases hv : rightB v = true
 case neg =>
  have hv' : rightB v = false := by simpa using hv
  rw [hv'] at R1
  have hq1 : q = (1, s) := by rw [HQ.out]; unfold noteStore; rw [if_pos (.inl hv')]
  subst hq1
  go_wp2_with (go_at_call 104; refine (R1.out _).mono ?_; rintro en w' ⟨rfl, rfl⟩)
  go_ret
  exact ⟨rfl, m, HH.out.below HB0.out, KeepS.of_below HB0.out hlt⟩
 case pos =>
  rw [hv] at R1
  by_cases ht : 3000 < t.length
  ·have hq1 : q = (1, s) := by rw [HQ.out]; unfold noteStore; rw [if_pos (.inr ht)]
   subst hq1
   have ht' : (t.length : Int) > 3000 := by omega
   go_wp2_with (go_at_call 104; refine (R1.out _).mono ?_; rintro en w' ⟨rfl, rfl⟩)
   go_ret
   exact ⟨rfl, m, HH.out.below HB0.out, KeepS.of_below HB0.out hlt⟩
  ·have ht' : ¬ ((t.length : Int) > 3000) := by omega
   have hq1 : q = match loggedS { s with notes := putN v t s.notes } s (78, wordsS [v] ++ 32 :: t) with
     | (0, s1) => syncS s1
     | (e, s1) => (e, s1) := by rw [HQ.out]; unfold noteStore; rw [if_neg (by rintro (e | e); (· rw [hv] at e; cases e); exact ht e)]; rfl
   have hwv := wfI_right hv
   go_upto_region 5 with (go_at_call 104; refine (R1.out _).mono ?_; rintro en w' ⟨rfl, rfl⟩)
   clear c0 c1 R1
   obtain ⟨X, hX⟩ : ∃ X, X = w.heap.size := ⟨_, rfl⟩
   obtain ⟨Y, hY⟩ : ∃ Y, Y = w.heap.size + 1 := ⟨_, rfl⟩
   rw [← hY] at HY yl
   rw [← hX] at HX xl
   rw [← hY, ← hX]
   clear hX hY
   have hbw1 : base ≤ w1.heap.size := by omega
   have H1 := hZ9 (HH.out.below HB0.out)
   obtain ⟨was, hwas⟩ : ∃ was, was = (getL s.notes v).getD [] := ⟨_, rfl⟩
   obtain ⟨th, hth⟩ : ∃ th, th = (getL s.notes v).isSome := ⟨_, rfl⟩
   have SK := hZ9 (show ∀ wy, Below w1.heap.size w1 wy → wy.cell? ⟨X, 0, none⟩ = some (.pointer (some ⟨Sb, 0, none⟩)) ∧ wy.cell? ⟨Sb, 4, none⟩ = some (.map (some m.Nb)) ∧ wy.cell? ⟨Y, 0, none⟩ = some (.int .i64 v) ∧ (Instr.lookup 124 (.map (some m.Nb)) (.int .i64 v) true).run Tryz.prog wy = .ok (.tuple #[.string ⟨was.toArray⟩, .bool th]) wy from fun wy hy => by
    refine ⟨(HX.out.below hy HX.out.lt).cell 0, (H1.out.below hy).blk.cell 4, (HY.out.below hy HY.out.lt).cell 0, ?_⟩
    have := (H1.out.below hy).nmap.look_ok (x := v) hwv
    rw [hwas, hth]
    exact this)
   have S0 := hZ9 (SK.out _ bR0.drew)
   have HWAS := hZ9 hwas
   have HTH := hZ9 hth
   clear hwas hth
   go_cut [7, 8] (fun v7 v8 wx => ∃ k7 k8, v7 = .pointer (some ⟨k7, 0, none⟩) ∧ v8 = .pointer (some ⟨k8, 0, none⟩) ∧ Blk wx k7 9 #[.string ⟨was.toArray⟩] ∧ Blk wx k8 4 #[.bool th] ∧ Below w1.heap.size w1 wx)
   case first =>
    go_region_held3 (fun wy => wy.cell? ⟨X, 0, none⟩ = some (.pointer (some ⟨Sb, 0, none⟩)) ∧ wy.cell? ⟨Sb, 4, none⟩ = some (.map (some m.Nb)) ∧ wy.cell? ⟨Y, 0, none⟩ = some (.int .i64 v) ∧ (Instr.lookup 124 (.map (some m.Nb)) (.int .i64 v) true).run Tryz.prog wy = .ok (.tuple #[.string ⟨was.toArray⟩, .bool th]) wy)
     (first | exact S0.out | (refine SK.out _ ?_; repeat' (first | exact bR0 | refine Below.drew ?_ | refine Below.alloc ?_ (by simp) _ | refine below_set ?_ (by simp) _)))
     (fail)
    all_goals
     go_wp2_with fail
     go_meet
     refine ⟨_, _, rfl, rfl, ?_, ?_, ?_⟩
     (repeat' (first | exact Blk.new _ _ _ | exact Blk.new_eq0 (by simp) | refine Blk.drew ?_ | refine Blk.alloc ?_ _))
     (repeat' (first | exact Blk.new _ _ _ | exact Blk.new_eq0 (by simp) | refine Blk.drew ?_ | refine Blk.alloc ?_ _))
     (repeat' (first | exact bR0 | refine Below.drew ?_ | refine Below.alloc ?_ (by simp) _))
   case rest =>
    obtain ⟨k7, k8, rfl, rfl, h7, h8, hb2⟩ := hcut
    obtain ⟨w9, hrun, hs9, hk9, hkk9, htu⟩ := ((H1.out.below hb2).below bR0.drew).noting v hwv t (putN v t s.notes) (fun y => getL_putN v t y s.notes) (putN_srt HK.out.srtN) (fun x hx => by
     rcases mem_putN hx with rfl | hx
     ·exact ⟨hv, by show t.length ≤ 3000; omega⟩
     ·exact HK.out.txt x hx) (by have := HK.out.nN; omega)
    replace hrun : (Instr.mapUpdate 124 (.map (some m.Nb)) (.int .i64 v) (.string ⟨t.toArray⟩)).run Tryz.prog wc.drew = .ok () w9 := hrun
    have hxc := HX.out.below hb2 HX.out.lt
    have hyc := HY.out.below hb2 HY.out.lt
    have hhc := H1.out.below hb2
    have S6 := hZ9 (show wc.drew.cell? ⟨X, 0, none⟩ = some (.pointer (some ⟨Sb, 0, none⟩)) ∧ wc.drew.cell? ⟨Sb, 4, none⟩ = some (.map (some m.Nb)) ∧ wc.drew.cell? ⟨Y, 0, none⟩ = some (.int .i64 v) from ⟨hxc.drew.cell 0, hhc.blk.drew.cell 4, hyc.drew.cell 0⟩)
    have S9 := hZ9 (show w9.cell? ⟨X, 0, none⟩ = some (.pointer (some ⟨Sb, 0, none⟩)) ∧ w9.cell? ⟨Sb, 4, none⟩ = some (.map (some m.Nb)) ∧ w9.cell? ⟨Y, 0, none⟩ = some (.int .i64 v) from ⟨(hxc.drew.keeps hkk9 (by decide)).cell 0, (hhc.blk.drew.keeps hkk9 (by decide)).cell 4, (hyc.drew.keeps hkk9 (by decide)).cell 0⟩)
    have H9 := hZ9 (show StR w9 base Sb { s with notes := putN v t s.notes } m ∧ KeepS base m m w w9 ∧ Blk w9 X 28 #[.pointer (some ⟨Sb, 0, none⟩)] ∧ Blk w9 Y 2 #[.int .i64 v] ∧ Blk w9 k7 9 #[.string ⟨was.toArray⟩] ∧ Blk w9 k8 4 #[.bool th] from
     ⟨hs9, (KeepS.of_below (m := m) (HB0.out.trans ((hb2.mono hw1).trans (bR0.drew.mono (Nat.le_trans hw1 hb2.size)))) hlt).trans hk9, hxc.drew.keeps hkk9 (by decide), hyc.drew.keeps hkk9 (by decide), h7.drew.keeps hkk9 (by decide), h8.drew.keeps hkk9 (by decide)⟩)
    have hslc := hhc.blk.lt
    have hxl := hxc.lt
    have hyl := hyc.lt
    clear h7 h8 hb2 hs9 hk9 hkk9 htu hxc hyc hhc S0 SK H1 HX HY HB0
    go_upto_region 6 with fail
    go_cut [7] (fun v7 wx => v7 = .pointer (some ⟨k7, 0, none⟩) ∧ wx = w9)
    case first =>
     go_region_held3 (fun wy => wy.cell? ⟨X, 0, none⟩ = some (.pointer (some ⟨Sb, 0, none⟩)) ∧ wy.cell? ⟨Sb, 4, none⟩ = some (.map (some m.Nb)) ∧ wy.cell? ⟨Y, 0, none⟩ = some (.int .i64 v))
      (first | exact S6.out | exact S9.out)
      (fail)
     all_goals
      go_wp2_with fail
      go_meet
      exact ⟨rfl, rfl⟩
    case rest =>
     obtain ⟨rfl, rfl⟩ := hcut
     have hb9 := H9.out.1.lt
     have hsl9 := H9.out.1.blk.lt
     have hxl9 := H9.out.2.2.1.lt
     have hyl9 := H9.out.2.2.2.1.lt
     have hvb : -9223372036854775808 ≤ v ∧ v ≤ 9223372036854775807 := by
      have := hv
      unfold rightB at this
      simp only [Bool.and_eq_true, decide_eq_true_eq] at this
      omega
     have hwl := words_len [v] (by simpa using hvb)
     obtain ⟨z0, q0⟩ : ∃ z0 : ByteArray, strV (wordsS [v]) = .string z0 := ⟨_, rfl⟩
     obtain ⟨tb, qt⟩ : ∃ tb : ByteArray, tb = ⟨t.toArray⟩ := ⟨_, rfl⟩
     obtain ⟨z1, q1⟩ : ∃ z1 : ByteArray, z0 ++ ⟨#[32]⟩ = z1 := ⟨_, rfl⟩
     obtain ⟨z2, q2⟩ : ∃ z2 : ByteArray, z1 ++ tb = z2 := ⟨_, rfl⟩
     have hz0e : z0 = ⟨(wordsS [v]).toArray⟩ := by unfold strV at q0; injection q0 with q0; exact q0.symm
     have hz2e : Value.string z2 = strV (wordsS [v] ++ 32 :: t) := by
      rw [← q2, ← q1, hz0e, qt]; unfold strV; congr 1; apply ByteArray.ext; simp
     have s0 : z0.size ≤ 22 := by rw [hz0e]; simpa [ByteArray.size] using hwl
     have st : tb.size ≤ 3000 := by rw [qt, hsz]; omega
     have s1 : z1.size = z0.size + 1 := by rw [← q1, ByteArray.size_append]; rfl
     have b1 : ¬ (9223372036854775807 < z0.size + 1) := by omega
     have b2 : ¬ (9223372036854775807 < z1.size + tb.size) := by omega
     have HWD := hZ9 (show ∀ wy, Below wc.heap.size wc wy → Calls Tryz.prog 123 #[.slice (some ⟨wy.heap.size, 0, none⟩) 1 1] (wy.alloc (.cells #[.int .i64 v] 2)) fun e w' => e = .returned (.string z0) ∧ Below wy.heap.size wy w' from fun wy hy => by
      have h1 : Below wy.heap.size wy (wy.alloc (.cells #[.int .i64 v] 2)) := bR0.alloc nR0 _
      have := words_any (w := wy.alloc (.cells #[.int .i64 v] 2)) [v] (some ⟨wy.heap.size, 0, none⟩) 1 (Sl.of_blk (Blk.new wy 2 _) rfl).1 (by simp) (by simpa using hvb) ((H9.out.1.below hy).tab.tb.below h1)
      rw [q0] at this
      exact this.mono fun e w' ⟨he, hb⟩ => ⟨he, h1.trans (hb.mono h1.size)⟩)
     have HRE := hZ9 (show ∀ wy, Calls Tryz.prog 71 #[.int .u8 78, .string z2] wy fun e w' => RecOut wy w' (78, wordsS [v] ++ 32 :: t) e from fun wy => by
      have := record_any (w := wy) 78 (wordsS [v] ++ 32 :: t)
      rw [← hz2e] at this
      exact this)
     have HLB : (wordsS [v] ++ 32 :: t).length < 1099511627776 := by
      simp only [List.length_append, List.length_cons, List.length_nil] at hwl ⊢
      omega
     have HLG := hZ9 (show ∀ wy A c, Below wc.heap.size wc wy → Byt wy A (wordsS [v] ++ 32 :: t) → (wordsS [v] ++ 32 :: t).length ≤ c → Calls Tryz.prog 70 #[.pointer (some ⟨Sb, 0, none⟩), .agg #[.int .u8 78, .slice A (wordsS [v] ++ 32 :: t).length c], .func (.func 132) #[] #[.pointer (some ⟨k8, 0, none⟩), .pointer (some ⟨k7, 0, none⟩), .pointer (some ⟨X, 0, none⟩), .pointer (some ⟨Y, 0, none⟩)]] wy fun e w' => e = .returned (.int .i64 (loggedS { s with notes := putN v t s.notes } s (78, wordsS [v] ++ 32 :: t)).1) ∧ ∃ m', StR w' base Sb (loggedS { s with notes := putN v t s.notes } s (78, wordsS [v] ++ 32 :: t)).2 m' ∧ KeepS base m m' w w' ∧ Blk w' X 28 #[.pointer (some ⟨Sb, 0, none⟩)] ∧ Blk w' Y 2 #[.int .i64 v] from fun wy A c hy hby hc => by
      have hh := H9.out.1.below hy
      have okl := HK.out.noted (t := t) hv (by omega)
      have hx := H9.out.2.2.1.below hy H9.out.2.2.1.lt
      have hyy := H9.out.2.2.2.1.below hy H9.out.2.2.2.1.lt
      have hz := H9.out.2.2.2.2.1.below hy H9.out.2.2.2.2.1.lt
      have htt := H9.out.2.2.2.2.2.below hy H9.out.2.2.2.2.2.lt
      have hkw := H9.out.2.1.trans (KeepS.of_below (m := m) hy hb9)
      have hnN := HK.out.nN
      have hnS := HK.out.nS
      have hnM := HK.out.nM
      have hpl := putN_len (k := v) (v := t) s.notes
      have := logged_any hh okl (by have := HK.out.wt; show s.d.waits.length ≤ _; omega) (by have := HK.out.ep; show s.log.epoch + 2 < _; omega) HK.out.at' HK.out.lsz (78, wordsS [v] ++ 32 :: t) (by show 78 < 256; decide) HLB A c hby hc
       (by rw [records_eq, List.length_append, List.length_append, List.length_map, List.length_map, List.length_map]; show (putN v t s.notes).length + s.slices.length + s.marks.length ≤ _; omega)
       132 #[.pointer (some ⟨k8, 0, none⟩), .pointer (some ⟨k7, 0, none⟩), .pointer (some ⟨X, 0, none⟩), .pointer (some ⟨Y, 0, none⟩)] (fun _ _ => rfl)
       (fun w' => ∃ m', StR w' base Sb (loggedS { s with notes := putN v t s.notes } s (78, wordsS [v] ++ 32 :: t)).2 m' ∧ KeepS base m m' w w' ∧ Blk w' X 28 #[.pointer (some ⟨Sb, 0, none⟩)] ∧ Blk w' Y 2 #[.int .i64 v])
       (fun w' d l hd hk hs => by
        rw [loggedS_ok hd]
        exact ⟨m, hs, hkw.trans (KeepS.of hk (by simp)), hx.keeps hk (by decide), hyy.keeps hk (by decide)⟩)
       (fun wz e d l hd he hk hs => by
        rw [loggedS_no hd he]
        refine (undoNote_any (s := { s with d := d, log := l }) (t := t) (was := was) (there := th) hs hwv (htt.keeps hk (by decide)) (hz.keeps hk (by decide)) (hx.keeps hk (by decide)) (hyy.keeps hk (by decide)) ?_ HK.out.srtN HK.out.txt (by show s.notes.length < _; omega)).mono ?_
        ·show getL s.notes v = if th = true then some was else none
         rw [HTH.out, HWAS.out]
         cases getL s.notes v <;> rfl
        ·rintro en w' ⟨h1, h2, h3, h4⟩
         exact ⟨h1, m, h2, (hkw.trans (KeepS.of hk (by simp))).trans h3, (hx.keeps hk (by decide)).keeps h4 (by decide), (hyy.keeps hk (by decide)).keeps h4 (by decide)⟩)
      rw [← loggedS_fst (was := s)] at this
      exact this)
     have SKc := hZ9 (show ∀ wy, Below wc.heap.size wc wy → wy.cell? ⟨X, 0, none⟩ = some (.pointer (some ⟨Sb, 0, none⟩)) ∧ wy.cell? ⟨Y, 0, none⟩ = some (.int .i64 v) from fun wy hy => ⟨(H9.out.2.2.1.below hy H9.out.2.2.1.lt).cell 0, (H9.out.2.2.2.1.below hy H9.out.2.2.2.1.lt).cell 0⟩)
     have S1 := hZ9 (SKc.out _ bR0.drew)
     have QT := hZ9 qt
     clear hz0e hz2e qt hwl hsz s0 st s1 HLB hvb hrun S6 S9
     obtain ⟨lg, hlg⟩ : ∃ lg, lg = loggedS { s with notes := putN v t s.notes } s (78, wordsS [v] ++ 32 :: t) := ⟨_, rfl⟩
     rw [← hlg] at hq1 HLG
     clear hlg HQ
     generalize wordsS [v] ++ 32 :: t = bs at *
     obtain ⟨er, s6⟩ := lg
     have HQ := hZ9 hq1
     clear hq1
     rw [← QT.out]
     go_upto_region 7 with fail
     go_cut [9] (fun v9 wx => v9 = .int .i64 er ∧ ∃ m', StR wx base Sb s6 m' ∧ KeepS base m m' w wx ∧ Blk wx X 28 #[.pointer (some ⟨Sb, 0, none⟩)])
     case first =>
      go_region_held3 (fun wy => wy.cell? ⟨X, 0, none⟩ = some (.pointer (some ⟨Sb, 0, none⟩)) ∧ wy.cell? ⟨Y, 0, none⟩ = some (.int .i64 v))
       (first | exact S1.out | exact S7.out | exact SKc.out _ HB4.out | exact SKc.out _ HB3.out | (refine SKc.out _ ?_; repeat' (first | exact bR0 | exact HB4.out | exact HB3.out | refine Below.drew ?_ | refine Below.alloc ?_ (by simp) _)))
       (first
        | (go_at_call 123; refine (HWD.out _ bR0.drew).mono ?_; rintro en w3 ⟨rfl, hb3⟩; (have HB3 : Hid (Below wc.heap.size wc w3) := bR0.drew.trans hb3); clear hb3)
        | (go_at_call 71; refine (HRE.out _).mono ?_; rintro en w4 ⟨⟨A4, c4, rfl, hy4, hc4⟩, hb4⟩; (have HY4 := hZ9 hy4); (have HC4 := hZ9 hc4); (have HB4 : Hid (Below wc.heap.size wc w4) := HB3.out.trans (hb4.mono HB3.out.size)); clear hy4 hc4 hb4)
        | (go_at_call 70; refine (HLG.out _ _ _ HB4.out HY4.out HC4.out).mono ?_; rintro en w7 ⟨rfl, m7, h7, kk7, x7, y7⟩; (have H7 : Hid (∃ m', StR w7 base Sb s6 m' ∧ KeepS base m m' w w7 ∧ Blk w7 X 28 #[.pointer (some ⟨Sb, 0, none⟩)]) := ⟨m7, h7, kk7, x7⟩); (have S7 := hZ9 (And.intro (x7.cell 0) (y7.cell 0))); clear h7 kk7 x7 y7))
      all_goals
       go_wp2_with fail
       go_meet
       exact ⟨rfl, H7.out⟩
     case rest =>
      obtain ⟨rfl, m7, h7, k7', x7⟩ := hcut
      have H7 := hZ9 h7
      have K7 := hZ9 k7'
      by_cases he : er = 0
      ·subst he
       have hq2 : q = ((flushD s6.d).1, { s6 with d := (flushD s6.d).2 }) := HQ.out
       subst hq2
       have x0 : wc.cell? ⟨X, 0, none⟩ = some (.pointer (some ⟨Sb, 0, none⟩)) := x7.cell 0
       have x2 : wc.cell? ⟨Sb, 2, none⟩ = some (.pointer (some ⟨m7.Lb, 0, none⟩)) := h7.blk.cell 2
       have xl := x7.lt
       have sl := h7.blk.lt
       have HSY := hZ9 (syncW_any h7.log h7.dsk)
       have hz := flushD_size s6.d
       clear h7 k7' x7 HLG HRE HWD SKc S1
       go_wp2_with (go_at_call 73; refine HSY.out.mono ?_; rintro en w8 ⟨rfl, hd, hk⟩; (have HD := hZ9 hd); (have HKK := hZ9 hk); clear hd hk)
       go_ret
       have k5 := HKK.out.mono nR0 (ts' := [121, 165, 167, 216, 137]) (by simp)
       exact ⟨rfl, m7, H7.out.logged k5 HD.out (H7.out.log.keeps HKK.out (by decide) (by decide) (by decide)) hz, K7.out.trans (KeepS.of k5 (by simp))⟩
      ·have he' : ((er : Int) != 0) = true := by simp; omega
       have hq2 : q = (er, s6) := by
        rw [HQ.out]
        cases er with
        | zero => exact absurd rfl he
        | succ e => rfl
       subst hq2
       clear he h7 k7' x7 HLG HRE HWD SKc S1
       go_wp2_with fail
       go_ret
       exact ⟨rfl, m7, H7.out, K7.out⟩
end
end Go.Proofs.YtmgmfnimaafkdaaGreatDoor
