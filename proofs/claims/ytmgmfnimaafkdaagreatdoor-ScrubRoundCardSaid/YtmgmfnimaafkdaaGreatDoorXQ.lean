/- Forget: a version's note and its slices. -/
import Derived.Test.YtmgmfnimaafkdaaGreatDoorXO
import Derived.Test.YtmgmfnimaafkdaaGreatDoorXP
import Derived.Test.YtmgmfnimaafkdaaGreatDoorVC
namespace Go.Proofs.YtmgmfnimaafkdaaGreatDoor
open Go.RowKit Go.Maps Go.Shelf Go.Sort
set_option maxRecDepth 100000

def forgetG (s : StV) (v : Int) (gone : List (NameV × SlotV)) : Nat × StV :=
 if getL s.notes v = none ∧ goneL s v = [] then (6, s)
 else match loggedS (backed s v []) s (70, wordsS [v]) with
  | (0, s1) => (0, { s1 with map := gone.foldl (fun m y => giveSlot m y.2) s1.map })
  | (e, s1) => (e, s1)
theorem StOK.forgot {s : StV} (ok : StOK s) (v : Int) : StL (backed s v []) := by
 have h := ok.l
 refine ⟨List.Pairwise.filter _ h.srtS, fun x hx => h.num x (List.mem_filter.1 hx).1, List.Pairwise.filter _ h.srtN, fun x hx => h.txt x (List.mem_filter.1 hx).1, h.mks, ?_, ?_, h.nM⟩
 ·have := ok.nS
  have h2 : (backed s v []).slices.length ≤ s.slices.length := List.length_filter_le _ _
  omega
 ·have := ok.nN
  have h2 : (backed s v []).notes.length ≤ s.notes.length := List.length_filter_le _ _
  omega
theorem keepS_step {w a b : World} {base R : Nat} {m : StM} (hk : KeepS base m m w a) (hg : a.grownBy b (some R)) (hR : w.heap.size ≤ R) (hb : base ≤ w.heap.size) : KeepS base m m w b :=
 ⟨hk.below.trans (grown_below hg (Nat.le_trans hb hk.below.size) (fun k e => by injection e with e; omega)), fun k t ht h1 h2 h3 h4 => (hg.block k (Nat.lt_of_lt_of_le (tyOf_lt ht) hk.below.size) (fun e => by injection e with e; have := tyOf_lt ht; omega)).trans (hk.old k t ht h1 h2 h3 h4), hk.lb, hk.B, hk.M, hk.nb, hk.pb, hk.mks⟩
theorem ranges_old {w w' : World} {b r n cnt : Nat} {D : DataW Unit} {left : Lit → Bool} (h : w.ranges Tryz.prog 73 SK.R b r n D left cnt) (h1 : w'.heap[b]? = w.heap[b]?) (h2 : w'.heap[r]? = w.heap[r]?) : w'.ranges Tryz.prog 73 SK.R b r n D left cnt := by
 obtain ⟨es, clock, since, seen, c0, g1, g2, g3, g4, g5, g6⟩ := h
 exact ⟨es, clock, since, seen, c0, h1.trans g1, g2, g3, g4, h2.trans g5, g6⟩
theorem giveSlot_nat (m : MapV) (a len by' : Nat) (mk : Int) : giveSlot m ⟨(a : Int), len, by', mk⟩ = (giveM m a len).2 := by
 unfold giveSlot
 rw [if_neg (by simp)]
 rfl
theorem backed_none {s : StV} {v : Int} (h1 : getL s.notes v = none) (h2 : goneL s v = []) : backed s v [] = s := by
 unfold backed
 have e1 : s.notes.filter (fun y => decide (y.1 ≠ v)) = s.notes := by
  refine List.filter_eq_self.2 fun y hy => decide_eq_true fun e => ?_
  have h2 : (getL s.notes y.1).isSome = true := getL_some.2 (List.mem_map.2 ⟨y, hy, rfl⟩)
  rw [e, h1] at h2
  cases h2
 have e2 : s.slices.filter (fun y => decide (y.1.1 ≠ v ∨ y.1 ∈ ([] : List NameV))) = s.slices := by
  refine List.filter_eq_self.2 fun y hy => ?_
  have : y ∉ goneL s v := by rw [h2]; simp
  unfold goneL at this
  simp only [List.mem_filter, hy, true_and, decide_eq_true_eq] at this
  simp [this]
 rw [e1, e2]
set_option maxHeartbeats 8000000 in
theorem forgetS_any {w : World} {base Sb : Nat} {s : StV} {m : StM} (h : StR w base Sb s m) (ok : StOK s) (v : Int) (hwv : wfI v) :
  Calls Tryz.prog 76 #[.pointer (some ⟨Sb, 0, none⟩), .int .i64 v] w fun e w' => ∃ gone, (∀ y ∈ gone, y ∈ goneL s v) ∧ ActOut w w' base Sb m (forgetG s v gone) e := by
 have HH := hZ9 h
 have HK := hZ9 ok
 have hlt := h.lt
 have hsl := h.blk.lt
 have HX := hZ9 (show Blk ((w.alloc (.cells #[.pointer (some ⟨Sb, 0, none⟩)] 28)).alloc (.cells #[.int .i64 v] 2)) w.heap.size 28 #[.pointer (some ⟨Sb, 0, none⟩)] from (Blk.new _ _ _).alloc _)
 have HY := hZ9 (show Blk ((w.alloc (.cells #[.pointer (some ⟨Sb, 0, none⟩)] 28)).alloc (.cells #[.int .i64 v] 2)) (w.heap.size + 1) 2 #[.int .i64 v] from Blk.new_eq0 (by simp))
 have HB0 : Hid (Below w.heap.size w ((w.alloc (.cells #[.pointer (some ⟨Sb, 0, none⟩)] 28)).alloc (.cells #[.int .i64 v] 2))) := (bR0.alloc nR0 _).alloc (by simp) _
 clear h ok
 go_enter Tryz.func76, Tryz.ntmps76
 go_upto_region 1 with fail
 generalize (w.alloc (.cells #[.pointer (some ⟨Sb, 0, none⟩)] 28)).alloc (.cells #[.int .i64 v] 2) = w1 at *
 have hw1 := HB0.out.size
 have c0 : w1.cell? ⟨w.heap.size, 0, none⟩ = some (.pointer (some ⟨Sb, 0, none⟩)) := HX.out.cell 0
 have c1 : w1.cell? ⟨w.heap.size + 1, 0, none⟩ = some (.int .i64 v) := HY.out.cell 0
 have xl := HX.out.lt
 have yl := HY.out.lt
 go_upto_region 3 with fail
 clear c0 c1
 obtain ⟨X, hX⟩ : ∃ X, X = w.heap.size := ⟨_, rfl⟩
 obtain ⟨Y, hY⟩ : ∃ Y, Y = w.heap.size + 1 := ⟨_, rfl⟩
 rw [← hY] at HY yl
 rw [← hX] at HX xl
 rw [← hY, ← hX]
 clear hX hY
 have hbw1 : base ≤ w1.heap.size := by omega
 have H1 := hZ9 (HH.out.below HB0.out)
 obtain ⟨was, hwas⟩ : ∃ was, was = (getL s.notes v).getD [] := ⟨_, rfl⟩
 obtain ⟨th, hth⟩ : ∃ th, th = (getL s.notes v).isSome := ⟨_, rfl⟩
 have SKA := hZ9 (show ∀ wy, Below w1.heap.size w1 wy → wy.cell? ⟨X, 0, none⟩ = some (.pointer (some ⟨Sb, 0, none⟩)) ∧ wy.cell? ⟨Sb, 4, none⟩ = some (.map (some m.Nb)) ∧ wy.cell? ⟨Y, 0, none⟩ = some (.int .i64 v) ∧ (Instr.lookup 124 (.map (some m.Nb)) (.int .i64 v) true).run Tryz.prog wy = .ok (.tuple #[.string ⟨was.toArray⟩, .bool th]) wy from fun wy hy => by
  refine ⟨(HX.out.below hy HX.out.lt).cell 0, (H1.out.below hy).blk.cell 4, (HY.out.below hy HY.out.lt).cell 0, ?_⟩
  have := (H1.out.below hy).nmap.look_ok (x := v) hwv
  rw [hwas, hth]
  exact this)
 have S0 := hZ9 (SKA.out _ bR0.drew)
 have HWAS := hZ9 hwas
 have HTH := hZ9 hth
 clear hwas hth
 go_cut [5, 6] (fun v7 v8 wx => ∃ k7 k8, v7 = .pointer (some ⟨k7, 0, none⟩) ∧ v8 = .pointer (some ⟨k8, 0, none⟩) ∧ Blk wx k7 9 #[.string ⟨was.toArray⟩] ∧ Blk wx k8 4 #[.bool th] ∧ Below w1.heap.size w1 wx)
 case first =>
  go_region_held3 (fun wy => wy.cell? ⟨X, 0, none⟩ = some (.pointer (some ⟨Sb, 0, none⟩)) ∧ wy.cell? ⟨Sb, 4, none⟩ = some (.map (some m.Nb)) ∧ wy.cell? ⟨Y, 0, none⟩ = some (.int .i64 v) ∧ (Instr.lookup 124 (.map (some m.Nb)) (.int .i64 v) true).run Tryz.prog wy = .ok (.tuple #[.string ⟨was.toArray⟩, .bool th]) wy)
   (first | exact S0.out | (refine SKA.out _ ?_; repeat' (first | exact bR0 | refine Below.drew ?_ | refine Below.alloc ?_ (by simp) _ | refine below_set ?_ (by simp) _)))
   (fail)
  all_goals
   go_wp2_with fail
   go_meet
   refine ⟨_, _, rfl, rfl, ?_, ?_, ?_⟩
   (repeat' (first | exact Blk.new _ _ _ | exact Blk.new_eq0 (by simp) | refine Blk.drew ?_ | refine Blk.alloc ?_ _))
   (repeat' (first | exact Blk.new _ _ _ | exact Blk.new_eq0 (by simp) | refine Blk.drew ?_ | refine Blk.alloc ?_ _))
   (repeat' (first | exact bR0 | refine Below.drew ?_ | refine Below.alloc ?_ (by simp) _))
 case rest =>
  obtain ⟨k7, k8, rfl, rfl, h7, h8, hb2⟩ := hcut
  have hxc := HX.out.below hb2 HX.out.lt
  have hyc := HY.out.below hb2 HY.out.lt
  have hhc := H1.out.below hb2
  have x0 : wc.cell? ⟨X, 0, none⟩ = some (.pointer (some ⟨Sb, 0, none⟩)) := hxc.cell 0
  have y0 : wc.cell? ⟨Y, 0, none⟩ = some (.int .i64 v) := hyc.cell 0
  have hbc : base ≤ wc.heap.size := Nat.le_trans hbw1 hb2.size
  have FG := hZ9 (forget_any hhc HK.out v hwv)
  have HE := hZ9 (show ∀ w2 G, wc.heap.size ≤ G → SK.In w2 G (goneL s v).length (getL (goneL s v)) → StR w2 base Sb { s with notes := s.notes.filter (fun y => decide (y.1 ≠ v)), slices := s.slices.filter (fun y => decide (y.1.1 ≠ v)) } m → KeepS base m m wc w2 → Keeps base [1000000] wc w2 →
    StR w2 base Sb (backed s v []) m ∧ KeepS base m m w w2 ∧ Blk w2 X 28 #[.pointer (some ⟨Sb, 0, none⟩)] ∧ Blk w2 Y 2 #[.int .i64 v] ∧ Blk w2 k7 9 #[.string ⟨was.toArray⟩] ∧ Blk w2 k8 4 #[.bool th] ∧ SK.In w2 G (goneL s v).length (getL (goneL s v)) ∧ G ≠ m.Pb from
   fun w2 G q1 q2 q3 q4 q5 => ⟨by rw [backed_nil]; exact q3, (KeepS.of_below (m := m) (HB0.out.trans (hb2.mono hw1)) hlt).trans q4, hxc.keeps q5 (by decide), hyc.keeps q5 (by decide), h7.keeps q5 (by decide), h8.keeps q5 (by decide), q2, by have := hhc.pmap.lt; omega⟩)
  clear h7 h8 hb2 hxc hyc hhc S0 SKA H1 HX HY
  go_upto_region 5 with (go_at_call 117; refine FG.out.mono ?_; rintro en w2 ⟨G, rfl, q1, q2, q3, q4, q5⟩; (have H2 := hZ9 (HE.out w2 G q1 q2 q3 q4 q5)); clear q1 q2 q3 q4 q5)
  have H3 := hZ9 (show StR (w2.alloc (.cells #[.map (some G)] 125)) base Sb (backed s v []) m ∧ KeepS base m m w (w2.alloc (.cells #[.map (some G)] 125)) ∧ Blk (w2.alloc (.cells #[.map (some G)] 125)) X 28 #[.pointer (some ⟨Sb, 0, none⟩)] ∧ Blk (w2.alloc (.cells #[.map (some G)] 125)) Y 2 #[.int .i64 v] ∧ Blk (w2.alloc (.cells #[.map (some G)] 125)) k7 9 #[.string ⟨was.toArray⟩] ∧ Blk (w2.alloc (.cells #[.map (some G)] 125)) k8 4 #[.bool th] ∧
    SK.In (w2.alloc (.cells #[.map (some G)] 125)) G (goneL s v).length (getL (goneL s v)) ∧ G ≠ m.Pb ∧ Blk (w2.alloc (.cells #[.map (some G)] 125)) w2.heap.size 125 #[.map (some G)] from by
   have hba : Below w2.heap.size w2 (w2.alloc (.cells #[.map (some G)] 125)) := bR0.alloc nR0 _
   obtain ⟨q1, q2, q3, q4, q5, q6, q7, q8⟩ := H2.out
   exact ⟨q1.below hba, q2.trans (KeepS.of_below (m := m) hba q1.lt), q3.alloc _, q4.alloc _, q5.alloc _, q6.alloc _, q7.below hba, q8, Blk.new _ _ _⟩)
  clear H2 HE FG x0 y0
  generalize w2.alloc (.cells #[.map (some G)] 125) = w3 at *
  generalize w2.heap.size = M at *
  have c6 : w3.cell? ⟨k8, 0, none⟩ = some (.bool th) := H3.out.2.2.2.2.2.1.cell 0
  have cM : w3.cell? ⟨M, 0, none⟩ = some (.map (some G)) := H3.out.2.2.2.2.2.2.2.2.cell 0
  have hgk : SK.Keys (getL (goneL s v)) ((goneL s v).map (·.1)) := keys_of_slices (List.Pairwise.filter _ HK.out.srtS) (fun x hx => HK.out.num x (List.mem_filter.1 hx).1)
  have hlen : (Builtin.len_ #[125] 3 #[.map (some G)]).run Tryz.prog w3 = .ok (.int .i64 (goneL s v).length) w3 := by
   obtain ⟨D, hD, hDf⟩ := H3.out.2.2.2.2.2.2.1
   have := hD.len Tryz.underlying125 3
   rwa [KV.size hD hDf hgk, List.length_map] at this
  have hth : th = !decide (getL s.notes v = none) := by
   rw [HTH.out]
   cases getL s.notes v <;> rfl
  by_cases hno : getL s.notes v = none ∧ goneL s v = []
  ·have hq : ∀ gone, forgetG s v gone = (6, s) := fun gone => by unfold forgetG; rw [if_pos hno]
   have ht : th = false := by rw [hth]; simp [hno.1]
   have hl0 : (goneL s v).length = 0 := by rw [hno.2]; rfl
   have HQ := hZ9 (show ActOut w w3 base Sb m (forgetG s v []) (.returned (.int .i64 6)) from by
    rw [hq]
    exact ⟨rfl, m, by rw [← backed_none hno.1 hno.2]; exact H3.out.1, H3.out.2.1⟩)
   rw [hl0] at hlen
   subst ht
   clear hq hgk hth hno hl0
   go_wp2_with fail
   go_ret
   exact ⟨[], by simp, HQ.out⟩
  ·go_cut [31] (fun v31 wx => v31 = .bool false ∧ wx = w3)
   case first =>
    cases th with
    | true =>
     clear hno hth hgk
     go_wp2_with fail
     go_meet
     exact ⟨rfl, rfl⟩
    | false =>
     have hl0 : ¬ (((goneL s v).length : Int) = 0) := fun e => hno ⟨by simpa using hth.symm, List.eq_nil_of_length_eq_zero (by omega)⟩
     have hl1 : (((goneL s v).length : Int) == 0) = false := by simpa using hl0
     clear hno hth hgk
     go_wp2_with fail
     go_meet
     exact ⟨rfl, rfl⟩
   case rest =>
    obtain ⟨rfl, rfl⟩ := hcut
    clear c6 cM hlen hth
    obtain ⟨hs3, hk3, hx3, hy3, h73, h83, hi3, hne3, hm3⟩ := H3.out
    have hq1 : ∀ gone, forgetG s v gone = match loggedS (backed s v []) s (70, wordsS [v]) with
      | (0, s1) => (0, { s1 with map := gone.foldl (fun m y => giveSlot m y.2) s1.map })
      | (e, s1) => (e, s1) := fun gone => by unfold forgetG; rw [if_neg hno]
    have hb9 := hs3.lt
    have hsl9 := hs3.blk.lt
    have hxl9 := hx3.lt
    have hyl9 := hy3.lt
    have hvb : -9223372036854775808 ≤ v ∧ v ≤ 9223372036854775807 := by
     unfold wfI at hwv
     have h1 : IntKind.i64.min = -9223372036854775808 := rfl
     have h2 : IntKind.i64.max = 9223372036854775807 := rfl
     simp [Lit.wf, h1, h2] at hwv
     exact ⟨by omega, by omega⟩
    have hwl := words_len [v] (by simpa using hvb)
    have HWD := hZ9 (show ∀ wy, Below wc.heap.size wc wy → Calls Tryz.prog 123 #[.slice (some ⟨wy.heap.size, 0, none⟩) 1 1] (wy.alloc (.cells #[.int .i64 v] 2)) fun e w' => e = .returned (.string ⟨(wordsS [v]).toArray⟩) ∧ Below wy.heap.size wy w' from fun wy hy => by
     have h1 : Below wy.heap.size wy (wy.alloc (.cells #[.int .i64 v] 2)) := bR0.alloc nR0 _
     have := words_any (w := wy.alloc (.cells #[.int .i64 v] 2)) [v] (some ⟨wy.heap.size, 0, none⟩) 1 (Sl.of_blk (Blk.new wy 2 _) rfl).1 (by simp) (by simpa using hvb) ((H3.out.1.below hy).tab.tb.below h1)
     exact this.mono fun e w' ⟨he, hb⟩ => ⟨he, h1.trans (hb.mono h1.size)⟩)
    have HRE := hZ9 (show ∀ wy, Calls Tryz.prog 71 #[.int .u8 70, .string ⟨(wordsS [v]).toArray⟩] wy fun e w' => RecOut wy w' (70, wordsS [v]) e from fun wy => record_any (w := wy) 70 (wordsS [v]))
    have HLB : (wordsS [v]).length < 1099511627776 := by
     simp only [List.length_cons, List.length_nil] at hwl
     omega
    have HLG := hZ9 (show ∀ wy A c, Below wc.heap.size wc wy → Byt wy A (wordsS [v]) → (wordsS [v]).length ≤ c → Calls Tryz.prog 70 #[.pointer (some ⟨Sb, 0, none⟩), .agg #[.int .u8 70, .slice A (wordsS [v]).length c], .func (.func 133) #[] #[.pointer (some ⟨X, 0, none⟩), .pointer (some ⟨M, 0, none⟩), .pointer (some ⟨k8, 0, none⟩), .pointer (some ⟨k7, 0, none⟩), .pointer (some ⟨Y, 0, none⟩)]] wy fun e w' => e = .returned (.int .i64 (loggedS (backed s v []) s (70, wordsS [v])).1) ∧ StR w' base Sb (loggedS (backed s v []) s (70, wordsS [v])).2 m ∧ KeepS base m m w w' ∧ (loggedS (backed s v []) s (70, wordsS [v])).2.map = s.map ∧ Blk w' X 28 #[.pointer (some ⟨Sb, 0, none⟩)] ∧ Blk w' Y 2 #[.int .i64 v] ∧ Blk w' M 125 #[.map (some G)] ∧ ((loggedS (backed s v []) s (70, wordsS [v])).1 = 0 → SK.In w' G (goneL s v).length (getL (goneL s v))) from fun wy A c hy hby hc => by
     have hh := hs3.below hy
     have okl := HK.out.forgot v
     have hx := hx3.below hy hx3.lt
     have hyy := hy3.below hy hy3.lt
     have hz := h73.below hy h73.lt
     have htt := h83.below hy h83.lt
     have hmm := hm3.below hy hm3.lt
     have hii := hi3.below hy
     have hkw := hk3.trans (KeepS.of_below (m := m) hy hb9)
     have hnN := HK.out.nN
     have hnS := HK.out.nS
     have hnM := HK.out.nM
     have hp1 : (backed s v []).slices.length ≤ s.slices.length := List.length_filter_le _ _
     have hp2 : (backed s v []).notes.length ≤ s.notes.length := List.length_filter_le _ _
     have := logged_any hh okl (by have := HK.out.wt; show s.d.waits.length ≤ _; omega) (by have := HK.out.ep; show s.log.epoch + 2 < _; omega) HK.out.at' HK.out.lsz (70, wordsS [v]) (by show 70 < 256; decide) HLB A c hby hc
      (by rw [records_eq, List.length_append, List.length_append, List.length_map, List.length_map, List.length_map]; show (backed s v []).notes.length + (backed s v []).slices.length + s.marks.length ≤ _; omega)
      133 #[.pointer (some ⟨X, 0, none⟩), .pointer (some ⟨M, 0, none⟩), .pointer (some ⟨k8, 0, none⟩), .pointer (some ⟨k7, 0, none⟩), .pointer (some ⟨Y, 0, none⟩)] (fun _ _ => rfl)
      (fun w' => StR w' base Sb (loggedS (backed s v []) s (70, wordsS [v])).2 m ∧ KeepS base m m w w' ∧ (loggedS (backed s v []) s (70, wordsS [v])).2.map = s.map ∧ Blk w' X 28 #[.pointer (some ⟨Sb, 0, none⟩)] ∧ Blk w' Y 2 #[.int .i64 v] ∧ Blk w' M 125 #[.map (some G)] ∧ ((loggedS (backed s v []) s (70, wordsS [v])).1 = 0 → SK.In w' G (goneL s v).length (getL (goneL s v))))
      (fun w' d l hd hk hs => by
       rw [loggedS_ok hd]
       exact ⟨hs, hkw.trans (KeepS.of hk (by simp)), rfl, hx.keeps hk (by decide), hyy.keeps hk (by decide), hmm.keeps hk (by decide), fun _ => hii.keeps hk (by decide)⟩)
      (fun wz e d l hd he hk hs => by
       rw [loggedS_no hd he]
       refine (undoForget_any (s := { s with d := d, log := l }) (v := v) (G := G) (was := was) (there := th) hs hwv (hii.keeps hk (by decide)) hne3 (hx.keeps hk (by decide)) (hmm.keeps hk (by decide)) (htt.keeps hk (by decide)) (hz.keeps hk (by decide)) (hyy.keeps hk (by decide)) ?_ (show StL { s with d := d, log := l } from ⟨HK.out.srtS, HK.out.num, HK.out.srtN, HK.out.txt, HK.out.mks, HK.out.l.nS, HK.out.l.nN, HK.out.l.nM⟩) (by show s.slices.length < _; omega) (by show s.notes.length < _; omega)).mono ?_
       ·show getL s.notes v = if th = true then some was else none
        rw [HTH.out, HWAS.out]
        cases getL s.notes v <;> rfl
       ·rintro en w' ⟨h1, h2, h3, h4⟩
        exact ⟨h1, h2, (hkw.trans (KeepS.of hk (by simp))).trans h3, rfl, (hx.keeps hk (by decide)).keeps h4 (by decide), (hyy.keeps hk (by decide)).keeps h4 (by decide), (hmm.keeps hk (by decide)).keeps h4 (by decide), fun e0 => absurd e0 he⟩)
     rw [← loggedS_fst (was := s)] at this
     exact this)
    have SKc := hZ9 (show ∀ wy, Below wc.heap.size wc wy → wy.cell? ⟨X, 0, none⟩ = some (.pointer (some ⟨Sb, 0, none⟩)) ∧ wy.cell? ⟨Y, 0, none⟩ = some (.int .i64 v) from fun wy hy => ⟨(hx3.below hy hx3.lt).cell 0, (hy3.below hy hy3.lt).cell 0⟩)
    have S1 := hZ9 (SKc.out _ bR0.drew)
    clear hwl HLB hvb hs3 hk3 hx3 hy3 h73 h83 hi3 hne3 hm3
    obtain ⟨lg, hlg⟩ : ∃ lg, lg = loggedS (backed s v []) s (70, wordsS [v]) := ⟨_, rfl⟩
    rw [← hlg] at hq1 HLG
    clear hlg
    generalize wordsS [v] = bs at *
    obtain ⟨er, s6⟩ := lg
    have HQ := hZ9 hq1
    clear hq1
    go_upto_region 7 with fail
    go_cut [8] (fun v8 wx => v8 = .int .i64 er ∧ StR wx base Sb s6 m ∧ KeepS base m m w wx ∧ s6.map = s.map ∧ Blk wx X 28 #[.pointer (some ⟨Sb, 0, none⟩)] ∧ Blk wx M 125 #[.map (some G)] ∧ (er = 0 → SK.In wx G (goneL s v).length (getL (goneL s v))))
    case first =>
     go_region_held3 (fun wy => wy.cell? ⟨X, 0, none⟩ = some (.pointer (some ⟨Sb, 0, none⟩)) ∧ wy.cell? ⟨Y, 0, none⟩ = some (.int .i64 v))
      (first | exact S1.out | exact S7.out | exact SKc.out _ HB4.out | exact SKc.out _ HB3.out | (refine SKc.out _ ?_; repeat' (first | exact bR0 | exact HB4.out | exact HB3.out | refine Below.drew ?_ | refine Below.alloc ?_ (by simp) _)))
      (first
       | (go_at_call 123; refine (HWD.out _ bR0.drew).mono ?_; rintro en w3 ⟨rfl, hb3⟩; (have HB3 : Hid (Below wc.heap.size wc w3) := bR0.drew.trans hb3); clear hb3)
       | (go_at_call 71; refine (HRE.out _).mono ?_; rintro en w4 ⟨⟨A4, c4, rfl, hy4, hc4⟩, hb4⟩; (have HY4 := hZ9 hy4); (have HC4 := hZ9 hc4); (have HB4 : Hid (Below wc.heap.size wc w4) := HB3.out.trans (hb4.mono HB3.out.size)); clear hy4 hc4 hb4)
       | (go_at_call 70; refine (HLG.out _ _ _ HB4.out HY4.out HC4.out).mono ?_; rintro en w7 ⟨rfl, h7, kk7, m7, x7, y7, z7, i7⟩; (have H7 := hZ9 (And.intro h7 (And.intro kk7 (And.intro m7 (And.intro x7 (And.intro z7 i7)))))); (have S7 := hZ9 (And.intro (x7.cell 0) (y7.cell 0))); clear h7 kk7 m7 x7 y7 z7 i7))
     all_goals
      go_wp2_with fail
      go_meet
      exact ⟨rfl, H7.out⟩
    case rest =>
     obtain ⟨rfl, h7, k7', m7, x7, z7, i7⟩ := hcut
     by_cases he : er = 0
     ·subst he
      have hi7 := i7 rfl
      obtain ⟨D, hD, hDf⟩ := hi7
      have HD := hZ9 hDf
      have hml : m.M < w.heap.size := by
       obtain ⟨_, _, _, _, _, A, c, hB, _, _⟩ := HH.out.map
       exact hB.lt
      have cM : wc.cell? ⟨M, 0, none⟩ = some (.map (some G)) := z7.cell 0
      have hsz7 := k7'.below.size
      have hsw := k7'.below.size
      clear HLG HRE HWD SKc S1 i7 z7
      have H7 := hZ9 h7
      have K7 := hZ9 k7'
      have X7 := hZ9 x7
      have hGne : m.M ≠ G := by
       obtain ⟨_, _, _, _, _, A, c, hB, _, _⟩ := h7.map
       rintro rfl
       obtain ⟨es, cl, hm, _⟩ := hD
       unfold Blk at hB
       rw [hm] at hB
       cases hB
      have hxl7 := x7.lt
      clear h7 k7' x7 hDf
      go_wp2_with (at_range; refine wpList_range_own _ rfl _ 125 rfl 73 142 keyed73 Tryz.underlying125 _ G _ D rfl hD ?_; intro w5 hrg5 hg5 hs5)
      try go_frame
      have hb5 : Below wc.heap.size wc w5 := grown_below hg5 nR0 (fun k hk => by cases hk)
      have HS5 := hZ9 (H7.out.below hb5)
      have HK5 := hZ9 (K7.out.trans (KeepS.of_below (m := m) hb5 H7.out.lt))
      have HX5 := hZ9 (X7.out.below hb5 hxl7)
      have hRw : base ≤ wc.heap.size := H7.out.lt
      obtain ⟨R, hR⟩ : ∃ R, R = wc.heap.size := ⟨_, rfl⟩
      rw [← hR] at hrg5 hsz7 hRw
      rw [← hR]
      clear hR hb5 hg5 hs5 hD H7 K7 X7 cM
      go_loopw [10] (fun _ wq => ∃ (left : Lit → Bool) (cnt : Nat) (gone : List (NameV × SlotV)), wq.ranges Tryz.prog 73 SK.R G R (goneL s v).length D left cnt ∧ SK.Come (getL (goneL s v)) left (gone.map (·.1)) ∧ (∀ y ∈ gone, y ∈ goneL s v) ∧ StR wq base Sb { s6 with map := gone.foldl (fun m y => giveSlot m y.2) s6.map } m ∧ KeepS base m m w wq ∧ Blk wq X 28 #[.pointer (some ⟨Sb, 0, none⟩)])
       (fun _ wq => wq.rangeLeft G R)
      case atStart => exact ⟨_, _, [], hrg5, KV.Come.start HD.out, by simp, HS5.out, HK5.out, HX5.out⟩
      case round =>
       obtain ⟨left, cnt, gone, hrg, hC, hgo, hs, hk, hx⟩ := hrel
       clear hrg5 HS5 HK5 HX5
       go_wp2_with (at_next; refine wpList_next_ranges _ rfl _ rfl 73 keyed73 SK.R nameV slotV (fun key kl hk => by obtain ⟨x, _, hx, _⟩ := keyOf_name_inv hk; exact ⟨x, hx⟩) (fun v y hv => skR_inv hv) G R (goneL s v).length _ _ _ rfl hrg ?_ ?_)
       ·intro hc0 hl0
        have HOUT := hZ9 (show ActOut w wr base Sb m (forgetG s v gone) (.returned (.int .i64 0)) from by
         rw [HQ.out]
         exact ⟨rfl, m, hs, hk⟩)
        have HGO := hZ9 hgo
        clear hrg hC hs hk hl0 hc0 hgo hx
        go_wp2_with fail
        go_ret
        exact ⟨gone, HGO.out, HOUT.out⟩
       ·intro x1 x2 c kl yd yp w4 cnt2 hkey hlk hv' hat hrg2 hlt2 hg2 hs2 hen
        obtain ⟨x', hx', ex, rfl⟩ := keyOf_name_inv hkey
        obtain rfl : (x1, x2) = x' := nameV_inj ex
        obtain ⟨a, ha, hya⟩ := KV.Says.here HD.out hx' hat
        obtain rfl : a = c := by
         obtain ⟨a', h1, h2⟩ := rOf_inv hv'
         injection h2 with h2 _
         have h3 : c = a' := slotV_inj h1
         rw [h2] at hya
         exact (slotD_inj hya).symm.trans h3.symm
        have hC2 := hC.step hx' hlk (by rw [ha]; rfl)
        have hmem := getL_mem ha
        have hnm := HK.out.num _ (List.mem_filter.1 hmem).1
        obtain ⟨at', len, by', mk⟩ := a
        obtain ⟨aa, haa⟩ : ∃ aa : Nat, at' = aa := ⟨at'.toNat, by have := hnm.1.2.2.1; simp only at this; omega⟩
        subst haa
        have ha2 : aa ≤ 65536 := by have := hnm.1.2.2.1; simp only at this; omega
        have hl2 : len ≤ 1048576 := hnm.2
        have hen' : (Instr.entry (.pointer (some ⟨R, 0, none⟩))).run Tryz.prog w4 = .ok (.tuple #[.agg #[.int .i64 x1, .int .i64 x2], .agg #[.int .i64 aa, .int .i64 len, .int .i64 by', .int .i64 mk]]) w4 := hen
        clear hen hs2 hkey
        rw [show nameV (x1, x2) = .agg #[.int .i64 x1, .int .i64 x2] from rfl, show slotV ⟨(aa : Int), len, by', mk⟩ = .agg #[.int .i64 aa, .int .i64 len, .int .i64 by', .int .i64 mk] from rfl]
        have HI14 : Hid ((Tryz.prog.info? 142).map (·.size) = some 4) := sz142
        have HA := hZ9 (Blk.new w4 142 #[.int .i64 0, .int .i64 0, .int .i64 0, .int .i64 0])
        go_upto_region 12 with (refine wpList_store_row rfl 142 _ _ rfl w4.heap.size #[.int .i64 aa, .int .i64 len, .int .i64 by', .int .i64 mk] rfl rfl 142 _ HA.out HI14.out rfl (by simp [Value.oneCell']) ?_; rw [World.setRow_alloc_new])
        go_frame
        have hRw4 := hrg.lt
        have hglt := hrg.owns.lt
        have hb0 := hs.lt
        have hbw0 : base ≤ w.heap.size := hlt
        have k26 : Keeps base [] wr w4 := Keeps.of_grown hg2 hb0 fun k hk => ⟨by injection hk with hk; omega, fun t ht => by injection hk with hk; subst hk; obtain ⟨_, _, _, _, _, _, _, _, _, e, _⟩ := hrg; simp [tyOf, e] at ht⟩
        have hb4 : base ≤ w4.heap.size := Nat.le_trans hb0 k26.below.size
        have bal : Below w4.heap.size w4 (w4.alloc (.cells #[.int .i64 aa, .int .i64 len, .int .i64 by', .int .i64 mk] 142)) := bR0.alloc nR0 _
        have hk5 := (keepS_step hk hg2 (by omega) hbw0).trans (KeepS.of_below (m := m) bal hb4)
        have hs5 := (hs.keeps k26 nR0 (by simp)).below bal
        have hx5 := (hx.keeps k26 (by simp)).alloc (.cells #[.int .i64 aa, .int .i64 len, .int .i64 by', .int .i64 mk] 142)
        have hrg5 := hrg2.alloc (.cells #[.int .i64 aa, .int .i64 len, .int .i64 by', .int .i64 mk] 142)
        have hz5 := Blk.new w4 142 #[.int .i64 aa, .int .i64 len, .int .i64 by', .int .i64 mk]
        clear HA hen' hg2 hrg2 hs hk hx k26 bal
        generalize w4.alloc (.cells #[.int .i64 aa, .int .i64 len, .int .i64 by', .int .i64 mk] 142) = w5 at *
        generalize w4.heap.size = Z at *
        have hb5 := hs5.lt
        have hmi := (giveAll_ok gone HK.out.map).1
        rw [← m7] at hmi
        have dr : Below w5.heap.size w5 w5.drew := bR0.drew
        have GVI := hZ9 (show Calls Tryz.prog 108 #[.pointer (some ⟨m.M, 0, none⟩), .agg #[.int .i64 aa, .int .i64 len]] w5.drew fun e w' => GV.GiveOut w5.drew w' base m.M (giveM (gone.foldl (fun m y => giveSlot m y.2) s6.map) aa len) e from GV.GiveI_any (hs5.map.below dr) hmi (Nat.le_trans hb5 dr.size) aa len (by omega) (by omega))
        have S0 := hZ9 (show w5.drew.cell? ⟨X, 0, none⟩ = some (.pointer (some ⟨Sb, 0, none⟩)) ∧ w5.drew.cell? ⟨Sb, 3, none⟩ = some (.pointer (some ⟨m.M, 0, none⟩)) ∧ w5.drew.cell? ⟨Z, 0, none⟩ = some (.int .i64 aa) ∧ w5.drew.cell? ⟨Z, 1, none⟩ = some (.int .i64 len) from ⟨hx5.drew.cell 0, hs5.blk.drew.cell 3, hz5.drew.cell 0, hz5.drew.cell 1⟩)
        have NX := hZ9 (show ∀ w', GV.GiveOut w5.drew w' base m.M (giveM (gone.foldl (fun m y => giveSlot m y.2) s6.map) aa len) (.returned (.int .i64 (giveM (gone.foldl (fun m y => giveSlot m y.2) s6.map) aa len).1)) →
          (w'.cell? ⟨X, 0, none⟩ = some (.pointer (some ⟨Sb, 0, none⟩)) ∧ w'.cell? ⟨Sb, 3, none⟩ = some (.pointer (some ⟨m.M, 0, none⟩)) ∧ w'.cell? ⟨Z, 0, none⟩ = some (.int .i64 aa) ∧ w'.cell? ⟨Z, 1, none⟩ = some (.int .i64 len)) ∧
          w'.ranges Tryz.prog 73 SK.R G R (goneL s v).length D (fun z => left z && !z.sameKey (nameL (x1, x2))) cnt2 ∧ StR w' base Sb { s6 with map := (gone ++ [((x1, x2), (⟨(aa : Int), len, by', mk⟩ : SlotV))]).foldl (fun m y => giveSlot m y.2) s6.map } m ∧ KeepS base m m w w' ∧ Blk w' X 28 #[.pointer (some ⟨Sb, 0, none⟩)] from fun w' hq => by
         obtain ⟨⟨_, g2, g3⟩, g4⟩ := hq
         have hkd : Keeps base [220] w5 w' := (Keeps.of_below dr hb5).trans g3
         have gl : G < w5.heap.size := hrg5.owns.lt
         have rl : R < w5.heap.size := hrg5.lt
         refine ⟨⟨(hx5.keeps hkd (by decide)).cell 0, (hs5.blk.keeps hkd (by decide)).cell 3, (hz5.keeps hkd (by decide)).cell 0, (hz5.keeps hkd (by decide)).cell 1⟩, ranges_old hrg5 (g4 G gl hGne.symm) (g4 R rl (by omega)), ?_, hk5.trans (KeepS.of hkd (by simp)), hx5.keeps hkd (by decide)⟩
         rw [List.foldl_append]
         simp only [List.foldl_cons, List.foldl_nil]
         rw [giveSlot_nat]
         exact hs5.mapped hkd g2)
        have xl5 := hx5.lt
        have sl5 := hs5.blk.lt
        have zl5 := hz5.lt
        clear hs5 hx5 hrg5 hz5 hk5 hmi dr
        go_region_held3 (fun wy => wy.cell? ⟨X, 0, none⟩ = some (.pointer (some ⟨Sb, 0, none⟩)) ∧ wy.cell? ⟨Sb, 3, none⟩ = some (.pointer (some ⟨m.M, 0, none⟩)) ∧ wy.cell? ⟨Z, 0, none⟩ = some (.int .i64 aa) ∧ wy.cell? ⟨Z, 1, none⟩ = some (.int .i64 len))
         (first | exact S0.out | exact S8.out.1)
         (first | (go_at_call 108; refine GVI.out.mono ?_; rintro en w8 ⟨⟨rfl, g2, g3⟩, g4⟩; (have S8 := hZ9 (NX.out w8 ⟨⟨rfl, g2, g3⟩, g4⟩)); clear g2 g3 g4))
        all_goals
         go_wp2_with fail
         obtain ⟨_, hr8, hs8, hk8, hx8⟩ := S8.out
         go_roundw
         case rel => exact ⟨_, cnt2, gone ++ [((x1, x2), (⟨(aa : Int), len, by', mk⟩ : SlotV))], hr8, by rw [List.map_append]; exact hC2, fun y hy => by
          rcases List.mem_append.1 hy with hy | hy
          ·exact hgo y hy
          ·rw [List.mem_singleton] at hy; subst hy; exact hmem, hs8, hk8, hx8⟩
         case measure => rw [hr8.left_eq, hrg.left_eq]; exact hlt2
     ·have he' : ((er : Int) == 0) = false := by simp; omega
      have he2 : ¬ ((er : Int) = 0) := by omega
      have HE := hZ9 (show ActOut w wc base Sb m (forgetG s v []) (.returned (.int .i64 er)) from by
       rw [HQ.out]
       cases er with
       | zero => exact absurd rfl he
       | succ e => exact ⟨rfl, m, h7, k7'⟩)
      clear he h7 k7' x7 z7 i7 HLG HRE HWD SKc S1
      go_wp2_with fail
      go_ret
      exact ⟨[], by simp, HE.out⟩
end Go.Proofs.YtmgmfnimaafkdaaGreatDoor
