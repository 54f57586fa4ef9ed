/- The reference's trim, and its tag of a text: loosely, but just for words that are a tag's text. No condition but the bounds that they name. The reference's numbers of a word: loosely, but just for words that are numerals. No condition but the bounds that they name. The reference's words of a text: what stands between blanks; they are read back from words joined by blanks. No condition but the bound that it names. tag.Parse: loosely, but just for words that are a tag's text. No condition but the bounds that they name. -/
import Derived.Test.YtoaiamgcegnjjaaGreatDoorNA
import Derived.Test.YtoaiamgcegnjjaaGreatDoorMG
import Derived.Test.YtoaiamgcegnjjaaGreatDoorSC
import Derived.Deep.CutBlock
namespace Go.Proofs.YtoaiamgcegnjjaaGreatDoor
open Go.RowKit Go.Maps Go.WideMaps
set_option maxRecDepth 100000

theorem rblank_any (c : Int) (w : World) : Calls Tryz.prog 207 #[.int .u8 c] w fun e w' => e = .returned (.bool (c == 32 || c == 9)) ∧ w = w' := by
  by_cases h : c = 32
  · subst h
    go_enter Tryz.func207, Tryz.ntmps207
    go_wp2
    go_ret
    exact ⟨rfl, rfl⟩
  · have hb : (c == 32) = false := by simpa using h
    go_enter Tryz.func207, Tryz.ntmps207
    go_wp2
    all_goals
      go_ret
      exact ⟨ret_bool (by rw [hb]; rfl), rfl⟩

def NB (s : ByteArray) : Prop := ∀ i (h : i < s.size), ¬ (s[i].toNat = 32 ∨ s[i].toNat = 9)
def strLen (v : Value) : Nat := match v with | .string u => u.size | _ => 0

theorem rtrim_any (s : ByteArray) (w : World) (hs : s.size ≤ 9223372036854775807) :
    Calls Tryz.prog 158 #[.string s] w fun e w' => (∃ u, e = .returned (.string u) ∧ u.size ≤ s.size ∧ (NB s → u = s)) ∧ w = w' := by
  have nb0 : ∀ u : ByteArray, ∀ h : 0 < u.size, (((u[0].toNat : Nat) : Int) == 32 || ((u[0].toNat : Nat) : Int) == 9) = true → NB u → False := fun u h hb hn => hn 0 h (by simp only [Bool.or_eq_true, beq_iff_eq] at hb; omega)
  have nb1 : ∀ u : ByteArray, ∀ i, ∀ h : i < u.size, (((u[i].toNat : Nat) : Int) == 32 || ((u[i].toNat : Nat) : Int) == 9) = true → NB u → False := fun u i h hb hn => hn i h (by simp only [Bool.or_eq_true, beq_iff_eq] at hb; omega)
  have NB0 := Lib.hid nb0
  have NB1 := Lib.hid nb1
  clear nb0 nb1
  go_enter Tryz.func158, Tryz.ntmps158
  go_upto_block 0 with fail
  go_cut [0] (fun v wx => (∃ u : ByteArray, v = .string u ∧ u.size ≤ s.size ∧ (NB s → u = s)) ∧ wx = w)
  case first =>
    go_wp2_with fail
    go_loop [0] (fun v => ∃ u : ByteArray, v = .string u ∧ u.size ≤ s.size ∧ (NB s → u = s)) strLen
    case atStart => exact ⟨s, rfl, Nat.le_refl _, fun _ => rfl⟩
    case round =>
      obtain ⟨u, rfl, hu, hn⟩ := hrel
      have HN := Lib.hid hn
      clear hn
      by_cases h0 : 0 < u.size
      · go_wp2_with fail
        refine (rblank_any _ _).mono ?_
        rintro e w2 ⟨rfl, rfl⟩
        cases hb : (((u[0].toNat : Nat) : Int) == 32 || ((u[0].toNat : Nat) : Int) == 9) with
        | false =>
          go_wp2_with fail
          go_meet
          exact ⟨⟨u, rfl, hu, HN.out⟩, rfl⟩
        | true =>
          have HF : Hid (NB s → False) := by show NB s → False; intro h; have := HN.out h; subst this; exact NB0.out _ h0 hb h
          clear hb
          go_wp2_with fail
          case roundEnd => refine ⟨⟨_, rfl, ?_, fun h => (HF.out h).elim⟩, ?_⟩ <;> simp [strLen] <;> omega
      · go_wp2_with fail
        go_meet
        exact ⟨⟨u, rfl, hu, HN.out⟩, rfl⟩
  case rest =>
    obtain ⟨⟨u, rfl, hu, hn⟩, rfl⟩ := hcut
    have HN := Lib.hid hn
    clear hn
    go_wp2_with fail
    go_loop [0] (fun v => ∃ u : ByteArray, v = .string u ∧ u.size ≤ s.size ∧ (NB s → u = s)) strLen
    case atStart => exact ⟨u, rfl, hu, HN.out⟩
    case round =>
      obtain ⟨u, rfl, hu, hn⟩ := hrel
      have HN := Lib.hid hn
      clear hn
      by_cases h0 : 0 < u.size
      · go_wp2_with fail
        refine (rblank_any _ _).mono ?_
        rintro e w2 ⟨rfl, rfl⟩
        cases hb : (((u[u.size - 1].toNat : Nat) : Int) == 32 || ((u[u.size - 1].toNat : Nat) : Int) == 9) with
        | false =>
          go_wp2_with fail
          go_ret
          exact ⟨⟨u, rfl, hu, HN.out⟩, rfl⟩
        | true =>
          have HF : Hid (NB s → False) := by show NB s → False; intro h; have := HN.out h; subst this; exact NB1.out _ _ (by omega) hb h
          clear hb
          go_wp2_with fail
          case roundEnd => refine ⟨⟨_, rfl, ?_, fun h => (HF.out h).elim⟩, ?_⟩ <;> simp [strLen] <;> omega
      · go_wp2_with fail
        go_ret
        exact ⟨⟨u, rfl, hu, HN.out⟩, rfl⟩

/-! ### structs of type 36 -/
theorem size36 : (Tryz.prog.info? 36).map (·.size) = some 2 := by kernel_rfl
def ld36 (p : Value) : Sem Value := Instr.loadAt 36 p
theorem ld36_fold (p : Value) : Instr.loadAt 36 p = ld36 p := rfl
def st36 (p v : Value) : Sem Unit := Instr.storeAt 36 p v
theorem st36_fold (p v : Value) : Instr.storeAt 36 p v = st36 p v := rfl
theorem run_ld36 {w : World} {g : Nat} {a b : Value} (hk : Blk w g 36 #[a, b]) : (ld36 (.pointer (some ⟨g, 0, none⟩))).run Tryz.prog w = .ok (.agg #[a, b]) w := by
  have := run_loadVar_row (P := Tryz.prog) w g 36 36 #[a, b] (0, 0) _ hk Tryz.underlying36 rfl size36
  simp only [ld36, Instr.loadAt, Instr.sureAddr, Sem.run_bind, Sem.run_pure, Result.andThen_ok, this]
theorem run_st36 {w : World} {g : Nat} {cs : Array Value} {a b : Value} (hk : Blk w g 36 cs) (hs : cs.size = 2) (h1 : #[a, b].all (·.oneCell') = true) : (st36 (.pointer (some ⟨g, 0, none⟩)) (.agg #[a, b])).run Tryz.prog w = .ok () (w.setRow g #[a, b]) := by
  have := run_storeVar_row (P := Tryz.prog) w g 36 36 cs #[a, b] hk size36 hs h1
  simp only [st36, Instr.storeAt, Instr.sureAddr, Sem.run_bind, Sem.run_pure, Result.andThen_ok, this]
attribute [local go_sem ↓] ld36_fold st36_fold

/-! ### the words of a tag's text -/
theorem quoted_data (t : ByteArray) : (quoted t).data.toList = 34 :: (t.data.toList ++ [34]) := by unfold quoted; rw [ba_mk]
theorem quoted_size (t : ByteArray) : (quoted t).size = t.size + 2 := by
  have h : (quoted t).size = (quoted t).data.toList.length := by simp
  have h2 : t.data.toList.length = t.size := by simp
  rw [h, quoted_data]
  simp only [List.length_cons, List.length_append, List.length_nil]
  omega
theorem ba_at (s : ByteArray) (i : Nat) (h : i < s.size) : s[i] = s.data.toList[i]'(by simpa using h) := by
  simp only [Array.getElem_toList]
  rfl
theorem quoted_nb {t : ByteArray} (h : tagOK t = true) : NB (quoted t) := fun i hi hb => by
  have hm : (quoted t)[i] ∈ (quoted t).data.toList := by rw [ba_at _ _ hi]; exact List.getElem_mem _
  have := (quoted_word h).2 _ hm
  omega
theorem quoted_first (t : ByteArray) (h : 0 < (quoted t).size) : (quoted t)[0] = 34 := by
  rw [ba_at _ _ h]
  simp [quoted_data]
theorem quoted_last (t : ByteArray) (h : (quoted t).size - 1 < (quoted t).size) : (quoted t)[(quoted t).size - 1] = 34 := by
  rw [ba_at _ _ h]
  have h2 : t.data.toList.length = t.size := by simp
  have h3 : (quoted t).size - 1 = t.size + 1 := by rw [quoted_size]; omega
  simp only [quoted_data, h3]
  rw [List.getElem_cons_succ, List.getElem_append_right (by omega)]
  simp [h2]
theorem quoted_mid (t : ByteArray) : (quoted t).extract 1 ((quoted t).size - 1) = t := by
  refine ba_ext ?_
  rw [ByteArray.data_extract, Array.toList_extract, List.extract_eq_take_drop, quoted_data, quoted_size]
  have h2 : t.data.toList.length = t.size := by simp
  simp [List.drop, h2]

/-- some tag and errno; and where the word is a tag's text, just that tag -/
def TagIs (s : ByteArray) (e : Ending) : Prop := ∃ (t : ByteArray) (wk : Bool) (er : Int), e = .returned (.tuple #[.agg #[.string t, .bool wk], .int .i64 er]) ∧ t.size ≤ s.size ∧ (∀ t0, tagOK t0 = true → s = quoted t0 → t = t0 ∧ wk = false ∧ er = 0)
theorem TagIs.of {s t : ByteArray} {wk : Bool} {er : Int} (h1 : t.size ≤ s.size) (h2 : ∀ t0, tagOK t0 = true → s = quoted t0 → t = t0 ∧ wk = false ∧ er = 0) : TagIs s (.returned (.tuple #[.agg #[.string t, .bool wk], .int .i64 er])) := ⟨t, wk, er, rfl, h1, h2⟩

set_option maxHeartbeats 2000000 in
theorem rtagParse_any (s : ByteArray) (w : World) (hs : s.size ≤ 9223372036854775807) :
    Calls Tryz.prog 108 #[.string s] w fun e w' => TagIs s e ∧ Below w.heap.size w w' := by
  have hb1 : Below w.heap.size w ((w.alloc (.cells #[.string ⟨#[]⟩, .bool false] 36)).alloc (.cells #[.string ⟨#[]⟩, .bool false] 36)) := ((Below.refl _ _).alloc (Nat.le_refl _) _).alloc (by simp) _
  have k0 : Blk ((w.alloc (.cells #[.string ⟨#[]⟩, .bool false] 36)).alloc (.cells #[.string ⟨#[]⟩, .bool false] 36)) w.heap.size 36 #[.string ⟨#[]⟩, .bool false] := (Blk.new w 36 _).alloc _
  have k1 : Blk ((w.alloc (.cells #[.string ⟨#[]⟩, .bool false] 36)).alloc (.cells #[.string ⟨#[]⟩, .bool false] 36)) (w.heap.size + 1) 36 #[.string ⟨#[]⟩, .bool false] := new2 w _ 36 _
  have s1 := run_st36 (a := .string ⟨#[]⟩) (b := .bool false) k1 rfl (by simp [Value.oneCell'])
  have C := Lib.hid (rtrim_any s (w.alloc (.cells #[.string ⟨#[]⟩, .bool false] 36)) hs)
  go_enter Tryz.func108, Tryz.ntmps108
  go_wp2_with fail
  refine C.out.mono ?_
  rintro e w2 ⟨⟨u, rfl, hu, hn⟩, rfl⟩
  have HN : Hid (∀ t0, tagOK t0 = true → s = quoted t0 → u = s) := fun t0 h0 h1 => hn (by rw [h1]; exact quoted_nb h0)
  clear hn C
  go_upto_region 3 with fail
  have hb3 : Below w.heap.size w (((w.alloc (.cells #[.string ⟨#[]⟩, .bool false] 36)).alloc (.cells #[.string ⟨#[]⟩, .bool false] 36)).setRow (w.heap.size + 1) #[.string ⟨#[]⟩, .bool false]) := hb1.trans (grown_below (setRow_gby _ _ _) hb1.size (fun k hk => by injection hk with hk; omega))
  have k03 := k0.grown (setRow_gby ((w.alloc (.cells #[.string ⟨#[]⟩, .bool false] 36)).alloc (.cells #[.string ⟨#[]⟩, .bool false] 36)) (w.heap.size + 1) #[.string ⟨#[]⟩, .bool false]) (by intro e; injection e with e; omega)
  have k13 := setRow_blk k1 #[.string ⟨#[]⟩, .bool false]
  clear hb1 k0 k1 s1
  generalize ((w.alloc (.cells #[.string ⟨#[]⟩, .bool false] 36)).alloc (.cells #[.string ⟨#[]⟩, .bool false] 36)).setRow (w.heap.size + 1) #[.string ⟨#[]⟩, .bool false] = w3 at *
  have HB3 := Lib.hid hb3
  have K03 := Lib.hid k03
  have K13 := Lib.hid k13
  clear hb3 k03 k13
  go_cut [15] (fun v wx => ∃ b : Bool, v = .bool b ∧ wx = w3 ∧ (b = true → 2 ≤ u.size ∧ (u.extract 0 2).toList = [87, 47]))
  case first =>
    by_cases h2 : 2 ≤ u.size
    · by_cases hw : (u.extract 0 2).toList = [87, 47]
      · go_wp2_with fail
        go_meet
        exact ⟨true, by first | rfl | simp, rfl, fun _ => ⟨h2, hw⟩⟩
      · go_wp2_with fail
        go_meet
        exact ⟨false, by first | rfl | (simp; exact hw), rfl, fun h => by cases h⟩
    · go_wp2_with fail
      go_meet
      exact ⟨false, rfl, rfl, fun h => by cases h⟩
  case rest =>
    obtain ⟨b, rfl, rfl, hbb⟩ := hcut
    generalize wc = w3 at *
    have HW : Hid (b = true → 2 ≤ u.size ∧ ∀ t0, tagOK t0 = true → s = quoted t0 → False) := by
      show b = true → _
      intro hb
      obtain ⟨h1, h2⟩ := hbb hb
      refine ⟨h1, fun t0 h0 hq => ?_⟩
      have hus := HN.out t0 h0 hq
      rw [hus, hq, ByteArray.toList_eq, ByteArray.data_extract, Array.toList_extract, List.extract_eq_take_drop, quoted_data] at h2
      simp at h2
    clear hbb
    have hst : w.heap.size + 1 < w3.heap.size := K13.out.lt
    go_upto_if 15 with fail
    go_cut [0] (fun v wx => ∃ (x : ByteArray) (wk : Bool), v = .string x ∧ x.size ≤ s.size ∧ (∀ t0, tagOK t0 = true → s = quoted t0 → x = s ∧ wk = false) ∧ Below w.heap.size w wx ∧ Blk wx w.heap.size 36 #[.string ⟨#[]⟩, .bool false] ∧ Blk wx (w.heap.size + 1) 36 #[.string ⟨#[]⟩, .bool wk])
    case first =>
      cases b with
      | false =>
        go_wp2_with fail
        go_meet
        exact ⟨u, false, rfl, hu, fun t0 h0 hq => ⟨HN.out t0 h0 hq, rfl⟩, HB3.out, K03.out, K13.out⟩
      | true =>
        obtain ⟨h2, hno⟩ := HW.out rfl
        have HNO := Lib.hid hno
        have c1 : w3.cell? ⟨w.heap.size + 1, 1, none⟩ = some (.bool false) := (K13.out.cell 1).trans rfl
        have f1 := K13.out.free' 1
        clear hno
        go_wp2_with fail
        go_meet
        refine ⟨_, true, rfl, ?_, fun t0 h0 hq => (HNO.out t0 h0 hq).elim, below_set HB3.out (by omega) _, K03.out.far (by omega) _, (K13.out.set 1 _)⟩
        simp
        omega
    case rest =>
      obtain ⟨x, wk, rfl, hx, hqx, hb4, k04, k14⟩ := hcut
      generalize wc = w4 at *
      have HQX := Lib.hid hqx
      have HB4 := Lib.hid hb4
      have K04 := Lib.hid k04
      have K14 := Lib.hid k14
      clear hqx hb4 k04 k14 HB3 K03 K13 HN HW hst
      go_upto_region 6 with fail
      go_cut [34] (fun v wx => ∃ b : Bool, v = .bool b ∧ wx = w4 ∧ (b = false → 2 ≤ x.size) ∧ (b = true → ∀ t0, tagOK t0 = true → s = quoted t0 → False))
      case first =>
        have HF : Hid (∀ t0, tagOK t0 = true → s = quoted t0 → 2 ≤ x.size ∧ (∀ h : 0 < x.size, x[0].toNat = 34) ∧ (∀ h : x.size - 1 < x.size, x[x.size - 1].toNat = 34)) := by
          show ∀ t0, tagOK t0 = true → s = quoted t0 → _
          intro t0 h0 hq
          obtain ⟨hxs, _⟩ := HQX.out t0 h0 hq
          rw [hq] at hxs
          subst hxs
          refine ⟨by rw [quoted_size]; omega, fun h => by rw [quoted_first t0 h]; rfl, fun h => by rw [quoted_last t0 h]; rfl⟩
        by_cases h2 : x.size < 2
        · go_wp2_with fail
          go_meet
          exact ⟨true, by first | rfl | (simp; omega), rfl, (fun h => by cases h), fun _ t0 h0 hq => by have := (HF.out t0 h0 hq).1; omega⟩
        · by_cases ha : x[0].toNat = 34
          · by_cases hz : x[x.size - 1].toNat = 34
            · go_wp2_with fail
              go_meet
              exact ⟨false, by first | rfl | (simp; omega), rfl, (fun _ => by omega), (fun h => by cases h)⟩
            · go_wp2_with fail
              go_meet
              exact ⟨true, by first | rfl | (simp; omega), rfl, (fun h => by cases h), fun _ t0 h0 hq => hz ((HF.out t0 h0 hq).2.2 (by omega))⟩
          · go_wp2_with fail
            go_meet
            exact ⟨true, by first | rfl | (simp; omega), rfl, (fun h => by cases h), fun _ t0 h0 hq => ha ((HF.out t0 h0 hq).2.1 (by omega))⟩
      case rest =>
        obtain ⟨b2, rfl, rfl, hb2, hb3⟩ := hcut
        generalize wc = w4 at *
        have HB2 := Lib.hid hb2
        have HBT := Lib.hid hb3
        clear hb2 hb3
        cases b2 with
        | true =>
          have st := run_st36 (a := .string ⟨#[]⟩) (b := .bool false) K04.out rfl (by simp [Value.oneCell'])
          go_wp2_with fail
          refine bodyPost_ret (v := .tuple #[.agg #[.string ⟨#[]⟩, .bool false], .int .i64 2]) (results_cell_tmp Tryz.results108 _ _ w.heap.size 36 _ (0, 0) _ rfl (setRow_blk K04.out _) Tryz.underlying36 rfl size36) rfl ⟨TagIs.of (Nat.zero_le _) (fun t0 h0 hq => (HBT.out (by first | rfl | trivial) t0 h0 hq).elim), ?_⟩
          exact HB4.out.trans (grown_below (setRow_gby _ _ _) HB4.out.size (fun k hk => by injection hk with hk; omega))
        | false =>
          have h2 : 2 ≤ x.size := HB2.out (by first | rfl | trivial)
          have c0 : w4.cell? ⟨w.heap.size + 1, 0, none⟩ = some (.string ⟨#[]⟩) := (K14.out.cell 0).trans rfl
          have f0 := K14.out.free' 0
          go_upto_region 9 with fail
          have hb5 : Below w.heap.size w (w4.setCell ⟨w.heap.size + 1, 0, none⟩ (.string (x.extract 1 (x.size - 1)))) := below_set HB4.out (by omega) _
          have k05 := K04.out.far (b := w.heap.size + 1) (o := 0) (by omega) (.string (x.extract 1 (x.size - 1)))
          have k15 : Blk (w4.setCell ⟨w.heap.size + 1, 0, none⟩ (.string (x.extract 1 (x.size - 1)))) (w.heap.size + 1) 36 #[.string (x.extract 1 (x.size - 1)), .bool wk] := K14.out.set 0 _
          generalize w4.setCell ⟨w.heap.size + 1, 0, none⟩ (.string (x.extract 1 (x.size - 1))) = w5 at *
          have hy : (x.extract 1 (x.size - 1)).size ≤ s.size := by simp; omega
          have hqy : ∀ t0, tagOK t0 = true → s = quoted t0 → x.extract 1 (x.size - 1) = t0 ∧ wk = false := fun t0 h0 hq => by
            obtain ⟨h3, h4⟩ := HQX.out t0 h0 hq
            rw [hq] at h3
            subst h3
            exact ⟨quoted_mid t0, h4⟩
          generalize x.extract 1 (x.size - 1) = y at *
          have HQY := Lib.hid hqy
          have HB5 := Lib.hid hb5
          have K05 := Lib.hid k05
          have K15 := Lib.hid k15
          have l5 := run_ld36 k15
          clear hqy hb5 k05 k15 c0 f0
          go_wp2_with fail
          refine (rtagRight_any y wk w5).mono ?_
          rintro e w6 ⟨rfl, hb6⟩
          have HB6 := Lib.hid (HB5.out.trans (hb6.mono HB5.out.size))
          have K06 := Lib.hid (K05.out.below hb6 K05.out.lt)
          have l6 := run_ld36 (K15.out.below hb6 K15.out.lt)
          clear hb6 l5
          cases hok : tagOK y with
          | false =>
            have HOK := Lib.hid hok
            clear hok
            have st := run_st36 (a := .string ⟨#[]⟩) (b := .bool false) K06.out rfl (by simp [Value.oneCell'])
            go_wp2_with fail
            refine bodyPost_ret (v := .tuple #[.agg #[.string ⟨#[]⟩, .bool false], .int .i64 2]) (results_cell_tmp Tryz.results108 _ _ w.heap.size 36 _ (0, 0) _ rfl (setRow_blk K06.out _) Tryz.underlying36 rfl size36) rfl ⟨TagIs.of (Nat.zero_le _) (fun t0 h0 hq => ?_), ?_⟩
            · have := (HQY.out t0 h0 hq).1
              have h3 := HOK.out
              rw [this, h0] at h3
              cases h3
            · exact HB6.out.trans (grown_below (setRow_gby _ _ _) HB6.out.size (fun k hk => by injection hk with hk; omega))
          | true =>
            clear hok
            have st := run_st36 (a := .string y) (b := .bool wk) K06.out rfl (by simp [Value.oneCell'])
            go_wp2_with fail
            refine bodyPost_ret (v := .tuple #[.agg #[.string y, .bool wk], .int .i64 0]) (results_cell_tmp Tryz.results108 _ _ w.heap.size 36 _ (0, 0) _ rfl (setRow_blk K06.out _) Tryz.underlying36 rfl size36) rfl ⟨TagIs.of hy (fun t0 h0 hq => ⟨(HQY.out t0 h0 hq).1, (HQY.out t0 h0 hq).2, by trivial⟩), ?_⟩
            exact HB6.out.trans (grown_below (setRow_gby _ _ _) HB6.out.size (fun k hk => by injection hk with hk; omega))
end Go.Proofs.YtoaiamgcegnjjaaGreatDoor
namespace Go.Proofs.YtoaiamgcegnjjaaGreatDoor
open Go.RowKit Go.Maps Go.WideMaps
set_option maxRecDepth 100000

def numL (l : List UInt8) : Nat := l.foldl (fun a c => 10 * a + (c.toNat - 48)) 0
theorem numL_snoc (l : List UInt8) (c : UInt8) : numL (l ++ [c]) = 10 * numL l + (c.toNat - 48) := by simp [numL]
theorem numL_dec (u : Nat) : numL (Lib.decDigits u) = u := by
  induction u using Nat.strongRecOn with
  | _ u ih =>
    by_cases h : u < 10
    · rw [Lib.decDigits_one h]
      show 10 * 0 + ((UInt8.ofNat (48 + u)).toNat - 48) = u
      rw [dig_nat h]; omega
    · rw [Lib.decDigits, dif_neg h, numL_snoc, ih (u / 10) (by omega), dig_nat (by omega)]
      omega
theorem numL_lt : ∀ (k : Nat) (l : List UInt8), l.length = k → (∀ c ∈ l, c.toNat ≤ 57) → numL l < 10 ^ k
  | 0, l, h, _ => by
    obtain rfl : l = [] := List.eq_nil_of_length_eq_zero h
    simp [numL]
  | k + 1, l, h, hc => by
    obtain ⟨a, c, rfl⟩ : ∃ a c, l = a ++ [c] := ⟨l.dropLast, l.getLast (fun e => by simp [e] at h), (List.dropLast_concat_getLast _).symm⟩
    have ih := numL_lt k a (by simp at h; omega) (fun x hx => hc x (by simp [hx]))
    have := hc c (by simp)
    rw [numL_snoc, Nat.pow_succ]
    omega
theorem dec_head (u : Nat) : 10 ≤ u → ∀ c l, Lib.decDigits u = c :: l → c.toNat ≠ 48 := by
  induction u using Nat.strongRecOn with
  | _ u ih =>
    intro hu c l hc
    rw [Lib.decDigits, dif_neg (by omega)] at hc
    by_cases h : u / 10 < 10
    · rw [Lib.decDigits_one h] at hc
      simp only [List.cons_append, List.cons.injEq] at hc
      rw [← hc.1, dig_nat h]; omega
    · cases hd : Lib.decDigits (u / 10) with
      | nil => exact absurd hd (dec_ne _)
      | cons d r =>
        rw [hd] at hc
        simp only [List.cons_append, List.cons.injEq] at hc
        rw [← hc.1]
        exact ih (u / 10) (by omega) (by omega) d r hd
theorem dec_short (u k : Nat) : u < 10 ^ (k + 1) → (Lib.decDigits u).length ≤ k + 1 := by
  induction k generalizing u with
  | zero => intro h; rw [Lib.decDigits_one (by omega)]; simp
  | succ k ih =>
    intro h
    by_cases h1 : u < 10
    · rw [Lib.decDigits_one h1]; simp
    · rw [Lib.decDigits, dif_neg h1, List.length_append]
      have := ih (u / 10) (by rw [Nat.pow_succ] at h; omega)
      simp only [List.length_cons, List.length_nil]
      omega
def digB (c : UInt8) : Bool := decide (48 ≤ c.toNat) && decide (c.toNat ≤ 57)
theorem digB_t {c : UInt8} (h : 48 ≤ c.toNat ∧ c.toNat ≤ 57) : digB c = true := by
  unfold digB
  rw [decide_eq_true h.1, decide_eq_true h.2]; rfl
/-- some number and bool; and where the word is a numeral, just that number -/
def NumIs (s : ByteArray) (e : Ending) : Prop := ∃ (n : Int) (b : Bool), e = .returned (.tuple #[.int .i64 n, .bool b]) ∧ ∀ m : Nat, m ≤ 1099511627776 → s = itoaB m → n = m ∧ b = true
theorem NumIs.of {s : ByteArray} {n : Int} {b : Bool} (h : ∀ m : Nat, m ≤ 1099511627776 → s = itoaB m → n = m ∧ b = true) : NumIs s (.returned (.tuple #[.int .i64 n, .bool b])) := ⟨n, b, rfl, h⟩
theorem itoaB_data (m : Nat) : (itoaB m).data.toList = Lib.decDigits m := by
  unfold itoaB Lib.itoa
  rw [ba_mk, if_neg (by omega)]
  simp
theorem itoaB_len (s : ByteArray) : s.data.toList.length = s.size := by simp
theorem itoaB_shape {s : ByteArray} {m : Nat} (hm : m ≤ 1099511627776) (hs : s = itoaB m) : 0 < s.size ∧ s.size ≤ 18 ∧ (∀ i (h : i < s.size), 48 ≤ s[i].toNat ∧ s[i].toNat ≤ 57) ∧ (∀ h : 0 < s.size, s[0].toNat = 48 → ¬ 1 < s.size) := by
  have hd : s.data.toList = Lib.decDigits m := by rw [hs, itoaB_data]
  have hl := itoaB_len s
  have h1 : 0 < s.size := by
    have := dec_ne m
    rw [← hl, hd]
    exact List.length_pos_iff.2 this
  refine ⟨h1, ?_, fun i h => ?_, fun h h0 h2 => ?_⟩
  · rw [← hl, hd]
    exact dec_short m 17 (by have : (10 : Nat) ^ 18 = 1000000000000000000 := by decide
                             rw [this]; omega)
  · have hm2 : s[i] ∈ s.data.toList := by rw [ba_at _ _ h]; exact List.getElem_mem _
    rw [hd] at hm2
    exact dec_digit m _ hm2
  · have h10 : 10 ≤ m := by
      by_cases hq : m < 10
      · rw [Lib.decDigits_one hq] at hd
        rw [← hl, hd] at h2
        simp at h2
      · omega
    cases hdd : Lib.decDigits m with
    | nil => exact absurd hdd (dec_ne m)
    | cons c l =>
      have := dec_head m h10 c l hdd
      rw [ba_at _ _ h] at h0
      simp only [hd, hdd, List.getElem_cons_zero] at h0
      exact this h0

theorem numL_take {s : ByteArray} {k : Nat} (hk : k < s.size) : numL (s.data.toList.take (k + 1)) = 10 * numL (s.data.toList.take k) + (s[k].toNat - 48) := by
  have hl : k < s.data.toList.length := by rw [itoaB_len]; exact hk
  rw [List.take_succ_eq_append_getElem hl, numL_snoc, ba_at s k hk]
theorem numL_bd {s : ByteArray} {k : Nat} (hs : s.size ≤ 18) (hall : upB digB s k) : k < s.size → numL (s.data.toList.take k) < 10 ^ 17 := by
  intro hk
  have h := numL_lt k (s.data.toList.take k) (by rw [List.length_take, itoaB_len]; omega) (fun c hc => by
    obtain ⟨j, hj, rfl⟩ := List.mem_iff_getElem.1 hc
    rw [List.length_take, itoaB_len] at hj
    rw [List.getElem_take]
    have := hall j (by omega) (by omega)
    rw [ba_at _ _ (by omega)] at this
    unfold digB at this
    simp only [Bool.and_eq_true, decide_eq_true_eq] at this
    exact this.2)
  exact Nat.lt_of_lt_of_le h (Nat.pow_le_pow_right (by omega) (by omega))

set_option maxHeartbeats 2000000 in
theorem rnum_any (s : ByteArray) (w : World) (hs : s.size ≤ 9223372036854775807) : Calls Tryz.prog 157 #[.string s] w fun e w' => NumIs s e ∧ w = w' := by
  have SH : Hid (∀ m : Nat, m ≤ 1099511627776 → s = itoaB m → 0 < s.size ∧ s.size ≤ 18 ∧ (∀ i (h : i < s.size), 48 ≤ s[i].toNat ∧ s[i].toNat ≤ 57) ∧ (∀ h : 0 < s.size, s[0].toNat = 48 → ¬ 1 < s.size)) := fun m h1 h2 => itoaB_shape h1 h2
  go_enter Tryz.func157, Tryz.ntmps157
  go_upto_region 1 with fail
  go_cut [23] (fun v wx => ∃ b : Bool, v = .bool b ∧ wx = w ∧ (b = false → s.size ≤ 18) ∧ (b = true → ∀ m : Nat, m ≤ 1099511627776 → s = itoaB m → False))
  case first =>
    by_cases h0 : s.size = 0
    · go_wp2_with fail
      go_meet
      exact ⟨true, by first | rfl | (simp; omega), rfl, (fun h => by cases h), fun _ m h1 h2 => by have := (SH.out m h1 h2).1; omega⟩
    by_cases h18 : 18 < s.size
    · go_wp2_with fail
      go_meet
      exact ⟨true, by first | rfl | (simp; omega), rfl, (fun h => by cases h), fun _ m h1 h2 => by have := (SH.out m h1 h2).2.1; omega⟩
    by_cases hz : s[0].toNat = 48
    · by_cases h1 : 1 < s.size
      · go_wp2_with fail
        go_meet
        exact ⟨true, by first | rfl | (simp; omega), rfl, (fun h => by cases h), fun _ m h1' h2 => by have := (SH.out m h1' h2).2.2.2 (by omega) hz; omega⟩
      · go_wp2_with fail
        go_meet
        exact ⟨false, by simp; exact ⟨⟨fun h => h0 (by rw [h]; rfl), by omega⟩, by omega⟩, rfl, (fun _ => by omega), (fun h => by cases h)⟩
    · go_wp2_with fail
      go_meet
      exact ⟨false, by simp; exact ⟨fun h => h0 (by rw [h]; rfl), by omega⟩, rfl, (fun _ => by omega), (fun h => by cases h)⟩
  case rest =>
    obtain ⟨b, rfl, rfl, hb1, hb2⟩ := hcut
    have HB1 := Lib.hid hb1
    have HB2 := Lib.hid hb2
    clear hb1 hb2
    cases b with
    | true =>
      go_wp2_with fail
      go_ret2
      exact ⟨NumIs.of (fun m h1 h2 => (HB2.out (by first | rfl | trivial) m h1 h2).elim), rfl⟩
    | false =>
      have h18 : s.size ≤ 18 := HB1.out (by first | rfl | trivial)
      go_wp2_with fail
      go_loop [4, 5] (fun n i => ∃ k : Nat, k ≤ s.size ∧ i = .int .i64 k ∧ n = .int .i64 (numL (s.data.toList.take k) : Nat) ∧ upB digB s k) (fun _ i => s.size - (intOf i).toNat)
      case atStart => exact ⟨0, Nat.zero_le _, rfl, rfl, upB_zero _ _⟩
      case round =>
        obtain ⟨k, hk, rfl, rfl, hall⟩ := hrel
        have HBD := Lib.hid (numL_bd h18 hall)
        have HALL := Lib.hid hall
        clear hall
        by_cases hlt : k < s.size
        · have hbd := HBD.out hlt
          have h1017 : (10 : Nat) ^ 17 = 100000000000000000 := by decide
          rw [h1017] at hbd
          clear h1017 HBD
          have HT := Lib.hid (numL_take hlt)
          generalize numL (s.data.toList.take k) = n at *
          by_cases h1 : s[k].toNat < 48
          · go_wp2_with fail
            go_ret2
            exact ⟨NumIs.of (fun m g1 g2 => by have := ((SH.out m g1 g2).2.2.1 k hlt).1; omega), rfl⟩
          by_cases h2 : 57 < s[k].toNat
          · go_wp2_with fail
            go_ret2
            exact ⟨NumIs.of (fun m g1 g2 => by have := ((SH.out m g1 g2).2.2.1 k hlt).2; omega), rfl⟩
          have hsub : ((s[k].toNat : Nat) : Int) - 48 = ((s[k].toNat - 48 : Nat) : Int) := by omega
          go_wp2_with fail
          case roundEnd =>
            refine ⟨⟨k + 1, by omega, by go_num, ?_, upB_succ HALL.out hlt (digB_t (by omega))⟩, by simp [intOf]; omega⟩
            rw [HT.out]
            congr 1
        · go_wp2_with fail
          go_ret2
          refine ⟨NumIs.of (fun m g1 g2 => ⟨?_, by trivial⟩), rfl⟩
          have hkk : s.data.toList.take k = s.data.toList := List.take_of_length_le (by rw [itoaB_len]; omega)
          rw [hkk, g2, itoaB_data, numL_dec]

/-- the same for -1, too -/
def NumIsZ (s : ByteArray) (e : Ending) : Prop := ∃ (n : Int) (b : Bool), e = .returned (.tuple #[.int .i64 n, .bool b]) ∧ ∀ m : Int, -1 ≤ m → m ≤ 1099511627776 → s = itoaB m → n = m ∧ b = true
theorem NumIsZ.of {s : ByteArray} {n : Int} {b : Bool} (h : ∀ m : Int, -1 ≤ m → m ≤ 1099511627776 → s = itoaB m → n = m ∧ b = true) : NumIsZ s (.returned (.tuple #[.int .i64 n, .bool b])) := ⟨n, b, rfl, h⟩
theorem itoaB_neg1 : itoaB (-1) = ⟨#[45, 49]⟩ := by
  unfold itoaB Lib.itoa
  rw [if_pos (by decide)]
  show (⟨(45 :: Lib.decDigits 1).toArray⟩ : ByteArray) = ⟨#[45, 49]⟩
  rw [Lib.decDigits_one (by decide)]
  rfl
theorem rparsed_any (s : ByteArray) (w : World) (hs : s.size ≤ 9223372036854775807) : Calls Tryz.prog 107 #[.string s] w fun e w' => NumIsZ s e ∧ w = w' := by
  have SP : Hid (∀ m : Int, -1 ≤ m → m ≤ 1099511627776 → s = itoaB m → s ≠ ⟨#[45, 49]⟩ → ∃ u : Nat, m = u ∧ u ≤ 1099511627776) := by
    show ∀ m : Int, -1 ≤ m → m ≤ 1099511627776 → s = itoaB m → s ≠ ⟨#[45, 49]⟩ → _
    intro m h1 h2 h3 h4
    by_cases hm : m = -1
    · subst hm
      exact absurd (h3.trans itoaB_neg1) h4
    · exact ⟨m.toNat, by omega, by omega⟩
  by_cases hd : s = ⟨#[45, 49]⟩
  · subst hd
    have U : Hid (∀ m : Int, -1 ≤ m → m ≤ 1099511627776 → (⟨#[45, 49]⟩ : ByteArray) = itoaB m → (-1 : Int) = m ∧ true = true) := by
      show ∀ m : Int, -1 ≤ m → m ≤ 1099511627776 → (⟨#[45, 49]⟩ : ByteArray) = itoaB m → _
      intro m h1 h2 h3
      rw [← itoaB_neg1] at h3
      exact ⟨itoaB_inj (by omega) (by omega) h3, rfl⟩
    clear SP
    go_enter Tryz.func107, Tryz.ntmps107
    go_wp2
    go_ret2
    exact ⟨NumIsZ.of (fun m a b c => ⟨(U.out m a b c).1, by trivial⟩), rfl⟩
  · have hne : ¬ s.toList = [45, 49] := fun h => hd (ba_ext (by rw [← ByteArray.toList_eq, h]))
    have HD := Lib.hid hd
    clear hd
    go_enter Tryz.func107, Tryz.ntmps107
    go_wp2_with (go_at_call 157; refine (rnum_any s w hs).mono ?_; rintro e w2 ⟨⟨n, b, rfl, hn⟩, rfl⟩; have HN := Lib.hid hn; clear hn)
    · rename_i h
      exact absurd (by simpa using h) hne
    go_ret2
    refine ⟨NumIsZ.of fun m h1 h2 h3 => ?_, rfl⟩
    obtain ⟨u, rfl, hu⟩ := SP.out m h1 h2 h3 HD.out
    exact HN.out u hu h3
end Go.Proofs.YtoaiamgcegnjjaaGreatDoor
namespace Go.Proofs.YtoaiamgcegnjjaaGreatDoor
open Go.RowKit Go.Maps Go.WideMaps
set_option maxRecDepth 100000

def blankB (c : UInt8) : Bool := c.toNat == 32 || c.toNat == 9
/-- what stands between blanks -/
def wordsR : List UInt8 → List UInt8 → List (List UInt8)
  | [], cur => if cur = [] then [] else [cur]
  | c :: l, cur => if blankB c then (if cur = [] then wordsR l [] else cur :: wordsR l []) else wordsR l (cur ++ [c])
theorem wordsR_word : ∀ (w l cur : List UInt8), (∀ c ∈ w, blankB c = false) → wordsR (w ++ l) cur = wordsR l (cur ++ w)
  | [], l, cur, _ => by simp
  | c :: w, l, cur, h => by
    rw [List.cons_append, wordsR, h c (by simp)]
    rw [if_neg (by simp), wordsR_word w l _ (fun x hx => h x (by simp [hx]))]
    simp
theorem wordsR_join : ∀ (x : List UInt8) (ws : List (List UInt8)), (∀ w ∈ x :: ws, w ≠ [] ∧ ∀ c ∈ w, blankB c = false) → wordsR (Lib.join (x :: ws) [32]) [] = x :: ws
  | x, [], h => by
    have hx := h x (by simp)
    have h1 := wordsR_word x [] [] hx.2
    rw [List.append_nil, List.nil_append] at h1
    rw [Lib.join_one, h1, wordsR, if_neg hx.1]
  | x, y :: ws, h => by
    have hx := h x (by simp)
    have ih := wordsR_join y ws (fun w hw => h w (List.mem_cons_of_mem _ hw))
    have hj : Lib.join (x :: y :: ws) [32] = x ++ 32 :: Lib.join (y :: ws) [32] := by
      rw [Lib.join_cons, Lib.join_cons]
      simp [Lib.joinTail]
    rw [hj, wordsR_word _ _ _ hx.2, List.nil_append, wordsR, if_pos (by decide), if_neg hx.1, ih]
/-- the words of a text -/
def wordsB (s : ByteArray) : List ByteArray := (wordsR s.data.toList []).map fun l => ⟨l.toArray⟩
theorem wordsB_note {e : Ent} (h : noteOK e = true) : wordsB (noteB e) = noteWords e := by
  have hw := note_words h
  apply map_data_inj
  have hm : (wordsB (noteB e)).map (·.data.toList) = wordsR (noteB e).data.toList [] := by
    unfold wordsB
    rw [List.map_map]
    exact (List.map_congr_left (fun l _ => by simp)).trans (List.map_id _)
  rw [hm]
  have hd : (noteB e).data.toList = Lib.join ((noteWords e).map (·.data.toList)) [32] := by simp [noteB]
  rw [hd]
  have hc : (noteWords e).map (·.data.toList) = (itoaB e.id).data.toList :: ((noteWords e).tail).map (·.data.toList) := by simp [noteWords]
  rw [hc]
  refine wordsR_join _ _ (fun w hm => ?_)
  rw [← hc, List.mem_map] at hm
  obtain ⟨s, hs, rfl⟩ := hm
  obtain ⟨h1, h2⟩ := hw s hs
  refine ⟨h1, fun c hcm => ?_⟩
  have := h2 c hcm
  unfold blankB
  simp only [Bool.or_eq_false_iff, beq_eq_false_iff_ne]
  omega

/-- where the loop stands -/
structure RW (s : ByteArray) (i at' : Nat) (ws : List ByteArray) : Prop where
  ai : at' ≤ i
  is : i ≤ s.size + 1
  inv : i ≤ s.size → ws.map (·.data.toList) ++ wordsR (s.data.toList.drop i) ((s.data.toList.drop at').take (i - at')) = wordsR s.data.toList []
  fin : i = s.size + 1 → ws.map (·.data.toList) = wordsR s.data.toList []
  few : ws.length ≤ at'
  sz : ∀ x ∈ ws, x.size ≤ s.size
theorem RW.zero (s : ByteArray) : RW s 0 0 [] := ⟨Nat.le_refl _, Nat.zero_le _, fun _ => by simp, fun h => by omega, Nat.le_refl _, fun _ h => by simp at h⟩
theorem extract_list (s : ByteArray) (a b : Nat) : (s.extract a b).data.toList = (s.data.toList.drop a).take (b - a) := by
  rw [ByteArray.data_extract, Array.toList_extract, List.extract_eq_take_drop]
theorem drop_at {s : ByteArray} {i : Nat} (h : i < s.size) : s.data.toList.drop i = s[i] :: s.data.toList.drop (i + 1) := by
  rw [List.drop_eq_getElem_cons (by rw [itoaB_len]; exact h), ba_at s i h]
theorem cur_ne {s : ByteArray} {i at' : Nat} (h1 : at' < i) (h2 : i ≤ s.size) : (s.data.toList.drop at').take (i - at') ≠ [] := by
  intro h
  have := congrArg List.length h
  rw [List.length_take, List.length_drop, itoaB_len] at this
  simp at this
  omega
theorem RW.word {s : ByteArray} {i at' : Nat} {ws : List ByteArray} (h : RW s i at' ws) (h1 : at' < i) (h2 : i ≤ s.size) (hb : ∀ hi : i < s.size, blankB s[i] = true) : RW s (i + 1) (i + 1) (ws ++ [s.extract at' i]) := by
  have hinv := h.inv h2
  have hne := cur_ne h1 h2
  refine ⟨Nat.le_refl _, by omega, fun h3 => ?_, fun h3 => ?_, ?_, fun x hx => ?_⟩
  · rw [drop_at (by omega), wordsR, if_pos (hb (by omega)), if_neg hne] at hinv
    rw [← hinv, Nat.sub_self, List.take_zero, List.map_append, List.map_cons, List.map_nil, extract_list, List.append_assoc]
    rfl
  · have hd : s.data.toList.drop i = [] := List.drop_eq_nil_iff.2 (by rw [itoaB_len]; omega)
    rw [hd, wordsR, if_neg hne] at hinv
    rw [← hinv, List.map_append, List.map_cons, List.map_nil, extract_list]
  · rw [List.length_append, List.length_singleton]
    have := h.few
    omega
  · rw [List.mem_append, List.mem_singleton] at hx
    rcases hx with hx | rfl
    · exact h.sz x hx
    · rw [ByteArray.size_extract]; omega
theorem RW.none {s : ByteArray} {i : Nat} {ws : List ByteArray} (h : RW s i i ws) (h2 : i ≤ s.size) (hb : ∀ hi : i < s.size, blankB s[i] = true) : RW s (i + 1) (i + 1) ws := by
  have hinv := h.inv h2
  rw [Nat.sub_self, List.take_zero] at hinv
  refine ⟨Nat.le_refl _, by omega, fun h3 => ?_, fun h3 => ?_, Nat.le_succ_of_le h.few, h.sz⟩
  · rw [drop_at (by omega), wordsR, if_pos (hb (by omega)), if_pos rfl] at hinv
    rw [Nat.sub_self, List.take_zero, hinv]
  · have hd : s.data.toList.drop i = [] := List.drop_eq_nil_iff.2 (by rw [itoaB_len]; omega)
    rw [hd, wordsR, if_pos rfl, List.append_nil] at hinv
    exact hinv
theorem RW.go {s : ByteArray} {i at' : Nat} {ws : List ByteArray} (h : RW s i at' ws) (h2 : i < s.size) (hb : blankB s[i] = false) : RW s (i + 1) at' ws := by
  have hinv := h.inv (by omega)
  have ha := h.ai
  refine ⟨by omega, by omega, fun h3 => ?_, fun h3 => by omega, h.few, h.sz⟩
  rw [drop_at h2, wordsR, hb, if_neg (by simp)] at hinv
  have he : (s.data.toList.drop at').take (i + 1 - at') = (s.data.toList.drop at').take (i - at') ++ [s[i]] := by
    rw [show i + 1 - at' = (i - at') + 1 by omega]
    have hl : i - at' < (s.data.toList.drop at').length := by rw [List.length_drop, itoaB_len]; omega
    rw [List.take_succ_eq_append_getElem hl, List.getElem_drop, ba_at s i h2]
    simp only [show at' + (i - at') = i by omega]
  rw [he]
  exact hinv
theorem RW.end {s : ByteArray} {at' : Nat} {ws : List ByteArray} (h : RW s (s.size + 1) at' ws) : ws = wordsB s := by
  apply map_data_inj
  rw [h.fin rfl]
  unfold wordsB
  rw [List.map_map]
  exact ((List.map_congr_left (fun l _ => by simp)).trans (List.map_id _)).symm

theorem blk_rd1 {w : World} {g : Nat} {v : Value} {t : TypeId} (h : Blk w g t #[v]) : Rd w w.heap.size 1 (some ⟨g, 0, none⟩) 1 [v] := by
  refine ⟨rfl, fun _ => ⟨g, 0, rfl, h.lt, fun j hj => ?_⟩⟩
  obtain rfl : j = 0 := by simp at hj; omega
  exact h.cell 0
theorem blankB_32 {c : UInt8} (h : c.toNat = 32) : blankB c = true := by unfold blankB; simp [h]
theorem blankB_9 {c : UInt8} (h : c.toNat = 9) : blankB c = true := by unfold blankB; simp [h]
theorem blankB_no {c : UInt8} (h : ¬ c.toNat = 32) (h2 : ¬ c.toNat = 9) : blankB c = false := by unfold blankB; simp [h, h2]

set_option maxHeartbeats 4000000 in
theorem rwords_any (s : ByteArray) (w : World) (hs : s.size ≤ 1000000) :
    Calls Tryz.prog 106 #[.string s] w fun e w' => ∃ A n c, e = .returned (.slice A n c) ∧ Strs w' w'.heap.size A n (wordsB s) ∧ n ≤ c ∧ n ≤ s.size + 1 ∧ (∀ x ∈ wordsB s, x.size ≤ s.size) ∧ Below w.heap.size w w' := by
  obtain ⟨i0, hi, hz0, hz1, hz2⟩ := info_parts info9
  go_enter Tryz.func106, Tryz.ntmps106
  go_wp2_with fail
  go_loopw [3, 4, 5] (fun s3 s4 s5 wr => ∃ (i a : Nat) (A : Option Addr) (n c : Nat) (ws : List ByteArray), s3 = .slice A n c ∧ s4 = .int .i64 a ∧ s5 = .int .i64 i ∧ Hid (RW s i a ws) ∧ Hid (wr.ownsRow w.heap.size 9 1 (.slice A n c) n (ws.map Value.string)) ∧ Hid (n ≤ c) ∧ Hid (Below w.heap.size w wr)) (fun _ _ i _ => s.size + 1 - (intOf i).toNat)
  case atStart => exact ⟨0, 0, none, 0, 0, [], rfl, rfl, rfl, RW.zero s, Lib.hid (by simpa using World.ownsRow_nil w w.heap.size 9 1), Nat.le_refl _, Below.refl _ _⟩
  case round =>
    obtain ⟨i, a, A, n, c, ws, rfl, rfl, rfl, HW, HO, HC, HB⟩ := hrel
    have hia := HW.out.ai
    have his := HW.out.is
    have hna : n ≤ a := by have h1 := HO.out.1; have h2 := HW.out.few; simp at h1; omega
    have hwr := HB.out.size
    by_cases hlt : i ≤ s.size
    · have i1 : (i : Int) ≤ (s.size : Int) := by omega
      go_upto_region 6 with fail
      go_cut [27] (fun v wx => ∃ b : Bool, v = .bool b ∧ wx = wr ∧ (b = true → ∀ hi : i < s.size, blankB s[i] = true) ∧ (b = false → ∃ hi : i < s.size, blankB s[i] = false))
      case first =>
        by_cases h0 : i = s.size
        · go_wp2_with fail
          go_meet
          exact ⟨true, by first | rfl | (simp; omega), rfl, (fun _ hi => by omega), (fun h => by cases h)⟩
        have h1 : i < s.size := by omega
        by_cases h32 : s[i].toNat = 32
        · go_wp2_with fail
          go_meet
          exact ⟨true, by first | rfl | (simp; omega), rfl, (fun _ _ => blankB_32 h32), (fun h => by cases h)⟩
        by_cases h9 : s[i].toNat = 9
        · go_wp2_with fail
          go_meet
          exact ⟨true, by first | rfl | (simp; omega), rfl, (fun _ _ => blankB_9 h9), (fun h => by cases h)⟩
        · go_wp2_with fail
          go_meet
          exact ⟨false, by first | rfl | (simp; omega), rfl, (fun h => by cases h), (fun _ => ⟨h1, blankB_no h32 h9⟩)⟩
      case rest =>
        obtain ⟨b, rfl, rfl, hb1, hb2⟩ := hcut
        generalize wc = wr at *
        have HB1 := Lib.hid hb1
        have HB2 := Lib.hid hb2
        clear hb1 hb2
        cases b with
        | false =>
          have HW2 : Hid (RW s (i + 1) a ws) := by
            obtain ⟨h1, h2⟩ := HB2.out (by first | rfl | trivial)
            exact HW.out.go h1 h2
          go_wp2_with fail
          go_roundw
          case rel => exact ⟨i + 1, a, A, n, c, ws, rfl, rfl, by go_num, HW2, HO, HC, HB⟩
          case measure => simp [intOf]; omega
        | true =>
          have HBT : Hid (∀ hi : i < s.size, blankB s[i] = true) := HB1.out (by first | rfl | trivial)
          clear HB1 HB2
          by_cases hat : a < i
          · have HW2 : Hid (RW s (i + 1) (i + 1) (ws ++ [s.extract a i])) := HW.out.word hat hlt HBT.out
            have i2 : (a : Int) < (i : Int) := by omega
            have i3 : (0 : Int) ≤ (a : Int) := by omega
            go_wp2_with (at_builtin; refine wpList_append_rd _ rfl _ _ 37 rfl w.heap.size 9 i0 (.string ByteArray.empty) 1 16 Tryz.underlying37 hi hz0 hz1 hz2 rfl (by decide) (.slice A n c) n (ws.map Value.string) rfl (own_kept HO.out (gby_of_below ((Below.refl _ _).alloc (Nat.le_refl _) _)) (fun _ _ e' => by cases e')) (some ⟨wr.heap.size, 0, none⟩) 1 1 _ [.string (s.extract a i)] rfl (blk_rd1 (Blk.new wr 9 #[.string (s.extract a i)])) (by simp [Value.oneCell']) (by unfold maxLen; omega) (by omega) (by simp; omega) ?_; intro A3 c3 w8 hown8 hgrow8 hnc8 hat8; have HO8 := Lib.hid hown8; have HG8 := Lib.hid hgrow8; clear hown8 hgrow8 hat8; refine Hid.out ?_)
            refine Lib.hid ?_
            have hb8 : Below wr.heap.size wr (wr.alloc (.cells #[.string (s.extract a i)] 9)) := (Below.refl _ _).alloc (Nat.le_refl _) _
            have HB8 : Hid (Below w.heap.size w w8) := (HB.out.trans (hb8.mono hwr)).trans (grown_below HG8.out (by simp; omega) (fun g hg => ((own_kept HO.out (gby_of_below hb8) (fun _ _ e' => by cases e')).lt g hg).1))
            have HO9 : Hid (w8.ownsRow w.heap.size 9 1 (.slice A3 (n + 1) c3) (n + 1) ((ws ++ [s.extract a i]).map Value.string)) := by
              show World.ownsRow _ _ _ _ _ _ _
              rw [List.map_append]
              exact HO8.out
            have HC8 := Lib.hid hnc8
            clear hb8 hnc8
            go_wp2_with fail
            go_roundw
            case rel => exact ⟨i + 1, i + 1, A3, n + 1, c3, ws ++ [s.extract a i], rfl, by go_num, by go_num, HW2, HO9, HC8, HB8⟩
            case measure => simp [intOf]; omega
          · obtain rfl : a = i := by omega
            have HW2 : Hid (RW s (a + 1) (a + 1) ws) := HW.out.none hlt HBT.out
            go_wp2_with fail
            go_roundw
            case rel => exact ⟨a + 1, a + 1, A, n, c, ws, rfl, by go_num, by go_num, HW2, HO, HC, HB⟩
            case measure => simp [intOf]; omega
    · obtain rfl : i = s.size + 1 := by omega
      have hwe := HW.out.end
      have HE := Lib.hid hwe
      clear hwe
      go_wp2_with fail
      go_ret
      refine ⟨A, n, c, rfl, ?_, HC.out, by omega, ?_, HB.out⟩
      · rw [← HE.out]; exact own_rd HO.out
      · rw [← HE.out]; exact HW.out.sz
end Go.Proofs.YtoaiamgcegnjjaaGreatDoor
namespace Go.Proofs.YtoaiamgcegnjjaaGreatDoor
open Go.RowKit Go.Maps Go.WideMaps
set_option maxRecDepth 100000
attribute [local go_sem ↓] ld36_fold st36_fold

theorem dropWhile_none {p : UInt8 → Bool} : ∀ l : List UInt8, (∀ c ∈ l, p c = false) → l.dropWhile p = l
  | [], _ => rfl
  | c :: l, h => by simp [List.dropWhile, h c (by simp)]
theorem dropWhile_short (p : UInt8 → Bool) : ∀ l : List UInt8, (l.dropWhile p).length ≤ l.length
  | [] => by simp
  | c :: l => by
    rw [List.dropWhile_cons]
    split
    · have := dropWhile_short p l
      simp; omega
    · exact Nat.le_refl _
theorem trimS_short (l cs : List UInt8) : (Lib.trimS l cs).length ≤ l.length := by
  unfold Lib.trimS Lib.trimLeftS Lib.trimRightS
  have h1 := dropWhile_short (cs.contains ·) ((l.reverse.dropWhile (cs.contains ·)).reverse)
  have h2 := dropWhile_short (cs.contains ·) l.reverse
  rw [List.length_reverse] at h1 h2
  omega
theorem trimS_none (l cs : List UInt8) (h : ∀ c ∈ l, cs.contains c = false) : Lib.trimS l cs = l := by
  unfold Lib.trimS Lib.trimLeftS Lib.trimRightS
  have h1 : l.reverse.dropWhile (cs.contains ·) = l.reverse := dropWhile_none _ (fun c hc => h c (by simpa using hc))
  rw [h1, List.reverse_reverse]
  exact dropWhile_none _ h
theorem trim_any (s : ByteArray) (w : World) (hs : s.size ≤ 1000000) :
    Calls Tryz.prog 155 #[.string s, .string ⟨#[32, 9]⟩] w fun e w' => ∃ u, e = .returned (.string u) ∧ u.size ≤ s.size ∧ (NB s → u = s) ∧ Below w.heap.size w w' := by
  refine (Tryz.strings_Trim_laid s ⟨#[32, 9]⟩ w (by omega) (by decide) (ascii_of_all (by decide))).mono ?_
  rintro e w' ⟨rfl, hb⟩
  refine ⟨_, rfl, ?_, fun hn => ?_, hb⟩
  · have := trimS_short s.data.toList [32, 9]
    rw [← itoaB_len, ← itoaB_len, ba_mk]
    exact this
  · refine ba_ext ?_
    rw [ba_mk]
    refine trimS_none _ _ (fun c hc => ?_)
    obtain ⟨i, hi, rfl⟩ := List.mem_iff_getElem.1 hc
    rw [itoaB_len] at hi
    have := hn i hi
    rw [ba_at s i hi] at this
    simp only [List.contains_eq_mem, List.mem_cons, List.not_mem_nil, or_false, decide_eq_false_iff_not]
    intro hx
    apply this
    rcases hx with hx | hx
    · exact .inl (by rw [hx]; rfl)
    · exact .inr (by rw [hx]; rfl)
theorem weakB_any (u : ByteArray) (w : World) :
    Calls Tryz.prog 156 #[.string u, .string ⟨#[87, 47]⟩] w fun e w' => ∃ b : Bool, e = .returned (.bool b) ∧ (b = true → 2 ≤ u.size ∧ ∀ h : 0 < u.size, u[0].toNat = 87) ∧ w' = w := by
  refine (Tryz.strings_HasPrefix u ⟨#[87, 47]⟩ w).mono ?_
  rintro e w' ⟨rfl, rfl⟩
  refine ⟨_, rfl, fun hb => ?_, rfl⟩
  have hp : [87, 47] <+: u.data.toList := List.isPrefixOf_iff_prefix.1 hb
  obtain ⟨t, ht⟩ := hp
  refine ⟨?_, fun h => ?_⟩
  · rw [← itoaB_len, ← ht]; simp
  · rw [ba_at u 0 h]
    simp only [← ht]
    rfl

set_option maxHeartbeats 2000000 in
theorem tagParse_any (s : ByteArray) (w : World) (hs : s.size ≤ 1000000) :
    Calls Tryz.prog 104 #[.string s] w fun e w' => TagIs s e ∧ Below w.heap.size w w' := by
  have hb1 : Below w.heap.size w (w.alloc (.cells #[.string ⟨#[]⟩, .bool false] 36)) := (Below.refl _ _).alloc (Nat.le_refl _) _
  have k0 : Blk (w.alloc (.cells #[.string ⟨#[]⟩, .bool false] 36)) w.heap.size 36 #[.string ⟨#[]⟩, .bool false] := Blk.new w 36 _
  have C := Lib.hid (trim_any s (w.alloc (.cells #[.string ⟨#[]⟩, .bool false] 36)) hs)
  go_enter Tryz.func104, Tryz.ntmps104
  go_wp2_with fail
  refine C.out.mono ?_
  rintro e w2 ⟨u, rfl, hu, hn, hb2⟩
  have HN : Hid (∀ t0, tagOK t0 = true → s = quoted t0 → u = s) := fun t0 h0 h1 => hn (by rw [h1]; exact quoted_nb h0)
  have hb2' := hb1.trans (hb2.mono hb1.size)
  have k02 := k0.below hb2 k0.lt
  have hg2 : w.heap.size < w2.heap.size := k02.lt
  clear hn C hb1 k0 hb2
  go_upto_region 3 with fail
  have hb3 : Below w.heap.size w (w2.alloc (.cells #[.string ⟨#[]⟩, .bool false] 36)) := hb2'.alloc hb2'.size _
  have k03 : Blk (w2.alloc (.cells #[.string ⟨#[]⟩, .bool false] 36)) w.heap.size 36 #[.string ⟨#[]⟩, .bool false] := k02.alloc _
  have k13 : Blk (w2.alloc (.cells #[.string ⟨#[]⟩, .bool false] 36)) w2.heap.size 36 #[.string ⟨#[]⟩, .bool false] := Blk.new _ _ _
  clear hb2' k02
  generalize w2.alloc (.cells #[.string ⟨#[]⟩, .bool false] 36) = w3 at *
  generalize w2.heap.size = g at *
  have HB3 := Lib.hid hb3
  have K03 := Lib.hid k03
  have K13 := Lib.hid k13
  clear hb3 k03 k13
  go_wp2_with fail
  refine (weakB_any u w3).mono ?_
  rintro e w3' ⟨b, rfl, hbb, rfl⟩
  have HW : Hid (b = true → 2 ≤ u.size ∧ ∀ t0, tagOK t0 = true → s = quoted t0 → False) := by
    show b = true → _
    intro hb
    obtain ⟨h1, h2⟩ := hbb hb
    refine ⟨h1, fun t0 h0 hq => ?_⟩
    have hus := HN.out t0 h0 hq
    have h3 := h2 (by omega)
    have h4 := quoted_first t0 (by rw [← hq, ← hus]; omega)
    simp only [hus, hq] at h3
    rw [h4] at h3
    exact absurd h3 (by decide)
  clear hbb
  have hst : g < w3'.heap.size := K13.out.lt
  go_upto_if 8 with fail
  go_cut [0] (fun v wx => ∃ (x : ByteArray) (wk : Bool), v = .string x ∧ x.size ≤ s.size ∧ (∀ t0, tagOK t0 = true → s = quoted t0 → x = s ∧ wk = false) ∧ Below w.heap.size w wx ∧ Blk wx w.heap.size 36 #[.string ⟨#[]⟩, .bool false] ∧ Blk wx g 36 #[.string ⟨#[]⟩, .bool wk])
  case first =>
    cases b with
    | false =>
      go_wp2_with fail
      go_meet
      exact ⟨u, false, rfl, hu, fun t0 h0 hq => ⟨HN.out t0 h0 hq, rfl⟩, HB3.out, K03.out, K13.out⟩
    | true =>
      obtain ⟨h2, hno⟩ := HW.out rfl
      have HNO := Lib.hid hno
      have c1 : w3'.cell? ⟨g, 1, none⟩ = some (.bool false) := (K13.out.cell 1).trans rfl
      have f1 := K13.out.free' 1
      clear hno
      go_wp2_with fail
      go_meet
      refine ⟨_, true, rfl, ?_, fun t0 h0 hq => (HNO.out t0 h0 hq).elim, below_set HB3.out (by omega) _, K03.out.far (by omega) _, (K13.out.set 1 _)⟩
      simp
      omega
  case rest =>
    obtain ⟨x, wk, rfl, hx, hqx, hb4, k04, k14⟩ := hcut
    generalize wc = w4 at *
    have HQX := Lib.hid hqx
    have HB4 := Lib.hid hb4
    have K04 := Lib.hid k04
    have K14 := Lib.hid k14
    clear hqx hb4 k04 k14 HB3 K03 K13 HN HW hst
    go_upto_region 6 with fail
    go_cut [27] (fun v wx => ∃ b : Bool, v = .bool b ∧ wx = w4 ∧ (b = false → 2 ≤ x.size) ∧ (b = true → ∀ t0, tagOK t0 = true → s = quoted t0 → False))
    case first =>
      have HF : Hid (∀ t0, tagOK t0 = true → s = quoted t0 → 2 ≤ x.size ∧ (∀ h : 0 < x.size, x[0].toNat = 34) ∧ (∀ h : x.size - 1 < x.size, x[x.size - 1].toNat = 34)) := by
        show ∀ t0, tagOK t0 = true → s = quoted t0 → _
        intro t0 h0 hq
        obtain ⟨hxs, _⟩ := HQX.out t0 h0 hq
        rw [hq] at hxs
        subst hxs
        refine ⟨by rw [quoted_size]; omega, fun h => by rw [quoted_first t0 h]; rfl, fun h => by rw [quoted_last t0 h]; rfl⟩
      by_cases h2 : x.size < 2
      · go_wp2_with fail
        go_meet
        exact ⟨true, by first | rfl | (simp; omega), rfl, (fun h => by cases h), fun _ t0 h0 hq => by have := (HF.out t0 h0 hq).1; omega⟩
      · by_cases ha : x[0].toNat = 34
        · by_cases hz : x[x.size - 1].toNat = 34
          · go_wp2_with fail
            go_meet
            exact ⟨false, by first | rfl | (simp; omega), rfl, (fun _ => by omega), (fun h => by cases h)⟩
          · go_wp2_with fail
            go_meet
            exact ⟨true, by first | rfl | (simp; omega), rfl, (fun h => by cases h), fun _ t0 h0 hq => hz ((HF.out t0 h0 hq).2.2 (by omega))⟩
        · go_wp2_with fail
          go_meet
          exact ⟨true, by first | rfl | (simp; omega), rfl, (fun h => by cases h), fun _ t0 h0 hq => ha ((HF.out t0 h0 hq).2.1 (by omega))⟩
    case rest =>
      obtain ⟨b2, rfl, rfl, hb2, hb3⟩ := hcut
      generalize wc = w4 at *
      have HB2 := Lib.hid hb2
      have HBT := Lib.hid hb3
      clear hb2 hb3
      cases b2 with
      | true =>
        have st := run_st36 (a := .string ⟨#[]⟩) (b := .bool false) K04.out rfl (by simp [Value.oneCell'])
        go_wp2_with fail
        refine bodyPost_ret (v := .tuple #[.agg #[.string ⟨#[]⟩, .bool false], .int .i64 2]) (results_cell_tmp Tryz.results104 _ _ w.heap.size 36 _ (0, 0) _ rfl (setRow_blk K04.out _) Tryz.underlying36 rfl size36) rfl ⟨TagIs.of (Nat.zero_le _) (fun t0 h0 hq => (HBT.out (by first | rfl | trivial) t0 h0 hq).elim), ?_⟩
        exact HB4.out.trans (grown_below (setRow_gby _ _ _) HB4.out.size (fun k hk => by injection hk with hk; omega))
      | false =>
        have h2 : 2 ≤ x.size := HB2.out (by first | rfl | trivial)
        have c0 : w4.cell? ⟨g, 0, none⟩ = some (.string ⟨#[]⟩) := (K14.out.cell 0).trans rfl
        have f0 := K14.out.free' 0
        go_upto_region 9 with fail
        have hb5 : Below w.heap.size w (w4.setCell ⟨g, 0, none⟩ (.string (x.extract 1 (x.size - 1)))) := below_set HB4.out (by omega) _
        have k05 := K04.out.far (b := g) (o := 0) (by omega) (.string (x.extract 1 (x.size - 1)))
        have k15 : Blk (w4.setCell ⟨g, 0, none⟩ (.string (x.extract 1 (x.size - 1)))) g 36 #[.string (x.extract 1 (x.size - 1)), .bool wk] := K14.out.set 0 _
        generalize w4.setCell ⟨g, 0, none⟩ (.string (x.extract 1 (x.size - 1))) = w5 at *
        have hy : (x.extract 1 (x.size - 1)).size ≤ s.size := by simp; omega
        have hqy : ∀ t0, tagOK t0 = true → s = quoted t0 → x.extract 1 (x.size - 1) = t0 ∧ wk = false := fun t0 h0 hq => by
          obtain ⟨h3, h4⟩ := HQX.out t0 h0 hq
          rw [hq] at h3
          subst h3
          exact ⟨quoted_mid t0, h4⟩
        generalize x.extract 1 (x.size - 1) = y at *
        have HQY := Lib.hid hqy
        have HB5 := Lib.hid hb5
        have K05 := Lib.hid k05
        have K15 := Lib.hid k15
        have l5 := run_ld36 k15
        clear hqy hb5 k05 k15 c0 f0
        go_wp2_with fail
        refine (tagRight_any y wk w5).mono ?_
        rintro e w6 ⟨rfl, hb6⟩
        have HB6 := Lib.hid (HB5.out.trans (hb6.mono HB5.out.size))
        have K06 := Lib.hid (K05.out.below hb6 K05.out.lt)
        have l6 := run_ld36 (K15.out.below hb6 K15.out.lt)
        clear hb6 l5
        cases hok : tagOK y with
        | false =>
          have HOK := Lib.hid hok
          clear hok
          have st := run_st36 (a := .string ⟨#[]⟩) (b := .bool false) K06.out rfl (by simp [Value.oneCell'])
          go_wp2_with fail
          refine bodyPost_ret (v := .tuple #[.agg #[.string ⟨#[]⟩, .bool false], .int .i64 2]) (results_cell_tmp Tryz.results104 _ _ w.heap.size 36 _ (0, 0) _ rfl (setRow_blk K06.out _) Tryz.underlying36 rfl size36) rfl ⟨TagIs.of (Nat.zero_le _) (fun t0 h0 hq => ?_), ?_⟩
          · have := (HQY.out t0 h0 hq).1
            have h3 := HOK.out
            rw [this, h0] at h3
            cases h3
          · exact HB6.out.trans (grown_below (setRow_gby _ _ _) HB6.out.size (fun k hk => by injection hk with hk; omega))
        | true =>
          clear hok
          have st := run_st36 (a := .string y) (b := .bool wk) K06.out rfl (by simp [Value.oneCell'])
          go_wp2_with fail
          refine bodyPost_ret (v := .tuple #[.agg #[.string y, .bool wk], .int .i64 0]) (results_cell_tmp Tryz.results104 _ _ w.heap.size 36 _ (0, 0) _ rfl (setRow_blk K06.out _) Tryz.underlying36 rfl size36) rfl ⟨TagIs.of hy (fun t0 h0 hq => ⟨(HQY.out t0 h0 hq).1, (HQY.out t0 h0 hq).2, by trivial⟩), ?_⟩
          exact HB6.out.trans (grown_below (setRow_gby _ _ _) HB6.out.size (fun k hk => by injection hk with hk; omega))
end Go.Proofs.YtoaiamgcegnjjaaGreatDoor
