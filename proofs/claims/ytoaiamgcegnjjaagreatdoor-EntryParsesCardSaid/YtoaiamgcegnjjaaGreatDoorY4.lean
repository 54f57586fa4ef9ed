/- The reference's Gone. No condition. -/
import Derived.Test.YtoaiamgcegnjjaaGreatDoorML
import Derived.Test.YtoaiamgcegnjjaaGreatDoorMM
namespace Go.Proofs.YtoaiamgcegnjjaaGreatDoor
open Go.RowKit Go.Maps Go.WideMaps Go.Sort
set_option maxRecDepth 100000
attribute [local go_sem ↓] st32_fold


theorem turned_take {L K : List RE} {k : Nat} (h1 : k < L.length) (h2 : k < K.length) : turnedL (L.take (k + 1)) (K.take (k + 1)) = turnedL (L.take k) (K.take k) ++ (if L[k].last && !K[k].last then [L[k].id] else []) := by
  induction k generalizing L K with
  | zero =>
    cases L with
    | nil => simp at h1
    | cons a L =>
      cases K with
      | nil => simp at h2
      | cons b K => simp [turnedL]
  | succ k ih =>
    cases L with
    | nil => simp at h1
    | cons a L =>
      cases K with
      | nil => simp at h2
      | cons b K =>
        simp only [List.take_succ_cons, turnedL, List.getElem_cons_succ, List.append_assoc]
        rw [ih (by simpa using h1) (by simpa using h2)]

theorem turned_len : ∀ (L K : List RE), (turnedL L K).length ≤ L.length
  | [], K => by simp [turnedL]
  | a :: L, [] => by simp [turnedL]
  | a :: L, b :: K => by
    unfold turnedL
    have := turned_len L K
    rw [List.length_append, List.length_cons]
    split <;> simp <;> omega

section
variable {w : World} {base m : Nat} {v : Array Value} {x : RTab} {LA NA : Option Addr} {ln lc nn nc : Nat} {rs : List RM}
set_option maxHeartbeats 1000000 in
theorem rgone_any (h : RT w base m v x LA ln lc NA nn nc rs) (hB : base ≤ w.heap.size) (hm : m ≤ 10000) (s : ByteArray) (ti mo ge : Int) :
    Calls Tryz.prog 56 #[.agg v, .string s, .agg #[.int .i64 ti, .int .i64 mo, .int .i64 ge]] w fun e w' => ∃ v' LA' ln' lc' NA' nn' nc' rs' A c, e = .returned (.tuple #[.agg v', .slice A (goneR x s ti mo ge).2.length c]) ∧ RT w' base (m + 1) v' (goneR x s ti mo ge).1 LA' ln' lc' NA' nn' nc' rs' ∧ w'.ownsRow w.heap.size 2 1 (.slice A (goneR x s ti mo ge).2.length c) (goneR x s ti mo ge).2.length ((goneR x s ti mo ge).2.map (Value.int .i64)) ∧ (goneR x s ti mo ge).2.length ≤ c ∧ Below w.heap.size w w' := by
  obtain ⟨i2, hi2, hz0, hz1, hz2⟩ := info_parts info2
  have hlf := h.lfew
  have HL := Lib.hid h.len
  have HR := Lib.hid h
  have hv := h.val
  subst hv
  clear h
  have hb0 : Below w.heap.size w (((w.alloc (.cells #[.slice LA ln lc, .slice NA nn nc, .int .i64 x.next] 32)).alloc (.cells #[.int .i64 ti, .int .i64 mo, .int .i64 ge] 45)).alloc (.cells zero32 32)) := (((Below.refl _ _).alloc (Nat.le_refl _) _).alloc (by simp) _).alloc (by simp; omega) _
  have k0 : Blk (((w.alloc (.cells #[.slice LA ln lc, .slice NA nn nc, .int .i64 x.next] 32)).alloc (.cells #[.int .i64 ti, .int .i64 mo, .int .i64 ge] 45)).alloc (.cells zero32 32)) w.heap.size 32 #[.slice LA ln lc, .slice NA nn nc, .int .i64 x.next] := ((Blk.new w 32 _).alloc _).alloc _
  have k1 : Blk (((w.alloc (.cells #[.slice LA ln lc, .slice NA nn nc, .int .i64 x.next] 32)).alloc (.cells #[.int .i64 ti, .int .i64 mo, .int .i64 ge] 45)).alloc (.cells zero32 32)) (w.heap.size + 1) 45 #[.int .i64 ti, .int .i64 mo, .int .i64 ge] := (new2 w _ 45 _).alloc _
  have k2 : Blk (((w.alloc (.cells #[.slice LA ln lc, .slice NA nn nc, .int .i64 x.next] 32)).alloc (.cells #[.int .i64 ti, .int .i64 mo, .int .i64 ge] 45)).alloc (.cells zero32 32)) (w.heap.size + 1 + 1) 32 zero32 := by
    have := new2 (w.alloc (.cells #[.slice LA ln lc, .slice NA nn nc, .int .i64 x.next] 32)) (.cells #[.int .i64 ti, .int .i64 mo, .int .i64 ge] 45) 32 zero32
    simpa using this
  go_enter Tryz.func56, Tryz.ntmps56
  go_upto_region 1 with fail
  generalize ((w.alloc (.cells #[.slice LA ln lc, .slice NA nn nc, .int .i64 x.next] 32)).alloc (.cells #[.int .i64 ti, .int .i64 mo, .int .i64 ge] 45)).alloc (.cells zero32 32) = w0 at *
  obtain ⟨a0, a1, a2⟩ := ask_cells k1
  have HB0 := Lib.hid hb0
  have K0 := Lib.hid k0
  have K1 := Lib.hid k1
  have K2 := Lib.hid k2
  clear hb0 k0 k1 k2
  go_wp2_with fail
  refine (rasked_any _ _ _ _).mono ?_
  rintro en w1 ⟨rfl, hb⟩
  have hb1 := HB0.out.trans (hb.mono HB0.out.size)
  have k0 := K0.out.below hb K0.out.lt
  have k1 := K1.out.below hb K1.out.lt
  have k2 := K2.out.below hb K2.out.lt
  clear HB0 K0 K1 K2 hb a0 a1 a2
  have HB1 := Lib.hid hb1
  have K0 := Lib.hid k0
  have K1 := Lib.hid k1
  have K2 := Lib.hid k2
  have hsz1 := k2.lt
  clear hb1 k0 k1 k2
  cases hok : askOK ti mo ge
  · have HOK := Lib.hid hok
    clear hok
    have H1 : Hid ((#[.slice LA ln lc, .slice NA nn nc, .int .i64 x.next] : Array Value).all (·.oneCell') = true) := by
      show (#[.slice LA ln lc, .slice NA nn nc, .int .i64 x.next] : Array Value).all (·.oneCell') = true
      simp [Value.oneCell']
    have HS : Hid (zero32.size = (#[.slice LA ln lc, .slice NA nn nc, .int .i64 x.next] : Array Value).size) := rfl
    go_wp2_with (first
      | (refine wpList_load_row rfl 32 _ rfl w.heap.size rfl 32 #[.slice LA ln lc, .slice NA nn nc, .int .i64 x.next] (0, 0) _ K0.out Tryz.underlying32 rfl size32 ?_)
      | (refine wpList_store_row rfl 32 _ _ rfl (w.heap.size + 1 + 1) #[.slice LA ln lc, .slice NA nn nc, .int .i64 x.next] rfl rfl 32 _ K2.out size32 HS.out H1.out ?_))
    have e : goneR x s ti mo ge = (x, []) := by unfold goneR; rw [HOK.out]; rfl
    rw [e]
    have hb9 := HB1.out.trans (grown_below (setRow_gby w1 (w.heap.size + 1 + 1) #[.slice LA ln lc, .slice NA nn nc, .int .i64 x.next]) (by omega) (fun k hk => by injection hk with hk; omega))
    exact bodyPost_ret (v := .tuple #[.agg #[.slice LA ln lc, .slice NA nn nc, .int .i64 x.next], .slice none 0 0]) (results_cell_tmp Tryz.results56 _ _ (w.heap.size + 1 + 1) 32 _ (0, 0) _ rfl (setRow_blk K2.out _) Tryz.underlying32 rfl size32) rfl ⟨_, LA, ln, lc, NA, nn, nc, rs, none, 0, rfl, { HR.out.below hb9 hB with lfew := by omega, nfew := by have := HR.out.nfew; omega }, World.ownsRow_nil _ _ _ _, Nat.le_refl _, hb9⟩
  · have HOK := Lib.hid hok
    clear hok
    obtain ⟨a0, a1, a2⟩ := ask_cells K1.out
    go_upto_region 5 with (first
      | (refine wpList_load_row rfl 32 _ rfl w.heap.size rfl 32 #[.slice LA ln lc, .slice NA nn nc, .int .i64 x.next] (0, 0) _ K0.out Tryz.underlying32 rfl size32 ?_)
      | (go_at_call 53; refine (rtaken_any (HR.out.below HB1.out hB) (by omega) hm s 0 mo).mono ?_; rintro en w4 ⟨v4, LA4, lc4, NA4, nn4, nc4, rs4, rfl, hr4, hb4⟩; (have HR4 := Lib.hid hr4); (have HB4 := Lib.hid hb4); (have st := run_st32 (Blk.new w4 32 zero32) rfl hr4.shape.1 hr4.shape.2); clear hr4 hb4))
    have hb4 := HB4.out
    have hb5 : Below w4.heap.size w4 ((w4.alloc (.cells zero32 32)).setRow w4.heap.size v4) := ((Below.refl _ _).alloc (Nat.le_refl _) _).trans (grown_below (setRow_gby _ _ _) (by simp) (fun k hk => by injection hk with hk; omega))
    have k9 : Blk ((w4.alloc (.cells zero32 32)).setRow w4.heap.size v4) w4.heap.size 32 v4 := setRow_blk (Blk.new w4 32 zero32) _
    generalize (w4.alloc (.cells zero32 32)).setRow w4.heap.size v4 = w5 at *
    have hb15 : Below w1.heap.size w1 w5 := hb4.trans (hb5.mono hb4.size)
    have hb05 : Below w.heap.size w w5 := HB1.out.trans (hb15.mono HB1.out.size)
    have hsz5 := k9.lt
    have hsz4 := hb4.size
    have HR4' := Lib.hid (HR4.out.below hb5 (by omega))
    have HL4 := Lib.hid HR4.out.len
    have hv4 := HR4.out.val
    have K0' := Lib.hid (K0.out.below hb15 K0.out.lt)
    have K2' := Lib.hid (K2.out.below hb15 K2.out.lt)
    have K9 := Lib.hid k9
    have HB05 := Lib.hid hb05
    have hst : InW w5 w5 [] none 0 := ⟨by simp, by simpa using World.ownsRow_nil w5 _ 2 1, Below.refl _ _⟩
    have HST := Lib.hid hst
    subst hv4
    have hsh := HR4'.out.shape
    have HSH := Lib.hid hsh
    clear hb4 hb5 k9 hb15 hb05 HR4 HB4 K0 K1 K2 HB1 a0 a1 a2 hst st hsh
    have hg2 : (goneR x s ti mo ge).2 = turnedL x.L (takenR x s 0 mo).L := by unfold goneR; rw [HOK.out]; rfl
    have hg1 : (goneR x s ti mo ge).1 = takenR x s 0 mo := by unfold goneR; rw [HOK.out]; rfl
    have HG2 := Lib.hid hg2
    have HG1 := Lib.hid hg1
    clear hg1 hg2
    generalize takenR x s 0 mo = y at *
    go_wp2_with fail
    go_loopw [8, 10] (fun l i wr => ∃ (k : Nat) (A : Option Addr) (c : Nat), k ≤ ln ∧ i = .int .i64 k ∧ l = .slice A (turnedL (x.L.take k) (y.L.take k)).length c ∧ InW w5 wr (turnedL (x.L.take k) (y.L.take k)) A c) (fun _ i _ => ln - (intOf i).toNat)
    case atStart => exact ⟨0, none, 0, Nat.zero_le _, rfl, rfl, HST.out⟩
    case round =>
      obtain ⟨k, A, c, hk, rfl, rfl, ht⟩ := hrel
      have k0 := K0'.out.below ht.below K0'.out.lt
      have k9 := K9.out.below ht.below K9.out.lt
      have c0 : wr.cell? ⟨w.heap.size, 0, none⟩ = some (.slice LA ln lc) := (k0.cell 0).trans rfl
      have c9 : wr.cell? ⟨w4.heap.size, 0, none⟩ = some (.slice LA4 ln lc4) := (k9.cell 0).trans rfl
      have hszr := ht.below.size
      have HTK := Lib.hid ht
      have hbr : Below w.heap.size w wr := HB05.out.trans (ht.below.mono (by omega))
      have HBR := Lib.hid hbr
      clear ht HST k0 k9 hbr
      by_cases hlt : k < ln
      · obtain ⟨b, o, rfl, hbl, h1, h2, he, er, hok⟩ := (HR.out.below HBR.out hB).at_ hlt
        obtain ⟨b', o', rfl, hbl', h1', h2', he', er', hok'⟩ := (HR4'.out.below HTK.out.below (by omega)).at_ hlt
        have e0 : wr.cell? ⟨b, o + k * 18, none⟩ = some (.int .i64 x.L[k].id) := by rw [← he]; exact er 0 _ rfl
        have e16 : wr.cell? ⟨b, o + k * 18 + 16, none⟩ = some (.bool x.L[k].last) := by rw [← he]; exact er 16 _ rfl
        have f16 : wr.cell? ⟨b', o' + k * 18 + 16, none⟩ = some (.bool y.L[k].last) := by rw [← he']; exact er' 16 _ rfl
        have htt := turned_take h2 h2'
        have HTT := Lib.hid htt
        have hlen := turned_len (x.L.take k) (y.L.take k)
        rw [List.length_take] at hlen
        clear htt er er' hok hok' he he'
        generalize turnedL (x.L.take k) (y.L.take k) = ids at *
        generalize x.L[k].last = p at *
        generalize y.L[k].last = q at *
        generalize x.L[k].id = a at *
        by_cases hpq : p = true ∧ q = false
        · obtain ⟨rfl, rfl⟩ := hpq
          have HE : Hid (turnedL (x.L.take (k + 1)) (y.L.take (k + 1)) = ids ++ [a]) := HTT.out
          go_wp2_with (refine wpList_push rfl rfl 89 2 _ _ 49 rfl rfl rfl w5.heap.size i2 (.int .i64 0) 1 8 under89 hi2 hz0 hz1 hz2 rfl (by decide) (.slice A ids.length c) ids.length (ids.map (Value.int .i64)) rfl rfl HTK.out.own (.int .i64 a) rfl #[.int .i64 a] (built2 a) rfl (by simp [Value.oneCell']) (by unfold maxLen; omega) (by omega) hszr ?_; intro A2 c2 w2 hown hgrow hnc; have HI := Lib.hid (HTK.out.push hown hgrow hnc); clear hown hgrow hnc)
          go_roundw
          case rel => exact ⟨k + 1, A2, c2, by omega, by go_num, by rw [HE.out]; simp, by rw [HE.out]; exact HI.out⟩
          case measure => simp [intOf]; omega
        · have HE : Hid (turnedL (x.L.take (k + 1)) (y.L.take (k + 1)) = ids) := by
            show turnedL (x.L.take (k + 1)) (y.L.take (k + 1)) = ids
            rw [HTT.out]
            cases p <;> cases q <;> simp_all
          cases p with
          | false =>
            go_wp2_with fail
            go_roundw
            case rel => exact ⟨k + 1, A, c, by omega, by go_num, by rw [HE.out], by rw [HE.out]; exact HTK.out⟩
            case measure => simp [intOf]; omega
          | true =>
            obtain rfl : q = true := by cases q <;> simp_all
            go_wp2_with fail
            go_roundw
            case rel => exact ⟨k + 1, A, c, by omega, by go_num, by rw [HE.out], by rw [HE.out]; exact HTK.out⟩
            case measure => simp [intOf]; omega
      · obtain rfl : k = ln := by omega
        have e1 : x.L.take k = x.L := List.take_of_length_le (by have := HL.out; omega)
        have e2 : y.L.take k = y.L := List.take_of_length_le (by have := HL4.out; omega)
        rw [e1, e2] at HTK ⊢
        clear e1 e2
        generalize hids : turnedL x.L y.L = ids at *
        have HIDS := Lib.hid hids
        have K0'' := Lib.hid (K0'.out.below HTK.out.below K0'.out.lt)
        have K2'' := Lib.hid (K2'.out.below HTK.out.below K2'.out.lt)
        have K9'' := Lib.hid (K9.out.below HTK.out.below K9.out.lt)
        have H1 : Hid ((#[.slice LA4 k lc4, .slice NA4 nn4 nc4, .int .i64 y.next] : Array Value).all (·.oneCell') = true) := HSH.out.2
        have HS : Hid (zero32.size = (#[.slice LA4 k lc4, .slice NA4 nn4 nc4, .int .i64 y.next] : Array Value).size) := rfl
        clear hids c0 c9
        have c0 : wr.cell? ⟨w.heap.size, 0, none⟩ = some (.slice LA k lc) := (K0''.out.cell 0).trans rfl
        go_wp2_with (first
          | (refine wpList_load_row rfl 32 _ rfl w4.heap.size rfl 32 #[.slice LA4 k lc4, .slice NA4 nn4 nc4, .int .i64 y.next] (0, 0) _ K9''.out Tryz.underlying32 rfl size32 ?_)
          | (refine wpList_store_row rfl 32 _ _ rfl (w.heap.size + 1 + 1) #[.slice LA4 k lc4, .slice NA4 nn4 nc4, .int .i64 y.next] rfl rfl 32 _ K2''.out size32 HS.out H1.out ?_))
        have hg9 : wr.grownBy (wr.setRow (w.heap.size + 1 + 1) #[.slice LA4 k lc4, .slice NA4 nn4 nc4, .int .i64 y.next]) (some (w.heap.size + 1 + 1)) := setRow_gby _ _ _
        have hb9 := HBR.out.trans (grown_below hg9 (by omega) (fun k hk => by injection hk with hk; omega))
        have own9 := own_kept HTK.out.own hg9 (fun g hg e => by injection e with e; have := (HTK.out.own.lt g hg).1; omega)
        have hr9 := (HR4'.out.below HTK.out.below (by omega)).put32 K2''.out #[.slice LA4 k lc4, .slice NA4 nn4 nc4, .int .i64 y.next]
        have hcap := HTK.out.cap
        rw [HG1.out, HG2.out]
        exact bodyPost_ret (v := .tuple #[.agg #[.slice LA4 k lc4, .slice NA4 nn4 nc4, .int .i64 y.next], .slice A ids.length c]) (results_cell_tmp Tryz.results56 _ _ (w.heap.size + 1 + 1) 32 _ (0, 0) _ rfl (setRow_blk K2''.out _) Tryz.underlying32 rfl size32) rfl ⟨_, LA4, k, lc4, NA4, nn4, nc4, rs4, A, c, rfl, hr9, own_base own9 (by omega), hcap, hb9⟩
end
end Go.Proofs.YtoaiamgcegnjjaaGreatDoor
