/- The reference's Drop. No condition. -/
import Derived.Test.YtoaiamgcegnjjaaGreatDoorML
namespace Go.Proofs.YtoaiamgcegnjjaaGreatDoor
open Go.RowKit Go.Maps Go.WideMaps Go.Sort
set_option maxRecDepth 100000

theorem PR.drop {w : World} {base sz n k : Nat} {A : Option Addr} {b o : Nat} {xs : List Value} (h : PR w base sz A n xs) (hA : A = some ⟨b, o, none⟩) (hk : k ≤ n) : PR w base sz (some ⟨b, o + k * sz, none⟩) (n - k) (xs.drop (k * sz)) := by
  refine ⟨?_, fun hn => ?_⟩
  · rw [List.length_drop, h.1, Nat.sub_mul]
  · obtain ⟨b', o', e, hp, hb, hc⟩ := h.2 (by omega)
    rw [hA] at e
    injection e with e
    injection e with e1 e2
    subst e1 e2
    refine ⟨_, _, rfl, hp, hb, fun j hj => ?_⟩
    rw [List.length_drop] at hj
    rw [Nat.add_assoc, hc (k * sz + j) (by omega)]
    simp
theorem flat_take {α : Type} (f : α → List Value) (k : Nat) (hf : ∀ a, (f a).length = k) : ∀ (l : List α) (i : Nat), (l.flatMap f).take (i * k) = (l.take i).flatMap f
  | [], i => by simp
  | a :: l, 0 => by simp
  | a :: l, i + 1 => by
    rw [List.flatMap_cons, List.take_succ_cons, List.flatMap_cons, ← flat_take f k hf l i, List.take_append, hf, List.take_of_length_le (by rw [hf, Nat.succ_mul]; omega), show (i + 1) * k - k = i * k by rw [Nat.succ_mul]; omega]
theorem flat_drop {α : Type} (f : α → List Value) (k : Nat) (hf : ∀ a, (f a).length = k) : ∀ (l : List α) (i : Nat), (l.flatMap f).drop (i * k) = (l.drop i).flatMap f
  | [], i => by simp
  | a :: l, 0 => by simp
  | a :: l, i + 1 => by
    rw [List.flatMap_cons, List.drop_succ_cons, ← flat_drop f k hf l i, List.drop_append, hf, List.drop_of_length_le (by rw [hf, Nat.succ_mul]; omega), show (i + 1) * k - k = i * k by rw [Nat.succ_mul]; omega]
    rfl

section
variable {w : World} {base m : Nat} {v : Array Value} {x : RTab} {LA NA : Option Addr} {ln lc nn nc : Nat} {rs : List RM}
set_option maxHeartbeats 1000000 in
theorem rdrop_any (h : RT w base m v x LA ln lc NA nn nc rs) (hB : base ≤ w.heap.size) (hm : m ≤ 10000) (id : Int) :
    Calls Tryz.prog 60 #[.agg v, .int .i64 id] w fun e w' => ∃ v' LA' ln' lc' NA' nn' nc' rs', e = .returned (.tuple #[.agg v', .bool (dropR x id).2]) ∧ RT w' base m v' (dropR x id).1 LA' ln' lc' NA' nn' nc' rs' ∧ Below w.heap.size w w' := by
  obtain ⟨i0, hi0, hz0, hz1, hz2⟩ := info_parts info54
  have hlf := h.lfew
  have HL := Lib.hid h.len
  have HR := Lib.hid h
  have hv' := h.val
  have hlc := h.lcap
  subst hv'
  clear h
  have hb0 : Below w.heap.size w ((w.alloc (.cells #[.slice LA ln lc, .slice NA nn nc, .int .i64 x.next] 32)).alloc (.cells zero32 32)) := ((Below.refl _ _).alloc (Nat.le_refl _) _).alloc (by simp) _
  have k0 : Blk ((w.alloc (.cells #[.slice LA ln lc, .slice NA nn nc, .int .i64 x.next] 32)).alloc (.cells zero32 32)) w.heap.size 32 #[.slice LA ln lc, .slice NA nn nc, .int .i64 x.next] := (Blk.new w 32 _).alloc _
  have k2 : Blk ((w.alloc (.cells #[.slice LA ln lc, .slice NA nn nc, .int .i64 x.next] 32)).alloc (.cells zero32 32)) (w.heap.size + 1) 32 zero32 := new2 w _ 32 _
  go_enter Tryz.func60, Tryz.ntmps60
  go_upto_region 1 with fail
  generalize (w.alloc (.cells #[.slice LA ln lc, .slice NA nn nc, .int .i64 x.next] 32)).alloc (.cells zero32 32) = w1 at *
  have HB1 := Lib.hid hb0
  have K0 := Lib.hid k0
  have K2 := Lib.hid k2
  have hsz1 := k2.lt
  clear hb0 k0 k2
  have H1 : Hid ((#[.slice LA ln lc, .slice NA nn nc, .int .i64 x.next] : Array Value).all (·.oneCell') = true) := by
    show (#[.slice LA ln lc, .slice NA nn nc, .int .i64 x.next] : Array Value).all (·.oneCell') = true
    simp [Value.oneCell']
  have HS : Hid (zero32.size = (#[.slice LA ln lc, .slice NA nn nc, .int .i64 x.next] : Array Value).size) := rfl
  go_wp2_with (refine wpList_load_row rfl 32 _ rfl w.heap.size rfl 32 #[.slice LA ln lc, .slice NA nn nc, .int .i64 x.next] (0, 0) _ K0.out Tryz.underlying32 rfl size32 ?_)
  refine (rfind_any (HR.out.below HB1.out hB) (by omega) id).mono ?_
  rintro en w2 ⟨rfl, hb⟩
  have hb2 := HB1.out.trans (hb.mono HB1.out.size)
  have k0 := K0.out.below hb K0.out.lt
  have k2 := K2.out.below hb K2.out.lt
  clear HB1 K0 K2 hb
  have HB2 := Lib.hid hb2
  have K0 := Lib.hid k0
  have K2 := Lib.hid k2
  have hsz2 := k2.lt
  clear hb2 k0 k2
  cases hf : findR x.L id with
  | none =>
    have HF := Lib.hid hf
    unfold findI
    clear hf
    go_wp2_with (first
      | (refine wpList_load_row rfl 32 _ rfl w.heap.size rfl 32 #[.slice LA ln lc, .slice NA nn nc, .int .i64 x.next] (0, 0) _ K0.out Tryz.underlying32 rfl size32 ?_)
      | (refine wpList_store_row rfl 32 _ _ rfl (w.heap.size + 1) #[.slice LA ln lc, .slice NA nn nc, .int .i64 x.next] rfl rfl 32 _ K2.out size32 HS.out H1.out ?_))
    have e : dropR x id = (x, false) := by unfold dropR; rw [HF.out]
    rw [e]
    have hb9 := HB2.out.trans (grown_below (setRow_gby w2 (w.heap.size + 1) #[.slice LA ln lc, .slice NA nn nc, .int .i64 x.next]) (by omega) (fun k hk => by injection hk with hk; omega))
    exact bodyPost_ret (v := .tuple #[.agg #[.slice LA ln lc, .slice NA nn nc, .int .i64 x.next], .bool false]) (results_cell_tmp Tryz.results60 _ _ (w.heap.size + 1) 32 _ (0, 0) _ rfl (setRow_blk K2.out _) Tryz.underlying32 rfl size32) rfl ⟨_, LA, ln, lc, NA, nn, nc, rs, rfl, HR.out.below hb9 hB, hb9⟩
  | some i =>
    have HF := Lib.hid hf
    have hil : i < ln := by
      unfold findR at hf
      obtain ⟨h1, _⟩ := List.findIdx?_eq_some_iff_getElem.1 hf
      have := HL.out
      omega
    obtain ⟨b, o, rfl, hbl, h1, h2, he, hr, hok⟩ := (HR.out.below HB2.out hB).at_ hil
    have c0 : w2.cell? ⟨w.heap.size, 0, none⟩ = some (.slice (some ⟨b, o, none⟩) ln lc) := (K0.out.cell 0).trans rfl
    unfold findI
    clear hf hr hok he
    have i1 : (0 : Int) ≤ (i : Int) := by omega
    have i2 : (i : Int) ≤ (lc : Int) := by omega
    have hrows := (HR.out.below HB2.out hB).rows
    have hp1 : PR w2 base 18 (some ⟨b, o, none⟩) i ((rs.take i).flatMap RM.cells) := by
      have := hrows.take (k := i) (by omega)
      rwa [flat_take RM.cells 18 RM.cells_len] at this
    have HP1 := Lib.hid hp1.rd
    have O0 := Lib.hid (World.ownsRow_nil w2 w2.heap.size 54 18)
    have HROWS := Lib.hid hrows
    clear hrows hp1
    have hbl' := HB2.out.size
    go_upto_region 6 with (at_builtin; refine wpList_append_rd _ rfl _ _ 29 rfl w2.heap.size 54 i0 (.agg zero54) 18 200 Tryz.underlying29 hi0 hz0 hz1 hz2 rfl (by decide) (.slice none 0 0) 0 [] rfl O0.out (some ⟨b, o, none⟩) i lc _ _ rfl HP1.out (oneCell_rows (rs.take i)) (by unfold maxLen; omega) (by omega) (Nat.le_refl _) ?_; intro A1 c1 w3 hown hgrow hnc hat)
    simp only [Nat.zero_add, List.nil_append] at hown hnc hat
    have hlow1 : ∀ k, (Value.slice A1 i c1).ownBlock = some k → w2.heap.size ≤ k := fun k hk => (hown.lt k hk).1
    have hbw : Below w2.heap.size w2 w3 := grown_below hgrow (Nat.le_refl _) (fun k hk => by simp [Value.ownBlock] at hk)
    have k0 := K0.out.below hbw K0.out.lt
    have k2 := K2.out.below hbw K2.out.lt
    have hp2 : PR w3 base 18 (some ⟨b, o + (i + 1) * 18, none⟩) (ln - (i + 1)) ((rs.drop (i + 1)).flatMap RM.cells) := by
      have := (HROWS.out.below hbw (by omega)).drop (k := i + 1) rfl (by omega)
      rwa [flat_drop RM.cells 18 RM.cells_len] at this
    have HP2 := Lib.hid hp2.rd
    have OWN1 := Lib.hid hown
    have HBW := Lib.hid hbw
    have HNC := Lib.hid hnc
    have HLOW := Lib.hid hlow1
    have HK0 := Lib.hid k0
    have HK2 := Lib.hid k2
    have d0 : w3.cell? ⟨w.heap.size, 0, none⟩ = some (.slice (some ⟨b, o, none⟩) ln lc) := (k0.cell 0).trans rfl
    have f0 := k0.free'
    clear hown hbw hnc hlow1 hp2 k0 k2 hgrow hat c0
    have i3 : (i : Int) + 1 ≤ (ln : Int) := by omega
    have i4 : (ln : Int) ≤ (lc : Int) := by omega
    go_cut [] (fun wy => ∃ A2 c2, i + (ln - (i + 1)) ≤ c2 ∧ Blk wy w.heap.size 32 #[.slice A2 (i + (ln - (i + 1))) c2, .slice NA nn nc, .int .i64 x.next] ∧ Blk wy (w.heap.size + 1) 32 zero32 ∧ wy.ownsRow w2.heap.size 54 18 (.slice A2 (i + (ln - (i + 1))) c2) (i + (ln - (i + 1))) ((rs.eraseIdx i).flatMap RM.cells) ∧ Below w.heap.size w wy)
    case first =>
      have hfin : Hid (∀ (w4 : World) (A2 : Option Addr) (c2 : Nat), w4.ownsRow w2.heap.size 54 18 (.slice A2 (i + (ln - (i + 1))) c2) (i + (ln - (i + 1))) ((rs.take i).flatMap RM.cells ++ (rs.drop (i + 1)).flatMap RM.cells) → w3.grownBy w4 (Value.slice A1 i c1).ownBlock → i + (ln - (i + 1)) ≤ c2 →
          ∃ A2' c2', i + (ln - (i + 1)) ≤ c2' ∧ Blk (w4.setCell ⟨w.heap.size, 0, none⟩ (.slice A2 (i + (ln - (i + 1))) c2)) w.heap.size 32 #[.slice A2' (i + (ln - (i + 1))) c2', .slice NA nn nc, .int .i64 x.next] ∧ Blk (w4.setCell ⟨w.heap.size, 0, none⟩ (.slice A2 (i + (ln - (i + 1))) c2)) (w.heap.size + 1) 32 zero32 ∧ (w4.setCell ⟨w.heap.size, 0, none⟩ (.slice A2 (i + (ln - (i + 1))) c2)).ownsRow w2.heap.size 54 18 (.slice A2' (i + (ln - (i + 1))) c2') (i + (ln - (i + 1))) ((rs.eraseIdx i).flatMap RM.cells) ∧ Below w.heap.size w (w4.setCell ⟨w.heap.size, 0, none⟩ (.slice A2 (i + (ln - (i + 1))) c2))) := by
        show ∀ (w4 : World) (A2 : Option Addr) (c2 : Nat), _ → _ → _ → _
        intro w4 A2 c2 ho hg hc
        have g0 := HK0.out.grown hg (fun e => by have := HLOW.out _ e; omega)
        have g2 := HK2.out.grown hg (fun e => by have := HLOW.out _ e; omega)
        have hb4 : Below w.heap.size w w4 := (HB2.out.trans (HBW.out.mono hbl')).trans (grown_below hg (by have := HBW.out.size; omega) (fun k hk => by have := HLOW.out k hk; omega))
        refine ⟨A2, c2, hc, g0.set 0 _, g2.far (by omega) _, ?_, below_set hb4 (Nat.le_refl _) _⟩
        have := own_set ho (b := w.heap.size) (o := 0) (by omega) (.slice A2 (i + (ln - (i + 1))) c2)
        rw [List.eraseIdx_eq_take_drop_succ, List.flatMap_append]
        exact this
      have hcell : Hid (∀ (w4 : World), w3.grownBy w4 (Value.slice A1 i c1).ownBlock → w4.cell? ⟨w.heap.size, 0, none⟩ = some (.slice (some ⟨b, o, none⟩) ln lc) ∧ ∀ o' k', w4.frozen? ⟨w.heap.size, o', k'⟩ = false ∨ k' ≠ none) := by
        show ∀ (w4 : World), w3.grownBy w4 (Value.slice A1 i c1).ownBlock → _
        intro w4 hg
        have g0 := HK0.out.grown hg (fun e => by have := HLOW.out _ e; omega)
        exact ⟨(g0.cell 0).trans rfl, fun o' k' => by cases k' with | none => exact .inl (g0.free _) | some k' => exact .inr (by simp)⟩
      by_cases hfull : lc = i + 1
      · subst hfull
        have e0 : i + (ln - (i + 1)) = i := by omega
        have HP3 : Hid (Rd w3 w3.heap.size 18 (some ⟨b, o, none⟩) 0 ((rs.drop (i + 1)).flatMap RM.cells)) := by
          have h1 : rs.drop (i + 1) = [] := List.drop_eq_nil_of_le (by have := HL.out; omega)
          show Rd w3 w3.heap.size 18 (some ⟨b, o, none⟩) 0 ((rs.drop (i + 1)).flatMap RM.cells)
          rw [h1]
          exact ⟨rfl, fun h => absurd h (by omega)⟩
        rw [e0] at hfin
        have E0 := Lib.hid e0
        clear e0
        go_wp2_with (at_builtin; refine wpList_append_rd _ rfl _ _ 29 rfl w2.heap.size 54 i0 (.agg zero54) 18 200 Tryz.underlying29 hi0 hz0 hz1 hz2 rfl (by decide) (.slice A1 i c1) i ((rs.take i).flatMap RM.cells) rfl OWN1.out (some ⟨b, o, none⟩) 0 0 _ _ rfl HP3.out (oneCell_rows (rs.drop (i + 1))) (by unfold maxLen; omega) (by omega) HBW.out.size ?_; intro A2 c2 w4 hown hgrow hnc hat; simp only [Nat.add_zero] at hown hnc; have HF := Lib.hid (hfin.out w4 A2 c2 hown hgrow hnc); obtain ⟨e0, _⟩ := hcell.out w4 hgrow; have ef := (HK0.out.grown hgrow (fun e => by have := HLOW.out _ e; omega)).free'; clear hown hgrow hnc hat)
        go_meet
        rw [E0.out]
        exact HF.out
      · go_wp2_with (at_builtin; refine wpList_append_rd _ rfl _ _ 29 rfl w2.heap.size 54 i0 (.agg zero54) 18 200 Tryz.underlying29 hi0 hz0 hz1 hz2 rfl (by decide) (.slice A1 i c1) i ((rs.take i).flatMap RM.cells) rfl OWN1.out (some ⟨b, o + (i + 1) * 18, none⟩) (ln - (i + 1)) (lc - (i + 1)) _ _ rfl HP2.out (oneCell_rows (rs.drop (i + 1))) (by unfold maxLen; omega) (by omega) HBW.out.size ?_; intro A2 c2 w4 hown hgrow hnc hat; have HF := Lib.hid (hfin.out w4 A2 c2 hown hgrow hnc); obtain ⟨e0, _⟩ := hcell.out w4 hgrow; have ef := (HK0.out.grown hgrow (fun e => by have := HLOW.out _ e; omega)).free'; clear hown hgrow hnc hat)
        go_meet
        exact HF.out
    case rest =>
      obtain ⟨A2, c2, hc2, k0, k2, ho, hb9⟩ := hcut
      have K0 := Lib.hid k0
      have K2 := Lib.hid k2
      have HO := Lib.hid ho
      have HB9 := Lib.hid hb9
      have hsz := k2.lt
      clear k0 k2 ho hb9 HK0 HK2 d0 f0 HS H1
      have hL : i + (ln - (i + 1)) = ln - 1 := by omega
      generalize i + (ln - (i + 1)) = L at *
      have HLL := Lib.hid hL
      clear hL
      have HS : Hid (zero32.size = (#[.slice A2 L c2, .slice NA nn nc, .int .i64 x.next] : Array Value).size) := rfl
      have H1 : Hid ((#[.slice A2 L c2, .slice NA nn nc, .int .i64 x.next] : Array Value).all (·.oneCell') = true) := by
        show (#[.slice A2 L c2, .slice NA nn nc, .int .i64 x.next] : Array Value).all (·.oneCell') = true
        simp [Value.oneCell']
      go_wp2_with (first
        | (refine wpList_load_row rfl 32 _ rfl w.heap.size rfl 32 #[.slice A2 L c2, .slice NA nn nc, .int .i64 x.next] (0, 0) _ K0.out Tryz.underlying32 rfl size32 ?_)
        | (refine wpList_store_row rfl 32 _ _ rfl (w.heap.size + 1) #[.slice A2 L c2, .slice NA nn nc, .int .i64 x.next] rfl rfl 32 _ K2.out size32 HS.out H1.out ?_))
      have hg9 : wc.grownBy (wc.setRow (w.heap.size + 1) #[.slice A2 L c2, .slice NA nn nc, .int .i64 x.next]) (some (w.heap.size + 1)) := setRow_gby _ _ _
      have hb9 := HB9.out.trans (grown_below hg9 (by omega) (fun k hk => by injection hk with hk; omega))
      have own9 := own_kept HO.out hg9 (fun g hg e => by injection e with e; have := (HO.out.lt g hg).1; omega)
      have e : dropR x id = ({ x with L := x.L.eraseIdx i }, true) := by unfold dropR; rw [HF.out]
      rw [e]
      refine bodyPost_ret (v := .tuple #[.agg #[.slice A2 L c2, .slice NA nn nc, .int .i64 x.next], .bool true]) (results_cell_tmp Tryz.results60 _ _ (w.heap.size + 1) 32 _ (0, 0) _ rfl (setRow_blk K2.out _) Tryz.underlying32 rfl size32) rfl ⟨_, A2, L, c2, NA, nn, nc, rs.eraseIdx i, rfl, ?_, hb9⟩
      exact { val := rfl, ents := by rw [← HR.out.ents, List.eraseIdx_eq_take_drop_succ, List.eraseIdx_eq_take_drop_succ, List.map_append, List.map_take, List.map_drop], rows := PR.of_own own9 (by decide) (by decide) (by decide) (by decide), ok := fun r hr => (HR.out.ok r (List.mem_of_mem_eraseIdx hr)).keeps (Keeps.of_below hb9 hB), news := HR.out.news.below hb9 hB, lcap := hc2, ncap := HR.out.ncap, lfew := by have := HLL.out; omega, nfew := HR.out.nfew }
end
end Go.Proofs.YtoaiamgcegnjjaaGreatDoor
