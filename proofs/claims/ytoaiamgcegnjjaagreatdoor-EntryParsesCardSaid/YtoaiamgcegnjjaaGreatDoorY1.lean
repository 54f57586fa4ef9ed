/- The reference's Confirm. No condition. -/
import Derived.Test.YtoaiamgcegnjjaaGreatDoorW3
import Derived.Deep.RegionHeld3
import Derived.Deep.RegionLaw
namespace Go.Proofs.YtoaiamgcegnjjaaGreatDoor
open Go.RowKit Go.Maps Go.WideMaps Go.Sort
set_option maxRecDepth 100000

def confirmR (x : RTab) (id ti mo ge : Int) : RTab × Int :=
  if askOK ti mo ge then (match findR x.L id with
    | some i => (match x.L[i]? with
      | some e => (takenR { x with L := x.L.set i (anewR e ti mo ge) } e.obj id mo, 0)
      | none => (x, 6))
    | none => (x, 6)) else (x, 1)

def ld54 (p : Value) : Sem Value := Instr.loadAt 54 p
theorem ld54_fold (p : Value) : Instr.loadAt 54 p = ld54 p := rfl
def st54 (p v : Value) : Sem Unit := Instr.storeAt 54 p v
theorem st54_fold (p v : Value) : Instr.storeAt 54 p v = st54 p v := rfl
theorem run_ld54 {w : World} {b o : Nat} {r : RM} (h : w.rangeAt b o r.cells) : (ld54 (.pointer (some ⟨b, o, none⟩))).run Tryz.prog w = .ok (.agg r.row) w := run_loadAt_mid w b o 54 r.cells _ h Tryz.underlying54 rfl size54
theorem run_st54 {w : World} {g : Nat} {cs : Array Value} {r : RM} (hk : Blk w g 54 cs) (hs : cs.size = 18) : (st54 (.pointer (some ⟨g, 0, none⟩)) (.agg r.row)).run Tryz.prog w = .ok () (w.setRow g r.row) := by
  have := run_storeVar_row (P := Tryz.prog) w g 54 54 cs r.row hk size54 hs r.one
  simp only [st54, Instr.storeAt, Instr.sureAddr, Sem.run_bind, Sem.run_pure, Result.andThen_ok, this]
def st32 (p v : Value) : Sem Unit := Instr.storeAt 32 p v
theorem st32_fold (p v : Value) : Instr.storeAt 32 p v = st32 p v := rfl
theorem run_ld54b {w : World} {g : Nat} {r : RM} (hk : Blk w g 54 r.row) : (ld54 (.pointer (some ⟨g, 0, none⟩))).run Tryz.prog w = .ok (.agg r.row) w := by
  have := run_loadVar_row (P := Tryz.prog) w g 54 54 r.row (0, 0) _ hk Tryz.underlying54 rfl size54
  simp only [ld54, Instr.loadAt, Instr.sureAddr, Sem.run_bind, Sem.run_pure, Result.andThen_ok, this]
theorem run_st32 {w : World} {g : Nat} {cs v : Array Value} (hk : Blk w g 32 cs) (hs : cs.size = 3) (hv : v.size = 3) (h1 : v.all (·.oneCell') = true) : (st32 (.pointer (some ⟨g, 0, none⟩)) (.agg v)).run Tryz.prog w = .ok () (w.setRow g v) := by
  have := run_storeVar_row (P := Tryz.prog) w g 32 32 cs v hk (by rw [hv]; exact size32) (by omega) h1
  simp only [st32, Instr.storeAt, Instr.sureAddr, Sem.run_bind, Sem.run_pure, Result.andThen_ok, this]
theorem RT.shape {w : World} {base m : Nat} {v : Array Value} {x : RTab} {LA NA : Option Addr} {ln lc nn nc : Nat} {rs : List RM} (h : RT w base m v x LA ln lc NA nn nc rs) : v.size = 3 ∧ v.all (·.oneCell') = true := by
  rw [h.val]
  exact ⟨rfl, by simp [Value.oneCell']⟩
theorem anewR_M (e : RE) (ti mo ge : Int) : (anewR e ti mo ge).M = e.M := by unfold anewR; split <;> rfl
theorem anewR_has (e : RE) (ti mo ge : Int) : (anewR e ti mo ge).has = e.has := by unfold anewR; split <;> rfl
theorem anewR_obj (e : RE) (ti mo ge : Int) : (anewR e ti mo ge).obj = e.obj := by unfold anewR; split <;> rfl
/-- a result box of the table's type that is still zero holds none of the table's rows -/
theorem PR.put32 {w : World} {base sz n g : Nat} {A : Option Addr} {xs : List Value} (h : PR w base sz A n xs) (hk : Blk w g 32 zero32) (hx : 0 < n → ∀ o, ∃ j, ∃ hj : j < xs.length, zero32[o + j]? ≠ some xs[j]) (v' : Array Value) : PR (w.setRow g v') base sz A n xs := by
  refine ⟨h.1, fun hn => ?_⟩
  obtain ⟨b, o, e, hp, hb, hc⟩ := h.2 hn
  have hne : g ≠ b := by
    intro he
    subst he
    obtain ⟨j, hj, hz⟩ := hx hn o
    exact hz ((hk.cell (o + j)).symm.trans (hc j hj))
  have := PR.grown (g := g) (b := b) (o := o) (e ▸ h) (setRow_gby w g v') (fun e => hne (by injection e))
  obtain ⟨b', o', e', r⟩ := this.2 hn
  exact ⟨b', o', e.trans e', r⟩
theorem z32 (o : Nat) (a : Value) (h : zero32[o]? = some a) : o < 3 ∧ (o < 2 → a = .slice none 0 0) ∧ (o = 2 → a = .int .i64 0) := by
  have hl := (Array.getElem?_eq_some_iff.1 h).1
  have h3 : zero32.size = 3 := rfl
  match o, h with
  | 0, h => exact ⟨by omega, fun _ => by injection h with h; exact h.symm, by omega⟩
  | 1, h => exact ⟨by omega, fun _ => by injection h with h; exact h.symm, by omega⟩
  | 2, h => exact ⟨by omega, by omega, fun _ => by injection h with h; exact h.symm⟩
  | n+3, h => omega
theorem PR.put32s {w : World} {base sz n g : Nat} {A : Option Addr} {xs : List Value} (h : PR w base sz A n xs) (hk : Blk w g 32 zero32) (hx : 0 < n → ∃ s tl, xs = .string s :: tl) (v' : Array Value) : PR (w.setRow g v') base sz A n xs :=
  h.put32 hk (fun hn o => by
    obtain ⟨s, tl, rfl⟩ := hx hn
    refine ⟨0, by simp, fun e => ?_⟩
    obtain ⟨h1, h2, h3⟩ := z32 _ _ e
    rcases Nat.lt_or_ge (o + 0) 2 with q | q
    · have := h2 q
      simp at this
    · have := h3 (by omega)
      simp at this) v'
theorem PR.put32i {w : World} {base sz n g : Nat} {A : Option Addr} {xs : List Value} (h : PR w base sz A n xs) (hk : Blk w g 32 zero32) (hx : 0 < n → ∃ a b tl, xs = .int .i64 a :: b :: tl) (v' : Array Value) : PR (w.setRow g v') base sz A n xs :=
  h.put32 hk (fun hn o => by
    obtain ⟨a, b, tl, rfl⟩ := hx hn
    rcases Nat.lt_or_ge o 2 with q | q
    · refine ⟨0, by simp, fun e => ?_⟩
      have := (z32 _ _ e).2.1 (by omega)
      simp at this
    · refine ⟨1, by simp, fun e => ?_⟩
      have := (z32 _ _ e).1
      omega) v'
theorem PR.put32l {w : World} {base sz n g : Nat} {A : Option Addr} {xs : List Value} (h : PR w base sz A n xs) (hk : Blk w g 32 zero32) (hs : 4 ≤ sz) (v' : Array Value) : PR (w.setRow g v') base sz A n xs :=
  h.put32 hk (fun hn o => by
    have hl : 4 ≤ xs.length := by rw [h.1]; exact Nat.le_trans hs (Nat.le_mul_of_pos_left _ hn)
    refine ⟨3, by omega, fun e => ?_⟩
    have := (z32 _ _ e).1
    omega) v'
theorem RM.Ok.put32 {w : World} {base g : Nat} {r : RM} (h : r.Ok w base) (hk : Blk w g 32 zero32) (v' : Array Value) : r.Ok (w.setRow g v') base :=
  { h with
    keys := h.keys.put32s hk (fun hn => by
      have := h.keys.1
      match hm : r.e.M.ks with
      | [] => rw [hm] at this; simp at this; omega
      | a :: l => exact ⟨a, l.map Value.string, rfl⟩) v'
    has := h.has.put32i hk (fun hn => by
      have := h.has.1
      match hm : r.e.has with
      | [] => rw [hm] at this; simp [spanCells] at this; omega
      | a :: l => exact ⟨a.1, .int .i64 a.2, spanCells l, rfl⟩) v' }
theorem RT.put32 {w : World} {base m g : Nat} {v : Array Value} {x : RTab} {LA NA : Option Addr} {ln lc nn nc : Nat} {rs : List RM} (h : RT w base m v x LA ln lc NA nn nc rs) (hk : Blk w g 32 zero32) (v' : Array Value) : RT (w.setRow g v') base m v x LA ln lc NA nn nc rs :=
  { h with
    rows := h.rows.put32l hk (by decide) v'
    ok := fun r hr => (h.ok r hr).put32 hk v'
    news := h.news.put32s hk (fun hn => by
      have := h.news.1
      match hm : x.N with
      | [] => rw [hm] at this; simp at this; omega
      | a :: l => exact ⟨a.1, .int .i64 a.2 :: l.flatMap nwCells, rfl⟩) v' }
attribute [local go_sem ↓] ld54_fold st54_fold st32_fold

section
variable {w : World} {base m : Nat} {v : Array Value} {x : RTab} {LA NA : Option Addr} {ln lc nn nc : Nat} {rs : List RM}
set_option maxHeartbeats 1000000 in
theorem rconfirm_any (h : RT w base m v x LA ln lc NA nn nc rs) (hB : base ≤ w.heap.size) (hm : m ≤ 10000) (id ti mo ge : Int) :
    Calls Tryz.prog 55 #[.agg v, .int .i64 id, .agg #[.int .i64 ti, .int .i64 mo, .int .i64 ge]] w fun e w' => ∃ v' LA' ln' lc' NA' nn' nc' rs', e = .returned (.tuple #[.agg v', .int .i64 (confirmR x id ti mo ge).2]) ∧ RT w' base (m + 1) v' (confirmR x id ti mo ge).1 LA' ln' lc' NA' nn' nc' rs' ∧ Below w.heap.size w w' := by
  have hlf := h.lfew
  have HL := Lib.hid h.len
  have HR := Lib.hid h
  have hv := h.val
  subst hv
  clear h
  have hb0 : Below w.heap.size w (((w.alloc (.cells #[.slice LA ln lc, .slice NA nn nc, .int .i64 x.next] 32)).alloc (.cells #[.int .i64 ti, .int .i64 mo, .int .i64 ge] 45)).alloc (.cells zero32 32)) := (((Below.refl _ _).alloc (Nat.le_refl _) _).alloc (by simp) _).alloc (by simp; omega) _
  have k0 : Blk (((w.alloc (.cells #[.slice LA ln lc, .slice NA nn nc, .int .i64 x.next] 32)).alloc (.cells #[.int .i64 ti, .int .i64 mo, .int .i64 ge] 45)).alloc (.cells zero32 32)) w.heap.size 32 #[.slice LA ln lc, .slice NA nn nc, .int .i64 x.next] := ((Blk.new w 32 _).alloc _).alloc _
  have k1 : Blk (((w.alloc (.cells #[.slice LA ln lc, .slice NA nn nc, .int .i64 x.next] 32)).alloc (.cells #[.int .i64 ti, .int .i64 mo, .int .i64 ge] 45)).alloc (.cells zero32 32)) (w.heap.size + 1) 45 #[.int .i64 ti, .int .i64 mo, .int .i64 ge] := (new2 w _ 45 _).alloc _
  have k2 : Blk (((w.alloc (.cells #[.slice LA ln lc, .slice NA nn nc, .int .i64 x.next] 32)).alloc (.cells #[.int .i64 ti, .int .i64 mo, .int .i64 ge] 45)).alloc (.cells zero32 32)) (w.heap.size + 1 + 1) 32 zero32 := by
    have := new2 (w.alloc (.cells #[.slice LA ln lc, .slice NA nn nc, .int .i64 x.next] 32)) (.cells #[.int .i64 ti, .int .i64 mo, .int .i64 ge] 45) 32 zero32
    simpa using this
  go_enter Tryz.func55, Tryz.ntmps55
  go_upto_region 1 with fail
  generalize ((w.alloc (.cells #[.slice LA ln lc, .slice NA nn nc, .int .i64 x.next] 32)).alloc (.cells #[.int .i64 ti, .int .i64 mo, .int .i64 ge] 45)).alloc (.cells zero32 32) = w0 at *
  obtain ⟨a0, a1, a2⟩ := ask_cells k1
  have HB0 := Lib.hid hb0
  have K0 := Lib.hid k0
  have K1 := Lib.hid k1
  have K2 := Lib.hid k2
  clear hb0 k0 k1 k2
  go_wp2_with fail
  refine (rasked_any _ _ _ _).mono ?_
  rintro en w1 ⟨rfl, hb⟩
  have hb1 := HB0.out.trans (hb.mono HB0.out.size)
  have k0 := K0.out.below hb K0.out.lt
  have k1 := K1.out.below hb K1.out.lt
  have k2 := K2.out.below hb K2.out.lt
  clear HB0 K0 K1 K2 hb a0 a1 a2
  have HB1 := Lib.hid hb1
  have K0 := Lib.hid k0
  have K1 := Lib.hid k1
  have K2 := Lib.hid k2
  have hsz1 := k2.lt
  clear hb1 k0 k1 k2
  have H1 : Hid ((#[.slice LA ln lc, .slice NA nn nc, .int .i64 x.next] : Array Value).all (·.oneCell') = true) := by
    show (#[.slice LA ln lc, .slice NA nn nc, .int .i64 x.next] : Array Value).all (·.oneCell') = true
    simp [Value.oneCell']
  have HS : Hid (zero32.size = (#[.slice LA ln lc, .slice NA nn nc, .int .i64 x.next] : Array Value).size) := rfl
  -- the table handed back as it is
  have back : ∀ (wx : World) (k : Int) (R : RTab × Int), Below w.heap.size w wx → Blk wx (w.heap.size + 1 + 1) 32 zero32 → R = (x, k) →
      ∃ v' LA' ln' lc' NA' nn' nc' rs', Ending.returned (.tuple #[.agg #[.slice LA ln lc, .slice NA nn nc, .int .i64 x.next], .int .i64 k]) = .returned (.tuple #[.agg v', .int .i64 R.2]) ∧ RT (wx.setRow (w.heap.size + 1 + 1) #[.slice LA ln lc, .slice NA nn nc, .int .i64 x.next]) base (m + 1) v' R.1 LA' ln' lc' NA' nn' nc' rs' ∧ Below w.heap.size w (wx.setRow (w.heap.size + 1 + 1) #[.slice LA ln lc, .slice NA nn nc, .int .i64 x.next]) := fun wx k R hbx hk2 hR => by
    subst hR
    have hb9 := hbx.trans (grown_below (setRow_gby wx (w.heap.size + 1 + 1) #[.slice LA ln lc, .slice NA nn nc, .int .i64 x.next]) (by have := hk2.lt; omega) (fun k hk => by injection hk with hk; omega))
    exact ⟨_, LA, ln, lc, NA, nn, nc, rs, rfl, { HR.out.below hb9 hB with lfew := by omega, nfew := by have := HR.out.nfew; omega }, hb9⟩
  have BACK := Lib.hid back
  clear back
  cases hok : askOK ti mo ge
  · have HOK := Lib.hid hok
    clear hok
    go_wp2_with (first
      | (refine wpList_load_row rfl 32 _ rfl w.heap.size rfl 32 #[.slice LA ln lc, .slice NA nn nc, .int .i64 x.next] (0, 0) _ K0.out Tryz.underlying32 rfl size32 ?_)
      | (refine wpList_store_row rfl 32 _ _ rfl (w.heap.size + 1 + 1) #[.slice LA ln lc, .slice NA nn nc, .int .i64 x.next] rfl rfl 32 _ K2.out size32 HS.out H1.out ?_))
    have e : confirmR x id ti mo ge = (x, 1) := by unfold confirmR; rw [HOK.out]; rfl
    exact bodyPost_ret (v := .tuple #[.agg #[.slice LA ln lc, .slice NA nn nc, .int .i64 x.next], .int .i64 1]) (results_cell_tmp Tryz.results55 _ _ (w.heap.size + 1 + 1) 32 _ (0, 0) _ rfl (setRow_blk K2.out _) Tryz.underlying32 rfl size32) rfl (BACK.out w1 1 _ HB1.out K2.out e)
  · have HOK := Lib.hid hok
    clear hok
    go_wp2_with (refine wpList_load_row rfl 32 _ rfl w.heap.size rfl 32 #[.slice LA ln lc, .slice NA nn nc, .int .i64 x.next] (0, 0) _ K0.out Tryz.underlying32 rfl size32 ?_)
    refine (rfind_any (HR.out.below HB1.out hB) (by omega) id).mono ?_
    rintro en w2 ⟨rfl, hb⟩
    have hb2 := HB1.out.trans (hb.mono HB1.out.size)
    have k0 := K0.out.below hb K0.out.lt
    have k1 := K1.out.below hb K1.out.lt
    have k2 := K2.out.below hb K2.out.lt
    clear HB1 K0 K1 K2 hb
    have HB2 := Lib.hid hb2
    have K0 := Lib.hid k0
    have K1 := Lib.hid k1
    have K2 := Lib.hid k2
    have hsz2 := k2.lt
    clear hb2 k0 k1 k2
    cases hf : findR x.L id with
    | none =>
      have HF := Lib.hid hf
      unfold findI
      clear hf
      go_wp2_with (first
        | (refine wpList_load_row rfl 32 _ rfl w.heap.size rfl 32 #[.slice LA ln lc, .slice NA nn nc, .int .i64 x.next] (0, 0) _ K0.out Tryz.underlying32 rfl size32 ?_)
        | (refine wpList_store_row rfl 32 _ _ rfl (w.heap.size + 1 + 1) #[.slice LA ln lc, .slice NA nn nc, .int .i64 x.next] rfl rfl 32 _ K2.out size32 HS.out H1.out ?_))
      have e : confirmR x id ti mo ge = (x, 6) := by unfold confirmR; rw [HOK.out, HF.out]; rfl
      exact bodyPost_ret (v := .tuple #[.agg #[.slice LA ln lc, .slice NA nn nc, .int .i64 x.next], .int .i64 6]) (results_cell_tmp Tryz.results55 _ _ (w.heap.size + 1 + 1) 32 _ (0, 0) _ rfl (setRow_blk K2.out _) Tryz.underlying32 rfl size32) rfl (BACK.out w2 6 _ HB2.out K2.out e)
    | some i =>
      have HF := Lib.hid hf
      have hil : i < ln := by
        unfold findR at hf
        obtain ⟨h1, _⟩ := List.findIdx?_eq_some_iff_getElem.1 hf
        have := HL.out
        omega
      obtain ⟨b, o, rfl, hbl, h1, h2, he, hr, hok⟩ := (HR.out.below HB2.out hB).at_ hil
      have HRA := Lib.hid hr
      have HROK := Lib.hid hok
      have HEE := Lib.hid he
      obtain ⟨a0, a1, a2⟩ := ask_cells K1.out
      have c0 : w2.cell? ⟨w.heap.size, 0, none⟩ = some (.slice (some ⟨b, o, none⟩) ln lc) := (K0.out.cell 0).trans rfl
      generalize hrr : rs[i] = r at *
      have HRR := Lib.hid hrr
      unfold findI
      clear hf hr hok he hrr
      have i1 : (0 : Int) ≤ (i : Int) := by omega
      have i2 : (i : Int) < (ln : Int) := by omega
      go_upto_region 6 with fail
      go_cut [9] (fun p wy => ∃ gx, p = .pointer (some ⟨gx, 0, none⟩) ∧ w2.heap.size ≤ gx ∧ Blk wy gx 54 ({ r with e := anewR r.e ti mo ge } : RM).row ∧ Below w2.heap.size w2 wy)
      case first =>
        have hne0 : w.heap.size < w2.heap.size := by omega
        have hne1 : w.heap.size + 1 < w2.heap.size := by omega
        have hbz : Below w2.heap.size w2 (w2.alloc (.cells zero54 54)).drew := ((Below.refl _ _).alloc (Nat.le_refl _) _).drew
        have l1 : (ld54 (.pointer (some ⟨b, o + i * 18, none⟩))).run Tryz.prog w2.drew = .ok (.agg r.row) w2.drew := run_ld54 ((World.rangeAt_drew _ _ _ _).2 HRA.out)
        have l2 : (ld54 (.pointer (some ⟨b, o + i * 18, none⟩))).run Tryz.prog (w2.alloc (.cells zero54 54)).drew = .ok (.agg r.row) (w2.alloc (.cells zero54 54)).drew := run_ld54 ((World.rangeAt_drew _ _ _ _).2 (World.rangeAt_alloc HRA.out _))
        have HR2S : Hid (∃ r2 : RM, r2 = { r with e := anewR r.e ti mo ge }) := ⟨_, rfl⟩
        obtain ⟨r2, hr2⟩ := HR2S.out
        have HR2 := Lib.hid hr2
        have CAN : Hid (∀ w', Calls Tryz.prog 122 #[.agg r.row, .agg #[.int .i64 ti, .int .i64 mo, .int .i64 ge]] w' fun e w'' => e = .returned (.agg r2.row) ∧ Below w'.heap.size w' w'') := by
          show ∀ w', Calls Tryz.prog 122 #[.agg r.row, .agg #[.int .i64 ti, .int .i64 mo, .int .i64 ge]] w' fun e w'' => e = .returned (.agg r2.row) ∧ Below w'.heap.size w' w''
          intro w'
          rw [HR2.out]
          exact ranew_any r ti mo ge w'
        have ZA : Hid (∀ w4 : World, Below (w2.alloc (.cells zero54 54)).drew.heap.size (w2.alloc (.cells zero54 54)).drew w4 → Blk w4 w2.heap.size 54 zero54 ∧ (st54 (.pointer (some ⟨w2.heap.size, 0, none⟩)) (.agg r2.row)).run Tryz.prog w4 = .ok () (w4.setRow w2.heap.size r2.row) ∧ Below w2.heap.size w2 w4) := by
          show ∀ w4, Below (w2.alloc (.cells zero54 54)).drew.heap.size (w2.alloc (.cells zero54 54)).drew w4 → Blk w4 w2.heap.size 54 zero54 ∧ (st54 (.pointer (some ⟨w2.heap.size, 0, none⟩)) (.agg r2.row)).run Tryz.prog w4 = .ok () (w4.setRow w2.heap.size r2.row) ∧ Below w2.heap.size w2 w4
          intro w4 hb
          have hk : Blk w4 w2.heap.size 54 zero54 := (Blk.new w2 54 zero54).drew.below hb (by simp [World.drew])
          exact ⟨hk, run_st54 hk rfl, hbz.trans (hb.mono (by simp [World.drew]))⟩
        have ZB : Hid (∀ w4 : World, (st54 (.pointer (some ⟨w4.heap.size, 0, none⟩)) (.agg r2.row)).run Tryz.prog (w4.alloc (.cells zero54 54)) = .ok () ((w4.alloc (.cells zero54 54)).setRow w4.heap.size r2.row)) := by
          show ∀ w4 : World, (st54 (.pointer (some ⟨w4.heap.size, 0, none⟩)) (.agg r2.row)).run Tryz.prog (w4.alloc (.cells zero54 54)) = .ok () ((w4.alloc (.cells zero54 54)).setRow w4.heap.size r2.row)
          intro w4
          exact run_st54 (Blk.new w4 54 zero54) rfl
        clear hr2 HR2S hbz
        go_region_law (first
          | (go_simp; go_at_call 122; refine (CAN.out _).mono ?_; rintro en w4 ⟨rfl, hb4⟩; (have HB4 := Lib.hid hb4); (first | ((have HZA := Lib.hid (ZA.out w4 hb4)); (have zs := HZA.out.2.1)) | (have zs := ZB.out w4)); clear hb4))
        all_goals
          go_wp2_with fail
          go_meet
        all_goals first
          | exact ⟨w2.heap.size, rfl, Nat.le_refl _, by rw [← HR2.out]; exact setRow_blk HZA.out.1 _, HZA.out.2.2.trans (grown_below (setRow_gby _ _ _) HZA.out.2.2.size (fun k hk => by injection hk with hk; omega))⟩
          | exact ⟨w4.heap.size, rfl, HB4.out.size, by rw [← HR2.out]; exact setRow_blk (Blk.new w4 54 zero54) _, (((Below.refl w2.heap.size w2).drew.trans HB4.out).alloc HB4.out.size _).trans (grown_below (setRow_gby _ _ _) (by have := HB4.out.size; simp at this ⊢; omega) (fun k hk => by injection hk with hk; have := HB4.out.size; simp at this; omega))⟩
      case rest =>
        obtain ⟨gx, rfl, hgx, hbx, hb3⟩ := hcut
        generalize hr2 : ({ r with e := anewR r.e ti mo ge } : RM) = r2 at *
        have HR2 := Lib.hid hr2
        have hbw := HB2.out.trans (hb3.mono HB2.out.size)
        have HBX := Lib.hid hbx
        have HB3 := Lib.hid hb3
        have HBW := Lib.hid hbw
        have KK0 := Lib.hid (K0.out.below hb3 K0.out.lt)
        have KK1 := Lib.hid (K1.out.below hb3 K1.out.lt)
        have KK2 := Lib.hid (K2.out.below hb3 K2.out.lt)
        clear hr2 hbx hb3 hbw c0 a0 a1 a2 K0 K1 K2
        have hB2 : base ≤ w2.heap.size := by omega
        have OK2 : Hid (r2.Ok wc base) := by
          have h := HROK.out.keeps (Keeps.of_below HB3.out hB2)
          show r2.Ok wc base
          rw [← HR2.out]
          exact ⟨by rw [anewR_M]; exact h.keys, h.kc, by rw [anewR_M]; exact h.few, by rw [anewR_has]; exact h.has, h.hc, by rw [anewR_has]; exact h.spans⟩
        have CW : Hid (Calls Tryz.prog 121 #[.agg #[.slice (some ⟨b, o, none⟩) ln lc, .slice NA nn nc, .int .i64 x.next], .int .i64 i, .agg r2.row] wc.drew fun e w' => ∃ v' LA' lc', e = .returned (.agg v') ∧ RT w' base m v' { x with L := x.L.set i r2.e } LA' ln lc' NA nn nc (rs.set i r2) ∧ Below wc.heap.size wc w') := by
          have hdr : Below w.heap.size w wc.drew := HBW.out.drew
          refine Calls.mono (rwith_any (HR.out.below hdr hB) (by have := hdr.size; omega) (by omega) i hil r2 (OK2.out.keeps (Keeps.of_below (Below.refl wc.heap.size wc).drew (by have := HBW.out.size; omega)))) ?_
          rintro en w5 ⟨v', LA', lc', rfl, hr5, hb5⟩
          exact ⟨v', LA', lc', rfl, hr5, (Below.refl wc.heap.size wc).drew.trans hb5⟩
        have hgl := HBX.out.lt
        have hwl := HBW.out.size
        have lw : (ld54 (.pointer (some ⟨gx, 0, none⟩))).run Tryz.prog wc.drew = .ok (.agg r2.row) wc.drew := run_ld54b HBX.out.drew
        have c0 : wc.cell? ⟨w.heap.size, 0, none⟩ = some (.slice (some ⟨b, o, none⟩) ln lc) := (KK0.out.cell 0).trans rfl
        have c1 : wc.cell? ⟨w.heap.size, 1, none⟩ = some (.slice NA nn nc) := (KK0.out.cell 1).trans rfl
        have c2 : wc.cell? ⟨w.heap.size, 2, none⟩ = some (.int .i64 x.next) := (KK0.out.cell 2).trans rfl
        have o1 : wc.cell? ⟨gx, 1, none⟩ = some (.string r2.e.obj) := (HBX.out.cell 1).trans rfl
        have m1 : wc.cell? ⟨w.heap.size + 1, 1, none⟩ = some (.int .i64 mo) := (KK1.out.cell 1).trans rfl
        have W5 : Hid (∀ w5, Below wc.heap.size wc w5 → w5.cell? ⟨gx, 1, none⟩ = some (.string r2.e.obj) ∧ w5.cell? ⟨w.heap.size + 1, 1, none⟩ = some (.int .i64 mo)) := by
          show ∀ w5, Below wc.heap.size wc w5 → w5.cell? ⟨gx, 1, none⟩ = some (.string r2.e.obj) ∧ w5.cell? ⟨w.heap.size + 1, 1, none⟩ = some (.int .i64 mo)
          intro w5 hb
          exact ⟨((HBX.out.below hb HBX.out.lt).cell 1).trans rfl, ((KK1.out.below hb KK1.out.lt).cell 1).trans rfl⟩
        have W6 : Hid (∀ w6, Below wc.heap.size wc w6 → ∀ v : Array Value, v.size = 3 ∧ v.all (·.oneCell') = true → (st32 (.pointer (some ⟨w.heap.size + 1 + 1, 0, none⟩)) (.agg v)).run Tryz.prog w6 = .ok () (w6.setRow (w.heap.size + 1 + 1) v) ∧ Blk (w6.setRow (w.heap.size + 1 + 1) v) (w.heap.size + 1 + 1) 32 v ∧ Below w.heap.size w (w6.setRow (w.heap.size + 1 + 1) v)) := by
          show ∀ w6, Below wc.heap.size wc w6 → ∀ v : Array Value, v.size = 3 ∧ v.all (·.oneCell') = true → (st32 (.pointer (some ⟨w.heap.size + 1 + 1, 0, none⟩)) (.agg v)).run Tryz.prog w6 = .ok () (w6.setRow (w.heap.size + 1 + 1) v) ∧ Blk (w6.setRow (w.heap.size + 1 + 1) v) (w.heap.size + 1 + 1) 32 v ∧ Below w.heap.size w (w6.setRow (w.heap.size + 1 + 1) v)
          intro w6 hb v hv
          have hk := KK2.out.below hb KK2.out.lt
          have hb6 := HBW.out.trans (hb.mono hwl)
          exact ⟨run_st32 hk rfl hv.1 hv.2, setRow_blk hk _, hb6.trans (grown_below (setRow_gby w6 (w.heap.size + 1 + 1) v) hb6.size (fun k hk => by injection hk with hk; omega))⟩
        go_upto_region 7 with fail
        go_cut [7] (fun q wy => q = .int .i64 0 ∧ ∃ v' LA' ln' lc' NA' nn' nc' rs', RT wy base (m + 1) v' (takenR { x with L := x.L.set i r2.e } r2.e.obj id mo) LA' ln' lc' NA' nn' nc' rs' ∧ Blk wy (w.heap.size + 1 + 1) 32 v' ∧ Below w.heap.size w wy)
        case first =>
          go_region_law (first
            | (go_simp; go_at_call 121; refine (CW.out).mono ?_; rintro en w5 ⟨v5, LA5, lc5, rfl, hr5, hb5⟩; (have HB5 := Lib.hid hb5); (have HR5 := Lib.hid hr5); (obtain ⟨o5, m5⟩ := W5.out w5 hb5); clear hb5 hr5)
            | (go_simp; go_at_call 53; refine (rtaken_any HR5.out (by have := HB5.out.size; omega) hm r2.e.obj id mo).mono ?_; rintro en w6 ⟨v6, LA6, lc6, NA6, nn6, nc6, rs6, rfl, hr6, hb6⟩; (have HR6 := Lib.hid hr6); (have HB6 := Lib.hid (HB5.out.trans (hb6.mono HB5.out.size))); (have HW6 := Lib.hid (W6.out w6 HB6.out v6 hr6.shape)); (have st := HW6.out.1); (have KP6 := Lib.hid (hr6.put32 (KK2.out.below HB6.out KK2.out.lt) v6)); clear hb6 hr6))
          all_goals
            go_wp2_with fail
            go_meet
          all_goals first
            | exact ⟨rfl, v6, LA6, _, lc6, NA6, nn6, nc6, rs6, KP6.out, HW6.out.2.1, HW6.out.2.2⟩
        case rest =>
          obtain ⟨rfl, v', LA', ln', lc', NA', nn', nc', rs', hr9, hk9, hb9⟩ := hcut
          go_wp2_with fail
          have e : confirmR x id ti mo ge = (takenR { x with L := x.L.set i r2.e } r2.e.obj id mo, 0) := by
            unfold confirmR
            rw [HOK.out, HF.out]
            simp only [List.getElem?_eq_getElem h2, ← HEE.out, ← HR2.out, if_true, anewR_obj]
          rw [e]
          exact bodyPost_ret (v := .tuple #[.agg v', .int .i64 0]) (results_cell_tmp Tryz.results55 _ _ (w.heap.size + 1 + 1) 32 _ (0, 0) _ rfl hk9 Tryz.underlying32 rfl (by rw [hr9.shape.1]; exact size32)) rfl ⟨v', LA', ln', lc', NA', nn', nc', rs', rfl, hr9, hb9⟩
end
end Go.Proofs.YtoaiamgcegnjjaaGreatDoor
