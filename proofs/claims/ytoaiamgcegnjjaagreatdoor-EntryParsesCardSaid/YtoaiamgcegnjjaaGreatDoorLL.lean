/- EntryPlays' walk: whatever the acts, true. No condition. -/
import Derived.Test.YtoaiamgcegnjjaaGreatDoorMP
import Derived.Test.YtoaiamgcegnjjaaGreatDoorMQ
import Derived.Test.YtoaiamgcegnjjaaGreatDoorMR
import Derived.Test.YtoaiamgcegnjjaaGreatDoorMO
import Derived.Test.YtoaiamgcegnjjaaGreatDoorLK
import Derived.Test.YtoaiamgcegnjjaaGreatDoorS
namespace Go.Proofs.YtoaiamgcegnjjaaGreatDoor
open Go.RowKit Go.Maps Go.WideMaps Go.Sort
set_option maxRecDepth 100000
abbrev box3 (A1 : Option Addr) (n1 c1 : Nat) (A2 : Option Addr) (n2 c2 : Nat) (i3 : Int) : Array Value := #[.slice A1 n1 c1, .slice A2 n2 c2, .int .i64 i3]
theorem PR.put3b {w : World} {A1 A2 : Option Addr} {n1 c1 n2 c2 : Nat} {i3 : Int} {base sz n g : Nat} {A : Option Addr} {xs : List Value} (h : PR w base sz A n xs) (hk : Blk w g 32 (box3 A1 n1 c1 A2 n2 c2 i3)) (hx : 0 < n → ∀ o, ∃ j, ∃ hj : j < xs.length, (box3 A1 n1 c1 A2 n2 c2 i3)[o + j]? ≠ some xs[j]) (v' : Array Value) : PR (w.setRow g v') base sz A n xs := by
  refine ⟨h.1, fun hn => ?_⟩
  obtain ⟨b, o, e, hp, hb, hc⟩ := h.2 hn
  have hne : g ≠ b := by
    intro he
    subst he
    obtain ⟨j, hj, hz⟩ := hx hn o
    exact hz ((hk.cell (o + j)).symm.trans (hc j hj))
  have := PR.grown (g := g) (b := b) (o := o) (e ▸ h) (setRow_gby w g v') (fun e => hne (by injection e))
  obtain ⟨b', o', e', r⟩ := this.2 hn
  exact ⟨b', o', e.trans e', r⟩
theorem z3b {A1 A2 : Option Addr} {n1 c1 n2 c2 : Nat} {i3 : Int} (o : Nat) (a : Value) (h : (box3 A1 n1 c1 A2 n2 c2 i3)[o]? = some a) : o < 3 ∧ (o < 2 → ∃ A n c, a = .slice A n c) ∧ (o = 2 → a = .int .i64 i3) := by
  have hl := (Array.getElem?_eq_some_iff.1 h).1
  have h3 : (box3 A1 n1 c1 A2 n2 c2 i3).size = 3 := rfl
  match o, h with
  | 0, h => exact ⟨by omega, fun _ => by injection h with h; exact ⟨_, _, _, h.symm⟩, by omega⟩
  | 1, h => exact ⟨by omega, fun _ => by injection h with h; exact ⟨_, _, _, h.symm⟩, by omega⟩
  | 2, h => exact ⟨by omega, by omega, fun _ => by injection h with h; exact h.symm⟩
  | n+3, h => omega
theorem PR.put3bs {w : World} {A1 A2 : Option Addr} {n1 c1 n2 c2 : Nat} {i3 : Int} {base sz n g : Nat} {A : Option Addr} {xs : List Value} (h : PR w base sz A n xs) (hk : Blk w g 32 (box3 A1 n1 c1 A2 n2 c2 i3)) (hx : 0 < n → ∃ s tl, xs = .string s :: tl) (v' : Array Value) : PR (w.setRow g v') base sz A n xs :=
  h.put3b hk (fun hn o => by
    obtain ⟨s, tl, rfl⟩ := hx hn
    refine ⟨0, by simp, fun e => ?_⟩
    obtain ⟨h1, h2, h3⟩ := z3b _ _ e
    rcases Nat.lt_or_ge (o + 0) 2 with q | q
    · obtain ⟨_, _, _, this⟩ := h2 q
      simp at this
    · have := h3 (by omega)
      simp at this) v'
theorem PR.put3bi {w : World} {A1 A2 : Option Addr} {n1 c1 n2 c2 : Nat} {i3 : Int} {base sz n g : Nat} {A : Option Addr} {xs : List Value} (h : PR w base sz A n xs) (hk : Blk w g 32 (box3 A1 n1 c1 A2 n2 c2 i3)) (hx : 0 < n → ∃ a b tl, xs = .int .i64 a :: b :: tl) (v' : Array Value) : PR (w.setRow g v') base sz A n xs :=
  h.put3b hk (fun hn o => by
    obtain ⟨a, b, tl, rfl⟩ := hx hn
    rcases Nat.lt_or_ge o 2 with q | q
    · refine ⟨0, by simp, fun e => ?_⟩
      obtain ⟨_, _, _, this⟩ := (z3b _ _ e).2.1 (by omega)
      simp at this
    · refine ⟨1, by simp, fun e => ?_⟩
      have := (z3b _ _ e).1
      omega) v'
theorem PR.put3bl {w : World} {A1 A2 : Option Addr} {n1 c1 n2 c2 : Nat} {i3 : Int} {base sz n g : Nat} {A : Option Addr} {xs : List Value} (h : PR w base sz A n xs) (hk : Blk w g 32 (box3 A1 n1 c1 A2 n2 c2 i3)) (hs : 4 ≤ sz) (v' : Array Value) : PR (w.setRow g v') base sz A n xs :=
  h.put3b hk (fun hn o => by
    have hl : 4 ≤ xs.length := by rw [h.1]; exact Nat.le_trans hs (Nat.le_mul_of_pos_left _ hn)
    refine ⟨3, by omega, fun e => ?_⟩
    have := (z3b _ _ e).1
    omega) v'
theorem RM.Ok.put3b {w : World} {A1 A2 : Option Addr} {n1 c1 n2 c2 : Nat} {i3 : Int} {base g : Nat} {r : RM} (h : r.Ok w base) (hk : Blk w g 32 (box3 A1 n1 c1 A2 n2 c2 i3)) (v' : Array Value) : r.Ok (w.setRow g v') base :=
  { h with
    keys := h.keys.put3bs hk (fun hn => by
      have := h.keys.1
      match hm : r.e.M.ks with
      | [] => rw [hm] at this; simp at this; omega
      | a :: l => exact ⟨a, l.map Value.string, rfl⟩) v'
    has := h.has.put3bi hk (fun hn => by
      have := h.has.1
      match hm : r.e.has with
      | [] => rw [hm] at this; simp [spanCells] at this; omega
      | a :: l => exact ⟨a.1, .int .i64 a.2, spanCells l, rfl⟩) v' }
theorem RT.put3b {w : World} {A1 A2 : Option Addr} {n1 c1 n2 c2 : Nat} {i3 : Int} {base m g : Nat} {v : Array Value} {x : RTab} {LA NA : Option Addr} {ln lc nn nc : Nat} {rs : List RM} (h : RT w base m v x LA ln lc NA nn nc rs) (hk : Blk w g 32 (box3 A1 n1 c1 A2 n2 c2 i3)) (v' : Array Value) : RT (w.setRow g v') base m v x LA ln lc NA nn nc rs :=
  { h with
    rows := h.rows.put3bl hk (by decide) v'
    ok := fun r hr => (h.ok r hr).put3b hk v'
    news := h.news.put3bs hk (fun hn => by
      have := h.news.1
      match hm : x.N with
      | [] => rw [hm] at this; simp at this; omega
      | a :: l => exact ⟨a.1, .int .i64 a.2 :: l.flatMap nwCells, rfl⟩) v' }
attribute [local go_sem ↓] st32_fold

/-- an act that came in -/
structure ActS.Ok (w : World) (B : Nat) (a : ActS) : Prop where
  keys : Strs w B a.A a.n a.M.ks
  nc : a.n ≤ a.c
  fits : a.M.Fits
  obj : a.obj.size ≤ maxLen
  kd : 0 ≤ a.kd ∧ a.kd ≤ 255
  id : (Lit.int .i64 a.id).wf = true

theorem Fits.sz {M : MetaS} (h : M.Fits) : M.Sz := by
  have hm : maxLen ≤ 9223372036854775807 := by unfold maxLen; omega
  exact ⟨Nat.le_trans h.t hm, Nat.le_trans h.ten hm, fun s hs => Nat.le_trans (h.ks s hs) hm⟩

section
variable {w : World} {base tb m k : Nat} {T : TabS} {v : Array Value} {x : RTab} {LA NA : Option Addr} {ln lc nn nc : Nat} {rs : List RM}
theorem do_any (hT : Tab w base tb m T) (hR : RT w base m v x LA ln lc NA nn nc rs) (hS : Sim k T x) (hB : base ≤ w.heap.size) (hm : m ≤ 8000) (hk : k ≤ 900) (a : ActS) (ha : a.Ok w base) (hn : a.n ≤ 40) :
    Calls Tryz.prog 15 #[.pointer (some ⟨tb, 0, none⟩), .agg v, .agg a.cs] w (DoPost base tb m k w) := by
  have hkd := ha.kd
  have h7 : a.kd % 7 = 0 ∨ a.kd % 7 = 1 ∨ a.kd % 7 = 2 ∨ a.kd % 7 = 3 ∨ a.kd % 7 = 4 ∨ a.kd % 7 = 5 ∨ a.kd % 7 = 6 := by omega
  rcases h7 with h | h | h | h | h | h | h
  · exact do_land hT hR hS hB hm a.kd a.obj a.st a.M a.A a.n a.c a.sf a.sto a.age a.ti a.mo a.ge a.id a.f a.t a.hv a.ln hkd h ha.keys (by omega) ha.nc (Fits.sz ha.fits)
  · exact do_confirm hT hR hS hB (by omega) a.kd a.obj a.st a.M a.A a.n a.c a.sf a.sto a.age a.ti a.mo a.ge a.id a.f a.t a.hv a.ln hkd h ha.id
  · exact do_gone hT hR hS hB (by omega) a.kd a.obj a.st a.M a.A a.n a.c a.sf a.sto a.age a.ti a.mo a.ge a.id a.f a.t a.hv a.ln hkd h ha.obj
  · exact do_fill hT hR hS hB (by omega) a.kd a.obj a.st a.M a.A a.n a.c a.sf a.sto a.age a.ti a.mo a.ge a.id a.f a.t a.hv a.ln hkd h hk ha.id
  · exact do_lose hT hR hS hB (by omega) a.kd a.obj a.st a.M a.A a.n a.c a.sf a.sto a.age a.ti a.mo a.ge a.id a.f a.t a.hv a.ln hkd h hk ha.id
  · exact do_learn hT hR hS hB (by omega) a.kd a.obj a.st a.M a.A a.n a.c a.sf a.sto a.age a.ti a.mo a.ge a.id a.f a.t a.hv a.ln hkd h ha.id
  · exact do_drop hT hR hS hB (by omega) a.kd a.obj a.st a.M a.A a.n a.c a.sf a.sto a.age a.ti a.mo a.ge a.id a.f a.t a.hv a.ln hkd h ha.id
end

theorem rt_empty (w : World) (base : Nat) : RT w base 0 #[.slice none 0 0, .slice none 0 0, .int .i64 1] { L := [], N := [], next := 1 } none 0 0 none 0 0 [] :=
  { val := rfl, ents := rfl, rows := PR.nil, ok := (fun r hr => by cases hr), news := PR.nil, lcap := Nat.le_refl _, ncap := Nat.le_refl _, lfew := Nat.le_refl _, nfew := Nat.le_refl _ }

/-- the loop's state -/
structure PlW (W wr : World) (base tb g5 j : Nat) : Prop where
  below : Below W.heap.size W wr
  low : base ≤ wr.heap.size
  st : ∃ T x LA ln lc NA nn nc rs, Blk wr g5 32 #[.slice LA ln lc, .slice NA nn nc, .int .i64 x.next] ∧ Tab wr base tb (4 * j) T ∧ RT wr base (4 * j) #[.slice LA ln lc, .slice NA nn nc, .int .i64 x.next] x LA ln lc NA nn nc rs ∧ Sim j T x

set_option maxHeartbeats 4000000 in
theorem entryPlays_any (A : Option Addr) (n c : Nat) (l : List ActS) (W : World) (hr : Rd W W.heap.size 25 A n (l.flatMap ActS.cells)) (hok : ∀ a ∈ l, a.Ok W W.heap.size) (hn : n ≤ 9223372036854775807) :
    Calls Tryz.prog 3 #[.slice A n c] W fun e w' => e = .returned (.bool true) ∧ Below W.heap.size W w' := by
  have HRD := Lib.hid hr
  have HOK := Lib.hid hok
  clear hr hok
  go_enter Tryz.func3, Tryz.ntmps3
  go_wp2_with fail
  refine (wakes_any W).mono ?_
  rintro en w1 ⟨rfl, hb1⟩
  have HB1 := Lib.hid hb1
  have CS := Lib.hid (small_any A n c l W.heap.size w1 (HRD.out.below hb1 (Nat.le_refl _)) (fun a ha => (HOK.out a ha).keys.below hb1 (Nat.le_refl _)) hb1.size hn)
  clear hb1
  go_wp2_with fail
  refine CS.out.mono ?_
  rintro en w2 ⟨⟨b, rfl, hbb⟩, hb2⟩
  have HB2 := Lib.hid (HB1.out.trans (hb2.mono HB1.out.size))
  have HBB := Lib.hid hbb
  clear hb2 hbb CS HB1
  cases b with
  | false =>
    go_wp2_with fail
    go_ret
    exact ⟨rfl, HB2.out⟩
  | true =>
    have hfew := HBB.out (by first | rfl | trivial)
    have hn30 := hfew.1
    have HFEW := Lib.hid hfew.2
    clear hfew HBB
    go_wp2_with fail
    refine (load_nil w2).mono ?_
    rintro en w3 ⟨tb, rfl, hT3, hb3⟩
    have HT3 := Lib.hid hT3
    have HB3 := Lib.hid (HB2.out.trans (hb3.mono HB2.out.size))
    have hs3 := hb3.size
    clear hT3 hb3
    go_wp2_with fail
    refine (rload_nil w3).mono ?_
    rintro en w4 ⟨rfl, hb4⟩
    have HB34 := Lib.hid hb4
    have HB4 := Lib.hid (HB3.out.trans (hb4.mono HB3.out.size))
    have hs4 := hb4.size
    have st4 := run_st32 (v := #[.slice none 0 0, .slice none 0 0, .int .i64 1]) (Blk.new w4 32 zero32) rfl rfl (by simp [Value.oneCell'])
    clear hb4
    go_wp2_with fail
    have hb5 : Below w4.heap.size w4 ((w4.alloc (.cells zero32 32)).setRow w4.heap.size #[.slice none 0 0, .slice none 0 0, .int .i64 1]) := ((Below.refl _ _).alloc (Nat.le_refl _) _).trans (grown_below (setRow_gby _ _ _) (by simp) (fun k hk => by injection hk with hk; omega))
    have k5 : Blk ((w4.alloc (.cells zero32 32)).setRow w4.heap.size #[.slice none 0 0, .slice none 0 0, .int .i64 1]) w4.heap.size 32 #[.slice none 0 0, .slice none 0 0, .int .i64 1] := setRow_blk (Blk.new w4 32 zero32) _
    generalize (w4.alloc (.cells zero32 32)).setRow w4.heap.size #[.slice none 0 0, .slice none 0 0, .int .i64 1] = w5 at *
    have hb35 := HB34.out.trans (hb5.mono hs4)
    have hpl : PlW W w5 w2.heap.size tb w4.heap.size 0 := by
      refine ⟨HB4.out.trans (hb5.mono HB4.out.size), by have := hb5.size; omega, emptyT 1, { L := [], N := [], next := 1 }, none, 0, 0, none, 0, 0, [], k5, HT3.out.keepsBox hb35, rt_empty w5 _, sim_empty 1 (by omega)⟩
    have HPL := Lib.hid hpl
    have hs5 := k5.lt
    have hpr : PR W W.heap.size 25 A n (l.flatMap ActS.cells) := PR.of_old HRD.out (Nat.le_refl _)
    obtain ⟨hl, hrow⟩ := hpr.row ActS.cells_len (by decide)
    have HL := Lib.hid hl
    have HROW := Lib.hid hrow
    have hWs := HB2.out.size
    clear hb5 k5 hb35 hpl hpr hl hrow st4 HT3 HB34 HB3 HB4
    generalize hg5 : w4.heap.size = g5 at *
    generalize hbs : w2.heap.size = base at *
    clear hg5 hbs
    go_loopw [32] (fun i wr => ∃ j : Nat, j ≤ n ∧ i = .int .i64 j ∧ PlW W wr base tb g5 j) (fun i _ => n - (intOf i).toNat)
    case atStart => exact ⟨0, Nat.zero_le _, rfl, HPL.out⟩
    case round =>
      obtain ⟨j, hj, rfl, hp⟩ := hrel
      obtain ⟨hbr, hlow, T, x, LA, ln, lc, NA, nn, nc, rs, hk5, hT, hR, hS⟩ := hp
      have HBR := Lib.hid hbr
      have K5 := Lib.hid hk5
      have HT := Lib.hid hT
      have HR := Lib.hid hR
      have HS := Lib.hid hS
      have hg5 := hk5.lt
      have hWr := hbr.size
      clear hbr hk5 hT hR hS HPL
      by_cases hlt : j < n
      · have hjl : j < l.length := by have := HL.out; omega
        obtain ⟨b, o, rfl, hbl, hra⟩ := HROW.out j hjl
        have hao := HOK.out l[j] (List.getElem_mem hjl)
        have haf := HFEW.out l[j] (List.getElem_mem hjl)
        generalize l[j] = a at *
        have HAO := Lib.hid hao
        have HRA : Hid (wr.rangeAt b (o + j * 25) a.cells) := fun i v hv => (HBR.out.cell (p := ⟨b, o + j * 25 + i, none⟩) hbl).trans (hra i v hv)
        have CD : Hid (∀ wy, Below wr.heap.size wr wy → Calls Tryz.prog 15 #[.pointer (some ⟨tb, 0, none⟩), .agg #[.slice LA ln lc, .slice NA nn nc, .int .i64 x.next], .agg a.cs] wy (DoPost base tb (4 * j) j wy)) := by
          show ∀ wy, Below wr.heap.size wr wy → _
          intro wy hb
          have hbW := HBR.out.trans (hb.mono hWr)
          refine do_any (HT.out.keepsBox hb) (HR.out.below hb hlow) HS.out (by have := hb.size; omega) (by omega) (by omega) a ⟨?_, HAO.out.nc, HAO.out.fits, HAO.out.obj, HAO.out.kd, HAO.out.id⟩ haf
          exact HAO.out.keys.below hbW hWs
        have hI : (Tryz.prog.info? 47).map (·.size) = some a.cs.size := size47
        have hS : 25 = a.cs.size := rfl
        generalize hcs : a.cs = cs at *
        have HI := Lib.hid hI
        have HSS := Lib.hid hS
        have H1 : Hid (cs.all (·.oneCell') = true) := by show cs.all (·.oneCell') = true; rw [← hcs]; exact a.one
        have HRA2 : Hid (wr.rangeAt b (o + j * 25) cs.toList) := by show wr.rangeAt b (o + j * 25) cs.toList; rw [← hcs]; exact HRA.out
        have HIL : Hid ((Tryz.prog.info? 47).map (·.size) = some cs.toList.length) := by show (Tryz.prog.info? 47).map (·.size) = some cs.toList.length; rw [← hcs]; exact size47
        clear hra hao hI hS hcs HRA
        have i1 : (0 : Int) ≤ (j : Int) := by omega
        have i2 : (j : Int) < (n : Int) := by omega
        go_upto_region 12 with first
          | (refine wpList_load_mid rfl 47 _ rfl b (o + j * 25) rfl cs.toList _ HRA2.out Tryz.underlying47 rfl HIL.out ?_; rw [show cs.toList.toArray = cs from by simp])
          | (refine wpList_store_row rfl 47 _ _ rfl wr.heap.size cs rfl rfl 47 _ (Blk.new wr 47 _) HI.out HSS.out H1.out ?_)
        rw [World.setRow_alloc_new]
        have hbx : Below wr.heap.size wr (wr.alloc (.cells cs 47)) := (Below.refl _ _).alloc (Nat.le_refl _) _
        have kx : Blk (wr.alloc (.cells cs 47)) wr.heap.size 47 cs := Blk.new _ _ _
        generalize wr.alloc (.cells cs 47) = wx at *
        have KX := Lib.hid kx
        have HBX := Lib.hid hbx
        have K5x := Lib.hid (K5.out.below hbx hg5)
        have hsx := kx.lt
        have HIX := HI
        clear hbx kx HI HSS H1 HRA2 HIL
        go_wp2_with first
          | (refine wpList_load_row rfl 32 _ rfl g5 rfl 32 #[.slice LA ln lc, .slice NA nn nc, .int .i64 x.next] (0, 0) _ K5x.out Tryz.underlying32 rfl size32 ?_)
          | (refine wpList_load_row rfl 47 _ rfl wr.heap.size rfl 47 cs (0, 0) _ KX.out Tryz.underlying47 rfl HIX.out ?_)
        refine (CD.out wx HBX.out).mono ?_
        rintro en w6 ⟨v6, LA6, ln6, lc6, NA6, nn6, nc6, rs6, T6, x6, rfl, hk6, hT6, hR6, hS6⟩
        have hv6 := hR6.val
        subst hv6
        have HK6 := Lib.hid hk6
        have HT6 := Lib.hid hT6
        have HR6 := Lib.hid hR6
        have HS6 := Lib.hid hS6
        have K56 := Lib.hid (K5x.out.keeps hk6 (by decide) (by decide) (by decide) (by decide))
        have hs6 := hk6.below.size
        have st6 := run_st32 (Blk.new w6 32 zero32) rfl hR6.shape.1 hR6.shape.2
        clear hk6 hT6 hR6 hS6 CD
        go_upto_region 13 with fail
        have hb7 : Below w6.heap.size w6 ((w6.alloc (.cells zero32 32)).setRow w6.heap.size #[.slice LA6 ln6 lc6, .slice NA6 nn6 nc6, .int .i64 x6.next]) := ((Below.refl _ _).alloc (Nat.le_refl _) _).trans (grown_below (setRow_gby _ _ _) (by simp) (fun k hk => by injection hk with hk; omega))
        have k7 : Blk ((w6.alloc (.cells zero32 32)).setRow w6.heap.size #[.slice LA6 ln6 lc6, .slice NA6 nn6 nc6, .int .i64 x6.next]) w6.heap.size 32 #[.slice LA6 ln6 lc6, .slice NA6 nn6 nc6, .int .i64 x6.next] := setRow_blk (Blk.new w6 32 zero32) _
        generalize (w6.alloc (.cells zero32 32)).setRow w6.heap.size #[.slice LA6 ln6 lc6, .slice NA6 nn6 nc6, .int .i64 x6.next] = w7 at *
        have K7 := Lib.hid k7
        have K57 := Lib.hid (K56.out.below hb7 K56.out.lt)
        have hlow6 : base ≤ w6.heap.size := by omega
        have HT7 := Lib.hid (HT6.out.keepsBox hb7)
        have HR7 := Lib.hid (HR6.out.below hb7 hlow6)
        have hbWx := HBR.out.trans (HBX.out.mono hWr)
        have hbW6 : Below W.heap.size W w6 := hbWx.trans (HK6.out.below.mono hWs)
        have HBW7 := Lib.hid (hbW6.trans (hb7.mono hbW6.size))
        have hs7 := k7.lt
        have st7 := run_st32 K57.out rfl HR6.out.shape.1 HR6.out.shape.2
        clear hb7 k7 st6 hbWx hbW6
        go_upto_region 14 with (refine wpList_load_row rfl 32 _ rfl w6.heap.size rfl 32 #[.slice LA6 ln6 lc6, .slice NA6 nn6 nc6, .int .i64 x6.next] (0, 0) _ K7.out Tryz.underlying32 rfl size32 ?_)
        have hg8 := setRow_gby w7 g5 #[.slice LA6 ln6 lc6, .slice NA6 nn6 nc6, .int .i64 x6.next]
        have k8 := setRow_blk K57.out #[.slice LA6 ln6 lc6, .slice NA6 nn6 nc6, .int .i64 x6.next]
        have hT8 := HT7.out.put K57.out hg8 (by decide) (by decide) (by decide) (by decide) (by decide) (by decide)
        have hR8 := HR7.out.put3b (A1 := LA) (n1 := ln) (c1 := lc) (A2 := NA) (n2 := nn) (c2 := nc) (i3 := x.next) K57.out #[.slice LA6 ln6 lc6, .slice NA6 nn6 nc6, .int .i64 x6.next]
        have hb8 : Below W.heap.size W (w7.setRow g5 #[.slice LA6 ln6 lc6, .slice NA6 nn6 nc6, .int .i64 x6.next]) := HBW7.out.trans (grown_below hg8 HBW7.out.size (fun k hk => by injection hk with hk; omega))
        have hs8 := hg8.size
        generalize w7.setRow g5 #[.slice LA6 ln6 lc6, .slice NA6 nn6 nc6, .int .i64 x6.next] = w8 at *
        have K8 := Lib.hid k8
        have HT8 := Lib.hid hT8
        have HR8 := Lib.hid hR8
        have HB8 := Lib.hid hb8
        have hlow8 : base ≤ w8.heap.size := by omega
        have CSM := Lib.hid (same_any hT8 hR8 HS6.out hlow8 (by omega) (by omega))
        have q0 : w8.cell? ⟨g5, 0, none⟩ = some (.slice LA6 ln6 lc6) := (k8.cell 0).trans rfl
        have q1 : w8.cell? ⟨g5, 1, none⟩ = some (.slice NA6 nn6 nc6) := (k8.cell 1).trans rfl
        have q2 : w8.cell? ⟨g5, 2, none⟩ = some (.int .i64 x6.next) := (k8.cell 2).trans rfl
        clear hg8 k8 hT8 hR8 hb8 st7
        go_wp2_with fail
        refine CSM.out.mono ?_
        rintro en w9 ⟨rfl, hb9⟩
        have HB9 := Lib.hid (HB8.out.trans (hb9.mono HB8.out.size))
        have HPL9 : Hid (PlW W w9 base tb g5 (j + 1)) := by
          refine ⟨HB9.out, by have := hb9.size; omega, T6, x6, LA6, ln6, lc6, NA6, nn6, nc6, rs6, K8.out.below hb9 K8.out.lt, ?_, ?_, HS6.out⟩
          · have := HT8.out.keepsBox hb9
            exact this.mono (by omega)
          · exact (HR8.out.below hb9 hlow8).mono (by omega)
        clear hb9 q0 q1 q2 CSM
        go_wp2_with fail
        go_roundw
        case rel => exact ⟨j + 1, by omega, by go_num, HPL9.out⟩
        case measure => simp [intOf]; omega
      · obtain rfl : j = n := by omega
        go_wp2_with fail
        go_ret
        exact ⟨rfl, HBR.out⟩
end Go.Proofs.YtoaiamgcegnjjaaGreatDoor
