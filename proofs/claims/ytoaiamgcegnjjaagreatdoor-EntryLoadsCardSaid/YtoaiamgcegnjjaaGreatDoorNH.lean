/- entry.Load of any notes: the walk. No condition but the bounds that it names. -/
import Derived.Test.YtoaiamgcegnjjaaGreatDoorNG
namespace Go.Proofs.YtoaiamgcegnjjaaGreatDoor
open Go.RowKit Go.Maps Go.WideMaps Go.Sort
set_option maxRecDepth 100000
attribute [local go_sem ↓] ld57_fold st57_fold ld39n_fold

def LoadPost13 (w : World) (nx : Int) (es : List RE) (e : Ending) (w' : World) : Prop :=
  (¬ LoadGood nx es ∧ e = .returned (.tuple #[.pointer none, .int .i64 1]) ∧ Below w.heap.size w w') ∨
  (LoadGood nx es ∧ ∃ tb, e = .returned (.tuple #[.pointer (some ⟨tb, 0, none⟩), .int .i64 0]) ∧ Tab w' w.heap.size tb (2 * es.length) (loadT nx (es.map RE.norm)) ∧ Below w.heap.size w w')

theorem tabR_empty (w : World) (nx : Int) (h1 : 1 ≤ nx) (h2 : nx ≤ 1099511627776) : TabR (((w.alloc (.map #[] 0)).alloc (.map #[] 0)).alloc (.cells #[.int .i64 nx, .map (some w.heap.size), .map (some (w.heap.size + 1))] 114)) w.heap.size (w.heap.size + 1 + 1) 0 (loadT0 nx []) w.heap.size (w.heap.size + 1) (fun _ => none) (fun _ => none) (fun _ => none) := by
  have hi : IMap (((w.alloc (.map #[] 0)).alloc (.map #[] 0)).alloc (.cells #[.int .i64 nx, .map (some w.heap.size), .map (some (w.heap.size + 1))] 114)) w.heap.size 0 (fun _ => none) :=
    (IMap.made w).kept (gby_alloc (gby_alloc (gby_refl _ none) _) _) (by simp)
  have hs : SMap (((w.alloc (.map #[] 0)).alloc (.map #[] 0)).alloc (.cells #[.int .i64 nx, .map (some w.heap.size), .map (some (w.heap.size + 1))] 114)) (w.heap.size + 1) 0 (fun _ => none) := by
    have := (SMap.made (w.alloc (.map #[] 0))).kept (gby_alloc (gby_refl _ none) (.cells #[.int .i64 nx, .map (some w.heap.size), .map (some (w.heap.size + 1))] 114)) (by simp)
    simpa using this
  have hb : Blk (((w.alloc (.map #[] 0)).alloc (.map #[] 0)).alloc (.cells #[.int .i64 nx, .map (some w.heap.size), .map (some (w.heap.size + 1))] 114)) (w.heap.size + 1 + 1) 114 #[.int .i64 nx, .map (some w.heap.size), .map (some (w.heap.size + 1))] := by
    have := new2 (w.alloc (.map #[] 0)) (.map #[] 0) 114 #[.int .i64 nx, .map (some w.heap.size), .map (some (w.heap.size + 1))]
    simpa using this
  exact { blk := hb, low := ⟨by omega, by omega, by omega⟩, ne := by omega, imap := hi, smap := hs, ents := (fun _ _ h => by cases h), noent := (fun _ _ => rfl), objs := (fun _ _ h => by cases h), noobj := (fun _ _ => rfl), kinj := (fun _ _ _ h => by cases h), oinj := (fun _ _ _ h => by cases h), rinj := (fun _ _ _ h => by cases h), ids := (fun _ _ h => by cases h), eobj := (fun _ _ h => by cases h), told := (fun _ _ h => by cases h), idlt := (fun _ _ h => by cases h), next := ⟨h1, by show nx ≤ _; omega⟩ }

theorem TabR.put {w w' : World} {base tb m : Nat} {T : TabS} {be bo : Nat} {kf : Int → Option Nat} {of_ rf : ByteArray → Option Nat} (h : TabR w base tb m T be bo kf of_ rf) {g : Nat} {ty : TypeId} {cs : Array Value} (hb : Blk w g ty cs) (hg : w.grownBy w' (some g)) (h1 : ty ≠ 114) (h2 : ty ≠ 125) (h3 : ty ≠ 121) (h4 : ty ≠ 2) (h5 : ty ≠ 9) (h6 : ty ≠ 41) : TabR w' base tb m T be bo kf of_ rf := by
  have nb : ∀ {b : Nat} {t : TypeId} {c : Array Value}, Blk w b t c → t ≠ ty → some g ≠ some b := fun hx hne e => by
    injection e with e
    subst e
    exact hne (Option.some.inj (hx.ty.symm.trans hb.ty))
  refine { h with blk := h.blk.grown hg (nb h.blk (fun e => h1 e.symm)), imap := h.imap.kept hg (fun e => h.imap.no_blk hb (by injection e)), smap := h.smap.kept hg (fun e => h.smap.no_blk hb (by injection e)), ents := fun id g' hk => ?_, objs := fun u g' hu => ?_ }
  · obtain ⟨e, z1, z2, z3⟩ := h.ents id g' hk
    obtain ⟨_, _, _, _, _, _, hb1, _⟩ := z3.cells
    refine ⟨e, z1, z2, z3.kept hg (nb hb1 (fun e => h2 e.symm)) (fun k hk => ?_)⟩
    injection hk with hk
    subst hk
    rw [hb.ty]
    exact ⟨fun e => h5 (Option.some.inj e), fun e => h6 (Option.some.inj e)⟩
  · obtain ⟨o1, z1, z2⟩ := h.objs u g' hu
    obtain ⟨_, _, _, hb1, _⟩ := z2.cells
    refine ⟨o1, z1, z2.kept hg (nb hb1 (fun e => h3 e.symm)) (fun k hk hr => ?_)⟩
    injection hk with hk
    subst hk
    have := h.obj_row hu hr
    rw [hb.ty] at this
    exact h4 (Option.some.inj this)

theorem TabR.iter {w w' : World} {base tb m r : Nat} {T : TabS} {be bo : Nat} {kf : Int → Option Nat} {of_ rf : ByteArray → Option Nat} (h : TabR w base tb m T be bo kf of_ rf) (hty : tyOf w r = none) (hne : r ≠ be ∧ r ≠ bo) (hg : w.grownBy w' (some r)) : TabR w' base tb m T be bo kf of_ rf := by
  have nb : ∀ {b : Nat} {t : TypeId} {c : Array Value}, Blk w b t c → some r ≠ some b := fun hx e => by
    injection e with e
    subst e
    rw [hx.ty] at hty
    cases hty
  refine { h with blk := h.blk.grown hg (nb h.blk), imap := h.imap.kept hg (fun e => hne.1 (by injection e with e; exact e.symm)), smap := h.smap.kept hg (fun e => hne.2 (by injection e with e; exact e.symm)), ents := fun id g' hk => ?_, objs := fun u g' hu => ?_ }
  · obtain ⟨e, z1, z2, z3⟩ := h.ents id g' hk
    obtain ⟨_, _, _, _, _, _, hb1, _⟩ := z3.cells
    refine ⟨e, z1, z2, z3.kept hg (nb hb1) (fun k hk => ?_)⟩
    injection hk with hk
    subst hk
    rw [hty]
    exact ⟨(by simp), (by simp)⟩
  · obtain ⟨o1, z1, z2⟩ := h.objs u g' hu
    obtain ⟨_, _, _, hb1, _⟩ := z2.cells
    refine ⟨o1, z1, z2.kept hg (nb hb1) (fun k hk hr => ?_)⟩
    injection hk with hk
    subst hk
    have := h.obj_row hu hr
    rw [hty] at this
    cases this
theorem ptrV_inj {a b : Option Nat} (h : ptrV a = ptrV b) : a = b := by
  cases a <;> cases b <;> simp [ptrV] at h <;> first | rfl | (rw [h])
theorem ranges_ty {w : World} {k : TypeId} {R : Value → Option (DataW Unit × List MemPlace)} {b r n cnt : Nat} {D : DataW Unit} {left : Lit → Bool} (h : w.ranges Tryz.prog k R b r n D left cnt) : tyOf w r = none ∧ tyOf w b = none ∧ ∀ es cl, w.heap[r]? ≠ some (.map es cl) := by
  obtain ⟨es, clock, since, seen, c0, hb, _, _, _, hr, _⟩ := h
  refine ⟨by simp [tyOf, hr], by simp [tyOf, hb], fun es cl e => ?_⟩
  rw [hr] at e
  cases e

set_option maxHeartbeats 8000000 in
theorem load_any (A : Option Addr) (n c : Nat) (l : List EM) (es : List RE) (nx : Int) (w : World) (hr : Rd w w.heap.size 17 A n (l.flatMap EM.cells)) (hk : ∀ q ∈ l, q.n ≤ q.c ∧ q.n ≤ 1000 ∧ Strs w w.heap.size q.A q.n q.e.ks) (hn : n ≤ 12) (he : l.map (fun q => q.e.bare) = es.map (fun e => e.norm.ent)) (ht : Tb w) :
    Calls Tryz.prog 13 #[.slice A n c, .int .i64 nx] w (LoadPost13 w nx es) := by
  have hpr : PR w w.heap.size 17 A n (l.flatMap EM.cells) := PR.of_old hr (Nat.le_refl _)
  obtain ⟨hl, hrow⟩ := hpr.row EM.cells_len (by decide)
  have hel : es.length = n := by have := congrArg List.length he; simp at this; omega
  have HL := Lib.hid hl
  have HROW := Lib.hid hrow
  have HK := Lib.hid hk
  have HE := Lib.hid he
  have HEL := Lib.hid hel
  have HT := Lib.hid ht
  clear hr hk he ht hpr hl hrow hel
  by_cases a1 : nx < 1
  · have HG : Hid (¬ LoadGood nx es) := fun h => by have := h.1; omega
    go_enter Tryz.func13, Tryz.ntmps13
    go_wp2_with fail
    go_ret2
    exact .inl ⟨HG.out, rfl, Below.refl _ _⟩
  by_cases a2 : 1099511627776 < nx
  · have HG : Hid (¬ LoadGood nx es) := fun h => by have := h.2.1; omega
    go_enter Tryz.func13, Tryz.ntmps13
    go_wp2_with fail
    go_ret2
    exact .inl ⟨HG.out, rfl, Below.refl _ _⟩
  have hmm := @run_makeMap Tryz.prog
  have hb0 : Below w.heap.size w (((w.alloc (.map #[] 0)).alloc (.map #[] 0)).alloc (.cells #[.int .i64 nx, .map (some w.heap.size), .map (some (w.heap.size + 1))] 114)) := (((Below.refl _ _).alloc (Nat.le_refl _) _).alloc (by simp) _).alloc (by simp; omega) _
  have hT0 := tabR_empty w nx (by omega) (by omega)
  have HB0 := Lib.hid hb0
  have HT0 := Lib.hid hT0
  clear hb0 hT0
  go_enter Tryz.func13, Tryz.ntmps13
  go_upto_region 4 with fail
  generalize ((w.alloc (.map #[] 0)).alloc (.map #[] 0)).alloc (.cells #[.int .i64 nx, .map (some w.heap.size), .map (some (w.heap.size + 1))] 114) = w0 at *
  obtain ⟨tb, htb⟩ : ∃ tb, tb = w.heap.size + 1 + 1 := ⟨_, rfl⟩
  rw [← htb] at HT0 ⊢
  have HTB := Lib.hid htb
  clear htb
  go_wp2_with fail
  go_loopw [30] (fun i wr => ∃ (k : Nat) (kf : Int → Option Nat) (of_ rf : ByteArray → Option Nat), k ≤ n ∧ i = .int .i64 k ∧ Hid (GoodUp nx es k) ∧ Hid (Below w.heap.size w wr) ∧ Hid (TabR wr w.heap.size tb (2 * k) (loadT0 nx ((es.take k).map RE.norm)) w.heap.size (w.heap.size + 1) kf of_ rf)) (fun i _ => n - (intOf i).toNat)
  case atStart => exact ⟨0, _, _, _, Nat.zero_le _, rfl, fun i hi h => absurd h (by omega), HB0, HT0⟩
  case round =>
    obtain ⟨k, kf, of_, rf, hk, rfl, HGU, HBR, HTR⟩ := hrel
    by_cases hlt : k < n
    · have hkl : k < l.length := by have := HL.out; omega
      have hke : k < es.length := by have := HEL.out; omega
      obtain ⟨b, o, rfl, hbl, hra⟩ := HROW.out k hkl
      obtain ⟨q1, q2, q3⟩ := HK.out l[k] (List.getElem_mem hkl)
      have hqe : l[k].e.bare = es[k].norm.ent := by
        have h1 : (l.map (fun q => q.e.bare))[k]? = (es.map (fun e => e.norm.ent))[k]? := by rw [HE.out]
        rw [List.getElem?_map, List.getElem?_map, List.getElem?_eq_getElem hkl, List.getElem?_eq_getElem hke] at h1
        injection h1
      have htk : (es.take (k + 1)).map RE.norm = (es.take k).map RE.norm ++ [es[k].norm] := by rw [List.take_succ_eq_append_getElem hke, List.map_append]; rfl
      have hsucc := HGU.out.succ hke
      generalize l[k] = q at *
      generalize hre : es[k] = re at *
      have HRE := Lib.hid hre
      have HQE := Lib.hid hqe
      have HTK := Lib.hid htk
      have HSU := Lib.hid hsucc
      have hWr := HBR.out.size
      have l57 := run_ld57 (w := wr) (b := b) (o := o + k * 17) (q := q) (fun j v hv => (HBR.out.cell (p := ⟨b, o + k * 17 + j, none⟩) hbl).trans (hra j v hv))
      have s57 := run_st57 wr q
      have hbx : Below wr.heap.size wr (wr.alloc (.cells (entC q.e q.A q.n q.c q.tu) 57)) := (Below.refl _ _).alloc (Nat.le_refl _) _
      have kx : Blk (wr.alloc (.cells (entC q.e q.A q.n q.c q.tu) 57)) wr.heap.size 57 (entC q.e q.A q.n q.c q.tu) := Blk.new _ _ _
      have i1 : (0 : Int) ≤ (k : Int) := by omega
      have i2 : (k : Int) < (n : Int) := by omega
      have Q3 := Lib.hid q3
      have HBX := Lib.hid hbx
      have KX := Lib.hid kx
      clear hra hqe htk hsucc hre q3 hbx kx
      go_upto_region 7 with fail
      generalize wr.alloc (.cells (entC q.e q.A q.n q.c q.tu) 57) = wx at *
      have HBWx := Lib.hid (HBR.out.trans (HBX.out.mono hWr))
      have HTx := Lib.hid (HTR.out.grow HBX.out)
      have CT := Lib.hid (text_any q.e q.A q.n q.c q.tu wx (Q3.out.below HBWx.out HBWx.out.size) (Nat.le_trans q2 (by decide)) q1 (HT.out.below HBWx.out))
      have hbase : w.heap.size ≤ wr.heap.size := hWr
      have HID : Hid (q.e.id = re.id) := by
        show q.e.id = re.id
        have : q.e.bare.id = re.norm.ent.id := by rw [HQE.out]
        exact this
      have HGK : Hid (LoadGood nx es → noteOK q.e = true ∧ q.e.id < nx ∧ ∀ a ∈ (es.take k).map RE.norm, a.id ≠ q.e.id) := by
        show LoadGood nx es → _
        rintro ⟨_, _, h⟩
        obtain ⟨h1, h2, h3⟩ := h k hke hke
        rw [HRE.out] at h1 h2
        refine ⟨?_, by rw [HID.out]; exact h2, fun a ha => ?_⟩
        · rw [← HQE.out] at h1
          exact h1
        · obtain ⟨a0, ha0, rfl⟩ := List.mem_map.1 ha
          obtain ⟨j, hj, rfl⟩ := List.mem_iff_getElem.1 ha0
          rw [List.length_take] at hj
          rw [List.getElem_take, HID.out, ← HRE.out]
          exact h3 j (by omega) (by omega)
      clear l57 s57 HBR HTR HBX
      generalize wr.heap.size = gx at *
      have l57 := run_ld57b KX.out
      by_cases hok : noteOK q.e = true
      case neg =>
        have hok : noteOK q.e = false := by simpa using hok
        have HNO : Hid (¬ LoadGood nx es) := fun h => by have := (HGK.out h).1; rw [hok] at this; cases this
        have CT0 := CT.out
        rw [textV_no hok] at CT0
        have CTN := Lib.hid CT0
        clear CT0 hok
        go_wp2_with (go_at_call 38; refine CTN.out.mono ?_; rintro en w2 ⟨rfl, hb2⟩; have HB2 := Lib.hid (HBWx.out.trans (hb2.mono HBWx.out.size)); clear hb2)
        go_quiet (fail)
        go_wp2_with fail
        go_ret2
        exact .inl ⟨HNO.out, rfl, below_drewN HB2.out _⟩
      have HOK := Lib.hid hok
      have CT0 := CT.out
      rw [textV_ok hok] at CT0
      have CTN := Lib.hid CT0
      clear CT0 hok CT
      go_wp2_with (go_at_call 38; refine CTN.out.mono ?_; rintro en w2 ⟨rfl, hb2⟩; have HB2 := Lib.hid (HBWx.out.trans (hb2.mono HBWx.out.size)); have HT2 := Lib.hid (HTx.out.grow hb2); have K2 := Lib.hid (KX.out.below hb2 KX.out.lt); clear hb2)
      have hwf : (Lit.int .i64 q.e.id).wf = true := by
        have := (noteIs HOK.out).id
        simp [Lit.wf, IntKind.min, IntKind.max, IntKind.bits, IntKind.signed]
        omega
      have c20 : w2.cell? ⟨gx, 0, none⟩ = some (.int .i64 q.e.id) := (K2.out.cell 0).trans rfl
      have c2t : w2.cell? ⟨tb, 1, none⟩ = some (.map (some w.heap.size)) := (tab_cells HT2.out.blk).2.1
      have hlk : ∀ d, (Instr.lookup 111 (.map (some w.heap.size)) (.int .i64 q.e.id) false).run Tryz.prog (w2.drewN d) = .ok (ptrV (kf q.e.id)) (w2.drewN d) := fun d => (HT2.out.imap.kept (gby_drewN (gby_refl _ none) d) (by simp)).look hwf
      clear l57
      by_cases hge : nx ≤ q.e.id
      · have HNO : Hid (¬ LoadGood nx es) := fun h => by have := (HGK.out h).2.1; omega
        clear hlk
        go_quiet (fail)
        go_wp2_with fail
        go_ret2
        exact .inl ⟨HNO.out, rfl, below_drewN HB2.out _⟩
      cases hkf : kf q.e.id with
      | some gk =>
        have HNO : Hid (¬ LoadGood nx es) := fun h => by
          obtain ⟨e', he', hid', _⟩ := HT2.out.ents _ _ hkf
          have h3 := (HGK.out h).2.2
          unfold loadT0 at he'
          simp only at he'
          cases hf : ((es.take k).map RE.norm).find? (fun e => e.id == q.e.id) with
          | none => rw [hf] at he'; cases he'
          | some a =>
            have := List.find?_some hf
            exact h3 a (List.mem_of_find?_eq_some hf) (by simpa using this)
        rw [hkf] at hlk
        unfold ptrV at hlk
        clear hkf
        go_quiet (fail)
        go_wp2_with fail
        go_ret2
        exact .inl ⟨HNO.out, rfl, below_drewN HB2.out _⟩
      | none =>
        have HKF := Lib.hid hkf
        rw [hkf] at hlk
        unfold ptrV at hlk
        clear hkf
        go_cut [56] (fun s wy => s = .bool false ∧ ∃ d, wy = w2.drewN d)
        case first =>
          go_quiet (fail)
          go_wp2_with fail
          go_meet
          exact ⟨rfl, _, rfl⟩
        case rest =>
          obtain ⟨rfl, dd, rfl⟩ := hcut
          clear hlk c20 c2t
          have HB3 : Hid (Below w.heap.size w (w2.drewN dd)) := below_drewN HB2.out dd
          have HT3 : Hid (TabR (w2.drewN dd) w.heap.size tb (2 * k) (loadT0 nx ((es.take k).map RE.norm)) w.heap.size (w.heap.size + 1) kf of_ rf) := HT2.out.grow (below_drewN (Below.refl _ _) dd)
          have K3 : Hid (Blk (w2.drewN dd) gx 57 (entC q.e q.A q.n q.c q.tu)) := K2.out
          generalize w2.drewN dd = w3 at *
          have l39 := run_ld39n_ent K3.out
          have CC := Lib.hid (copied_any q.e.t q.e.wk q.e.mo q.e.le q.e.ha q.e.fr q.e.wh q.e.er q.A q.n q.c q.e.ten q.e.kp q.e.ks w3 (Q3.out.below HB3.out HB3.out.size) q2)
          have hs3 := HB3.out.size
          have hx3 := K3.out.lt
          clear HB2 HT2 K2 CTN
          go_wp2_with (go_at_call 45; refine CC.out.mono ?_; rintro en w4 ⟨⟨A', c', rfl, hown', hnc'⟩, hb4⟩; refine Hid.out ?_)
          refine Lib.hid ?_
          have k4 := K3.out.below hb4 K3.out.lt
          have HT4 := Lib.hid (HT3.out.grow hb4)
          have HB4 := Lib.hid (HB3.out.trans (hb4.mono HB3.out.size))
          have HOW := Lib.hid (own_base hown' (show w.heap.size ≤ w3.heap.size from hs3))
          have hs4 := hb4.size
          obtain ⟨d0, d1, d2, d3, d4, d5, d6, d7, d8, d9, d10, d11, d12, d13, d14, d15, d16⟩ := ent_cells k4
          have hfr := k4.free'
          have K4 := Lib.hid k4
          clear hb4 k4 hown' CC l39 K3 HB3 HT3
          go_upto_region 12 with fail
          obtain ⟨w5, hw5⟩ : ∃ x : World, x = (((((((((((((w4.setCell ⟨gx, 2, none⟩ (.string q.e.t)).setCell ⟨gx, 3, none⟩ (.bool q.e.wk)).setCell ⟨gx, 4, none⟩ (.int .i64 q.e.mo)).setCell ⟨gx, 5, none⟩ (.int .i64 q.e.le)).setCell ⟨gx, 6, none⟩ (.int .i64 q.e.ha)).setCell ⟨gx, 7, none⟩ (.int .i64 q.e.fr)).setCell ⟨gx, 8, none⟩ (.int .i64 q.e.wh)).setCell ⟨gx, 9, none⟩ (.int .i64 q.e.er)).setCell ⟨gx, 10, none⟩ (.slice A' q.n c')).setCell ⟨gx, 11, none⟩ (.string q.e.ten)).setCell ⟨gx, 12, none⟩ (.bool q.e.kp)).setCell ⟨gx, 14, none⟩ (.int .i64 0)).setCell ⟨gx, 16, none⟩ (.bool false)) := ⟨_, rfl⟩
          rw [← hw5]
          have hg5 : w4.grownBy w5 (some gx) := by
            rw [hw5]
            exact gby_set (gby_set (gby_set (gby_set (gby_set (gby_set (gby_set (gby_set (gby_set (gby_set (gby_set (gby_set (gby_set (gby_refl _ _) _ _) _ _) _ _) _ _) _ _) _ _) _ _) _ _) _ _) _ _) _ _) _ _) _ _
          have k5 : Blk w5 gx 57 (entC q.e.bare A' q.n c' false) := by
            rw [hw5, ← entC_bare q A' c']
            exact (((((((((((((K4.out.set 2 _).set 3 _).set 4 _).set 5 _).set 6 _).set 7 _).set 8 _).set 9 _).set 10 _).set 11 _).set 12 _).set 14 _).set 16 _)
          rw [HQE.out] at k5
          have HT5 := Lib.hid (HT4.out.put K4.out hg5 (by decide) (by decide) (by decide) (by decide) (by decide) (by decide))
          have HB5 : Hid (Below w.heap.size w w5) := HB4.out.trans (grown_below hg5 (by omega) (fun k hk => by injection hk with hk; omega))
          have ho5 := own_kept HOW.out hg5 (fun k hk hr => by
            injection hr with hr
            subst hr
            have := own_ty HOW.out hk
            rw [K4.out.ty] at this
            simp at this)
          have l57 := run_ld57b (q := ⟨re.norm.ent, A', q.n, c', false⟩) k5
          have HO5 := Lib.hid ho5
          clear hw5 hg5 k5 ho5 d0 d1 d2 d3 d4 d5 d6 d7 d8 d9 d10 d11 d12 d13 d14 d15 d16 hfr HOW HT4 HB4 K4
          have hnote := noteIs HOK.out
          have CA := Lib.hid (add_any HT5.out (e := re.norm.ent) (A := A') (n := q.n) (c := c') (by rw [← HQE.out]; have := hnote.obj; unfold objOK at this; simp only [Bool.and_eq_true, decide_eq_true_eq] at this; show q.e.obj.size ≤ maxLen; unfold maxLen; omega) (by omega) (by show kf re.id = none; rw [← HID.out]; exact HKF.out) (by show 1 ≤ re.id ∧ re.id < nx; rw [← HID.out]; have := hnote.id; omega) (by show (Lit.int .i64 re.id).wf = true; rw [← HID.out]; exact hwf) (by rw [← HQE.out]; have := hnote.few; show q.e.ks.length ≤ 1000; omega) hnc' (by rw [← HQE.out]; exact HO5.out) rfl)
          have HADD : Hid (∀ o, ((loadT0 nx ((es.take k).map RE.norm)).withObj re.norm.obj).objs re.norm.obj = some o → ((loadT0 nx ((es.take k).map RE.norm)).withObj re.norm.obj).addEnt o re.norm.ent = loadT0 nx ((es.take (k + 1)).map RE.norm)) := by
            show ∀ o, _
            intro o ho
            rw [HTK.out, ← withObj_load nx _ re.norm o ho (fun a ha hid => ?_)]
            have hm := (HT5.out.noent q.e.id HKF.out)
            unfold loadT0 at hm
            simp only [Option.map_eq_none_iff, List.find?_eq_none] at hm
            refine hm a ha ?_
            rw [hid, HID.out]
            show (re.id == re.id) = true
            simp
          clear hnote
          go_wp2_with (go_at_call 46; refine CA.out.mono ?_; rintro en w6 ⟨rfl, hkp6, o6, kb6, of6, rf6, ho6, hgg6, hT6⟩; refine Hid.out ?_)
          refine Lib.hid ?_
          have HB6 : Hid (Below w.heap.size w w6) := HB5.out.trans hkp6.below
          have hT6' := hT6
          rw [show ((loadT0 nx ((es.take k).map RE.norm)).withObj re.norm.ent.obj).addEnt o6 re.norm.ent = loadT0 nx ((es.take (k + 1)).map RE.norm) from HADD.out o6 ho6] at hT6'
          have HT6 := Lib.hid hT6'
          have HGU6 : Hid (GoodUp nx es (k + 1)) := by
            show GoodUp nx es (k + 1)
            refine HSU.out ?_ ?_ ?_
            · rw [← HQE.out]; exact HOK.out
            · rw [← HID.out]; omega
            · intro j hj hjk e
              have hm := (HT5.out.noent q.e.id HKF.out)
              unfold loadT0 at hm
              simp only [Option.map_eq_none_iff, List.find?_eq_none] at hm
              refine hm es[j].norm (List.mem_map.2 ⟨es[j], List.mem_iff_getElem.2 ⟨j, by rw [List.length_take]; omega, by rw [List.getElem_take]⟩, rfl⟩) ?_
              show (es[j].id == q.e.id) = true
              rw [e, HID.out]
              simp
          clear hT6 hT6' hkp6 ho6 hgg6 CA l57 HADD
          go_wp2_with fail
          go_roundw
          case rel => exact ⟨k + 1, _, of6, rf6, by omega, by go_num, HGU6, HB6, HT6⟩
          case measure => simp [intOf]; omega
    · obtain rfl : k = n := by omega
      have c2t : wr.cell? ⟨tb, 2, none⟩ = some (.map (some (w.heap.size + 1))) := (tab_cells HTR.out.blk).2.2
      obtain ⟨L, hL⟩ : ∃ L, L = es.map RE.norm := ⟨_, rfl⟩
      have hTL : TabR wr w.heap.size tb (2 * k) (loadT0 nx L) w.heap.size (w.heap.size + 1) kf of_ rf := by
        have := HTR.out
        rw [List.take_of_length_le (by have := HEL.out; omega), ← hL] at this
        exact this
      obtain ⟨D, hown, hDf⟩ := hTL.smap
      have HTL := Lib.hid hTL
      have HDF := Lib.hid hDf
      have hgood : GoodUp nx es es.length := by rw [HEL.out]; exact HGU.out
      have HGOOD : Hid (LoadGood nx es) := ⟨by omega, by omega, hgood⟩
      have HOSZ : Hid (∀ s, ((loadT0 nx L).objs s).isSome → s.size ≤ maxLen ∧ (loadT0 nx L).objs s = some { mom := -1, told := 0, ids := idsOf (L.map RE.key) s } ∧ L.any (fun e => decide (e.obj = s)) = true) := by
        show ∀ s, _
        intro s hs
        unfold loadT0 at hs ⊢
        simp only at hs ⊢
        by_cases ha : L.any (fun e => decide (e.obj = s)) = true
        · rw [if_pos ha]
          obtain ⟨a, hm, hb⟩ := List.any_eq_true.1 ha
          rw [hL, List.mem_map] at hm
          obtain ⟨a0, hm0, rfl⟩ := hm
          obtain ⟨i, hi, rfl⟩ := List.mem_iff_getElem.1 hm0
          have hnt := (noteIs (hgood i hi hi).1).obj
          have hob : es[i].norm.obj = s := of_decide_eq_true hb
          unfold objOK at hnt
          simp only [Bool.and_eq_true, decide_eq_true_eq] at hnt
          have h2 : es[i].norm.ent.obj.size ≤ 200 := hnt.1.1.2
          have h3 : s.size ≤ 200 := by rw [← hob]; exact h2
          exact ⟨by unfold maxLen; omega, rfl, ha⟩
        · rw [if_neg ha] at hs
          cases hs
      have HLL := Lib.hid hL
      have hbr := HBR.out
      have hWr := hbr.size
      clear hTL hDf hgood hL HTR hmm
      go_wp2_with (first
        | (at_range; refine wpList_range_own _ rfl _ 112 rfl 9 118 keyed9 Tryz.underlying112 ptrElem (w.heap.size + 1) (2 * k) D rfl hown ?_; intro w0 hrg0 hg0 hs0))
      go_frame
      have hT0 : TabR w0 w.heap.size tb (2 * k) (loadT0 nx L) w.heap.size (w.heap.size + 1) kf of_ rf := HTL.out.grow ⟨hg0.os, hg0.tape, hg0.output, hg0.size, fun j hj => hg0.block j hj (by simp)⟩
      have hstart : midT nx L (Maps.has D) = loadT0 nx L := midT_start (fun s hs => by
        obtain ⟨h1, _⟩ := HOSZ.out s hs
        rw [(HDF.out s h1).2]
        cases ho : of_ s with
        | some g => rfl
        | none => rw [HTL.out.noobj s ho] at hs; cases hs)
      rw [← hstart] at hT0
      have HT0' := Lib.hid hT0
      have HRG0 := Lib.hid hrg0
      have HB00 : Hid (Below w.heap.size w w0) := hbr.trans ⟨hg0.os, hg0.tape, hg0.output, hg0.size, fun j hj => hg0.block j (by omega) (by simp)⟩
      clear hT0 hrg0 hg0 hs0 hbr hown hstart c2t HTL
      generalize hri : wr.heap.size = ri at *
      have HRI : Hid (w.heap.size ≤ ri) := by show w.heap.size ≤ ri; omega
      clear hri
      go_loopw [12] (fun _ wr2 => ∃ (left : Lit → Bool) (cnt : Nat), Hid (wr2.ranges Tryz.prog 9 ptrElem (w.heap.size + 1) ri (2 * k) D left cnt) ∧ Hid (TabR wr2 w.heap.size tb (2 * k) (midT nx L left) w.heap.size (w.heap.size + 1) kf of_ rf) ∧ Hid (Below w.heap.size w wr2) ∧ Hid (∀ kl, left kl = true → Maps.has D kl = true)) (fun _ wr2 => wr2.rangeLeft (w.heap.size + 1) ri)
      case atStart => exact ⟨_, _, HRG0, HT0', HB00, fun _ h => h⟩
      case round =>
        obtain ⟨left, cnt, HRG, HT2, HB2, HLF⟩ := hrel
        go_wp2_with (first
          | (at_next; refine wpList_next_ranges _ rfl _ rfl 9 keyed9 ptrElem Value.string ptrV (fun key kl h => let ⟨s, h1, _⟩ := key9_inv h; ⟨s, h1⟩) (fun v y h => let ⟨c, h1, _⟩ := ptr_shape h; ⟨c, h1⟩) (w.heap.size + 1) ri (2 * k) D left cnt rfl HRG.out ?_ ?_))
        · intro _ hl0
          have HEND : Hid (midT nx L left = loadT nx L) := midT_end hl0
          clear hl0
          go_wp2_with fail
          go_ret2
          refine .inr ⟨HGOOD.out, tb, rfl, ?_, HB2.out⟩
          have h := HT2.out
          rw [HEND.out, HLL.out] at h
          rw [HEL.out]
          exact ⟨_, _, _, _, _, h⟩
        · intro x cc kl y1 y2 w1 cnt1 hkey hlk hv hat hrg1 hlt1 hg1 hs1 hen
          obtain ⟨x', ex, rfl, hxs⟩ := key9_inv hkey
          injection ex with ex
          subst ex
          obtain ⟨c', ec, hy⟩ := ptr_shape hv
          obtain rfl : cc = c' := ptrV_inj ec
          obtain ⟨hD1, hD2⟩ := HDF.out x hxs
          have hcc : of_ x = cc := encP_inj (hD1.symm.trans ((hat .nil).trans hy))
          have hsome : (of_ x).isSome = true := by rw [← hD2]; exact HLF.out _ hlk
          obtain ⟨g, hg⟩ := Option.isSome_iff_exists.1 hsome
          have hcg : cc = some g := hcc.symm.trans hg
          subst hcg
          obtain ⟨hty1, hty2, hnm⟩ := ranges_ty HRG.out
          have hri1 := HRG.out.ne
          have hT1 := HT2.out.iter hty1 ⟨fun e => by
            obtain ⟨Di, ⟨es', cl', hm, _⟩, _⟩ := HT2.out.imap
            exact hnm es' cl' (by rw [e]; exact hm), hri1⟩ hg1
          obtain ⟨o', ho', hO'⟩ := hT1.objs x g hg
          have hob0 : ((loadT0 nx L).objs x).isSome := by
            cases hq : (loadT0 nx L).objs x with
            | some _ => rfl
            | none =>
              have : (midT nx L left).objs x = none := by unfold midT; simp only; rw [hq]; rfl
              rw [this] at ho'; cases ho'
          obtain ⟨_, hobj, hany⟩ := HOSZ.out x hob0
          have hoe : o' = { mom := -1, told := 0, ids := idsOf (L.map RE.key) x } := by
            have : (midT nx L left).objs x = some { mom := -1, told := 0, ids := idsOf (L.map RE.key) x } := by
              unfold midT
              simp only
              rw [hobj, Option.map_some, if_pos hlk]
            rw [this] at ho'
            injection ho' with ho'
            exact ho'.symm
          have hidn : 0 < (idsOf (L.map RE.key) x).length := by
            obtain ⟨a, ha, hb⟩ := List.any_eq_true.1 hany
            rw [idsOf_eq, List.length_map]
            exact List.length_pos_of_mem (List.mem_filter.2 ⟨ha, hb⟩)
          obtain ⟨hidm, hidq⟩ := hT1.ids x o' ho'
          subst hoe
          generalize hids : idsOf (L.map RE.key) x = ids at *
          have HFIN : Hid (finO (loadT0 nx L).ents { mom := -1, told := 0, ids := ids } = { mom := 0, told := bestI (loadT0 nx L).ents ((sortI ids).headD 0) (sortI ids), ids := sortI ids }) := rfl
          have HOBJ := Lib.hid hobj
          have HLK := Lib.hid hlk
          obtain ⟨A1, n1, c1, hbk, hnc1, hown1, hrow1⟩ := hO'.cells
          have hn1 : ids.length = n1 := by have := own_len hown1; simpa using this
          obtain ⟨r1, rfl⟩ := own_addr hown1 (by omega)
          have hr1 : rf x = some r1 := hrow1.symm
          have k02 : w1.cell? ⟨g, 2, none⟩ = some (.slice (some ⟨r1, 0, none⟩) n1 c1) := (hbk.cell 2).trans rfl
          have hgl := hbk.lt
          have HBK := Lib.hid hbk
          have HOWN1 := Lib.hid hown1
          have HT1 := Lib.hid hT1
          have HRG1 := Lib.hid hrg1
          have HG := Lib.hid hg
          have HR1 := Lib.hid hr1
          have HIDQ := Lib.hid hidq
          have HHO := Lib.hid ho'
          have hnk : n1 ≤ 24 := by have : ids.length ≤ 2 * k := hidm; omega
          have HN1 := Lib.hid hn1
          have HLT1 := Lib.hid hlt1
          have hposn : 0 < n1 := by omega
          have HB1 : Hid (Below w.heap.size w w1) := HB2.out.trans (grown_below hg1 HB2.out.size (fun j hj => by injection hj with hj; have := HRI.out; omega))
          have CS := Lib.hid (sort_own hown1 (by omega) (by omega))
          simp only [ptrV] at hen
          clear hkey hv hat hlk hy hD1 hD2 hcc hsome hg hty1 hty2 hnm hri1 hT1 ho' hO' hob0 hobj hany hidn hidm hidq hbk hown1 hrow1 hr1 hrg1 hg1 hs1 hlt1 hn1 hids ec
          go_wp2_with (go_at_call 47; refine CS.out.mono ?_; rintro en w2 ⟨rfl, hown2, hg2⟩; refine Hid.out ?_)
          refine Lib.hid ?_
          obtain ⟨S, hS⟩ : ∃ S, S = sortI ids := ⟨_, rfl⟩
          rw [← hS] at hown2 HFIN
          have hSlen : S.length = n1 := by have h1 := HN1.out; rw [hS]; simp [sortI]; omega
          have hSmem : ∀ i ∈ S, i ∈ ids := fun i hi => by rw [hS] at hi; exact List.mem_mergeSort.1 hi
          have hT2 : TabR w2 w.heap.size tb (2 * k) ((midT nx L left).setObj x { mom := -1, told := 0, ids := S }) w.heap.size (w.heap.size + 1) kf of_ rf :=
            HT1.out.sortObj HG.out HHO.out HR1.out hg2 (by have h1 := HN1.out; simp only; omega) hSmem (fun A2 n2 c2 ho hr hb => by
              have e := hb.symm.trans HBK.out
              simp only [Option.some.injEq, Obj.cells.injEq, Array.mk.injEq, List.cons.injEq, Value.slice.injEq, and_true, true_and] at e
              obtain ⟨rfl, rfl, rfl⟩ := e
              exact hown2)
          have hne1 : r1 ≠ g := fun e => by
            have h1 := HT1.out.obj_row HG.out HR1.out
            rw [e, HBK.out.ty] at h1
            simp at h1
          have hk2 : Blk w2 g 121 #[.int .i64 (-1), .int .i64 0, .slice (some ⟨r1, 0, none⟩) n1 c1] := HBK.out.grown hg2 (fun e => hne1 (by injection e))
          have hr1t := HT1.out.obj_row HG.out HR1.out
          have hrg2 : w2.ranges Tryz.prog 9 ptrElem (w.heap.size + 1) ri (2 * k) D (fun z => left z && !z.sameKey (.string x.data.toList)) cnt1 := by
            obtain ⟨t1, t2, _⟩ := ranges_ty HRG1.out
            exact HRG1.out.kept hg2 (fun e => by injection e with e; rw [e, hr1t] at t2; cases t2) (fun e => by injection e with e; rw [e, hr1t] at t1; cases t1)
          have hb2 : Below w.heap.size w w2 := HB1.out.trans (grown_below hg2 HB1.out.size (fun j hj => by injection hj with hj; have := (HOWN1.out.lt r1 rfl).1; omega))
          obtain ⟨s0, hs0⟩ : ∃ s0, S[0]? = some s0 := ⟨S[0]'(by omega), List.getElem?_eq_getElem _⟩
          have hs0h : S.headD 0 = s0 := by cases S with
            | nil => simp at hs0
            | cons a l => simp at hs0; simpa using hs0
          have k22 : w2.cell? ⟨g, 2, none⟩ = some (.slice (some ⟨r1, 0, none⟩) n1 c1) := (hk2.cell 2).trans rfl
          have k20 : w2.cell? ⟨g, 0, none⟩ = some (.int .i64 (-1)) := (hk2.cell 0).trans rfl
          have k21 : w2.cell? ⟨g, 1, none⟩ = some (.int .i64 0) := (hk2.cell 1).trans rfl
          have q00 : w2.cell? ⟨r1, 0, none⟩ = some (.int .i64 s0) := by
            have := hown2.cellAt 0 (by omega)
            rw [this, List.getElem?_map, hs0]
            rfl
          have hfr := hk2.free'
          have hpos : (0 : Int) < (n1 : Int) := by omega
          have HOWN2 := Lib.hid hown2
          have HT2' := Lib.hid hT2
          have HK2 := Lib.hid hk2
          have HRG2 := Lib.hid hrg2
          have HB2' := Lib.hid hb2
          have HSL := Lib.hid hSlen
          have HSM := Lib.hid hSmem
          have HS0 := Lib.hid hs0
          have HS0H := Lib.hid hs0h
          have HNE1 := Lib.hid hne1
          have HR1T : Hid (tyOf w2 r1 = some 2) := own_ty hown2 rfl
          clear hown2 hg2 hS hSlen hSmem hT2 hne1 hk2 hr1t hrg2 hb2 hs0 hs0h CS HOWN1 HT1 HRG1 HB1 HHO k02 hen HBK
          go_upto_region 19 with fail
          obtain ⟨w3, hw3⟩ : ∃ y : World, y = (w2.setCell ⟨g, 0, none⟩ (.int .i64 0)).setCell ⟨g, 1, none⟩ (.int .i64 s0) := ⟨_, rfl⟩
          rw [← hw3]
          have hg3 : w2.grownBy w3 (some g) := by rw [hw3]; exact gby_set (gby_set (gby_refl _ _) _ _) _ _
          have hk3 : Blk w3 g 121 #[.int .i64 0, .int .i64 s0, .slice (some ⟨r1, 0, none⟩) n1 c1] := by rw [hw3]; exact (HK2.out.set 0 _).set 1 _
          have hT3 := HT2'.out.updObj (s := x) (g := g) (o := { mom := -1, told := 0, ids := S }) HG.out (by unfold TabS.setObj; simp) hg3 (mo := 0) (td := s0) ((HIDQ.out s0 (HSM.out s0 (List.mem_of_getElem? HS0.out))).1) (fun A2 n2 c2 hb => by
            have e := hb.symm.trans HK2.out
            simp only [Option.some.injEq, Obj.cells.injEq, Array.mk.injEq, List.cons.injEq, Value.slice.injEq, and_true, true_and] at e
            obtain ⟨rfl, rfl, rfl⟩ := e
            exact hk3)
          rw [setObj_twice] at hT3
          have ho3 := own_kept HOWN2.out hg3 (fun j hj hr => by
            injection hr with hr
            have : r1 = j := by simpa [Value.ownBlock] using hj
            exact HNE1.out (this.trans hr.symm))
          have hrg3 : w3.ranges Tryz.prog 9 ptrElem (w.heap.size + 1) ri (2 * k) D (fun z => left z && !z.sameKey (.string x.data.toList)) cnt1 := by
            obtain ⟨t1, t2, _⟩ := ranges_ty HRG2.out
            have hgt : tyOf w2 g = some 121 := HK2.out.ty
            exact HRG2.out.kept hg3 (fun e => by injection e with e; rw [e, hgt] at t2; cases t2) (fun e => by injection e with e; rw [e, hgt] at t1; cases t1)
          have hgb : w.heap.size ≤ g := by
            obtain ⟨o2, _, hO2⟩ := HT2'.out.objs x g HG.out
            exact hO2.low
          have hb3 : Below w.heap.size w w3 := HB2'.out.trans (grown_below hg3 HB2'.out.size (fun j hj => by injection hj with hj; omega))
          have k32 : w3.cell? ⟨g, 2, none⟩ = some (.slice (some ⟨r1, 0, none⟩) n1 c1) := (hk3.cell 2).trans rfl
          have HT3 := Lib.hid hT3
          have HK3 := Lib.hid hk3
          have HO3 := Lib.hid ho3
          have HRG3 := Lib.hid hrg3
          have HB3 := Lib.hid hb3
          clear hw3 hg3 hk3 hT3 ho3 hrg3 hb3 k22 k20 k21 q00 hfr HOWN2 HT2' HK2 HRG2 HB2' HR1T
          go_wp2_with fail
          go_loopw [98] (fun i wr3 => ∃ (j : Nat) (t : Int), j ≤ n1 ∧ i = .int .i64 j ∧ Hid (t = bestI (loadT0 nx L).ents s0 (S.take j)) ∧ Hid (t ∈ S) ∧ Hid (TabR wr3 w.heap.size tb (2 * k) ((midT nx L left).setObj x { mom := 0, told := t, ids := S }) w.heap.size (w.heap.size + 1) kf of_ rf) ∧ Hid (Blk wr3 g 121 #[.int .i64 0, .int .i64 t, .slice (some ⟨r1, 0, none⟩) n1 c1]) ∧ Hid (wr3.ownsRow w.heap.size 2 1 (.slice (some ⟨r1, 0, none⟩) n1 c1) n1 (S.map (Value.int .i64))) ∧ Hid (wr3.ranges Tryz.prog 9 ptrElem (w.heap.size + 1) ri (2 * k) D (fun z => left z && !z.sameKey (.string x.data.toList)) cnt1) ∧ Hid (Below w.heap.size w wr3)) (fun i _ => n1 - (intOf i).toNat)
          case atStart => exact ⟨0, s0, Nat.zero_le _, rfl, rfl, List.mem_of_getElem? HS0.out, HT3, HK3, HO3, HRG3, HB3⟩
          case round =>
            obtain ⟨j, t, hj, rfl, HTQ, HTM, HT4, HK4, HO4, HRG4, HB4⟩ := hrel
            by_cases hjn : j < n1
            · have hjS : j < S.length := by have := HSL.out; omega
              have htk : S.take (j + 1) = S.take j ++ [S[j]] := List.take_succ_eq_append_getElem hjS
              have hidm : S[j] ∈ S := List.getElem_mem hjS
              have hcj : wr.cell? ⟨r1, j, none⟩ = some (.int .i64 S[j]) := by
                have := HO4.out.cellAt j (by omega)
                rw [this, List.getElem?_map, List.getElem?_eq_getElem hjS]
                rfl
              obtain ⟨hwf1, ea, hea, _⟩ := HIDQ.out _ (HSM.out _ hidm)
              obtain ⟨hwf2, eb, heb, _⟩ := HIDQ.out _ (HSM.out _ HTM.out)
              generalize S[j] = id at *
              have h4 := HT4.out
              obtain ⟨ga, hka⟩ := h4.kf_some (id := id) (by show ((midT nx L left).ents id).isSome = true; rw [hea]; rfl)
              obtain ⟨gb, hkb⟩ := h4.kf_some (id := t) (by show ((midT nx L left).ents t).isSome = true; rw [heb]; rfl)
              obtain ⟨ea', hea', hia, hKa⟩ := h4.ents id ga hka
              obtain ⟨eb', heb', hib, hKb⟩ := h4.ents t gb hkb
              obtain rfl : ea' = ea := Option.some.inj (hea'.symm.trans hea)
              obtain rfl : eb' = eb := Option.some.inj (heb'.symm.trans heb)
              obtain ⟨_, _, _, _, _, _, hba, _⟩ := hKa.cells
              obtain ⟨_, _, _, _, _, _, hbb, _⟩ := hKb.cells
              have hBN := bestI_snoc (loadT0 nx L).ents s0 (S.take j) id
              rw [← htk, ← HTQ.out, show (loadT0 nx L).ents id = some ea' from hea, show (loadT0 nx L).ents t = some eb' from heb] at hBN
              have hla : ∀ d, (Instr.lookup 111 (.map (some w.heap.size)) (.int .i64 id) false).run Tryz.prog (wr.drewN d) = .ok (.pointer (some ⟨ga, 0, none⟩)) (wr.drewN d) := fun d => by
                have := (h4.imap.kept (gby_drewN (gby_refl _ none) d) (by simp)).look hwf1
                rw [hka] at this
                exact this
              have hlb : ∀ d, (Instr.lookup 111 (.map (some w.heap.size)) (.int .i64 t) false).run Tryz.prog (wr.drewN d) = .ok (.pointer (some ⟨gb, 0, none⟩)) (wr.drewN d) := fun d => by
                have := (h4.imap.kept (gby_drewN (gby_refl _ none) d) (by simp)).look hwf2
                rw [hkb] at this
                exact this
              have ctb : wr.cell? ⟨tb, 1, none⟩ = some (.map (some w.heap.size)) := (tab_cells h4.blk).2.1
              have cg1 : wr.cell? ⟨g, 1, none⟩ = some (.int .i64 t) := (HK4.out.cell 1).trans rfl
              have HBA := Lib.hid hba
              have HBB := Lib.hid hbb
              have HIA := Lib.hid hia
              have HIB := Lib.hid hib
              have HBN : Hid (bestI (loadT0 nx L).ents s0 (S.take (j + 1)) = if newerE ea' eb' then id else t) := hBN
              have HWF1 := Lib.hid hwf1
              have HIDM := Lib.hid hidm
              have i1 : (0 : Int) ≤ (j : Int) := by omega
              have i2 : (j : Int) < (n1 : Int) := by omega
              clear htk hidm hwf1 hwf2 hea heb h4 hka hkb hea' heb' hia hib hKa hKb hba hbb hBN
              go_upto_region 22 with fail
              go_cut [15, 16] (fun a b wy => a = .pointer (some ⟨ga, 0, none⟩) ∧ b = .pointer (some ⟨gb, 0, none⟩) ∧ ∃ d, wy = wr.drewN d)
              case first =>
                go_quiet (fail)
                go_wp2_with fail
                go_meet
                exact ⟨rfl, rfl, _, rfl⟩
              case rest =>
                obtain ⟨rfl, rfl, dd, rfl⟩ := hcut
                clear hla hlb ctb cg1 hcj
                have F23 : Hid (∀ wy, Below wr.heap.size wr wy → wy.cell? ⟨ga, 15, none⟩ = some (.int .i64 ea'.gen) ∧ wy.cell? ⟨gb, 15, none⟩ = some (.int .i64 eb'.gen) ∧ wy.cell? ⟨ga, 13, none⟩ = some (.int .i64 ea'.said) ∧ wy.cell? ⟨gb, 13, none⟩ = some (.int .i64 eb'.said) ∧ wy.cell? ⟨ga, 0, none⟩ = some (.int .i64 ea'.id) ∧ wy.cell? ⟨gb, 0, none⟩ = some (.int .i64 eb'.id)) := by
                  show ∀ wy, Below wr.heap.size wr wy → _
                  intro wy hb
                  have ha := HBA.out.below hb HBA.out.lt
                  have hb' := HBB.out.below hb HBB.out.lt
                  exact ⟨(ha.cell 15).trans rfl, (hb'.cell 15).trans rfl, (ha.cell 13).trans rfl, (hb'.cell 13).trans rfl, (ha.cell 0).trans rfl, (hb'.cell 0).trans rfl⟩
                have hb5 : Below wr.heap.size wr (wr.drewN dd) := below_drewN (Below.refl _ _) dd
                generalize wr.drewN dd = w5 at *
                have HB5 := Lib.hid hb5
                have hs5 := hb5.size
                clear hb5
                go_upto_region 23 with fail
                go_cut [152] (fun s wy => s = .bool (newerE ea' eb') ∧ Below wr.heap.size wr wy)
                case first =>
                  go_region_held3 (fun wy => wy.cell? ⟨ga, 15, none⟩ = some (.int .i64 ea'.gen) ∧ wy.cell? ⟨gb, 15, none⟩ = some (.int .i64 eb'.gen) ∧ wy.cell? ⟨ga, 13, none⟩ = some (.int .i64 ea'.said) ∧ wy.cell? ⟨gb, 13, none⟩ = some (.int .i64 eb'.said) ∧ wy.cell? ⟨ga, 0, none⟩ = some (.int .i64 ea'.id) ∧ wy.cell? ⟨gb, 0, none⟩ = some (.int .i64 eb'.id))
                    (first
                      | exact F23.out _ (below_drewN HB5.out _)
                      | exact F23.out _ ((below_drewN HB5.out _).alloc (by simp; omega) _)
                      | exact F23.out _ HB5.out.drew
                      | exact F23.out _ HB5.out)
                    (first
                      | (go_at_call 49; refine (comparen_any _ _ _).mono ?_; rintro en w6 ⟨rfl, rfl⟩)
                      | (go_at_call 48; refine (or3_any _ _ _ _ _ (by exact Blk.new _ 3 _)).mono ?_; rintro en w6 ⟨rfl, rfl⟩))
                  all_goals
                    go_wp2_with fail
                    go_meet
                    exact ⟨congrArg Value.bool (newer_or ea' eb'), (HB5.out.alloc hs5 _).drew⟩
                case rest =>
                  obtain ⟨rfl, hb6⟩ := hcut
                  generalize wc = w6 at *
                  have hT6 := HT4.out.grow hb6
                  have hK6 := HK4.out.below hb6 HK4.out.lt
                  have hO6 := own_kept HO4.out (gby_of_below hb6) (fun _ _ e => by cases e)
                  have hR6 := HRG4.out.kept (gby_of_below hb6) (by simp) (by simp)
                  have hB6 := HB4.out.trans (hb6.mono HB4.out.size)
                  have HT6 := Lib.hid hT6
                  have HK6 := Lib.hid hK6
                  have HO6 := Lib.hid hO6
                  have HR6 := Lib.hid hR6
                  have HB6 := Lib.hid hB6
                  clear hb6 hT6 hO6 hR6 hB6 HB5 F23 hs5
                  cases hnw : newerE ea' eb' with
                  | false =>
                    have HTQ2 : Hid (t = bestI (loadT0 nx L).ents s0 (S.take (j + 1))) := by
                      show t = _
                      rw [HBN.out, hnw]
                      rfl
                    clear hnw hK6
                    go_wp2_with fail
                    go_roundw
                    case rel => exact ⟨j + 1, t, by omega, by go_num, HTQ2, HTM, HT6, HK6, HO6, HR6, HB6⟩
                    case measure => simp [intOf]; omega
                  | true =>
                    have HTQ2 : Hid (id = bestI (loadT0 nx L).ents s0 (S.take (j + 1))) := by
                      show id = _
                      rw [HBN.out, hnw]
                      rfl
                    have k61 : w6.cell? ⟨g, 1, none⟩ = some (.int .i64 t) := (hK6.cell 1).trans rfl
                    have hfr := hK6.free'
                    have hg7 : w6.grownBy (w6.setCell ⟨g, 1, none⟩ (.int .i64 id)) (some g) := gby_set (gby_refl _ _) _ _
                    have hK7 : Blk (w6.setCell ⟨g, 1, none⟩ (.int .i64 id)) g 121 #[.int .i64 0, .int .i64 id, .slice (some ⟨r1, 0, none⟩) n1 c1] := HK6.out.set 1 _
                    have hT7 := HT6.out.updObj (s := x) (g := g) (o := { mom := 0, told := t, ids := S }) HG.out (by unfold TabS.setObj; simp) hg7 (mo := 0) (td := id) HWF1.out (fun A2 n2 c2 hb => by
                      have e := hb.symm.trans HK6.out
                      simp only [Option.some.injEq, Obj.cells.injEq, Array.mk.injEq, List.cons.injEq, Value.slice.injEq, and_true, true_and] at e
                      obtain ⟨rfl, rfl, rfl⟩ := e
                      exact hK7)
                    rw [setObj_twice] at hT7
                    have hO7 := own_kept HO6.out hg7 (fun jj hj hr => by
                      injection hr with hr
                      have : r1 = jj := by simpa [Value.ownBlock] using hj
                      exact HNE1.out (this.trans hr.symm))
                    have hR7 : (w6.setCell ⟨g, 1, none⟩ (.int .i64 id)).ranges Tryz.prog 9 ptrElem (w.heap.size + 1) ri (2 * k) D (fun z => left z && !z.sameKey (.string x.data.toList)) cnt1 := by
                      obtain ⟨t1, t2, _⟩ := ranges_ty HR6.out
                      have hgt : tyOf w6 g = some 121 := HK6.out.ty
                      exact HR6.out.kept hg7 (fun e => by injection e with e; rw [e, hgt] at t2; cases t2) (fun e => by injection e with e; rw [e, hgt] at t1; cases t1)
                    have hB7 : Below w.heap.size w (w6.setCell ⟨g, 1, none⟩ (.int .i64 id)) := HB6.out.trans (grown_below hg7 HB6.out.size (fun jj hj => by injection hj with hj; omega))
                    have HT7 := Lib.hid hT7
                    have HK7 := Lib.hid hK7
                    have HO7 := Lib.hid hO7
                    have HR7 := Lib.hid hR7
                    have HB7 := Lib.hid hB7
                    clear hnw hK6 hg7 hK7 hT7 hO7 hR7 hB7
                    go_wp2_with fail
                    go_roundw
                    case rel => exact ⟨j + 1, id, by omega, by go_num, HTQ2, HIDM, HT7, HK7, HO7, HR7, HB7⟩
                    case measure => simp [intOf]; omega
            · obtain rfl : j = n1 := by omega
              have HFT : Hid (TabR wr w.heap.size tb (2 * k) (midT nx L (fun z => left z && !z.sameKey (.string x.data.toList))) w.heap.size (w.heap.size + 1) kf of_ rf) := by
                show TabR wr w.heap.size tb (2 * k) _ _ _ _ _ _
                rw [← midT_step HOBJ.out, HFIN.out, HS0H.out]
                have h := HT4.out
                rw [HTQ.out, List.take_of_length_le (by have := HSL.out; omega)] at h
                exact h
              have HLF2 : Hid (∀ kl, (left kl && !kl.sameKey (.string x.data.toList)) = true → Maps.has D kl = true) := fun kl h => HLF.out kl (by rw [Bool.and_eq_true] at h; exact h.1)
              go_wp2_with fail
              go_roundw
              case rel => exact ⟨_, cnt1, HRG4, HFT, HB4, HLF2⟩
              case measure => rw [HRG4.out.left_eq, HRG.out.left_eq]; exact HLT1.out
end Go.Proofs.YtoaiamgcegnjjaaGreatDoor
