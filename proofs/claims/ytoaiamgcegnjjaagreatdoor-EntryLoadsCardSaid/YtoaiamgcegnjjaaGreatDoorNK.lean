/- The reference's Load of any notes. No condition but the bounds that it names. -/
import Derived.Test.YtoaiamgcegnjjaaGreatDoorNJ
import Derived.Test.YtoaiamgcegnjjaaGreatDoorNG
namespace Go.Proofs.YtoaiamgcegnjjaaGreatDoor
open Go.RowKit Go.Maps Go.WideMaps Go.Sort
set_option maxRecDepth 100000
def ld32r (p : Value) : Sem Value := Instr.loadAt 32 p
theorem ld32r_fold (p : Value) : Instr.loadAt 32 p = ld32r p := rfl
attribute [local go_sem ↓] ld54_fold st54_fold st32_fold ld32r_fold
theorem run_ld32r {w : World} {g : Nat} {cs : Array Value} (h : Blk w g 32 cs) (hs : cs.size = 3) : (ld32r (.pointer (some ⟨g, 0, none⟩))).run Tryz.prog w = .ok (.agg cs) w := by
  have := run_loadAt_mid w g 0 32 cs.toList _ (fun j v hj => by rw [Nat.zero_add, h.cell]; simpa using hj) Tryz.underlying32 rfl (by rw [Array.length_toList, hs]; exact size32)
  unfold ld32r
  simpa using this
theorem run_st54n (w : World) (r : RM) : (st54 (.pointer (some ⟨w.heap.size, 0, none⟩)) (.agg r.row)).run Tryz.prog (w.alloc (.cells zero54 54)) = .ok () (w.alloc (.cells r.row 54)) := by
  have := run_st54 (r := r) (Blk.new w 54 zero54) rfl
  rw [World.setRow_alloc_new] at this
  exact this
theorem row_norm (r : RM) : ((r.row.setIfInBounds 14 (.int .i64 0)).setIfInBounds 16 (.bool false)).setIfInBounds 17 (.slice none 0 0) = r.norm.row := rfl

/-- a row of the list that came in -/
structure RM.In (w : World) (B : Nat) (r : RM) : Prop where
  keys : Strs w B r.kA r.kn r.e.M.ks
  nc : r.kn ≤ r.kc
  few : r.kn ≤ 1000
  sz : r.e.M.Sz
theorem RM.In.ok {w wr : World} {B : Nat} {r : RM} (h : r.In w B) (hB : B ≤ w.heap.size) (hb : Below w.heap.size w wr) : r.norm.Ok wr B :=
  { keys := PR.of_old (Rd.below h.keys (hb.mono hB) (Nat.le_refl _)) (Nat.le_trans hB hb.size), kc := h.nc, few := (by have h1 := h.keys.len; have h2 := h.few; show r.e.M.ks.length ≤ 1000; omega), has := PR.nil, hc := Nat.le_refl _, spans := Nat.zero_le _ }
theorem mkRT {w wr : World} {B Bo k lc m : Nat} {LA : Option Addr} {rs : List RM} (hB : B ≤ w.heap.size) (hb : Below w.heap.size w wr) (own : wr.ownsRow Bo 54 18 (.slice LA k lc) k (rs.flatMap RM.cells)) (hrs : ∀ a ∈ rs, ∃ q : RM, q.In w B ∧ a = q.norm) (hm : k ≤ m) (nx : Int) :
    RT wr B m #[.slice LA k lc, .slice none 0 0, .int .i64 nx] { L := rs.map RM.e, N := [], next := nx } LA k lc none 0 0 rs := by
  obtain ⟨A', c', hv, hc⟩ := own_form own
  injection hv with _ _ e2
  subst e2
  exact { val := rfl, ents := rfl, rows := PR.of_own own (by decide) (by decide) (by decide) (by decide), ok := (fun a ha => by obtain ⟨q, hq, rfl⟩ := hrs a ha; exact hq.ok hB hb), news := PR.nil, lcap := hc, ncap := Nat.le_refl _, lfew := hm, nfew := Nat.zero_le _ }

/-- the first loop's state -/
structure LdR (w wr : World) (k lc : Nat) (LA : Option Addr) (rs : List RM) : Prop where
  below : Below w.heap.size w wr
  res : Blk wr w.heap.size 32 zero32
  box : Blk wr (w.heap.size + 1) 32 #[.slice LA k lc, .slice none 0 0, .int .i64 0]
  own : wr.ownsRow (w.heap.size + 2) 54 18 (.slice LA k lc) k (rs.flatMap RM.cells)
theorem LdR.to {w wr wy : World} {k lc : Nat} {LA : Option Addr} {rs : List RM} (h : LdR w wr k lc LA rs) (hb : Below wr.heap.size wr wy) : LdR w wy k lc LA rs :=
  ⟨h.below.trans (hb.mono h.below.size), h.res.below hb h.res.lt, h.box.below hb h.box.lt, own_kept h.own (gby_of_below hb) (fun _ _ e => by cases e)⟩
structure PuW (wk wr : World) (out : List RM) (A : Option Addr) (c : Nat) : Prop where
  below : Below wk.heap.size wk wr
  own : wr.ownsRow wk.heap.size 54 18 (.slice A out.length c) out.length (out.flatMap RM.cells)
theorem PuW.to {wk wr wy : World} {out : List RM} {A : Option Addr} {c : Nat} (h : PuW wk wr out A c) (hb : Below wr.heap.size wr wy) : PuW wk wy out A c :=
  ⟨h.below.trans (hb.mono h.below.size), own_kept h.own (gby_of_below hb) (fun _ _ e => by cases e)⟩
/-- a row more -/
theorem PuW.push {wk wr w5 : World} {out : List RM} {A A2 : Option Addr} {c c2 : Nat} {r : RM} (h : PuW wk wr out A c) (ho : w5.ownsRow wk.heap.size 54 18 (.slice A2 (out.length + 1) c2) (out.length + 1) (out.flatMap RM.cells ++ [r].flatMap RM.cells)) (hg : wr.grownBy w5 (Value.slice A out.length c).ownBlock) : PuW wk w5 (out ++ [r]) A2 c2 := by
  refine ⟨h.below.trans (grown_below hg h.below.size (fun g hg' => (h.own.lt g hg').1)), ?_⟩
  rw [List.flatMap_append, show (out ++ [r]).length = out.length + 1 by simp]
  exact ho
/-- what the inner loop has put together -/
def PutUp (r : RM) (S : List RM) (put : Bool) (out : List RM) : Prop :=
  (put = true → (∃ b ∈ S, r.e.id < b.e.id) ∧ out = insM r S) ∧ (put = false → (∀ b ∈ S, ¬ r.e.id < b.e.id) ∧ out = S)

def firstUp (L : List RE) (e : RE) (q : Nat) : Bool := (L.take q).all fun a => !decide (a.obj = e.obj) || a.id == e.id || newerR e a
theorem firstUp_succ {L : List RE} {e : RE} {q : Nat} (hq : q < L.length) : firstUp L e (q + 1) = (firstUp L e q && (!decide (L[q].obj = e.obj) || L[q].id == e.id || newerR e L[q])) := by
  unfold firstUp
  rw [List.take_succ_eq_append_getElem hq, List.all_append]
  simp
theorem first_strip {L L' : List RE} (h : L.map RE.strip = L'.map RE.strip) {e e' : RE} (he : e.strip = e'.strip) : firstB L e = firstB L' e' := by
  have h1 : ∀ (M : List RE) (f : RE), firstB M f = (M.map RE.strip).all fun a => !decide (a.obj = f.strip.obj) || a.id == f.strip.id || newerR f.strip a := fun M f => by
    unfold firstB
    rw [List.all_map]
    rfl
  rw [h1, h1, h, he]

def LoadPost14 (w : World) (B : Nat) (nx : Int) (es : List RE) (e : Ending) (w' : World) : Prop :=
  (¬ LoadGood nx es ∧ e = .returned (.tuple #[.agg zero32, .int .i64 1]) ∧ Below w.heap.size w w') ∨
  (LoadGood nx es ∧ ∃ v' LA ln lc NA nn nc rs', e = .returned (.tuple #[.agg v', .int .i64 0]) ∧ RT w' B (2 * es.length) v' (loadX nx (sortR es)) LA ln lc NA nn nc rs' ∧ Below w.heap.size w w')

set_option maxHeartbeats 8000000 in
theorem rload_any (A : Option Addr) (n c : Nat) (rs : List RM) (nx : Int) (B : Nat) (w : World) (hB : B ≤ w.heap.size) (hr : Rd w w.heap.size 18 A n (rs.flatMap RM.cells)) (hk : ∀ r ∈ rs, r.In w B) (hn : n ≤ 12) :
    Calls Tryz.prog 14 #[.slice A n c, .int .i64 nx] w (LoadPost14 w B nx (rs.map RM.e)) := by
  obtain ⟨i0, hi0, hz0, hz1, hz2⟩ := info_parts info54
  have hpr : PR w w.heap.size 18 A n (rs.flatMap RM.cells) := PR.of_old hr (Nat.le_refl _)
  obtain ⟨hl, hrow⟩ := hpr.row RM.cells_len (by decide)
  obtain ⟨es, hes⟩ : ∃ es, es = rs.map RM.e := ⟨_, rfl⟩
  rw [← hes]
  have hel : es.length = n := by rw [hes, List.length_map, hl]
  have HL := Lib.hid hl
  have HROW := Lib.hid hrow
  have HK := Lib.hid hk
  have HES := Lib.hid hes
  have HEL := Lib.hid hel
  clear hr hk hes hpr hl hrow hel
  have k0 : Blk ((w.alloc (.cells zero32 32)).alloc (.cells zero32 32)) w.heap.size 32 zero32 := (Blk.new w 32 _).alloc _
  have k1 : Blk ((w.alloc (.cells zero32 32)).alloc (.cells zero32 32)) (w.heap.size + 1) 32 zero32 := new2 w _ 32 _
  have hb0 : Below w.heap.size w ((w.alloc (.cells zero32 32)).alloc (.cells zero32 32)) := ((Below.refl _ _).alloc (Nat.le_refl _) _).alloc (by simp) _
  have hs0 : LdR w ((w.alloc (.cells zero32 32)).alloc (.cells zero32 32)) 0 0 none [] := ⟨hb0, k0, k1, by simpa using World.ownsRow_nil _ _ 54 18⟩
  clear k0 k1 hb0
  go_enter Tryz.func14, Tryz.ntmps14
  go_upto_region 2 with fail
  generalize (w.alloc (.cells zero32 32)).alloc (.cells zero32 32) = w1 at *
  have HS0 := Lib.hid hs0
  -- how a refusal ends
  have BAD : Hid (∀ wy, Below w.heap.size w wy → Blk wy w.heap.size 32 zero32 → ¬ LoadGood nx es → (st32 (.pointer (some ⟨w.heap.size, 0, none⟩)) (.agg zero32)).run Tryz.prog wy = .ok () (wy.setRow w.heap.size zero32) ∧ Blk (wy.setRow w.heap.size zero32) w.heap.size 32 zero32 ∧ LoadPost14 w B nx es (.returned (.tuple #[.agg zero32, .int .i64 1])) (wy.setRow w.heap.size zero32)) := by
    show ∀ wy, _
    intro wy hb hk hng
    refine ⟨run_st32 hk rfl rfl (by simp [Value.oneCell']), setRow_blk hk _, .inl ⟨hng, rfl, hb.trans (grown_below (setRow_gby _ _ _) hb.size (fun j hj => by injection hj with hj; omega))⟩⟩
  by_cases a1 : nx < 1
  · obtain ⟨s32, hkk, hpost⟩ := BAD.out _ HS0.out.below HS0.out.res (fun h => by have := h.1; omega)
    have HKK := Lib.hid hkk
    have HP := Lib.hid hpost
    clear hkk hpost hs0
    go_wp2_with fail
    exact bodyPost_ret (v := .tuple #[.agg zero32, .int .i64 1]) (results_cell_tmp Tryz.results14 _ _ w.heap.size 32 _ (0, 0) _ rfl HKK.out Tryz.underlying32 rfl size32) rfl HP.out
  by_cases a2 : 1099511627776 < nx
  · obtain ⟨s32, hkk, hpost⟩ := BAD.out _ HS0.out.below HS0.out.res (fun h => by have := h.2.1; omega)
    have HKK := Lib.hid hkk
    have HP := Lib.hid hpost
    clear hkk hpost hs0
    go_wp2_with fail
    exact bodyPost_ret (v := .tuple #[.agg zero32, .int .i64 1]) (results_cell_tmp Tryz.results14 _ _ w.heap.size 32 _ (0, 0) _ rfl HKK.out Tryz.underlying32 rfl size32) rfl HP.out
  clear hs0
  go_wp2_with fail
  go_loopw [7] (fun i wr => ∃ (k lc : Nat) (LA : Option Addr), k ≤ n ∧ i = .int .i64 k ∧ Hid (GoodUp nx es k) ∧ Hid (LdR w wr k lc LA (sortM (rs.take k)))) (fun i _ => n - (intOf i).toNat)
  case atStart => exact ⟨0, 0, none, Nat.zero_le _, rfl, fun i hi h => absurd h (by omega), HS0.out⟩
  case round =>
    obtain ⟨k, lc, LA, hk, rfl, HGU, HLD⟩ := hrel
    by_cases hlt : k < n
    · have hkl : k < rs.length := by have := HL.out; omega
      have hke : k < es.length := by have := HEL.out; omega
      obtain ⟨b, o, rfl, hbl, hra⟩ := HROW.out k hkl
      have hin := HK.out rs[k] (List.getElem_mem hkl)
      have hrk : es[k] = rs[k].e := by
        have h1 : es[k]? = (rs.map RM.e)[k]? := by rw [HES.out]
        rw [List.getElem?_map, List.getElem?_eq_getElem hkl, List.getElem?_eq_getElem hke] at h1
        injection h1
      have htk : sortM (rs.take (k + 1)) = insM rs[k].norm (sortM (rs.take k)) := by rw [List.take_succ_eq_append_getElem hkl, sortM_snoc]
      have hsucc := HGU.out.succ hke
      rw [hrk] at hsucc
      generalize rs[k] = r at *
      have HIN := Lib.hid hin
      have HRK := Lib.hid hrk
      have HTK := Lib.hid htk
      have HSU := Lib.hid hsucc
      have hWr := HLD.out.below.size
      have HRA : Hid (wr.rangeAt b (o + k * 18) r.cells) := fun j v hv => (HLD.out.below.cell (p := ⟨b, o + k * 18 + j, none⟩) hbl).trans (hra j v hv)
      have hsl : (sortM (rs.take k)).length = k := by rw [sortM_len, List.length_take]; omega
      obtain ⟨S, hS⟩ : ∃ S, S = sortM (rs.take k) := ⟨_, rfl⟩
      rw [← hS] at hsl
      have HSIN : Hid (∀ a ∈ S, ∃ q : RM, q.In w B ∧ a = q.norm) := by
        show ∀ a ∈ S, _
        intro a ha
        rw [hS] at ha
        obtain ⟨q, hq, rfl⟩ := sortM_mem _ a ha
        exact ⟨q, HK.out q (List.mem_of_mem_take hq), rfl⟩
      have HSE : Hid (S.map RM.e = sortR (es.take k)) := by
        show S.map RM.e = _
        rw [hS, sortM_e, HES.out, List.map_take]
      have hld := HLD.out
      rw [← hS] at hld
      have HLS := Lib.hid hld
      have HS := Lib.hid hS
      have HSL := Lib.hid hsl
      have i1 : (0 : Int) ≤ (k : Int) := by omega
      have i2 : (k : Int) < (n : Int) := by omega
      clear hra hin hrk htk hsucc hsl hS hld HLD
      -- what may be wrong with it
      have HGK : Hid (LoadGood nx es → noteOK r.e.ent = true ∧ r.e.id < nx ∧ findR (S.map RM.e) r.e.id = none) := by
        show LoadGood nx es → _
        rintro ⟨_, _, h⟩
        obtain ⟨h1, h2, h3⟩ := h k hke hke
        rw [HRK.out] at h1 h2
        refine ⟨h1, h2, ?_⟩
        rw [HSE.out]
        unfold findR
        rw [List.findIdx?_eq_none_iff]
        intro a ha
        obtain ⟨q, hq, rfl⟩ := (sortR_mem _ _).1 ha
        obtain ⟨j, hj, rfl⟩ := List.mem_iff_getElem.1 hq
        rw [List.length_take] at hj
        rw [List.getElem_take]
        have := h3 j (by omega) (by omega)
        rw [HRK.out] at this
        show (es[j].id == r.e.id) = false
        simpa using this
      have hrt := mkRT hB HLS.out.below HLS.out.own HSIN.out (Nat.le_refl k) 0
      have HRT := Lib.hid hrt
      have l54 : ∀ d os, (ld54 (.pointer (some ⟨b, o + k * 18, none⟩))).run Tryz.prog (grow (redrawn wr d) os) = .ok (.agg r.row) (grow (redrawn wr d) os) := fun d os => run_ld54 (fun j v hv => ((below_regrown wr d os).cell (p := ⟨b, o + k * 18 + j, none⟩) (by show b < wr.heap.size; omega)).trans (HRA.out j v hv))
      have r0 := cell_regrown (show wr.cell? ⟨b, o + k * 18, none⟩ = some (.int .i64 r.e.id) from HRA.out 0 _ rfl)
      have l32 : ∀ d os, (ld32r (.pointer (some ⟨w.heap.size + 1, 0, none⟩))).run Tryz.prog (grow (redrawn wr d) os) = .ok (.agg #[.slice LA k lc, .slice none 0 0, .int .i64 0]) (grow (redrawn wr d) os) := fun d os => run_ld32r (HLS.out.box.below (below_regrown wr d os) HLS.out.box.lt) rfl
      have c50 : ∀ d os, Calls Tryz.prog 50 #[.agg r.row] (grow (redrawn wr d) os) fun en w'' => en = .returned (.bool (noteOK r.e.ent)) ∧ ∃ p : Regrown, w'' = grow (redrawn wr p.d) p.os := fun d os =>
        Calls.regrown_of (rnoted_any r _ (Rd.below HIN.out.keys ((HLS.out.below.trans ((below_regrown wr d os).mono HLS.out.below.size)).mono hB) (by have := HLS.out.below.size; have := (below_regrown wr d os).size; omega)) (Nat.le_trans HIN.out.few (by decide)) HIN.out.sz)
      have c51 : ∀ d os, Calls Tryz.prog 51 #[.agg #[.slice LA k lc, .slice none 0 0, .int .i64 0], .int .i64 r.e.id] (grow (redrawn wr d) os) fun en w'' => en = .returned (.int .i64 (findI (findR (S.map RM.e) r.e.id))) ∧ ∃ p : Regrown, w'' = grow (redrawn wr p.d) p.os := fun d os =>
        Calls.regrown_of (rfind_any (HRT.out.below (below_regrown wr d os) (Nat.le_trans hB hWr)) (by omega) r.e.id)
      go_upto_region 7 with fail
      go_cut [53] (fun s wy => s = .bool (!(noteOK r.e.ent && decide (r.e.id < nx) && (findR (S.map RM.e) r.e.id).isNone)) ∧ Below wr.heap.size wr wy)
      case first =>
        cases hnk : noteOK r.e.ent with
        | false =>
          rw [hnk] at c50
          have HNK := Lib.hid hnk
          clear hnk c51 l32 r0
          refine wp_region_quiet_below (by kernel_rfl) (by kernel_rfl) ?_
          repeat (go_big_quiet_step (exact c50 _ _))
          refine wpQuiet_nil ?_
          intro _ hw'
          obtain ⟨⟨dq, osq⟩, hw''⟩ := hw'
          subst hw''
          go_wp2_with fail
          go_meet
          exact ⟨by rw [HNK.out]; rfl, below_regrown wr dq osq⟩
        | true =>
          rw [hnk] at c50
          have HNK := Lib.hid hnk
          clear hnk
          by_cases hid : nx ≤ r.e.id
          · have hid2 : ¬ r.e.id < nx := by omega
            clear c51 l32
            refine wp_region_quiet_below (by kernel_rfl) (by kernel_rfl) ?_
            repeat (go_big_quiet_step (exact c50 _ _))
            refine wpQuiet_nil ?_
            intro _ hw'
            obtain ⟨⟨dq, osq⟩, hw''⟩ := hw'
            subst hw''
            go_wp2_with fail
            go_meet
            exact ⟨by rw [HNK.out, decide_eq_false (by omega : ¬ r.e.id < nx)]; rfl, below_regrown wr dq osq⟩
          · have hid2 : r.e.id < nx := by omega
            cases hfi : findR (S.map RM.e) r.e.id with
            | none =>
              rw [hfi] at c51
              simp only [findI] at c51
              have HFI := Lib.hid hfi
              clear hfi
              refine wp_region_quiet_below (by kernel_rfl) (by kernel_rfl) ?_
              repeat (go_big_quiet_step (first | exact c50 _ _ | exact c51 _ _))
              refine wpQuiet_nil ?_
              intro _ hw'
              obtain ⟨⟨dq, osq⟩, hw''⟩ := hw'
              subst hw''
              go_wp2_with fail
              go_meet
              exact ⟨by rw [HNK.out, HFI.out]; simp [hid2], below_regrown wr dq osq⟩
            | some fi =>
              rw [hfi] at c51
              simp only [findI] at c51
              have HFI := Lib.hid hfi
              clear hfi
              have hf0 : (0 : Int) ≤ (fi : Int) := by omega
              refine wp_region_quiet_below (by kernel_rfl) (by kernel_rfl) ?_
              repeat (go_big_quiet_step (first | exact c50 _ _ | exact c51 _ _))
              refine wpQuiet_nil ?_
              intro _ hw'
              obtain ⟨⟨dq, osq⟩, hw''⟩ := hw'
              subst hw''
              go_wp2_with fail
              go_meet
              exact ⟨by rw [HNK.out, HFI.out]; simp [hid2], below_regrown wr dq osq⟩
      case rest =>
        obtain ⟨rfl, hbk⟩ := hcut
        generalize wc = wk at *
        have hldk := HLS.out.to hbk
        have HLK := Lib.hid hldk
        have HBK := Lib.hid hbk
        cases hgood : (noteOK r.e.ent && decide (r.e.id < nx) && (findR (S.map RM.e) r.e.id).isNone) with
        | false =>
          obtain ⟨s32, hkk, hpost⟩ := BAD.out _ hldk.below hldk.res (fun h => by
            obtain ⟨h1, h2, h3⟩ := HGK.out h
            rw [h1, decide_eq_true h2, h3] at hgood
            cases hgood)
          have HKK := Lib.hid hkk
          have HP := Lib.hid hpost
          clear hkk hpost hldk hbk hgood l54 r0 l32 c50 c51 hrt
          go_wp2_with fail
          exact bodyPost_ret (v := .tuple #[.agg zero32, .int .i64 1]) (results_cell_tmp Tryz.results14 _ _ w.heap.size 32 _ (0, 0) _ rfl HKK.out Tryz.underlying32 rfl size32) rfl HP.out
        | true =>
          simp only [Bool.and_eq_true, decide_eq_true_eq, Option.isNone_iff_eq_none] at hgood
          have HGU2 : Hid (GoodUp nx es (k + 1)) := by
            show GoodUp nx es (k + 1)
            refine HSU.out hgood.1.1 hgood.1.2 (fun j hj hjk e => ?_)
            have h3 := hgood.2
            rw [HSE.out] at h3
            unfold findR at h3
            rw [List.findIdx?_eq_none_iff] at h3
            have := h3 es[j].norm ((sortR_mem _ _).2 ⟨es[j], List.mem_iff_getElem.2 ⟨j, by rw [List.length_take]; omega, by rw [List.getElem_take]⟩, rfl⟩)
            have e2 : es[j].norm.id = r.e.id := e
            rw [e2] at this
            simp at this
          have l54k := run_ld54 (w := wk) (b := b) (o := o + k * 18) (r := r) (fun j v hv => (hbk.cell (p := ⟨b, o + k * 18 + j, none⟩) (by show b < wr.heap.size; omega)).trans (HRA.out j v hv))
          have s54k := run_st54n wk r
          have hgk := hldk.box.lt
          have hlk2 := hldk.to (wy := wk.alloc (.cells r.row 54)) ((Below.refl _ _).alloc (Nat.le_refl _) _)
          have hke8 : Blk (wk.alloc (.cells r.row 54)) wk.heap.size 54 r.row := Blk.new _ _ _
          have HOLT : Hid (∀ g, (Value.slice LA k lc).ownBlock = some g → g < wk.heap.size) := fun g hg => (hldk.own.lt g hg).2
          have HL2 := Lib.hid hlk2
          have K8 := Lib.hid hke8
          clear hgood l54 r0 l32 c50 c51 hrt hldk hbk hlk2 hke8 HGK HRA
          go_upto_region 10 with fail
          generalize wk.alloc (.cells r.row 54) = w2 at *
          clear l54k s54k
          generalize wk.heap.size = g8 at *
          have e14 : w2.cell? ⟨g8, 14, none⟩ = some (.int .i64 r.e.mom) := (K8.out.cell 14).trans rfl
          have e16 : w2.cell? ⟨g8, 16, none⟩ = some (.bool r.e.last) := (K8.out.cell 16).trans rfl
          have e17 : w2.cell? ⟨g8, 17, none⟩ = some (.slice r.hA r.hn r.hc) := (K8.out.cell 17).trans rfl
          have ef := K8.out.free'
          go_upto_region 11 with fail
          obtain ⟨w3, hw3⟩ : ∃ y : World, y = ((w2.setCell ⟨g8, 14, none⟩ (.int .i64 0)).setCell ⟨g8, 16, none⟩ (.bool false)).setCell ⟨g8, 17, none⟩ (.slice none 0 0) := ⟨_, rfl⟩
          rw [← hw3]
          have hg3 : w2.grownBy w3 (some g8) := by rw [hw3]; exact gby_set (gby_set (gby_set (gby_refl _ _) _ _) _ _) _ _
          have hk3 : Blk w3 g8 54 r.norm.row := by rw [hw3, ← row_norm]; exact ((K8.out.set 14 _).set 16 _).set 17 _
          have hld3 : LdR w w3 k lc LA S := ⟨HL2.out.below.trans (grown_below hg3 HL2.out.below.size (fun j hj => by injection hj with hj; omega)), HL2.out.res.grown hg3 (fun e => by injection e with e; omega), HL2.out.box.grown hg3 (fun e => by injection e with e; omega), own_kept HL2.out.own hg3 (fun g hg e => by injection e with e; have := HOLT.out g hg; omega)⟩
          obtain ⟨_, hrows⟩ := (PR.of_own (base := 0) hld3.own (by decide) (by decide) (by decide) (by decide)).row RM.cells_len (by decide)
          have HLD3 := Lib.hid hld3
          have HK3 := Lib.hid hk3
          have HROWS := Lib.hid hrows
          have hst : PuW w3 w3 [] none 0 := ⟨Below.refl _ _, by simpa using World.ownsRow_nil w3 _ 54 18⟩
          have HST := Lib.hid hst
          clear hw3 hg3 hk3 hld3 hrows hst e14 e16 e17 ef HL2 K8 HOLT HLK HLS
          go_wp2_with fail
          go_loopw [9, 10, 11] (fun s9 s10 s11 wr2 => ∃ (j : Nat) (put : Bool) (A2 : Option Addr) (c2 : Nat) (out : List RM), j ≤ k ∧ s11 = .int .i64 j ∧ s10 = .bool put ∧ s9 = .slice A2 out.length c2 ∧ Hid (PuW w3 wr2 out A2 c2) ∧ Hid (PutUp r.norm (S.take j) put out)) (fun _ _ i _ => k - (intOf i).toNat)
          case atStart => exact ⟨0, false, none, 0, [], Nat.zero_le _, rfl, rfl, rfl, HST, ⟨(fun h => by cases h), (fun _ => ⟨(fun b hb => by simp at hb), by simp⟩)⟩⟩
          case round =>
            obtain ⟨j, put, A2, c2, out, hj, rfl, rfl, rfl, HIW, HPU⟩ := hrel
            have hbox := HLD3.out.box.below HIW.out.below HLD3.out.box.lt
            have hk8 := HK3.out.below HIW.out.below HK3.out.lt
            have g60 : wr.cell? ⟨w.heap.size + 1, 0, none⟩ = some (.slice LA k lc) := (hbox.cell 0).trans rfl
            have g80 : wr.cell? ⟨g8, 0, none⟩ = some (.int .i64 r.e.id) := (hk8.cell 0).trans rfl
            have HK8 := Lib.hid hk8
            clear hbox hk8
            by_cases hjk : j < k
            · have hjS : j < S.length := by have := HSL.out; omega
              obtain ⟨lb, lo, rfl, hlb, hlr⟩ := HROWS.out j hjS
              have hst : S.take (j + 1) = S.take j ++ [S[j]] := List.take_succ_eq_append_getElem hjS
              have hlen : out.length ≤ j + 1 := by
                cases put with
                | true => rw [(HPU.out.1 rfl).2, insM_len, List.length_take]; omega
                | false => rw [(HPU.out.2 rfl).2, List.length_take]; omega
              generalize S[j] = a at *
              have HL3 := Lib.hid hlr
              have HLR : Hid (wr.rangeAt lb (lo + j * 18) a.cells) := fun q v hv => (HIW.out.below.cell (p := ⟨lb, lo + j * 18 + q, none⟩) hlb).trans (hlr q v hv)
              have HST2 := Lib.hid hst
              have a00 : wr.cell? ⟨lb, lo + j * 18, none⟩ = some (.int .i64 a.e.id) := HLR.out 0 _ rfl
              have i1 : (0 : Int) ≤ (j : Int) := by omega
              have i2 : (j : Int) < (k : Int) := by omega
              clear hlr hst
              go_upto_region 16 with fail
              go_cut [81] (fun s wy => s = .bool (!put && decide (r.e.id < a.e.id)) ∧ ∃ d, wy = wr.drewN d)
              case first =>
                cases put with
                | true =>
                  go_quiet (fail)
                  go_wp2_with fail
                  go_meet
                  exact ⟨rfl, _, rfl⟩
                | false =>
                  go_quiet (fail)
                  go_wp2_with fail
                  go_meet
                  exact ⟨rfl, _, rfl⟩
              case rest =>
                obtain ⟨rfl, dd, rfl⟩ := hcut
                have hb4 : Below wr.heap.size wr (wr.drewN dd) := below_drewN (Below.refl _ _) dd
                have hiw4 := HIW.out.to hb4
                have hk84 := HK8.out.below hb4 HK8.out.lt
                generalize wr.drewN dd = w4 at *
                have HIW4 := Lib.hid hiw4
                have HK84 := Lib.hid hk84
                have hs4 := hiw4.below.size
                have own4 := hiw4.own
                clear a00 g60 g80 hb4 hiw4 hk84
                cases hcc : (!put && decide (r.e.id < a.e.id)) with
                | true =>
                  rw [Bool.and_eq_true, Bool.not_eq_true', decide_eq_true_eq] at hcc
                  obtain ⟨rfl, hca⟩ := hcc
                  have hpu := HPU.out.2 rfl
                  have hiw41 := HIW4.out.to ((Below.refl w4.heap.size w4).alloc (Nat.le_refl _) (.cells r.norm.row 54))
                  have OWN41 := Lib.hid hiw41.own
                  have HIW41 := Lib.hid hiw41
                  have l54r := run_ld54b (r := r.norm) HK84.out
                  have rd1 : Rd (w4.alloc (.cells r.norm.row 54)) (w4.alloc (.cells r.norm.row 54)).heap.size 18 (some ⟨w4.heap.size, 0, none⟩) 1 ([r.norm].flatMap RM.cells) := by
                    have := (Blk.new w4 54 r.norm.row).rd
                    simpa [RM.cells] using this
                  have RD1 := Lib.hid rd1
                  have HPU2 : Hid ((∀ b ∈ S.take j, ¬ r.norm.e.id < b.e.id) ∧ out = S.take j) := hpu
                  have HCA : Hid (r.norm.e.id < a.e.id) := hca
                  clear hpu hiw41 rd1 own4 hca
                  go_wp2_with (first
                    | (refine wpList_one rfl 29 54 _ rfl w4.heap.size rfl (some 84) rfl under29 (.agg r.norm.row) rfl r.norm.row (built54 _) ?_)
                    | (at_builtin; refine wpList_append_rd _ rfl _ _ 29 rfl w3.heap.size 54 i0 (.agg zero54) 18 200 under29 hi0 hz0 hz1 hz2 rfl (by decide) (.slice A2 out.length c2) out.length (out.flatMap RM.cells) rfl OWN41.out (some ⟨w4.heap.size, 0, none⟩) 1 1 _ _ rfl RD1.out (oneCell_rows [r.norm]) (by unfold maxLen; omega) (by omega) (by simp; omega) ?_; intro A3 c3 w5 hown5 hgrow5 hnc5 hat5; refine Hid.out ?_))
                  refine Lib.hid ?_
                  have hiw5 := HIW41.out.push hown5 hgrow5
                  have hs5 := hiw5.below.size
                  have hiw51 := hiw5.to ((Below.refl w5.heap.size w5).alloc (Nat.le_refl _) (.cells a.row 54))
                  have own51 := hiw51.own
                  rw [show (out ++ [r.norm]).length = out.length + 1 by simp] at own51
                  have OWN51 := Lib.hid own51
                  have HIW51 := Lib.hid hiw51
                  have g65 : w5.cell? ⟨w.heap.size + 1, 0, none⟩ = some (.slice (some ⟨lb, lo, none⟩) k lc) := ((HLD3.out.box.below hiw5.below HLD3.out.box.lt).cell 0).trans rfl
                  have l54a := run_ld54 (w := w5) (b := lb) (o := lo + j * 18) (r := a) (fun q v hv => (hiw5.below.cell (p := ⟨lb, lo + j * 18 + q, none⟩) hlb).trans (HL3.out q v hv))
                  have rd2 : Rd (w5.alloc (.cells a.row 54)) (w5.alloc (.cells a.row 54)).heap.size 18 (some ⟨w5.heap.size, 0, none⟩) 1 ([a].flatMap RM.cells) := by
                    have := (Blk.new w5 54 a.row).rd
                    simpa [RM.cells] using this
                  have RD2 := Lib.hid rd2
                  clear hown5 hgrow5 hnc5 hat5 hiw5 hiw51 own51 rd2 l54r OWN41 RD1 HIW41 HIW4
                  go_wp2_with (first
                    | (refine wpList_one rfl 29 54 _ rfl w5.heap.size rfl (some 92) rfl under29 (.agg a.row) rfl a.row (built54 _) ?_)
                    | (at_builtin; refine wpList_append_rd _ rfl _ _ 29 rfl w3.heap.size 54 i0 (.agg zero54) 18 200 under29 hi0 hz0 hz1 hz2 rfl (by decide) (.slice A3 (out.length + 1) c3) (out.length + 1) ((out ++ [r.norm]).flatMap RM.cells) rfl OWN51.out (some ⟨w5.heap.size, 0, none⟩) 1 1 _ _ rfl RD2.out (oneCell_rows [a]) (by unfold maxLen; omega) (by omega) (by simp; omega) ?_; intro A4 c4 w6 hown6 hgrow6 hnc6 hat6; refine Hid.out ?_))
                  refine Lib.hid ?_
                  have hiw6 : PuW w3 w6 (out ++ [r.norm] ++ [a]) A4 c4 := HIW51.out.push (by rw [show (out ++ [r.norm]).length = out.length + 1 by simp]; exact hown6) (by rw [show (out ++ [r.norm]).length = out.length + 1 by simp]; exact hgrow6)
                  have hpu6 : PutUp r.norm (S.take (j + 1)) true (out ++ [r.norm] ++ [a]) := by
                    refine ⟨fun _ => ⟨⟨a, by rw [HST2.out]; simp, HCA.out⟩, ?_⟩, fun h => by cases h⟩
                    rw [HST2.out, insM_first (fun q hq => by have := HPU2.out.1 q hq; omega) HCA.out, HPU2.out.2]
                    simp
                  have HIW6 := Lib.hid hiw6
                  have HPU6 := Lib.hid hpu6
                  clear hown6 hgrow6 hnc6 hat6 hiw6 hpu6 l54a g65 OWN51 RD2 HIW51
                  go_wp2_with fail
                  go_roundw
                  case rel =>
                    (repeat apply Exists.intro)
                    exact ⟨⟨j + 1, true, A4, c4, out ++ [r.norm] ++ [a], by omega, by go_num, rfl, by rw [List.length_append, List.length_append]; rfl, HIW6, HPU6⟩, rfl⟩
                  case measure => simp [intOf]; omega
                | false =>
                  have hpu6 : PutUp r.norm (S.take (j + 1)) put (out ++ [a]) := by
                    refine ⟨fun hp => ?_, fun hp => ?_⟩
                    · obtain ⟨h1, h2⟩ := HPU.out.1 hp
                      rw [HST2.out]
                      exact ⟨by obtain ⟨q, hq, hlt⟩ := h1; exact ⟨q, by simp [hq], hlt⟩, by rw [insM_snoc_hit h1, h2]⟩
                    · obtain ⟨h1, h2⟩ := HPU.out.2 hp
                      rw [hp] at hcc
                      have hna : ¬ r.norm.e.id < a.e.id := by
                        intro h
                        rw [show decide (r.e.id < a.e.id) = true from decide_eq_true h] at hcc
                        cases hcc
                      rw [HST2.out]
                      refine ⟨fun q hq => ?_, by rw [h2]⟩
                      rw [List.mem_append, List.mem_singleton] at hq
                      rcases hq with hq | rfl
                      · exact h1 q hq
                      · exact hna
                  have hiw41 := HIW4.out.to ((Below.refl w4.heap.size w4).alloc (Nat.le_refl _) (.cells a.row 54))
                  have OWN41 := Lib.hid hiw41.own
                  have HIW41 := Lib.hid hiw41
                  have HPU6 := Lib.hid hpu6
                  have g64 : w4.cell? ⟨w.heap.size + 1, 0, none⟩ = some (.slice (some ⟨lb, lo, none⟩) k lc) := ((HLD3.out.box.below HIW4.out.below HLD3.out.box.lt).cell 0).trans rfl
                  have l54a := run_ld54 (w := w4) (b := lb) (o := lo + j * 18) (r := a) (fun q v hv => (HIW4.out.below.cell (p := ⟨lb, lo + j * 18 + q, none⟩) hlb).trans (HL3.out q v hv))
                  have rd1 : Rd (w4.alloc (.cells a.row 54)) (w4.alloc (.cells a.row 54)).heap.size 18 (some ⟨w4.heap.size, 0, none⟩) 1 ([a].flatMap RM.cells) := by
                    have := (Blk.new w4 54 a.row).rd
                    simpa [RM.cells] using this
                  have RD1 := Lib.hid rd1
                  clear hcc hpu6 hiw41 rd1 own4
                  go_wp2_with (first
                    | (refine wpList_one rfl 29 54 _ rfl w4.heap.size rfl (some 92) rfl under29 (.agg a.row) rfl a.row (built54 _) ?_)
                    | (at_builtin; refine wpList_append_rd _ rfl _ _ 29 rfl w3.heap.size 54 i0 (.agg zero54) 18 200 under29 hi0 hz0 hz1 hz2 rfl (by decide) (.slice A2 out.length c2) out.length (out.flatMap RM.cells) rfl OWN41.out (some ⟨w4.heap.size, 0, none⟩) 1 1 _ _ rfl RD1.out (oneCell_rows [a]) (by unfold maxLen; omega) (by omega) (by simp; omega) ?_; intro A3 c3 w5 hown5 hgrow5 hnc5 hat5; refine Hid.out ?_))
                  refine Lib.hid ?_
                  have hiw5 := HIW41.out.push hown5 hgrow5
                  have HIW5 := Lib.hid hiw5
                  clear hown5 hgrow5 hnc5 hat5 hiw5 g64 l54a OWN41 RD1 HIW41 HIW4
                  go_wp2_with fail
                  go_roundw
                  case rel =>
                    (repeat apply Exists.intro)
                    exact ⟨⟨j + 1, put, A3, c3, out ++ [a], by omega, by go_num, rfl, by rw [List.length_append]; rfl, HIW5, HPU6⟩, rfl⟩
                  case measure => simp [intOf]; omega
            · obtain rfl : j = k := by omega
              have hst : S.take j = S := List.take_of_length_le (by have := HSL.out; omega)
              have hpu := HPU.out
              rw [hst] at hpu
              have HPUF := Lib.hid hpu
              -- what is stored at the end
              have FINL : Hid (∀ (wy : World) (A5 : Option Addr) (c5 : Nat), PuW w3 wy (insM r.norm S) A5 c5 → wy.cell? ⟨w.heap.size + 1, 0, none⟩ = some (.slice LA j lc) ∧ (∀ i, wy.frozen? ⟨w.heap.size + 1, i, none⟩ = false) ∧ LdR w (wy.setCell ⟨w.heap.size + 1, 0, none⟩ (.slice A5 (j + 1) c5)) (j + 1) c5 A5 (sortM (rs.take (j + 1)))) := by
                show ∀ (wy : World) (A5 : Option Addr) (c5 : Nat), _
                intro wy A5 c5 h
                have hbx := HLD3.out.box.below h.below HLD3.out.box.lt
                refine ⟨(hbx.cell 0).trans rfl, hbx.free', ?_⟩
                have hlen : (insM r.norm S).length = j + 1 := by rw [insM_len, HSL.out]
                have ho := h.own
                rw [hlen] at ho
                have hl3 := HLD3.out.below.size
                have hbl := HLD3.out.box.lt
                refine ⟨below_set (HLD3.out.below.trans (h.below.mono hl3)) (by omega) _, (HLD3.out.res.below h.below HLD3.out.res.lt).far (by omega) _, hbx.set 0 _, ?_⟩
                rw [HTK.out, ← HS.out]
                exact own_set (own_base ho (by omega)) (by omega) _
              clear g80 hst hpu
              cases put with
              | true =>
                have ho := (HPUF.out.1 rfl).2
                have hiw := HIW.out
                rw [ho] at hiw
                obtain ⟨g6c, g6f, hfin⟩ := FINL.out _ _ _ hiw
                have HLEN : Hid (out.length = j + 1) := by show out.length = j + 1; rw [ho, insM_len, HSL.out]
                have HFN := Lib.hid hfin
                clear ho hiw hfin
                have hle := HLEN.out
                rw [hle]
                clear hle
                go_wp2_with fail
                go_roundw
                case rel => exact ⟨j + 1, c2, A2, by omega, by go_num, HGU2, HFN⟩
                case measure => simp [intOf]; omega
              | false =>
                obtain ⟨hno, ho⟩ := HPUF.out.2 rfl
                have HNO := Lib.hid hno
                have HLEN : Hid (out.length = j) := by show out.length = j; rw [ho, HSL.out]
                have HOS := Lib.hid ho
                have hiw1 := HIW.out.to ((Below.refl wr.heap.size wr).alloc (Nat.le_refl _) (.cells r.norm.row 54))
                have OWN1 : Hid ((wr.alloc (.cells r.norm.row 54)).ownsRow w3.heap.size 54 18 (.slice A2 j c2) j (out.flatMap RM.cells)) := by
                  have h := hiw1.own
                  rw [HLEN.out] at h
                  exact h
                have HIW1 := Lib.hid hiw1
                have l54r := run_ld54b (r := r.norm) HK8.out
                have rd1 : Rd (wr.alloc (.cells r.norm.row 54)) (wr.alloc (.cells r.norm.row 54)).heap.size 18 (some ⟨wr.heap.size, 0, none⟩) 1 ([r.norm].flatMap RM.cells) := by
                  have := (Blk.new wr 54 r.norm.row).rd
                  simpa [RM.cells] using this
                have RD1 := Lib.hid rd1
                have hs4 := HIW.out.below.size
                have hle := HLEN.out
                rw [hle]
                clear hno ho hiw1 rd1 hle
                go_wp2_with (first
                  | (refine wpList_one rfl 29 54 _ rfl wr.heap.size rfl (some 98) rfl under29 (.agg r.norm.row) rfl r.norm.row (built54 _) ?_)
                  | (at_builtin; refine wpList_append_rd _ rfl _ _ 29 rfl w3.heap.size 54 i0 (.agg zero54) 18 200 under29 hi0 hz0 hz1 hz2 rfl (by decide) (.slice A2 j c2) j (out.flatMap RM.cells) rfl OWN1.out (some ⟨wr.heap.size, 0, none⟩) 1 1 _ _ rfl RD1.out (oneCell_rows [r.norm]) (by unfold maxLen; omega) (by omega) (by simp; omega) ?_; intro A3 c3 w5 hown5 hgrow5 hnc5 hat5; refine Hid.out ?_))
                refine Lib.hid ?_
                have hiw5 : PuW w3 w5 (insM r.norm S) A3 c3 := by
                  have h := HIW1.out.push (by rw [HLEN.out]; exact hown5) (by rw [HLEN.out]; exact hgrow5)
                  rw [HOS.out, ← insM_none (fun q hq => by have := HNO.out q hq; omega)] at h
                  exact h
                obtain ⟨g6c, g6f, hfin⟩ := FINL.out _ _ _ hiw5
                have HFN := Lib.hid hfin
                clear hfin hiw5 hown5 hgrow5 hnc5 hat5 l54r g60
                go_wp2_with fail
                go_roundw
                case rel =>
                  first
                    | exact ⟨j + 1, c3, A3, by omega, by go_num, HGU2, HFN⟩
                    | ((repeat apply Exists.intro); exact ⟨⟨j + 1, c3, A3, by omega, by go_num, HGU2, HFN⟩, rfl⟩)
                case measure => simp [intOf]; omega
    · obtain rfl : k = n := by omega
      have htake : rs.take k = rs := List.take_of_length_le (by have := HL.out; omega)
      have hld := HLD.out
      rw [htake] at hld
      have hgood : LoadGood nx es := ⟨by omega, by omega, by rw [HEL.out]; exact HGU.out⟩
      have HGOOD := Lib.hid hgood
      obtain ⟨L0, hL0⟩ : ∃ L0, L0 = sortR es := ⟨_, rfl⟩
      have hsme : (sortM rs).map RM.e = L0 := by rw [sortM_e, ← HES.out, hL0]
      have hrise : RiseR L0 := by
        have hd : ∀ q, q ≤ es.length → RiseR (sortR (es.take q)) := fun q => by
          induction q with
          | zero => intro _; simp [sortR, RiseR]
          | succ q ih =>
            intro hq
            rw [List.take_succ_eq_append_getElem (by omega), sortR_snoc]
            refine ins_rise (ih (by omega)) (fun a ha => ?_)
            obtain ⟨f, hf, rfl⟩ := (sortR_mem _ _).1 ha
            obtain ⟨j, hj, rfl⟩ := List.mem_iff_getElem.1 hf
            rw [List.length_take] at hj
            rw [List.getElem_take]
            exact (hgood.2.2 q (by omega) (by omega)).2.2 j (by omega) (by omega)
        have := hd es.length (Nat.le_refl _)
        rw [List.take_length] at this
        rw [hL0]
        exact this
      have hl0len : L0.length = k := by rw [← hsme, List.length_map, sortM_len, HL.out]
      have HSIN : Hid (∀ a ∈ sortM rs, ∃ q : RM, q.In w B ∧ a = q.norm) := by
        show ∀ a ∈ sortM rs, _
        intro a ha
        obtain ⟨q, hq, rfl⟩ := sortM_mem _ a ha
        exact ⟨q, HK.out q hq, rfl⟩
      have g60 : wr.cell? ⟨w.heap.size + 1, 0, none⟩ = some (.slice LA k lc) := (hld.box.cell 0).trans rfl
      have g62 : wr.cell? ⟨w.heap.size + 1, 2, none⟩ = some (.int .i64 0) := (hld.box.cell 2).trans rfl
      have g6f := hld.box.free'
      have hb5 : Below w.heap.size w (wr.setCell ⟨w.heap.size + 1, 2, none⟩ (.int .i64 nx)) := below_set hld.below (by omega) _
      have hk5 : Blk (wr.setCell ⟨w.heap.size + 1, 2, none⟩ (.int .i64 nx)) (w.heap.size + 1) 32 #[.slice LA k lc, .slice none 0 0, .int .i64 nx] := hld.box.set 2 _
      have hr5 : Blk (wr.setCell ⟨w.heap.size + 1, 2, none⟩ (.int .i64 nx)) w.heap.size 32 zero32 := hld.res.far (by omega) _
      have ho5 := own_set hld.own (b := w.heap.size + 1) (o := 2) (by omega) (.int .i64 nx)
      have hrt5 := mkRT hB hb5 ho5 HSIN.out (Nat.le_refl k) nx
      rw [hsme] at hrt5
      have HB5 := Lib.hid hb5
      have HK5 := Lib.hid hk5
      have HR5 := Lib.hid hr5
      have HRT5 := Lib.hid hrt5
      have HL0 := Lib.hid hL0
      have HRISE := Lib.hid hrise
      have HLL := Lib.hid hl0len
      have hbl := hld.box.lt
      clear htake hld hgood hL0 hsme hrise hl0len hb5 hk5 hr5 ho5 hrt5 HLD
      go_wp2_with fail
      generalize wr.setCell ⟨w.heap.size + 1, 2, none⟩ (.int .i64 nx) = w5 at *
      clear g60 g62 g6f
      go_loopw [12] (fun s12 wr2 => ∃ (i : Nat) (x : RTab) (LA2 : Option Addr) (lc2 : Nat) (NA : Option Addr) (nn nc : Nat) (rs2 : List RM), i ≤ k ∧ s12 = .int .i64 i ∧ Hid (Below w.heap.size w wr2) ∧ Hid (Blk wr2 w.heap.size 32 zero32) ∧ Hid (Blk wr2 (w.heap.size + 1) 32 #[.slice LA2 k lc2, .slice NA nn nc, .int .i64 x.next]) ∧ Hid (RT wr2 B (k + i) #[.slice LA2 k lc2, .slice NA nn nc, .int .i64 x.next] x LA2 k lc2 NA nn nc rs2) ∧ Hid (x = (L0.take i).foldl (stepX L0) { L := L0, N := [], next := nx }) ∧ Hid (x.L.map RE.strip = L0.map RE.strip)) (fun i _ => k - (intOf i).toNat)
      case atStart => exact ⟨0, _, LA, lc, none, 0, 0, _, Nat.zero_le _, rfl, HB5, HR5, HK5, HRT5, rfl, rfl⟩
      case round =>
        obtain ⟨i, x, LA2, lc2, NA, nn, nc, rs2, hi, rfl, HB, HR, HKX, HRT, HX, HST⟩ := hrel
        have g60 : wr.cell? ⟨w.heap.size + 1, 0, none⟩ = some (.slice LA2 k lc2) := (HKX.out.cell 0).trans rfl
        have hwr := HB.out.size
        have hb1 := HKX.out.lt
        by_cases hik : i < k
        · obtain ⟨b, o, rfl, hbl2, h1, h2, he, her, hok⟩ := HRT.out.at_ hik
          have hi0 : i < L0.length := by have := HLL.out; omega
          have hsti : x.L[i].strip = L0[i].strip := by
            have h3 : (x.L.map RE.strip)[i]? = (L0.map RE.strip)[i]? := by rw [HST.out]
            rw [List.getElem?_map, List.getElem?_map, List.getElem?_eq_getElem h2, List.getElem?_eq_getElem hi0] at h3
            injection h3
          have HSTEP : Hid ((L0.take (i + 1)).foldl (stepX L0) { L := L0, N := [], next := nx } = if firstB x.L x.L[i] then takenR x x.L[i].obj x.L[i].id 0 else x) := by
            show _ = _
            rw [List.take_succ_eq_append_getElem hi0, List.foldl_append, ← HX.out]
            show stepX L0 x L0[i] = _
            unfold stepX
            rw [first_strip HST.out hsti, show x.L[i].obj = L0[i].obj from (show x.L[i].strip.obj = L0[i].strip.obj by rw [hsti]), show x.L[i].id = L0[i].id from (show x.L[i].strip.id = L0[i].strip.id by rw [hsti])]
          have HNE : Hid (∀ q (hq : q < x.L.length), x.L[q].id = x.L[i].id ↔ q = i) := by
            show ∀ q (hq : q < x.L.length), _
            intro q hq
            have hlen : x.L.length = L0.length := by have h3 := congrArg List.length HST.out; simpa using h3
            have hid : ∀ j (hj : j < x.L.length) (hj0 : j < L0.length), x.L[j].id = L0[j].id := fun j hj hj0 => by
              have h3 : (x.L.map RE.strip)[j]? = (L0.map RE.strip)[j]? := by rw [HST.out]
              rw [List.getElem?_map, List.getElem?_map, List.getElem?_eq_getElem hj, List.getElem?_eq_getElem hj0] at h3
              injection h3 with h3
              exact show x.L[j].strip.id = L0[j].strip.id by rw [h3]
            rw [hid q hq (by omega), hid i h2 hi0]
            constructor
            · intro e
              rcases Nat.lt_trichotomy q i with h | h | h
              · have := List.pairwise_iff_getElem.1 HRISE.out q i (by omega) hi0 h; omega
              · exact h
              · have := List.pairwise_iff_getElem.1 HRISE.out i q hi0 (by omega) h; omega
            · intro e; subst e; rfl
          have HE := Lib.hid he
          have HXL := Lib.hid HRT.out.len
          generalize rs2[i] = r at *
          have l54 := run_ld54 (w := wr) (b := b) (o := o + i * 18) (r := r) her
          have s54 := run_st54n wr r
          have hb2 : Below wr.heap.size wr (wr.alloc (.cells r.row 54)) := (Below.refl _ _).alloc (Nat.le_refl _) _
          have hk2 : Blk (wr.alloc (.cells r.row 54)) wr.heap.size 54 r.row := Blk.new _ _ _
          have i1 : (0 : Int) ≤ (i : Int) := by omega
          have i2 : (i : Int) < (k : Int) := by omega
          have HB2 := Lib.hid hb2
          have HK2 := Lib.hid hk2
          clear her hok he hsti hb2 hk2 hi0
          go_upto_region 28 with fail
          have HBw := Lib.hid (HB.out.trans (HB2.out.mono hwr))
          have HKX2 := Lib.hid (HKX.out.below HB2.out HKX.out.lt)
          have HR2 := Lib.hid (HR.out.below HB2.out HR.out.lt)
          have HRT2 := Lib.hid (HRT.out.below HB2.out (Nat.le_trans hB hwr))
          generalize wr.alloc (.cells r.row 54) = w2 at *
          generalize hg13 : wr.heap.size = g13 at *
          clear hg13 l54 s54 g60 HB HKX HR HRT
          go_wp2_with fail
          go_loopw [14, 15] (fun s14 s15 wr2 => ∃ q : Nat, q ≤ k ∧ s15 = .int .i64 q ∧ s14 = .bool (firstUp x.L x.L[i] q) ∧ Hid (Below w2.heap.size w2 wr2)) (fun _ i _ => k - (intOf i).toNat)
          case atStart => exact ⟨0, Nat.zero_le _, rfl, by simp [firstUp], Below.refl _ _⟩
          case round =>
            obtain ⟨q, hq, rfl, rfl, HBq⟩ := hrel
            have g60 : wr.cell? ⟨w.heap.size + 1, 0, none⟩ = some (.slice (some ⟨b, o, none⟩) k lc2) := ((HKX2.out.below HBq.out HKX2.out.lt).cell 0).trans rfl
            by_cases hqk : q < k
            · have hqx : q < x.L.length := by have := HXL.out; omega
              obtain ⟨bq, oq, hA, hblq, hq1, hq2, heq, herq, hokq⟩ := HRT2.out.at_ hqk
              injection hA with hA
              injection hA with hA1 hA2
              subst hA1 hA2
              have HSU := Lib.hid (firstUp_succ (e := x.L[i]) hqx)
              have hne := HNE.out q hqx
              have hae : rs2[q].e = x.L[q] := heq
              generalize rs2[q] = a at *
              have HAE := Lib.hid hae
              have HRE := HE.out
              have l54a : ∀ d os, (ld54 (.pointer (some ⟨b, o + q * 18, none⟩))).run Tryz.prog (grow (redrawn wr d) os) = .ok (.agg a.row) (grow (redrawn wr d) os) := fun d os => run_ld54 (fun j v hv => (((HBq.out.trans ((below_regrown wr d os).mono HBq.out.size))).cell (p := ⟨b, o + q * 18 + j, none⟩) hblq).trans (herq j v hv))
              have l54r : ∀ d os, (ld54 (.pointer (some ⟨g13, 0, none⟩))).run Tryz.prog (grow (redrawn wr d) os) = .ok (.agg r.row) (grow (redrawn wr d) os) := fun d os => run_ld54b (HK2.out.below (HBq.out.trans ((below_regrown wr d os).mono HBq.out.size)) HK2.out.lt)
              have r60 := cell_regrown g60
              have ra1 := cell_regrown (show wr.cell? ⟨b, o + q * 18 + 1, none⟩ = some (.string a.e.obj) from (HBq.out.cell (p := ⟨b, o + q * 18 + 1, none⟩) hblq).trans (herq 1 _ rfl))
              have rr1 := cell_regrown (show wr.cell? ⟨g13, 1, none⟩ = some (.string r.e.obj) from ((HK2.out.below HBq.out HK2.out.lt).cell 1).trans rfl)
              have c52 : ∀ d os, Calls Tryz.prog 52 #[.agg r.row, .agg a.row] (grow (redrawn wr d) os) fun en w'' => en = .returned (.bool (newerR r.e a.e)) ∧ ∃ p : Regrown, w'' = grow (redrawn wr p.d) p.os := fun d os => Calls.regrown_of (rnewer_any r a _)
              have q1 : (0 : Int) ≤ (q : Int) := by omega
              have q2 : (q : Int) < (k : Int) := by omega
              -- what the round comes to
              have HV : Hid (firstUp x.L x.L[i] (q + 1) = (firstUp x.L x.L[i] q && (!decide (a.e.obj = r.e.obj) || decide (q = i) || newerR r.e a.e))) := by
                show _ = _
                rw [HSU.out, hae, HRE]
                congr 3
                rw [Bool.eq_iff_iff, beq_iff_eq, decide_eq_true_iff]
                exact hne
              generalize firstUp x.L x.L[i] q = fq at *
              clear herq hokq heq hae HRE hne HSU
              go_upto_region 32 with fail
              cases fq with
              | false =>
                clear c52 l54a l54r ra1 rr1
                refine wp_region_quiet_below (by kernel_rfl) (by kernel_rfl) ?_
                repeat (go_big_quiet_step (fail))
                refine wpQuiet_nil ?_
                intro _ hw'
                obtain ⟨⟨dq, osq⟩, hw''⟩ := hw'
                subst hw''
                go_wp2_with fail
                go_roundw
                case rel => exact ⟨q + 1, by omega, by go_num, congrArg Value.bool (by rw [HV.out]; rfl), HBq.out.trans ((below_regrown wr dq osq).mono HBq.out.size)⟩
                case measure => simp [intOf]; omega
              | true =>
                by_cases hob : (a.e.obj.toList == r.e.obj.toList) = true
                · have hob2 : (a.e.obj.toList != r.e.obj.toList) = false := by rw [bne, hob]; rfl
                  have HOB : Hid (a.e.obj = r.e.obj) := by
                    show a.e.obj = r.e.obj
                    rw [bytes_beq] at hob
                    exact of_decide_eq_true hob
                  by_cases hqi : q = i
                  · have hqe : ((q : Int) == (i : Int)) = true := by rw [hqi]; simp
                    have HQI := Lib.hid hqi
                    clear c52 l54a l54r hqi
                    refine wp_region_quiet_below (by kernel_rfl) (by kernel_rfl) ?_
                    repeat (go_big_quiet_step (fail))
                    refine wpQuiet_nil ?_
                    intro _ hw'
                    obtain ⟨⟨dq, osq⟩, hw''⟩ := hw'
                    subst hw''
                    go_wp2_with fail
                    go_roundw
                    case rel => exact ⟨q + 1, by omega, by go_num, congrArg Value.bool (by rw [HV.out]; rw [decide_eq_true HQI.out]; simp), HBq.out.trans ((below_regrown wr dq osq).mono HBq.out.size)⟩
                    case measure => simp [intOf]; omega
                  · have hqe : ((q : Int) == (i : Int)) = false := by simp; omega
                    have HQI := Lib.hid hqi
                    clear hqi
                    refine wp_region_quiet_below (by kernel_rfl) (by kernel_rfl) ?_
                    repeat (go_big_quiet_step (exact c52 _ _))
                    refine wpQuiet_nil ?_
                    intro _ hw'
                    obtain ⟨⟨dq, osq⟩, hw''⟩ := hw'
                    subst hw''
                    go_wp2_with fail
                    go_roundw
                    case rel => exact ⟨q + 1, by omega, by go_num, congrArg Value.bool (by rw [HV.out]; rw [decide_eq_false HQI.out, decide_eq_true HOB.out]; simp), HBq.out.trans ((below_regrown wr dq osq).mono HBq.out.size)⟩
                    case measure => simp [intOf]; omega
                · have hob : (a.e.obj.toList == r.e.obj.toList) = false := by simpa using hob
                  have hob2 : (a.e.obj.toList != r.e.obj.toList) = true := by rw [bne, hob]; rfl
                  have HOB : Hid (¬ a.e.obj = r.e.obj) := by
                    show ¬ a.e.obj = r.e.obj
                    rw [bytes_beq] at hob
                    exact of_decide_eq_false hob
                  clear c52 l54a l54r
                  refine wp_region_quiet_below (by kernel_rfl) (by kernel_rfl) ?_
                  repeat (go_big_quiet_step (fail))
                  refine wpQuiet_nil ?_
                  intro _ hw'
                  obtain ⟨⟨dq, osq⟩, hw''⟩ := hw'
                  subst hw''
                  go_wp2_with fail
                  go_roundw
                  case rel => exact ⟨q + 1, by omega, by go_num, congrArg Value.bool (by rw [HV.out]; rw [decide_eq_false HOB.out]; simp), HBq.out.trans ((below_regrown wr dq osq).mono HBq.out.size)⟩
                  case measure => simp [intOf]; omega
            · obtain rfl : q = k := by omega
              have hfu : firstUp x.L x.L[i] q = firstB x.L x.L[i] := by
                unfold firstUp firstB
                rw [List.take_of_length_le (by have := HXL.out; omega)]
              have hrt := HRT2.out.below HBq.out (Nat.le_trans hB HBw.out.size)
              have hkx := HKX2.out.below HBq.out HKX2.out.lt
              have hr4 := HR2.out.below HBq.out HR2.out.lt
              have hk13 := HK2.out.below HBq.out HK2.out.lt
              have hbw := HBw.out.trans (HBq.out.mono HBw.out.size)
              have e00 : wr.cell? ⟨g13, 0, none⟩ = some (.int .i64 r.e.id) := (hk13.cell 0).trans rfl
              have e01 : wr.cell? ⟨g13, 1, none⟩ = some (.string r.e.obj) := (hk13.cell 1).trans rfl
              have l32 := run_ld32r hkx rfl
              have HRTq := Lib.hid hrt
              have HKXq := Lib.hid hkx
              have HR4 := Lib.hid hr4
              have HBWq := Lib.hid hbw
              rw [hfu]
              clear hfu hrt hkx hr4 hk13 hbw
              cases hfb : firstB x.L x.L[i] with
              | false =>
                have HX2 : Hid (x = (L0.take (i + 1)).foldl (stepX L0) { L := L0, N := [], next := nx }) := by
                  show x = _
                  rw [HSTEP.out, hfb]
                  rfl
                clear hfb e00 e01 l32
                go_wp2_with fail
                go_roundw
                case rel => exact ⟨i + 1, x, _, lc2, NA, nn, nc, rs2, by omega, by go_num, HBWq, HR4, HKXq, HRTq.out.mono (by omega), HX2, HST⟩
                case measure => simp [intOf]; omega
              | true =>
                have HX2 : Hid (takenR x r.e.obj r.e.id 0 = (L0.take (i + 1)).foldl (stepX L0) { L := L0, N := [], next := nx }) := by
                  show _ = _
                  rw [HSTEP.out, hfb, HE.out]
                  rfl
                have CT := Lib.hid (rtaken_any HRTq.out (Nat.le_trans hB HBWq.out.size) (by omega) r.e.obj r.e.id 0)
                clear hfb
                go_wp2_with (go_at_call 53; refine CT.out.mono ?_; rintro en w7 ⟨v7, LA7, lc7, NA7, nn7, nc7, rs7, rfl, hrt7, hb7⟩; refine Hid.out ?_)
                refine Lib.hid ?_
                have hv7 := hrt7.val
                subst hv7
                have hkx7 := HKXq.out.below hb7 HKXq.out.lt
                have s32 := run_st32 hkx7 rfl hrt7.shape.1 hrt7.shape.2
                have hg8 := setRow_gby w7 (w.heap.size + 1) #[.slice LA7 q lc7, .slice NA7 nn7 nc7, .int .i64 (takenR x r.e.obj r.e.id 0).next]
                have hk8 := setRow_blk hkx7 #[.slice LA7 q lc7, .slice NA7 nn7 nc7, .int .i64 (takenR x r.e.obj r.e.id 0).next]
                have hrt8 := hrt7.put3b (A1 := some ⟨b, o, none⟩) (n1 := q) (c1 := lc2) (A2 := NA) (n2 := nn) (c2 := nc) (i3 := x.next) hkx7 #[.slice LA7 q lc7, .slice NA7 nn7 nc7, .int .i64 (takenR x r.e.obj r.e.id 0).next]
                have hr8 : Blk (w7.setRow (w.heap.size + 1) #[.slice LA7 q lc7, .slice NA7 nn7 nc7, .int .i64 (takenR x r.e.obj r.e.id 0).next]) w.heap.size 32 zero32 := (HR4.out.below hb7 HR4.out.lt).grown hg8 (fun e => by injection e with e; omega)
                have hb8 : Below w.heap.size w (w7.setRow (w.heap.size + 1) #[.slice LA7 q lc7, .slice NA7 nn7 nc7, .int .i64 (takenR x r.e.obj r.e.id 0).next]) := (HBWq.out.trans (hb7.mono HBWq.out.size)).trans (grown_below hg8 (by have := HBWq.out.size; have := hb7.size; omega) (fun j hj => by injection hj with hj; omega))
                have HST2 : Hid ((takenR x r.e.obj r.e.id 0).L.map RE.strip = L0.map RE.strip) := by
                  show _ = _
                  rw [taken_strip, HST.out]
                have HK8 := Lib.hid hk8
                have HRT8 := Lib.hid hrt8
                have HR8 := Lib.hid hr8
                have HB8 := Lib.hid hb8
                clear hrt7 hb7 hkx7 hg8 hk8 hrt8 hr8 hb8 e00 e01 l32 CT
                go_wp2_with fail
                go_roundw
                case rel =>
                  first
                    | exact ⟨i + 1, takenR x r.e.obj r.e.id 0, LA7, lc7, NA7, nn7, nc7, rs7, by omega, by go_num, HB8, HR8, HK8, HRT8, HX2, HST2⟩
                    | ((repeat apply Exists.intro); exact ⟨⟨i + 1, takenR x r.e.obj r.e.id 0, LA7, lc7, NA7, nn7, nc7, rs7, by omega, by go_num, HB8, HR8, HK8, HRT8, HX2, HST2⟩, rfl⟩)
                case measure => simp [intOf]; omega
        · obtain rfl : i = k := by omega
          have hxl : x = loadX nx (sortR es) := by
            have h := HX.out
            rw [List.take_of_length_le (by have := HLL.out; omega)] at h
            rw [h, ← HL0.out]
            rfl
          have l32 := run_ld32r HKX.out rfl
          have s32 := run_st32 (v := #[.slice LA2 i lc2, .slice NA nn nc, .int .i64 x.next]) HR.out rfl rfl (by simp [Value.oneCell'])
          have hk8 := setRow_blk HR.out #[.slice LA2 i lc2, .slice NA nn nc, .int .i64 x.next]
          have hrt8 := HRT.out.put3b (A1 := none) (n1 := 0) (c1 := 0) (A2 := none) (n2 := 0) (c2 := 0) (i3 := 0) HR.out #[.slice LA2 i lc2, .slice NA nn nc, .int .i64 x.next]
          have hb8 : Below w.heap.size w (wr.setRow w.heap.size #[.slice LA2 i lc2, .slice NA nn nc, .int .i64 x.next]) := HB.out.trans (grown_below (setRow_gby _ _ _) hwr (fun j hj => by injection hj with hj; omega))
          have HXL := Lib.hid hxl
          have HK8 := Lib.hid hk8
          have HRT8 := Lib.hid hrt8
          have HB8 := Lib.hid hb8
          clear hxl hk8 hrt8 hb8
          go_wp2_with fail
          refine bodyPost_ret (v := .tuple #[.agg #[.slice LA2 i lc2, .slice NA nn nc, .int .i64 x.next], .int .i64 0]) (results_cell_tmp Tryz.results14 _ _ w.heap.size 32 _ (0, 0) _ rfl HK8.out Tryz.underlying32 rfl size32) rfl (.inr ⟨HGOOD.out, _, LA2, i, lc2, NA, nn, nc, rs2, rfl, ?_, HB8.out⟩)
          rw [HEL.out, ← HXL.out]
          exact HRT8.out.mono (by omega)
end Go.Proofs.YtoaiamgcegnjjaaGreatDoor
