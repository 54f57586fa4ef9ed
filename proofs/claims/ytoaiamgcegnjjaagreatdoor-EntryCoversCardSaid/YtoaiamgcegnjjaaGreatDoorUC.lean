/- cmp.Or of two, Table.Use. No condition. -/
import Derived.Test.YtoaiamgcegnjjaaGreatDoorUB
namespace Go.Proofs.YtoaiamgcegnjjaaGreatDoor
open Go.RowKit Go.Maps Go.WideMaps Go.Sort
set_option maxRecDepth 100000
attribute [local go_sem ↓] ld57_fold

def orI (a b : Int) : Int := if a = 0 then b else a
theorem or2_any (g : Nat) (x y : Int) (w : World) (hk : Blk w g 3 #[.int .i64 x, .int .i64 y]) : Calls Tryz.prog 48 #[.slice (some ⟨g, 0, none⟩) 2 2] w fun e w' => e = .returned (.int .i64 (orI x y)) ∧ w = w' := by
  have c0 : w.cell? ⟨g, 0, none⟩ = some (.int .i64 x) := (hk.cell 0).trans rfl
  have c1 : w.cell? ⟨g, 1, none⟩ = some (.int .i64 y) := (hk.cell 1).trans rfl
  clear hk
  go_enter Tryz.func48, Tryz.ntmps48
  go_wp2_with fail
  go_loop [8] (fun i => i = .int .i64 0 ∨ (i = .int .i64 1 ∧ x = 0) ∨ (i = .int .i64 2 ∧ x = 0 ∧ y = 0)) (fun i => 2 - (intOf i).toNat)
  case atStart => exact .inl rfl
  case round =>
    rcases hrel with rfl | ⟨rfl, rfl⟩ | ⟨rfl, rfl, rfl⟩
    · by_cases hx : x = 0
      · subst hx
        go_wp2_with fail
        exact ⟨.inr (.inl ⟨by go_num, by simp⟩), by simp [intOf]⟩
      · go_wp2_with fail
        go_ret
        exact ⟨ret_int (by unfold orI; rw [if_neg hx]), rfl⟩
    · by_cases hy : y = 0
      · subst hy
        go_wp2_with fail
        exact ⟨.inr (.inr ⟨by go_num, by simp⟩), by simp [intOf]⟩
      · go_wp2_with fail
        go_ret
        exact ⟨ret_int (by unfold orI; rw [if_pos rfl]), rfl⟩
    · go_wp2_with fail
      go_ret
      exact ⟨rfl, rfl⟩

def betterE (k x : Ent) : Bool := decide (0 < orI (cmpI k.mom x.mom) (cmpI k.id x.id))
def stepU (mo : Int) (dead : Ent → Bool) (b : Option Ent) (k : Ent) : Option Ent :=
  if (decide (k.mom < mo) || dead k) = true then b else match b with
    | none => some k
    | some x => if betterE k x = true then some k else some x
def bestU (T : TabS) (mo : Int) (dead : Ent → Bool) (ids : List Int) : Option Ent :=
  ids.foldl (fun b id => match T.ents id with | some k => stepU mo dead b k | none => b) none
def restU (T : TabS) (obj : ByteArray) (dead : Ent → Bool) (stf : Ent → Int) : Int × Int := match lastS T obj with
  | none => (0, 4)
  | some id => match T.ents id with
    | none => (0, 4)
    | some k => if (!k.kp || dead k) = true then (0, 4) else if stf k = 4 then (0, 4) else (id, stf k)
def useU (T : TabS) (obj : ByteArray) (mo : Int) (dead : Ent → Bool) (stf : Ent → Int) : Int × Int := match T.objs obj with
  | none => (0, 4)
  | some o => match bestU T mo dead o.ids with
    | some k => (k.id, 1)
    | none => restU T obj dead stf
def endU (T : TabS) (obj : ByteArray) (dead : Ent → Bool) (stf : Ent → Int) : Option Ent → Int × Int
  | some k => (k.id, 1)
  | none => restU T obj dead stf
theorem bestU_snoc (T : TabS) (mo : Int) (dead : Ent → Bool) (ids : List Int) (id : Int) {k : Ent} (h : T.ents id = some k) : bestU T mo dead (ids ++ [id]) = stepU mo dead (bestU T mo dead ids) k := by
  unfold bestU
  rw [List.foldl_append]
  simp [h]

theorem known_ld57 {w : World} {g : Nat} {e : Ent} {A : Option Addr} {n c : Nat} {hv : Value} (h : Blk w g 125 (kCells e A n c hv)) : (ld57 (.pointer (some ⟨g, 0, none⟩))).run Tryz.prog w = .ok (.agg (entC e A n c false)) w := by
  refine run_ld57 (q := ⟨e, A, n, c, false⟩) (fun j v hj => ?_)
  rw [h.cell]
  match j, hj with
  | 0, hj | 1, hj | 2, hj | 3, hj | 4, hj | 5, hj | 6, hj | 7, hj | 8, hj | 9, hj | 10, hj | 11, hj | 12, hj | 13, hj | 14, hj | 15, hj | 16, hj => exact hj

section
variable {w : World} {base tb m : Nat} {T : TabS} {be bo : Nat} {kf : Int → Option Nat} {of_ rf : ByteArray → Option Nat}

theorem last_some (h : TabR w base tb m T be bo kf of_ rf) {s : ByteArray} {id : Int} (hl : lastS T s = some id) : (Lit.int .i64 id).wf = true ∧ ∃ e, T.ents id = some e := by
  unfold lastS at hl
  cases ho : T.objs s with
  | none => rw [ho] at hl; cases hl
  | some o =>
    rw [ho] at hl
    dsimp only at hl
    split at hl
    · rename_i hs
      injection hl with hl
      subst hl
      exact ⟨h.told s o ho, Option.isSome_iff_exists.1 hs⟩
    · cases hl
/-- what Use wants of the calls of dead and state -/
def DeadC (w : World) (lb : Nat) (ti mo ge : Int) (T : TabS) (dead : Ent → Bool) : Prop :=
  ∀ wy e A n c, Below w.heap.size w wy → T.ents e.id = some e → Strs wy wy.heap.size A n e.ks → n ≤ 1000 → Calls Tryz.prog 66 #[.agg (entC e A n c false), .agg (askC ti mo ge), .pointer (some ⟨lb, 0, none⟩)] wy fun en w' => en = .returned (.bool (dead e)) ∧ Below wy.heap.size wy w'
def StateC (w : World) (lb : Nat) (ti mo ge : Int) (T : TabS) (stf : Ent → Int) : Prop :=
  ∀ wy e A n c, Below w.heap.size w wy → T.ents e.id = some e → Strs wy wy.heap.size A n e.ks → n ≤ 1000 → Calls Tryz.prog 67 #[.agg (entC e A n c false), .agg (askC ti mo ge), .pointer (some ⟨lb, 0, none⟩)] wy fun en w' => en = .returned (.int .i64 (stf e)) ∧ Below wy.heap.size wy w'

set_option maxHeartbeats 4000000 in
theorem use_any (h : TabR w base tb m T be bo kf of_ rf) {obj : ByteArray} (hs : obj.size ≤ maxLen) (hm : m ≤ 100000) (lb : Nat) (ti mo ge : Int) (dead : Ent → Bool) (stf : Ent → Int) (hD : DeadC w lb ti mo ge T dead) (hS : StateC w lb ti mo ge T stf) :
    Calls Tryz.prog 20 #[.pointer (some ⟨tb, 0, none⟩), .string obj, .agg (askC ti mo ge), .pointer (some ⟨lb, 0, none⟩)] w fun e w' => e = .returned (.tuple #[.int .i64 (useU T obj mo dead stf).1, .int .i64 (useU T obj mo dead stf).2]) ∧ Below w.heap.size w w' := by
  have hb0 : Below w.heap.size w (w.alloc (.cells (askC ti mo ge) 74)) := (Below.refl _ _).alloc (Nat.le_refl _) _
  have k0 : Blk (w.alloc (.cells (askC ti mo ge) 74)) w.heap.size 74 (askC ti mo ge) := Blk.new _ _ _
  have hT := h.grow hb0
  go_enter Tryz.func20, Tryz.ntmps20
  go_upto_region 1 with fail
  generalize w.alloc (.cells (askC ti mo ge) 74) = w1 at *
  have HB0 := Lib.hid hb0
  have K0 := Lib.hid k0
  have HT := Lib.hid hT
  have HD := Lib.hid hD
  have HS := Lib.hid hS
  obtain ⟨c0, c1, c2⟩ := tab_cells hT.blk
  have hl := hT.smap.look hs
  cases hg : of_ obj with
  | none =>
    rw [hg] at hl
    unfold ptrV at hl
    have hn := h.noobj obj hg
    have HN : Hid (useU T obj mo dead stf = (0, 4)) := by show useU T obj mo dead stf = (0, 4); unfold useU; rw [hn]
    clear h hg hn hb0 k0 hT hD hS
    go_wp2_with fail
    go_ret2
    exact ⟨by rw [HN.out]; rfl, HB0.out⟩
  | some go =>
    rw [hg] at hl
    unfold ptrV at hl
    obtain ⟨o, ho, hO⟩ := hT.objs obj go hg
    obtain ⟨OA, on, oc, hob, hon, how, _⟩ := hO.cells
    have q2 : w1.cell? ⟨go, 2, none⟩ = some (.slice OA on oc) := (hob.cell 2).trans rfl
    have HU : Hid (useU T obj mo dead stf = endU T obj dead stf (bestU T mo dead o.ids)) := by
      show useU T obj mo dead stf = _
      unfold useU
      rw [ho]
      dsimp only
      cases bestU T mo dead o.ids <;> rfl
    have hln : o.ids.length = on := by have := own_len how; simpa using this
    have HIDS := Lib.hid (hT.ids obj o ho)
    have hrd := Rd.num (own_rd how)
    have HRD := Lib.hid hrd.2
    have hom : on ≤ m := by have := (hT.ids obj o ho).1; omega
    clear h hg ho hO hob how hrd hb0 k0 hT hD hS
    go_wp2_with fail
    go_loopw [42, 10] (fun i bp wr => ∃ j : Nat, j ≤ on ∧ i = .int .i64 j ∧ Below w1.heap.size w1 wr ∧ ∃ b : Option Ent, bestU T mo dead (o.ids.take j) = b ∧ (∀ e, b = some e → T.ents e.id = some e) ∧ bp = (match b with | none => .pointer none | some e => ptrV (kf e.id))) (fun i _ _ => on - (intOf i).toNat)
    case atStart => exact ⟨0, Nat.zero_le _, rfl, Below.refl _ _, none, rfl, (fun e h => by cases h), rfl⟩
    case round =>
      obtain ⟨j, hj, rfl, hbr, b, hbst, hbe, hbp⟩ := hrel
      have HBP := Lib.hid hbp
      clear hbp
      have HBR := Lib.hid hbr
      have HBST := Lib.hid hbst
      have HBE := Lib.hid hbe
      have HTR := Lib.hid (HT.out.grow hbr)
      have hk0r := K0.out.below hbr K0.out.lt
      obtain ⟨c0, c1, c2⟩ := tab_cells HTR.out.blk
      have hsr := hbr.size
      by_cases hlt : j < on
      · have hj' : j < o.ids.length := by omega
        obtain ⟨rb, ro, rfl, hrb, hcell⟩ := HRD.out j hj'
        have hcell := (hbr.cell (p := ⟨rb, ro + j, none⟩) hrb).trans hcell
        obtain ⟨hwf, e, hent, hobj⟩ := HIDS.out.2 o.ids[j] (List.getElem_mem hj')
        have hsn : o.ids.take (j + 1) = o.ids.take j ++ [o.ids[j]] := by rw [List.take_succ_eq_append_getElem hj']
        have hbn := bestU_snoc T mo dead (o.ids.take j) o.ids[j] hent
        rw [← hsn, hbst] at hbn
        generalize o.ids[j] = id at *
        obtain ⟨g, hkg⟩ := HTR.out.kf_some (id := id) (by rw [hent]; rfl)
        obtain ⟨e2, he2, hid, hK⟩ := HTR.out.ents id g hkg
        obtain rfl : e2 = e := Option.some.inj (he2.symm.trans hent)
        subst hid
        have hlk := HTR.out.imap.look hwf
        rw [hkg] at hlk
        unfold ptrV at hlk
        obtain ⟨KA, kn, kc, hA, hn, hc, hbk, hknc, hko, _⟩ := hK.cells
        have HBN := Lib.hid hbn
        have HENT := Lib.hid hent
        have HKG := Lib.hid hkg
        have k14 : wr.cell? ⟨g, 14, none⟩ = some (.int .i64 e2.mom) := (hbk.cell 14).trans rfl
        have k00 : wr.cell? ⟨g, 0, none⟩ = some (.int .i64 e2.id) := (hbk.cell 0).trans rfl
        have hkn : kn ≤ 1000 := by have h1 := own_len hko; have h2 := hK.keys; simp at h1; omega
        have a1 : wr.cell? ⟨w.heap.size, 1, none⟩ = some (.int .i64 mo) := (hk0r.cell 1).trans rfl
        have HBK := Lib.hid hbk
        have HKO := Lib.hid hko
        have HK0R := Lib.hid hk0r
        clear hbst hbe hsn hbn hobj he2 hent hkg hK hbk hko hk0r hbr
        go_upto_region 10 with fail
        have HBW := Lib.hid (HB0.out.trans (HBR.out.mono HB0.out.size))
        go_cut [68] (fun a wy => a = .bool (decide (e2.mom < mo) || dead e2) ∧ Below wr.heap.size wr wy)
        case first =>
          have r14 := cell_regrown k14
          have ra1 := cell_regrown a1
          by_cases hmo : e2.mom < mo
          · refine wp_region_quiet_below (by kernel_rfl) (by kernel_rfl) ?_
            repeat (go_big_quiet_step (fail))
            refine wpQuiet_nil ?_
            intro _ hw'
            obtain ⟨⟨dq, osq⟩, hw''⟩ := hw'
            subst hw''
            go_wp2_with fail
            go_meet
            exact ⟨by simp [hmo], below_regrown wr dq osq⟩
          · have HMO := Lib.hid hmo
            have ra0 := cell_regrown (show wr.cell? ⟨w.heap.size, 0, none⟩ = some (.int .i64 ti) from (HK0R.out.cell 0).trans rfl)
            have ra2 := cell_regrown (show wr.cell? ⟨w.heap.size, 2, none⟩ = some (.int .i64 ge) from (HK0R.out.cell 2).trans rfl)
            have l57 : ∀ d os, (ld57 (.pointer (some ⟨g, 0, none⟩))).run Tryz.prog (grow (redrawn wr d) os) = .ok (.agg (entC e2 KA kn kc false)) (grow (redrawn wr d) os) := fun d os => known_ld57 (HBK.out.below (below_regrown wr d os) HBK.out.lt)
            have c66 : ∀ d os, Calls Tryz.prog 66 #[.agg (entC e2 KA kn kc false), .agg (askC ti mo ge), .pointer (some ⟨lb, 0, none⟩)] (grow (redrawn wr d) os) fun en w'' => en = .returned (.bool (dead e2)) ∧ ∃ p : Regrown, w'' = grow (redrawn wr p.d) p.os := fun d os =>
              Calls.regrown_of (HD.out _ e2 KA kn kc (HBW.out.trans ((below_regrown wr d os).mono HBW.out.size)) HENT.out (Rd.below (own_rd HKO.out) (below_regrown wr d os) (below_regrown wr d os).size) hkn)
            refine wp_region_quiet_below (by kernel_rfl) (by kernel_rfl) ?_
            repeat (go_big_quiet_step (exact c66 _ _))
            refine wpQuiet_nil ?_
            intro _ hw'
            obtain ⟨⟨dq, osq⟩, hw''⟩ := hw'
            subst hw''
            go_wp2_with fail
            go_meet
            exact ⟨by rw [decide_eq_false (show ¬ e2.mom < mo by have := HMO.out; omega)]; rfl, below_regrown wr dq osq⟩
        case rest =>
          obtain ⟨rfl, hbx⟩ := hcut
          generalize wc = wv at *
          have HBX := Lib.hid hbx
          cases hdd : (decide (e2.mom < mo) || dead e2) with
          | true =>
            have HDD := Lib.hid hdd
            clear hdd hbx
            go_wp2_with fail
            go_roundw
            case rel =>
              refine ⟨j + 1, by omega, by go_num, HBR.out.trans (HBX.out.mono HBR.out.size), b, ?_, HBE.out, HBP.out⟩
              rw [HBN.out]
              unfold stepU
              rw [HDD.out, if_pos rfl]
            case measure => simp [intOf]; omega
          | false =>
            have HDD := Lib.hid hdd
            clear hdd hbx
            go_upto_region 11 with fail
            cases b with
            | none =>
              have hbp : u10 = .pointer none := HBP.out
              subst hbp
              refine wp_region_quiet_below (by kernel_rfl) (by kernel_rfl) ?_
              repeat (go_big_quiet_step (fail))
              refine wpQuiet_nil ?_
              intro _ hw'
              obtain ⟨⟨dq, osq⟩, hw''⟩ := hw'
              subst hw''
              go_wp2_with fail
              go_roundw
              case rel =>
                refine ⟨j + 1, by omega, by go_num, (HBR.out.trans (HBX.out.mono HBR.out.size)).trans ((below_regrown wv dq osq).mono (by have := HBR.out.size; have := HBX.out.size; omega)), some e2, ?_, (fun e h => by injection h with h; subst h; exact HENT.out), ?_⟩
                · rw [HBN.out]
                  unfold stepU
                  rw [HDD.out]
                  rfl
                · show _ = ptrV (kf e2.id)
                  rw [HKG.out]
                  rfl
              case measure => simp [intOf]; omega
            | some x =>
              have hx := HBE.out x rfl
              have HTC := Lib.hid (HTR.out.grow HBX.out)
              obtain ⟨gx, hkx⟩ := HTC.out.kf_some (id := x.id) (by rw [hx]; rfl)
              have hbp : u10 = .pointer (some ⟨gx, 0, none⟩) := by have := HBP.out; rw [this]; show ptrV (kf x.id) = _; rw [hkx]; rfl
              subst hbp
              obtain ⟨x2, hx2, _, hKx⟩ := HTC.out.ents x.id gx hkx
              obtain rfl : x2 = x := Option.some.inj (hx2.symm.trans hx)
              obtain ⟨XA, xn, xc, yA, yn, yc, hbkx, _⟩ := hKx.cells
              have HBKX := Lib.hid hbkx
              have HKX := Lib.hid hkx
              have HBKC := Lib.hid (HBK.out.below HBX.out HBK.out.lt)
              have hgl := HBKC.out.lt
              have hxl := hbkx.lt
              have sk : ∀ wy, Below wv.heap.size wv wy → wy.cell? ⟨g, 14, none⟩ = some (.int .i64 e2.mom) ∧ wy.cell? ⟨g, 0, none⟩ = some (.int .i64 e2.id) ∧ wy.cell? ⟨gx, 14, none⟩ = some (.int .i64 x2.mom) ∧ wy.cell? ⟨gx, 0, none⟩ = some (.int .i64 x2.id) := fun wy hb => by
                have h1 := HBKC.out.below hb HBKC.out.lt
                have h2 := HBKX.out.below hb HBKX.out.lt
                exact ⟨(h1.cell 14).trans rfl, (h1.cell 0).trans rfl, (h2.cell 14).trans rfl, (h2.cell 0).trans rfl⟩
              have SK := Lib.hid sk
              have S0 := Lib.hid (SK.out _ (Below.refl _ _).drew)
              have HX := Lib.hid hx
              clear hx hkx hx2 hKx hbkx sk
              go_cut [97] (fun a wy => a = .bool (betterE e2 x2) ∧ Below wv.heap.size wv wy)
              case first =>
                go_region_held3 (fun wy => wy.cell? ⟨g, 14, none⟩ = some (.int .i64 e2.mom) ∧ wy.cell? ⟨g, 0, none⟩ = some (.int .i64 e2.id) ∧ wy.cell? ⟨gx, 14, none⟩ = some (.int .i64 x2.mom) ∧ wy.cell? ⟨gx, 0, none⟩ = some (.int .i64 x2.id))
                  (first
                    | exact S0.out
                    | exact SK.out _ ((Below.refl _ _).alloc (Nat.le_refl _) _).drew)
                  (first
                    | (go_at_call 49; refine (compare_any _ _ _).mono ?_; rintro en w7 ⟨rfl, rfl⟩)
                    | (go_at_call 48; refine (or2_any _ _ _ _ (Blk.new wv 3 _).drew).mono ?_; rintro en w7 ⟨rfl, rfl⟩))
                all_goals
                  go_wp2_with fail
                  go_meet
                all_goals exact ⟨rfl, ((Below.refl _ _).alloc (Nat.le_refl _) _).drew⟩
              case rest =>
                obtain ⟨rfl, hby⟩ := hcut
                have HBY := Lib.hid hby
                have HBZ := Lib.hid ((HBR.out.trans (HBX.out.mono HBR.out.size)).trans (hby.mono (by have := HBR.out.size; have := HBX.out.size; omega)))
                clear hby
                cases hbt : betterE e2 x2 with
                | true =>
                  have HBT := Lib.hid hbt
                  clear hbt
                  go_wp2_with fail
                  go_roundw
                  case rel =>
                    refine ⟨j + 1, by omega, by go_num, HBZ.out, some e2, ?_, (fun e h => by injection h with h; subst h; exact HENT.out), ?_⟩
                    · rw [HBN.out]
                      unfold stepU
                      rw [HDD.out]
                      show (if betterE e2 x2 = true then some e2 else some x2) = some e2
                      rw [HBT.out, if_pos rfl]
                    · show _ = ptrV (kf e2.id)
                      rw [HKG.out]
                      rfl
                  case measure => simp [intOf]; omega
                | false =>
                  have HBT := Lib.hid hbt
                  clear hbt
                  go_wp2_with fail
                  go_roundw
                  case rel =>
                    refine ⟨j + 1, by omega, by go_num, HBZ.out, some x2, ?_, HBE.out, ?_⟩
                    · rw [HBN.out]
                      unfold stepU
                      rw [HDD.out]
                      show (if betterE e2 x2 = true then some e2 else some x2) = some x2
                      rw [HBT.out, if_neg (by decide)]
                    · show _ = ptrV (kf x2.id)
                      rw [HKX.out]
                      rfl
                  case measure => simp [intOf]; omega
      · obtain rfl : j = on := by omega
        have hta : o.ids.take j = o.ids := List.take_of_length_le (by omega)
        rw [hta] at hbst
        have HU2 : Hid (useU T obj mo dead stf = endU T obj dead stf b) := by
          show useU T obj mo dead stf = _
          rw [HU.out, hbst]
        have HBW := Lib.hid (HB0.out.trans (HBR.out.mono HB0.out.size))
        clear hta hbst
        cases b with
        | some x =>
          have hx := HBE.out x rfl
          obtain ⟨gx, hkx⟩ := HTR.out.kf_some (id := x.id) (by rw [hx]; rfl)
          have hbp : u10 = .pointer (some ⟨gx, 0, none⟩) := by have := HBP.out; rw [this]; show ptrV (kf x.id) = _; rw [hkx]; rfl
          subst hbp
          obtain ⟨x2, hx2, _, hKx⟩ := HTR.out.ents x.id gx hkx
          obtain rfl : x2 = x := Option.some.inj (hx2.symm.trans hx)
          obtain ⟨XA, xn, xc, yA, yn, yc, hbkx, _⟩ := hKx.cells
          have k00 : wr.cell? ⟨gx, 0, none⟩ = some (.int .i64 x2.id) := (hbkx.cell 0).trans rfl
          clear hx hkx hx2 hKx hbkx
          go_wp2_with fail
          go_ret2
          exact ⟨by rw [HU2.out]; rfl, HBW.out⟩
        | none =>
          have hbp : u10 = .pointer none := HBP.out
          subst hbp
          have CLA := Lib.hid (last_any HTR.out hs)
          go_wp2_with fail
          refine CLA.out.mono ?_
          rintro en w2 ⟨rfl, hb2⟩
          have HU3 : Hid (useU T obj mo dead stf = restU T obj dead stf) := HU2.out
          have HBW2 := Lib.hid (HBW.out.trans (hb2.mono HBW.out.size))
          have HT2 := Lib.hid (HTR.out.grow hb2)
          have HK2 := Lib.hid (hk0r.below hb2 hk0r.lt)
          clear hb2 CLA hk0r HU2 HU HBST HBE
          cases hl2 : lastS T obj with
          | none =>
            have HZ : Hid (useU T obj mo dead stf = (0, 4)) := by
              show useU T obj mo dead stf = (0, 4)
              rw [HU3.out]
              unfold restU
              rw [hl2]
            clear hl2
            go_wp2_with fail
            go_ret2
            exact ⟨by rw [HZ.out]; rfl, HBW2.out⟩
          | some id =>
            obtain ⟨hwf, e, hent⟩ := last_some HT2.out hl2
            obtain ⟨g, hkg⟩ := HT2.out.kf_some (id := id) (by rw [hent]; rfl)
            obtain ⟨e2, he2, hid, hK⟩ := HT2.out.ents id g hkg
            obtain rfl : e2 = e := Option.some.inj (he2.symm.trans hent)
            have HZ : Hid (useU T obj mo dead stf = if (!e2.kp || dead e2) = true then (0, 4) else if stf e2 = 4 then (0, 4) else (id, stf e2)) := by
              show useU T obj mo dead stf = _
              rw [HU3.out]
              unfold restU
              rw [hl2]
              dsimp only
              rw [hent]
            subst hid
            have hlk := HT2.out.imap.look hwf
            rw [hkg] at hlk
            unfold ptrV at hlk
            obtain ⟨KA, kn, kc, hA, hn, hc, hbk, hknc, hko, _⟩ := hK.cells
            have HENT := Lib.hid hent
            have k12 : w2.cell? ⟨g, 12, none⟩ = some (.bool e2.kp) := (hbk.cell 12).trans rfl
            have hkn : kn ≤ 1000 := by have h1 := own_len hko; have h2 := hK.keys; simp at h1; omega
            have HBK := Lib.hid hbk
            have HKO := Lib.hid hko
            obtain ⟨c0, c1, c2⟩ := tab_cells HT2.out.blk
            clear hl2 he2 hent hkg hK hbk hko
            go_upto_region 20 with fail
            go_cut [136] (fun a wy => a = .bool (!e2.kp || dead e2) ∧ Below w2.heap.size w2 wy)
            case first =>
              cases hkp : e2.kp with
              | false =>
                rw [hkp] at k12
                have HKP := Lib.hid hkp
                clear hkp
                have r12 := cell_regrown k12
                refine wp_region_quiet_below (by kernel_rfl) (by kernel_rfl) ?_
                repeat (go_big_quiet_step (fail))
                refine wpQuiet_nil ?_
                intro _ hw'
                obtain ⟨⟨dq, osq⟩, hw''⟩ := hw'
                subst hw''
                go_wp2_with fail
                go_meet
                exact ⟨by simp [HKP.out], below_regrown w2 dq osq⟩
              | true =>
                rw [hkp] at k12
                have HKP := Lib.hid hkp
                clear hkp
                have r12 := cell_regrown k12
                have ra0 := cell_regrown (show w2.cell? ⟨w.heap.size, 0, none⟩ = some (.int .i64 ti) from (HK2.out.cell 0).trans rfl)
                have ra1 := cell_regrown (show w2.cell? ⟨w.heap.size, 1, none⟩ = some (.int .i64 mo) from (HK2.out.cell 1).trans rfl)
                have ra2 := cell_regrown (show w2.cell? ⟨w.heap.size, 2, none⟩ = some (.int .i64 ge) from (HK2.out.cell 2).trans rfl)
                have l57 : ∀ d os, (ld57 (.pointer (some ⟨g, 0, none⟩))).run Tryz.prog (grow (redrawn w2 d) os) = .ok (.agg (entC e2 KA kn kc false)) (grow (redrawn w2 d) os) := fun d os => known_ld57 (HBK.out.below (below_regrown w2 d os) HBK.out.lt)
                have c66 : ∀ d os, Calls Tryz.prog 66 #[.agg (entC e2 KA kn kc false), .agg (askC ti mo ge), .pointer (some ⟨lb, 0, none⟩)] (grow (redrawn w2 d) os) fun en w'' => en = .returned (.bool (dead e2)) ∧ ∃ p : Regrown, w'' = grow (redrawn w2 p.d) p.os := fun d os =>
                  Calls.regrown_of (HD.out _ e2 KA kn kc (HBW2.out.trans ((below_regrown w2 d os).mono HBW2.out.size)) HENT.out (Rd.below (own_rd HKO.out) (below_regrown w2 d os) (below_regrown w2 d os).size) hkn)
                refine wp_region_quiet_below (by kernel_rfl) (by kernel_rfl) ?_
                repeat (go_big_quiet_step (exact c66 _ _))
                refine wpQuiet_nil ?_
                intro _ hw'
                obtain ⟨⟨dq, osq⟩, hw''⟩ := hw'
                subst hw''
                go_wp2_with fail
                go_meet
                exact ⟨by simp [HKP.out], below_regrown w2 dq osq⟩
            case rest =>
              obtain ⟨rfl, hbx⟩ := hcut
              generalize wc = wv at *
              have HBX := Lib.hid hbx
              have HBWv := Lib.hid (HBW2.out.trans (hbx.mono HBW2.out.size))
              have HBKv := Lib.hid (HBK.out.below hbx HBK.out.lt)
              have HK2v := Lib.hid (HK2.out.below hbx HK2.out.lt)
              have HKOv := Lib.hid ((own_rd HKO.out).below hbx hbx.size)
              clear hbx HBK HK2 HKO k12
              cases hdd : (!e2.kp || dead e2) with
              | true =>
                have HZ2 : Hid (useU T obj mo dead stf = (0, 4)) := by
                  show useU T obj mo dead stf = (0, 4)
                  rw [HZ.out, hdd, if_pos rfl]
                clear hdd
                go_wp2_with fail
                go_ret2
                exact ⟨by rw [HZ2.out]; rfl, HBWv.out⟩
              | false =>
                have HZ2 : Hid (useU T obj mo dead stf = if stf e2 = 4 then (0, 4) else (e2.id, stf e2)) := by
                  show useU T obj mo dead stf = _
                  rw [HZ.out, hdd, if_neg (by decide)]
                clear hdd
                go_upto_region 22 with fail
                have ra0 := cell_regrown (show wv.cell? ⟨w.heap.size, 0, none⟩ = some (.int .i64 ti) from (HK2v.out.cell 0).trans rfl)
                have ra1 := cell_regrown (show wv.cell? ⟨w.heap.size, 1, none⟩ = some (.int .i64 mo) from (HK2v.out.cell 1).trans rfl)
                have ra2 := cell_regrown (show wv.cell? ⟨w.heap.size, 2, none⟩ = some (.int .i64 ge) from (HK2v.out.cell 2).trans rfl)
                have l57 : ∀ d os, (ld57 (.pointer (some ⟨g, 0, none⟩))).run Tryz.prog (grow (redrawn wv d) os) = .ok (.agg (entC e2 KA kn kc false)) (grow (redrawn wv d) os) := fun d os => known_ld57 (HBKv.out.below (below_regrown wv d os) HBKv.out.lt)
                have c67 : ∀ d os, Calls Tryz.prog 67 #[.agg (entC e2 KA kn kc false), .agg (askC ti mo ge), .pointer (some ⟨lb, 0, none⟩)] (grow (redrawn wv d) os) fun en w'' => en = .returned (.int .i64 (stf e2)) ∧ ∃ p : Regrown, w'' = grow (redrawn wv p.d) p.os := fun d os =>
                  Calls.regrown_of (HS.out _ e2 KA kn kc (HBWv.out.trans ((below_regrown wv d os).mono HBWv.out.size)) HENT.out (HKOv.out.below (below_regrown wv d os) (below_regrown wv d os).size) hkn)
                refine wp_region_quiet_below (by kernel_rfl) (by kernel_rfl) ?_
                repeat (go_big_quiet_step (exact c67 _ _))
                refine wpQuiet_nil ?_
                intro _ hw'
                obtain ⟨⟨dq, osq⟩, hw''⟩ := hw'
                subst hw''
                by_cases h4 : stf e2 = 4
                · have HZ3 : Hid (useU T obj mo dead stf = (0, 4)) := by
                    show useU T obj mo dead stf = (0, 4)
                    rw [HZ2.out, if_pos h4]
                  go_wp2_with fail
                  go_ret2
                  exact ⟨by rw [HZ3.out]; rfl, HBWv.out.trans ((below_regrown wv dq osq).mono HBWv.out.size)⟩
                · have HZ3 : Hid (useU T obj mo dead stf = (e2.id, stf e2)) := by
                    show useU T obj mo dead stf = (e2.id, stf e2)
                    rw [HZ2.out, if_neg h4]
                  go_wp2_with fail
                  go_ret2
                  exact ⟨by rw [HZ3.out]; rfl, HBWv.out.trans ((below_regrown wv dq osq).mono HBWv.out.size)⟩
end
end Go.Proofs.YtoaiamgcegnjjaaGreatDoor
