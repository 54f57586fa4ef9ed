/- EntryOne's walk: whatever the acts and whoever asks, true. No condition. -/
import Derived.Test.YtoaiamgcegnjjaaGreatDoorUQ
import Derived.Test.YtoaiamgcegnjjaaGreatDoorUP
namespace Go.Proofs.YtoaiamgcegnjjaaGreatDoor
open Go.RowKit Go.Maps Go.WideMaps Go.Sort
set_option maxRecDepth 100000
attribute [local go_sem ↓] st32_fold ld57_fold st57_fold

theorem purgeLoad_nil2 (w : World) : Calls Tryz.prog 64 #[.slice none 0 0, .int .i64 0] w fun e w' => ∃ lb, e = .returned (.tuple #[.pointer (some ⟨lb, 0, none⟩), .int .i64 0]) ∧ w.heap.size ≤ lb ∧ Blk w' lb 201 #[.int .i64 0, .slice none 0 0] ∧ Below w.heap.size w w' := by
  go_enter Tryz.func64, Tryz.ntmps64
  go_wp2_with fail
  go_loop [20] (fun i => i = .int .i64 0) (fun _ => 0)
  case atStart => rfl
  case round =>
    subst hrel
    go_wp2_with fail
    go_ret2
    exact ⟨_, rfl, Nat.le_refl _, Blk.new _ _ _, (Below.refl _ _).alloc (Nat.le_refl _) _⟩

theorem log_nil2 (w : World) : Calls Tryz.prog 18 #[.agg #[.int .i64 0, .slice none 0 0]] w fun e w' => ∃ lb, e = .returned (.tuple #[.pointer (some ⟨lb, 0, none⟩), .agg #[.slice none 0 0, .int .i64 0], .bool true]) ∧ LogAt w' w'.heap.size lb 0 [] ∧ Below w.heap.size w w' := by
  go_enter Tryz.func18, Tryz.ntmps18
  go_wp2_with fail
  go_loop [6, 35] (fun l i => l = .slice none 0 0 ∧ i = .int .i64 0) (fun _ _ => 0)
  case atStart => exact ⟨rfl, rfl⟩
  case round =>
    obtain ⟨rfl, rfl⟩ := hrel
    go_wp2_with fail
    refine (purgeLoad_nil2 _).mono ?_
    rintro en w1 ⟨lb, rfl, hlb, hkl, hb⟩
    have hs : w.heap.size + 1 + 1 + 1 ≤ w1.heap.size := by simpa using hb.size
    have hlb : w.heap.size + 1 + 1 + 1 ≤ lb := by simpa using hlb
    have b3 : Blk w1 (w.heap.size + 1) 67 #[.slice none 0 0, .int .i64 0] := Blk.below ((new2 w _ 67 _).alloc _) hb (by simp)
    have b5 : Blk w1 (w.heap.size + 1 + 1) 67 #[.slice none 0 0, .int .i64 0] := by
      refine Blk.below ?_ hb (by simp)
      have := new2 (w.alloc (.cells #[.int .i64 0, .slice none 0 0] 61)) (.cells #[.slice none 0 0, .int .i64 0] 67) 67 #[.slice none 0 0, .int .i64 0]
      simpa using this
    have c30 : w1.cell? ⟨w.heap.size + 1, 0, none⟩ = some (.slice none 0 0) := (b3.cell 0).trans rfl
    have c31 : w1.cell? ⟨w.heap.size + 1, 1, none⟩ = some (.int .i64 0) := (b3.cell 1).trans rfl
    have c50 : w1.cell? ⟨w.heap.size + 1 + 1, 0, none⟩ = some (.slice none 0 0) := (b5.cell 0).trans rfl
    have c51 : w1.cell? ⟨w.heap.size + 1 + 1, 1, none⟩ = some (.int .i64 0) := (b5.cell 1).trans rfl
    have f3 := b3.free'
    have HKL := Lib.hid hkl
    have HB := Lib.hid ((((Below.refl w.heap.size w).alloc (Nat.le_refl _) _).alloc (by simp) _).alloc (by simp; omega) _ |>.trans (hb.mono (by simp; omega)))
    clear hb b3 b5 hkl
    go_wp2_with fail
    go_region
    all_goals
      go_wp2_with fail
      refine bodyPost_ret (v := .tuple #[.pointer (some ⟨lb, 0, none⟩), .agg #[.slice none 0 0, .int .i64 0], .bool true]) ?_ rfl ⟨lb, rfl, ?_, ?_⟩
      · simp [results, Tryz.results18, go_sem, c30, c31]
      · have hk := (HKL.out.drew.far (b := w.heap.size + 1) (o := 0) (by omega) (.slice none 0 0)).far (b := w.heap.size + 1) (o := 1) (by omega) (.int .i64 0)
        exact ⟨hk.lt, ⟨none, 0, 0, Nat.zero_le _, hk, Rd.nil⟩, fun r hr => by cases hr⟩
      · exact below_set (below_set HB.out.drew (by omega) _) (by omega) _

section
variable {w : World} {base tb m : Nat} {T : TabS}
theorem use_one (hT : Tab w base tb m T) (hm : m ≤ 100000) {obj : ByteArray} (hs : obj.size ≤ maxLen) {lb B : Nat} (hL : LogAt w B lb 0 []) (hB : B ≤ w.heap.size) (ti mo ge : Int) :
    Calls Tryz.prog 20 #[.pointer (some ⟨tb, 0, none⟩), .string obj, .agg (askC ti mo ge), .pointer (some ⟨lb, 0, none⟩)] w fun e w' => e = .returned (.tuple #[.int .i64 (useU T obj mo (fun _ => false) (fun e => stateOf e.fr e.wh e.er e.said ti)).1, .int .i64 (useU T obj mo (fun _ => false) (fun e => stateOf e.fr e.wh e.er e.said ti)).2]) ∧ Below w.heap.size w w' := by
  obtain ⟨be, bo, kf, of_, rf, h⟩ := hT
  refine use_any h hs hm lb ti mo ge (fun _ => false) (fun e => stateOf e.fr e.wh e.er e.said ti) ?_ ?_
  · intro wy e A n c hb he hk hn
    have := dead_any ⟨e, A, n, c, false⟩ ti mo ge lb B 0 [] wy hk hn (hL.below (hb.mono hB)) (Nat.le_trans hB hb.size)
    rw [List.map_nil, last_empty] at this
    exact this
  · intro wy e A n c hb he hk hn
    exact stateE_any ⟨e, A, n, c, false⟩ ti mo ge lb B 0 [] wy hk hn (hL.below (hb.mono hB)) (Nat.le_trans hB hb.size) (last_empty _ _ _ _)
end

theorem sim_rise {k : Nat} {T : TabS} {x : RTab} (h : Sim k T x) : (x.L.map (·.id)).Pairwise (· < ·) := by
  have := h.rise
  rw [List.pairwise_map] at this ⊢
  exact this
theorem sim_ids {k : Nat} {T : TabS} {x : RTab} (h : Sim k T x) (i : Int) : i ∈ x.L.map (·.id) ↔ (T.ents i).isSome := by
  rw [List.mem_map]
  constructor
  · rintro ⟨e, he, rfl⟩
    rw [h.ent_of he]
    rfl
  · intro hi
    obtain ⟨e', he'⟩ := Option.isSome_iff_exists.1 hi
    obtain ⟨e, he, h1, _⟩ := (h.ents _ _).1 he'
    exact ⟨e, he, h1⟩

set_option maxHeartbeats 8000000 in
theorem entryOne_any (A : Option Addr) (n c : Nat) (l : List ActS) (obj : ByteArray) (ti mo ge lat : Int) (W : World) (hr : Rd W W.heap.size 25 A n (l.flatMap ActS.cells)) (hok : ∀ a ∈ l, a.Ok W W.heap.size) (hn : n ≤ 9223372036854775807) (hob : obj.size ≤ maxLen) (hlat : 0 ≤ lat ∧ lat ≤ 255) :
    Calls Tryz.prog 6 #[.slice A n c, .agg #[.string obj, .int .i64 ti, .int .i64 mo, .int .i64 ge], .int .u8 lat] W fun e w' => e = .returned (.bool true) ∧ Below W.heap.size W w' := by
  have HRD := Lib.hid hr
  have HOK := Lib.hid hok
  have hb0 : Below W.heap.size W (W.alloc (.cells #[.string obj, .int .i64 ti, .int .i64 mo, .int .i64 ge] 63)) := (Below.refl _ _).alloc (Nat.le_refl _) _
  have k4 : Blk (W.alloc (.cells #[.string obj, .int .i64 ti, .int .i64 mo, .int .i64 ge] 63)) W.heap.size 63 #[.string obj, .int .i64 ti, .int .i64 mo, .int .i64 ge] := Blk.new _ _ _
  clear hr hok
  go_enter Tryz.func6, Tryz.ntmps6
  go_upto_region 1 with fail
  generalize W.alloc (.cells #[.string obj, .int .i64 ti, .int .i64 mo, .int .i64 ge] 63) = w0 at *
  have HB0 := Lib.hid hb0
  have hs0 := k4.lt
  go_wp2_with fail
  refine (wakes_any w0).mono ?_
  rintro en w1 ⟨rfl, hb1⟩
  have HB1 := Lib.hid (HB0.out.trans (hb1.mono HB0.out.size))
  have K41 := Lib.hid (k4.below hb1 k4.lt)
  clear hb1 hb0 k4
  go_wp2_with fail
  refine (log_nil2 w1).mono ?_
  rintro en w2 ⟨lb, rfl, hL2, hb2⟩
  have HB2 := Lib.hid (HB1.out.trans (hb2.mono HB1.out.size))
  have K42 := Lib.hid (K41.out.below hb2 K41.out.lt)
  have HL2 := Lib.hid hL2
  clear hb2 hL2
  go_upto_region 4 with fail
  have hb3 : Below w2.heap.size w2 (w2.alloc (.cells #[.slice none 0 0, .int .i64 0] 67)) := (Below.refl _ _).alloc (Nat.le_refl _) _
  generalize w2.alloc (.cells #[.slice none 0 0, .int .i64 0] 67) = w3 at *
  have HB3 := Lib.hid (HB2.out.trans (hb3.mono HB2.out.size))
  have K43 := Lib.hid (K42.out.below hb3 K42.out.lt)
  have HL3 := Lib.hid (HL2.out.below hb3)
  have hs23 := hb3.size
  have CS := Lib.hid (small_any A n c l W.heap.size w3 (HRD.out.below HB3.out (Nat.le_refl _)) (fun a ha => (HOK.out a ha).keys.below HB3.out (Nat.le_refl _)) HB3.out.size hn)
  clear hb3
  go_wp2_with fail
  refine CS.out.mono ?_
  rintro en w4 ⟨⟨b, rfl, hbb⟩, hb4⟩
  have HB4 := Lib.hid (HB3.out.trans (hb4.mono HB3.out.size))
  have K44 := Lib.hid (K43.out.below hb4 K43.out.lt)
  have HL4 := Lib.hid (HL3.out.below (hb4.mono hs23))
  have hs34 := hb4.size
  have HBB := Lib.hid hbb
  have q0 : w4.cell? ⟨W.heap.size, 0, none⟩ = some (.string obj) := (K44.out.cell 0).trans rfl
  clear hb4 hbb CS HB1 HB2 HB3 K41 K42 K43 HL2 HL3
  cases b with
  | false =>
    go_wp2_with fail
    go_ret
    exact ⟨rfl, HB4.out⟩
  | true =>
    have hfew := HBB.out (by first | rfl | trivial)
    have hn30 := hfew.1
    have HFEW := Lib.hid hfew.2
    clear hfew HBB
    by_cases h300 : (300 : Int) < (obj.size : Int)
    · go_wp2_with fail
      go_ret
      exact ⟨rfl, HB4.out⟩
    have CP := Lib.hid (play_any A n c l W.heap.size w4 (HRD.out.below HB4.out (Nat.le_refl _)) (fun a ha => { HOK.out a ha with keys := (HOK.out a ha).keys.below HB4.out (Nat.le_refl _) }) HB4.out.size hn30 HFEW.out)
    go_upto_region 6 with fail
    go_wp2_with fail
    refine CP.out.mono ?_
    rintro en w5 ⟨base, tb, v, T, x, LA, ln, lc, NA, nn, nc, rs, rfl, hb5, hba, hbw, hT5, hR5, hS5⟩
    have hlen := hR5.len.2.1
    have hlf := hR5.lfew
    have hv := hR5.val
    subst hv
    have st5 := run_st32 (v := #[.slice LA ln lc, .slice NA nn nc, .int .i64 x.next]) (Blk.new w5 32 zero32) rfl rfl (by simp [Value.oneCell'])
    have HB5 := Lib.hid (HB4.out.trans (hb5.mono HB4.out.size))
    have K45 := Lib.hid (K44.out.below hb5 K44.out.lt)
    have HL5 := Lib.hid (HL4.out.below (hb5.mono (by omega)))
    have hs45 := hb5.size
    have HT5 := Lib.hid hT5
    have HS := Lib.hid hS5
    clear hb5 hT5 hR5 hS5 CP q0 HB4 K44 HL4
    go_upto_region 7 with fail
    have hb6 : Below w5.heap.size w5 ((w5.alloc (.cells zero32 32)).setRow w5.heap.size #[.slice LA ln lc, .slice NA nn nc, .int .i64 x.next]) := ((Below.refl _ _).alloc (Nat.le_refl _) _).trans (grown_below (setRow_gby _ _ _) (by simp) (fun k hk => by injection hk with hk; omega))
    generalize (w5.alloc (.cells zero32 32)).setRow w5.heap.size #[.slice LA ln lc, .slice NA nn nc, .int .i64 x.next] = w6 at *
    have HB6 := Lib.hid (HB5.out.trans (hb6.mono HB5.out.size))
    have K46 := Lib.hid (K45.out.below hb6 K45.out.lt)
    have HL6 := Lib.hid (HL5.out.below (hb6.mono (by omega)))
    have hs56 := hb6.size
    have HT6 := Lib.hid (HT5.out.keepsBox hb6)
    clear hb6 st5 HB5 K45 HL5 HT5
    have CA := Lib.hid (all_anyC HT6.out (by omega) (x.L.map (·.id)) (sim_rise HS.out) (sim_ids HS.out))
    have hIl : (x.L.map (·.id)).length = ln := by simp; omega
    go_wp2_with fail
    refine CA.out.mono ?_
    rintro en w7 ⟨⟨A5, c5, out, rfl, hcap, hol, hout, hrd, hkeys⟩, hb7⟩
    have HIR := Lib.hid (sim_rise HS.out)
    rw [hIl] at hrd hol hcap ⊢
    have HOL := Lib.hid hol
    have HOUT := Lib.hid hout
    have HRD7 := Lib.hid hrd
    have HB7 := Lib.hid (HB6.out.trans (hb7.mono HB6.out.size))
    have K47 := Lib.hid (K46.out.below hb7 K46.out.lt)
    have HL7 := Lib.hid (HL6.out.below (hb7.mono (by omega)))
    have hs67 := hb7.size
    have HT7 := Lib.hid (HT6.out.keepsBox hb7)
    -- what each entry that is told is
    have FAC : Hid (∀ j (hj : j < out.length), T.ents out[j].e.id = some out[j].e ∧ out[j].tu = turnedS T out[j].e ∧ ∀ k (hk : k < out.length), k < j → out[k].e.id < out[j].e.id) := by
      show ∀ j (hj : j < out.length), _
      intro j hj
      have hj' : j < (x.L.map (·.id)).length := by omega
      obtain ⟨h1, h2, h3⟩ := HOUT.out j hj' hj
      refine ⟨by rw [h2]; exact h1, h3, fun k hk hkj => ?_⟩
      have hk' : k < (x.L.map (·.id)).length := by omega
      obtain ⟨g1, g2, g3⟩ := HOUT.out k hk' hk
      rw [g2, h2]
      have := HIR.out
      rw [List.pairwise_iff_getElem] at this
      exact this k j hk' hj' hkj
    have HROW : Hid (∀ j (hj : j < out.length), ∃ b o, A5 = some ⟨b, o, none⟩ ∧ b < w7.heap.size ∧ w7.rangeAt b (o + j * 17) out[j].cells) := by
      show ∀ j (hj : j < out.length), _
      obtain ⟨-, hrow⟩ := (show PR w7 w7.heap.size 17 A5 ln (out.flatMap EM.cells) from PR.of_old HRD7.out (Nat.le_refl _)).row EM.cells_len (by decide)
      exact hrow
    clear hb7 hol hout hrd hkeys CA HB6 K46 HL6 HT6 hIl
    go_wp2_with fail
    go_loopw [54] (fun i wr => ∃ j : Nat, j ≤ ln ∧ i = .int .i64 j ∧ Below w7.heap.size w7 wr) (fun i _ => ln - (intOf i).toNat)
    case atStart => exact ⟨0, Nat.zero_le _, rfl, Below.refl _ _⟩
    case round =>
      obtain ⟨j, hj, rfl, hbr⟩ := hrel
      have HBR := Lib.hid hbr
      have hsr := hbr.size
      clear hbr
      by_cases hlt : j < ln
      · have hjo : j < out.length := by have := HOL.out; omega
        obtain ⟨b5, o5, rfl, hb5, hr5⟩ := HROW.out j hjo
        obtain ⟨hte, htu, hless⟩ := FAC.out j hjo
        have hq5 : wr.rangeAt b5 (o5 + j * 17) out[j].cells := fun i v hv => (HBR.out.cell (p := ⟨b5, o5 + j * 17 + i, none⟩) hb5).trans (hr5 i v hv)
        generalize hqq : out[j] = q at *
        have HTE := Lib.hid hte
        have HTU := Lib.hid htu
        have HLESS := Lib.hid hless
        have l6 : (ld57 (.pointer (some ⟨b5, o5 + j * 17, none⟩))).run Tryz.prog wr = .ok (.agg (entC q.e q.A q.n q.c q.tu)) wr := run_ld57 hq5
        have s6 := run_st57 wr q
        clear hqq hte htu hless hq5 hr5
        have i1 : (0 : Int) ≤ (j : Int) := by omega
        have i2 : (j : Int) < (ln : Int) := by omega
        go_upto_region 11 with fail
        have hb8 : Below wr.heap.size wr (wr.alloc (.cells (entC q.e q.A q.n q.c q.tu) 57)) := (Below.refl _ _).alloc (Nat.le_refl _) _
        have k8 : Blk (wr.alloc (.cells (entC q.e q.A q.n q.c q.tu) 57)) wr.heap.size 57 (entC q.e q.A q.n q.c q.tu) := Blk.new _ _ _
        generalize wr.alloc (.cells (entC q.e q.A q.n q.c q.tu) 57) = w8 at *
        have HB78 := Lib.hid (HBR.out.trans (hb8.mono hsr))
        have K8 := Lib.hid k8
        have hs8 := k8.lt
        clear hb8 k8 l6 s6
        generalize hge : wr.heap.size = ge0 at *
        clear hge
        generalize wr = wA at *
        have i3 : (j : Int) ≤ (c5 : Int) := by omega
        go_wp2_with fail
        go_loopw [63] (fun i wr => ∃ k : Nat, k ≤ j ∧ i = .int .i64 k ∧ Below w8.heap.size w8 wr) (fun i _ => j - (intOf i).toNat)
        case atStart => exact ⟨0, Nat.zero_le _, rfl, Below.refl _ _⟩
        case round =>
          obtain ⟨k, hk, rfl, hbk⟩ := hrel
          have HBK := Lib.hid hbk
          have hsk := hbk.size
          have K8k := Lib.hid (K8.out.below hbk K8.out.lt)
          clear hbk
          by_cases hlk : k < j
          · have hko : k < out.length := by omega
            obtain ⟨b5', o5', he5, hb5', hr5'⟩ := HROW.out k hko
            obtain ⟨hte2, htu2, -⟩ := FAC.out k hko
            have hls := HLESS.out k hko hlk
            injection he5 with he5
            injection he5 with he5 he6
            subst he5 he6
            have hb7k := HB78.out.trans (HBK.out.mono HB78.out.size)
            have hq5 : wr.rangeAt b5 (o5 + k * 17) out[k].cells := fun i v hv => (hb7k.cell (p := ⟨b5, o5 + k * 17 + i, none⟩) hb5).trans (hr5' i v hv)
            generalize hqq : out[k] = q2 at *
            have HTU2 := Lib.hid htu2
            have l9 : (ld57 (.pointer (some ⟨b5, o5 + k * 17, none⟩))).run Tryz.prog wr = .ok (.agg (entC q2.e q2.A q2.n q2.c q2.tu)) wr := run_ld57 hq5
            have s9 := run_st57 wr q2
            clear hqq hte2 htu2 hq5 hr5' hb7k
            have j1 : (0 : Int) ≤ (k : Int) := by omega
            have j2 : (k : Int) < (j : Int) := by omega
            go_upto_region 14 with fail
            have hb9 : Below wr.heap.size wr (wr.alloc (.cells (entC q2.e q2.A q2.n q2.c q2.tu) 57)) := (Below.refl _ _).alloc (Nat.le_refl _) _
            have k9 : Blk (wr.alloc (.cells (entC q2.e q2.A q2.n q2.c q2.tu) 57)) wr.heap.size 57 (entC q2.e q2.A q2.n q2.c q2.tu) := Blk.new _ _ _
            generalize wr.alloc (.cells (entC q2.e q2.A q2.n q2.c q2.tu) 57) = w9 at *
            have HB89 := Lib.hid (HBK.out.trans (hb9.mono hsk))
            have k89 := K8k.out.below hb9 K8k.out.lt
            have e0 : w9.cell? ⟨ge0, 0, none⟩ = some (.int .i64 q.e.id) := (k89.cell 0).trans rfl
            have e1 : w9.cell? ⟨ge0, 1, none⟩ = some (.string q.e.obj) := (k89.cell 1).trans rfl
            have e16 : w9.cell? ⟨ge0, 16, none⟩ = some (.bool q.tu) := (k89.cell 16).trans rfl
            have g0 : w9.cell? ⟨wr.heap.size, 0, none⟩ = some (.int .i64 q2.e.id) := (k9.cell 0).trans rfl
            have g1 : w9.cell? ⟨wr.heap.size, 1, none⟩ = some (.string q2.e.obj) := (k9.cell 1).trans rfl
            have g16 : w9.cell? ⟨wr.heap.size, 16, none⟩ = some (.bool q2.tu) := (k9.cell 16).trans rfl
            clear hb9 k9 k89 l9 s9
            go_cut [88] (fun a wy => a = .bool false ∧ w9 = wy)
            case first =>
              by_cases hob2 : (q.e.obj.toList == q2.e.obj.toList) = true
              · have heq : q.e.obj.toList = q2.e.obj.toList := eq_of_beq hob2
                have heo : q.e.obj = q2.e.obj := by rw [bytes_beq] at hob2; exact of_decide_eq_true hob2
                have hnot : ¬ (q.tu = false ∧ q2.tu = false) := fun ⟨h1, h2⟩ => by
                  have t1 := turned_last (HTU.out.symm.trans h1)
                  have t2 := turned_last (HTU2.out.symm.trans h2)
                  rw [heo, t2] at t1
                  injection t1 with t1
                  omega
                have d1 : q.tu = false ∨ q.tu = true := by cases q.tu <;> simp
                have d2 : q2.tu = false ∨ q2.tu = true := by cases q2.tu <;> simp
                rcases d1 with h1 | h1 <;> rcases d2 with h2 | h2
                · exact absurd ⟨h1, h2⟩ hnot
                all_goals
                  rw [h1] at e16
                  rw [h2] at g16
                  clear h1 h2 hnot heo
                  go_wp2_with fail
                  go_meet
                  exact ⟨by simp; omega, rfl⟩
              · have hob2 : (q.e.obj.toList == q2.e.obj.toList) = false := by simpa using hob2
                go_wp2_with fail
                go_meet
                exact ⟨by simp; omega, rfl⟩
            case rest =>
              obtain ⟨rfl, rfl⟩ := hcut
              clear e0 e1 e16 g0 g1 g16
              go_wp2_with fail
              go_roundw
              case rel => exact ⟨k + 1, by omega, by go_num, HB89.out⟩
              case measure => simp [intOf]; omega
          · obtain rfl : k = j := by omega
            generalize wr = wB at *
            have HB7B := Lib.hid (HB78.out.trans (HBK.out.mono HB78.out.size))
            have HTB := Lib.hid (HT7.out.keepsBox HB7B.out)
            have e1 : wB.cell? ⟨ge0, 1, none⟩ = some (.string q.e.obj) := (K8k.out.cell 1).trans rfl
            have CL := Lib.hid (tab_last HTB.out HTE.out)
            go_wp2_with fail
            refine CL.out.mono ?_
            rintro en w10 ⟨rfl, hb10⟩
            have HB10 := Lib.hid (HB7B.out.trans (hb10.mono HB7B.out.size))
            have k810 := K8k.out.below hb10 K8k.out.lt
            have e0 : w10.cell? ⟨ge0, 0, none⟩ = some (.int .i64 q.e.id) := (k810.cell 0).trans rfl
            have e16 : w10.cell? ⟨ge0, 16, none⟩ = some (.bool q.tu) := (k810.cell 16).trans rfl
            clear hb10 k810 CL e1
            cases htu : q.tu with
            | true =>
              rw [htu] at e16
              clear htu
              generalize lastS T q.e.obj = la
              go_wp2_with fail
              go_roundw
              case rel => exact ⟨k + 1, by omega, by go_num, HB10.out⟩
              case measure => simp [intOf]; omega
            | false =>
              have hll := turned_last (HTU.out.symm.trans htu)
              rw [hll]
              rw [htu] at e16
              clear htu hll
              go_wp2_with fail
              go_roundw
              case rel => exact ⟨k + 1, by omega, by go_num, HB10.out⟩
              case measure => simp [intOf]; omega
      · obtain rfl : j = ln := by omega
        have HBW := Lib.hid (HB7.out.trans (HBR.out.mono HB7.out.size))
        have K4r := Lib.hid (K47.out.below HBR.out K47.out.lt)
        have HLr := Lib.hid (HL7.out.below (HBR.out.mono (by omega)))
        have HTr := Lib.hid (HT7.out.keepsBox HBR.out)
        have q0 : wr.cell? ⟨W.heap.size, 0, none⟩ = some (.string obj) := (K4r.out.cell 0).trans rfl
        have q1 : wr.cell? ⟨W.heap.size, 1, none⟩ = some (.int .i64 ti) := (K4r.out.cell 1).trans rfl
        have q2 : wr.cell? ⟨W.heap.size, 2, none⟩ = some (.int .i64 mo) := (K4r.out.cell 2).trans rfl
        have q3 : wr.cell? ⟨W.heap.size, 3, none⟩ = some (.int .i64 ge) := (K4r.out.cell 3).trans rfl
        have hWA := K4r.out.lt
        clear HB7 K47 HL7 HT7 HROW FAC HRD7 HOUT
        generalize wr = wA at *
        go_upto_region 22 with (go_at_call 21; refine (asked_any _ _ _ _).mono ?_; rintro en w8 ⟨rfl, hb8⟩; (have HB8 := Lib.hid hb8); clear hb8)
        have hb9 : Below w8.heap.size w8 (w8.alloc (.cells (askC ti mo ge) 74)) := (Below.refl _ _).alloc (Nat.le_refl _) _
        have k9 : Blk (w8.alloc (.cells (askC ti mo ge) 74)) w8.heap.size 74 (askC ti mo ge) := Blk.new _ _ _
        generalize w8.alloc (.cells (askC ti mo ge) 74) = w9 at *
        have HB89 := Lib.hid (HB8.out.trans (hb9.mono HB8.out.size))
        have HBW9 := Lib.hid (HBW.out.trans (HB89.out.mono HBW.out.size))
        have K49 := Lib.hid (K4r.out.below HB89.out K4r.out.lt)
        have HL9 := Lib.hid (HLr.out.below (HB89.out.mono (by omega)))
        have HT9 := Lib.hid (HTr.out.keepsBox HB89.out)
        have K9 := Lib.hid k9
        have hs8 := HB8.out.size
        have hs9 := k9.lt
        have a0 : w9.cell? ⟨w8.heap.size, 0, none⟩ = some (.int .i64 ti) := (k9.cell 0).trans rfl
        have a1 : w9.cell? ⟨w8.heap.size, 1, none⟩ = some (.int .i64 mo) := (k9.cell 1).trans rfl
        have a2 : w9.cell? ⟨w8.heap.size, 2, none⟩ = some (.int .i64 ge) := (k9.cell 2).trans rfl
        have p0 : w9.cell? ⟨W.heap.size, 0, none⟩ = some (.string obj) := (K49.out.cell 0).trans rfl
        clear hb9 k9 HB8 q0 q1 q2 q3 K4r HLr HTr HBW
        by_cases h1 : ti < 0
        · go_wp2_with fail
          go_ret
          exact ⟨rfl, HBW9.out⟩
        by_cases h2 : (1099511627476 : Int) < ti
        · go_wp2_with fail
          go_ret
          exact ⟨rfl, HBW9.out⟩
        by_cases h3 : mo < 0
        · go_wp2_with fail
          go_ret
          exact ⟨rfl, HBW9.out⟩
        by_cases h4 : (1099511627776 : Int) < mo
        · go_wp2_with fail
          go_ret
          exact ⟨rfl, HBW9.out⟩
        have CU := Lib.hid (use_one HT9.out (by omega) hob HL9.out (by omega) ti mo ge)
        generalize hg8 : w8.heap.size = g8 at *
        clear hg8
        go_upto_region 24 with fail
        go_wp2_with fail
        refine CU.out.mono ?_
        rintro en w10 ⟨rfl, hb10⟩
        have K910 := K9.out.below hb10 K9.out.lt
        have a0 : w10.cell? ⟨g8, 0, none⟩ = some (.int .i64 ti) := (K910.cell 0).trans rfl
        have f9 := K910.free'
        have HBW10 := Lib.hid (HBW9.out.trans (hb10.mono HBW9.out.size))
        have K410 := Lib.hid (K49.out.below hb10 K49.out.lt)
        have HL10 := Lib.hid (HL9.out.below (hb10.mono (by omega)))
        have HT10 := Lib.hid (HT9.out.keepsBox hb10)
        have HK10 := Lib.hid K910
        have hs10 := hb10.size
        generalize hu1 : useU T obj mo (fun _ => false) (fun e => stateOf e.fr e.wh e.er e.said ti) = u1 at *
        have HU1 := Lib.hid hu1
        have c1 : (0 : Int) ≤ lat := hlat.1
        have c2 : lat ≤ (255 : Int) := hlat.2
        clear hb10 K910 CU a1 a2 p0 hu1 K9 K49 HL9 HT9
        go_upto_region 26 with fail
        have hgs : w10.grownBy (w10.setCell ⟨g8, 0, none⟩ (.int .i64 (ti + lat))) (some g8) := gby_set (gby_refl _ _) 0 _
        have k11 : Blk (w10.setCell ⟨g8, 0, none⟩ (.int .i64 (ti + lat))) g8 74 (askC (ti + lat) mo ge) := HK10.out.set 0 _
        have hb11 : Below W.heap.size W (w10.setCell ⟨g8, 0, none⟩ (.int .i64 (ti + lat))) := below_set HBW10.out (by omega) _
        have hT11 := HT10.out.put HK10.out hgs (by decide) (by decide) (by decide) (by decide) (by decide) (by decide)
        have hL11 : LogAt (w10.setCell ⟨g8, 0, none⟩ (.int .i64 (ti + lat))) w2.heap.size lb 0 [] := HL10.out.below (below_set (B := w2.heap.size) (a := w10) (w := w10) (Below.refl _ _) (by omega) _)
        have k411 : Blk (w10.setCell ⟨g8, 0, none⟩ (.int .i64 (ti + lat))) W.heap.size 63 #[.string obj, .int .i64 ti, .int .i64 mo, .int .i64 ge] := K410.out.far (by omega) _
        have hs11 := hgs.size
        generalize w10.setCell ⟨g8, 0, none⟩ (.int .i64 (ti + lat)) = w11 at *
        have a0 : w11.cell? ⟨g8, 0, none⟩ = some (.int .i64 (ti + lat)) := (k11.cell 0).trans rfl
        have a1 : w11.cell? ⟨g8, 1, none⟩ = some (.int .i64 mo) := (k11.cell 1).trans rfl
        have a2 : w11.cell? ⟨g8, 2, none⟩ = some (.int .i64 ge) := (k11.cell 2).trans rfl
        have p0 : w11.cell? ⟨W.heap.size, 0, none⟩ = some (.string obj) := (k411.cell 0).trans rfl
        have CU2 := Lib.hid (use_one hT11 (by omega) hob hL11 (by omega) (ti + lat) mo ge)
        have HB11 := Lib.hid hb11
        clear hgs k11 hb11 hT11 hL11 k411 f9
        go_wp2_with fail
        refine CU2.out.mono ?_
        rintro en w12 ⟨rfl, hb12⟩
        have HB12 := Lib.hid (HB11.out.trans (hb12.mono HB11.out.size))
        have hle : u1.2 ≤ (useU T obj mo (fun _ => false) (fun e => stateOf e.fr e.wh e.er e.said (ti + lat))).2 := by
          rw [← HU1.out]
          exact use_mono (fun k => state_mono _ _ _ _ (by omega)) (fun k => (state_bd _ _ _ _ _).2)
        generalize useU T obj mo (fun _ => false) (fun e => stateOf e.fr e.wh e.er e.said (ti + lat)) = u2 at *
        clear hb12 CU2 HU1
        go_wp2_with fail
        go_ret
        exact ⟨by first | rfl | exact ret_bool (decide_eq_true hle) | simp [hle], HB12.out⟩
end Go.Proofs.YtoaiamgcegnjjaaGreatDoor
