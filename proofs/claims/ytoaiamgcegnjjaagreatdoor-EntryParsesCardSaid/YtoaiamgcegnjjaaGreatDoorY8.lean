/- The reference's Or and Less. No condition. -/
import Derived.Test.YtoaiamgcegnjjaaGreatDoorMM
import Derived.Lib.QuietBelow
import Derived.Deep.RegionHeld3
import Derived.Deep.AppendLies
namespace Go.Proofs.YtoaiamgcegnjjaaGreatDoor
open Go.RowKit Go.Maps Go.WideMaps Go.Sort
set_option maxRecDepth 100000

/-- a row of spans that was made -/
structure SpW (w wr : World) (out : List (Int × Int)) (A : Option Addr) (c : Nat) : Prop where
  cap : out.length ≤ c
  own : wr.ownsRow w.heap.size 41 2 (.slice A out.length c) out.length (spanCells out)
  below : Below w.heap.size w wr

theorem ostep_len (P : Int → Bool) (out : List (Int × Int)) (p : Int × Int) : (ostep P out p).length ≤ out.length + 1 := by
  unfold ostep
  split
  · cases out.getLast? with
    | none => simp
    | some y =>
      dsimp only
      split <;> simp
  · omega
theorem ofold_len (P : Int → Bool) : ∀ (l out : List (Int × Int)), (l.foldl (ostep P) out).length ≤ out.length + l.length
  | [], out => by simp
  | x :: r, out => by
    have := ofold_len P r (ostep P out x)
    have := ostep_len P out x
    simp only [List.foldl_cons, List.length_cons]
    omega
def meetB (out : List (Int × Int)) (x : Int) : Bool := match out.getLast? with | some y => y.2 == x | none => false
theorem ostep_no {P : Int → Bool} {out : List (Int × Int)} {p : Int × Int} (h : P p.1 = false) : ostep P out p = out := by unfold ostep; rw [h]; rfl
theorem ostep_new {P : Int → Bool} {out : List (Int × Int)} {p : Int × Int} (h : P p.1 = true) (hm : meetB out p.1 = false) : ostep P out p = out ++ [p] := by
  unfold ostep
  rw [if_pos h]
  unfold meetB at hm
  cases hl : out.getLast? with
  | none => rfl
  | some y =>
    rw [hl] at hm
    dsimp only at hm ⊢
    rw [if_neg (fun e => by rw [e, beq_self_eq_true] at hm; cases hm)]
theorem ostep_on {P : Int → Bool} {out : List (Int × Int)} {p : Int × Int} (h : P p.1 = true) (hm : meetB out p.1 = true) : ∃ y, out.getLast? = some y ∧ ostep P out p = out.dropLast ++ [(y.1, p.2)] := by
  unfold ostep
  rw [if_pos h]
  unfold meetB at hm
  cases hl : out.getLast? with
  | none => rw [hl] at hm; cases hm
  | some y =>
    rw [hl] at hm
    exact ⟨y, rfl, by dsimp only; rw [if_pos (eq_of_beq hm)]⟩

set_option maxHeartbeats 2000000 in
theorem rof_any (A : Option Addr) (n c : Nat) (a : List (Int × Int)) (A' : Option Addr) (n' c' : Nat) (b : List (Int × Int)) (op : Int) (hop : op = 1 ∨ op = 3) (w : World) (h : Rd w w.heap.size 2 A n (spanCells a)) (h' : Rd w w.heap.size 2 A' n' (spanCells b)) (hn : n ≤ 1100) (hn' : n' ≤ 1100) :
    Calls Tryz.prog 175 #[.slice A n c, .slice A' n' c', .int .i64 op] w fun e w' => (∃ B d, e = .returned (.slice B (ofR a b op).length d) ∧ w'.ownsRow w.heap.size 41 2 (.slice B (ofR a b op).length d) (ofR a b op).length (spanCells (ofR a b op)) ∧ (ofR a b op).length ≤ d) ∧ Below w.heap.size w w' := by
  obtain ⟨i0, hi0, hz0, hz1, hz2⟩ := info_parts info41
  have hl := h.span.1
  have hl' := h'.span.1
  have HL := Lib.hid hl
  have HL' := Lib.hid hl'
  have HR := Lib.hid h
  have HR' := Lib.hid h'
  have HOP := Lib.hid hop
  have CE := Lib.hid (rends_any A n c a A' n' c' b w h h' (by omega) (by omega))
  clear hl hl' h h' hop
  go_enter Tryz.func175, Tryz.ntmps175
  go_wp2_with fail
  refine CE.out.mono ?_
  rintro en w1 ⟨⟨B8, d8, rfl, hown8, hcap8⟩, hb1⟩
  have hEl : (endsR (a ++ b)).length ≤ 4400 := by
    have := ends_len (a ++ b) []
    have := HL.out
    have := HL'.out
    rw [List.length_append] at *
    show ((a ++ b).foldl estep []).length ≤ 4400
    simp at *
    omega
  have hee : ofR a b op = (pairsR (endsR (a ++ b))).foldl (ostep fun z => opR op (inR a z) (inR b z)) [] := rfl
  have HEE := Lib.hid hee
  clear hee CE
  generalize endsR (a ++ b) = E at *
  have HRE := Lib.hid (own_rd hown8)
  have HRA := Lib.hid (HR.out.below hb1 (Nat.le_refl _))
  have HRB := Lib.hid (HR'.out.below hb1 (Nat.le_refl _))
  have HB1 := Lib.hid hb1
  have hwb := hb1.size
  have HPL := Lib.hid (pairsR_len E)
  have hst : SpW w1 w1 [] none 0 := ⟨by simp, by simpa [spanCells] using World.ownsRow_nil w1 _ 41 2, Below.refl _ _⟩
  have HST := Lib.hid hst
  clear hown8 hcap8 hb1 hst
  go_wp2_with fail
  go_loopw [7, 9] (fun v i wr => ∃ (k : Nat) (B : Option Addr) (d : Nat), k ≤ E.length - 1 ∧ i = .int .i64 k ∧ v = .slice B (((pairsR E).take k).foldl (ostep fun z => opR op (inR a z) (inR b z)) []).length d ∧ SpW w1 wr (((pairsR E).take k).foldl (ostep fun z => opR op (inR a z) (inR b z)) []) B d) (fun _ i _ => E.length - (intOf i).toNat)
  case atStart => exact ⟨0, none, 0, Nat.zero_le _, rfl, rfl, HST.out⟩
  case round =>
    obtain ⟨k, B, d, hk, rfl, rfl, hg⟩ := hrel
    have HG := Lib.hid hg
    have hszr : w1.heap.size ≤ wr.heap.size := hg.below.size
    clear hg HST
    have hol := ofold_len (fun z => opR op (inR a z) (inR b z)) ((pairsR E).take k) []
    rw [List.length_take, List.length_nil] at hol
    by_cases hlt : k + 1 < E.length
    · have hkp : k < (pairsR E).length := by have := HPL.out; omega
      have hpg := pairsR_get E k hlt hkp
      have hsn : ((pairsR E).take (k + 1)).foldl (ostep fun z => opR op (inR a z) (inR b z)) [] = ostep (fun z => opR op (inR a z) (inR b z)) (((pairsR E).take k).foldl (ostep fun z => opR op (inR a z) (inR b z)) []) (E[k], E[k + 1]) := by
        rw [List.take_succ_eq_append_getElem hkp, List.foldl_append, hpg]
        rfl
      have HSN := Lib.hid hsn
      clear hsn hpg
      have hrE := HRE.out.below HG.out.below (Nat.le_refl _)
      obtain ⟨bE, oE, rfl, hbE, x0⟩ := hrE.num.2 k (by omega)
      obtain ⟨bE', oE', hE', _, x1⟩ := hrE.num.2 (k + 1) hlt
      injection hE' with hE'
      injection hE' with hE1 hE2
      subst hE1 hE2
      clear hrE
      generalize hout : ((pairsR E).take k).foldl (ostep fun z => opR op (inR a z) (inR b z)) [] = out at *
      clear hout
      generalize hx0 : E[k] = e0 at *
      generalize hx1 : E[k + 1] = e1 at *
      clear hx0 hx1
      have i1 : (0 : Int) ≤ (k : Int) := by omega
      have i2 : (k : Int) < (E.length : Int) := by omega
      have i3 : (k : Int) + 1 < (E.length : Int) := by omega
      have hbw : Below w.heap.size w wr := HB1.out.trans (HG.out.below.mono hwb)
      have HBW := Lib.hid hbw
      have hbws := hbw.size
      clear hbw
      have cA : ∀ d os, Calls Tryz.prog 215 #[.slice A n c, .int .i64 e0] (grow (redrawn wr d) os) fun en w'' => en = .returned (.bool (inR a e0)) ∧ ∃ p : Regrown, w'' = grow (redrawn wr p.d) p.os := fun d os => Calls.regrown_of (rin_any A n c a e0 _ (HR.out.below (HBW.out.trans ((below_regrown wr d os).mono hbws)) (by have := (below_regrown wr d os).size; omega)) (by omega))
      have cB : ∀ d os, Calls Tryz.prog 215 #[.slice A' n' c', .int .i64 e0] (grow (redrawn wr d) os) fun en w'' => en = .returned (.bool (inR b e0)) ∧ ∃ p : Regrown, w'' = grow (redrawn wr p.d) p.os := fun d os => Calls.regrown_of (rin_any A' n' c' b e0 _ (HR'.out.below (HBW.out.trans ((below_regrown wr d os).mono hbws)) (by have := (below_regrown wr d os).size; omega)) (by omega))
      go_upto_region 6 with fail
      go_cut [10, 11] (fun p q wy => p = .bool (inR a e0) ∧ q = .bool (inR b e0) ∧ Below wr.heap.size wr wy)
      case first =>
        have g0 := cell_regrown x0
        clear x0 x1
        refine wp_region_quiet_below (by kernel_rfl) (by kernel_rfl) ?_
        iterate 6 (go_big_quiet_step (exact cA _ _))
        repeat (go_big_quiet_step (exact cB _ _))
        refine wpQuiet_nil ?_
        intro _ hw'
        obtain ⟨⟨dq, osq⟩, hw''⟩ := hw'
        subst hw''
        go_wp2_with fail
        go_meet
        exact ⟨rfl, rfl, below_regrown wr dq osq⟩
      case rest =>
        obtain ⟨rfl, rfl, hb2⟩ := hcut
        clear cA cB
        have y0 : wc.cell? ⟨bE, oE + k, none⟩ = some (.int .i64 e0) := (hb2.cell (p := ⟨bE, oE + k, none⟩) (by show bE < wr.heap.size; omega)).trans x0
        have y1 : wc.cell? ⟨bE, oE + (k + 1), none⟩ = some (.int .i64 e1) := (hb2.cell (p := ⟨bE, oE + (k + 1), none⟩) (by show bE < wr.heap.size; omega)).trans x1
        have HS2 : Hid (SpW w1 wc out B d) := ⟨HG.out.cap, own_kept HG.out.own (gby_of_below hb2) (fun g hg e => by cases e), HG.out.below.trans (hb2.mono hszr)⟩
        have hsz2 := hb2.size
        clear hb2 x0 x1 HG
        generalize wc = w2 at *
        have HPE : Hid ((fun z => opR op (inR a z) (inR b z)) (e0, e1).1 = opR op (inR a e0) (inR b e0)) := rfl
        generalize inR a e0 = p at *
        generalize inR b e0 = q at *
        go_upto_region 7 with fail
        go_cut [12] (fun z wy => z = .bool (opR op p q) ∧ wy = w2)
        case first =>
          clear HSN HPE HEE
          rcases HOP.out with rfl | rfl
          · cases p <;> cases q
            all_goals
              go_wp2_with fail
              go_meet
              exact ⟨rfl, rfl⟩
          · cases p <;> cases q
            all_goals
              go_wp2_with fail
              go_meet
              exact ⟨rfl, rfl⟩
        case rest =>
          obtain ⟨rfl, rfl⟩ := hcut
          generalize wc = w2 at *
          cases hz : opR op p q with
          | false =>
            have HE : Hid (ostep (fun z => opR op (inR a z) (inR b z)) out (e0, e1) = out) := ostep_no (HPE.out.trans hz)
            clear hz
            go_wp2_with fail
            go_roundw
            case rel => exact ⟨k + 1, B, d, by omega, by go_num, by rw [HSN.out, HE.out], by rw [HSN.out, HE.out]; exact HS2.out⟩
            case measure => simp [intOf]; omega
          | true =>
            have HZ : Hid ((fun z => opR op (inR a z) (inR b z)) (e0, e1).1 = true) := HPE.out.trans hz
            clear hz
            go_upto_region 10 with fail
            go_cut [13, 83] (fun la z wy => la = .int .i64 ((out.length : Int) - 1) ∧ z = .bool (meetB out e0) ∧ ∃ q, wy = w2.drewN q)
            case first =>
              generalize hLL : out.length = L at *
              have HLL := Lib.hid hLL
              have HOWN : Hid (w2.ownsRow w1.heap.size 41 2 (.slice B L d) L (spanCells out)) := by have := HS2.out.own; rw [hLL] at this; exact this
              clear hLL
              cases hla : out.getLast? with
              | none =>
                have : out = [] := List.getLast?_eq_none_iff.1 hla
                have hL0 : L = 0 := by rw [← HLL.out, this]; rfl
                have HT : Hid (false = meetB out e0) := by show false = meetB out e0; unfold meetB; rw [hla]
                subst hL0
                clear this hla y0 y1
                go_wp2_with fail
                go_quiet (fail)
                go_wp2_with fail
                go_meet
                exact ⟨by simp, by rw [← HT.out], _, rfl⟩
              | some y =>
                have HT : Hid ((y.2 == e0) = meetB out e0) := by show (y.2 == e0) = meetB out e0; unfold meetB; rw [hla]
                obtain ⟨q, hq⟩ : ∃ q, L = q + 1 := ⟨L - 1, by have := HLL.out; have h9 : out ≠ [] := (fun e => by rw [e] at hla; cases hla); have := List.length_pos_iff.2 h9; omega⟩
                subst hq
                obtain ⟨g, rfl, _, hgl2, _⟩ := own_at HOWN.out (by omega)
                have hce : w2.cell? ⟨g, q * 2 + 1, none⟩ = some (.int .i64 y.2) := by
                  rw [HOWN.out.cellAt (q * 2 + 1) (by omega)]
                  exact (spanCells_last hla HLL.out 0).2
                have j1 : (0 : Int) ≤ (q : Int) := by omega
                have j2 : (q : Int) < ((q + 1 : Nat) : Int) := by omega
                clear hla y1
                go_wp2_with fail
                go_quiet (fail)
                go_wp2_with fail
                go_meet
                exact ⟨by go_num, by rw [HT.out], _, rfl⟩
            case rest =>
              obtain ⟨rfl, rfl, q0, rfl⟩ := hcut
              have HS3 : Hid (SpW w1 (w2.drewN q0) out B d) := ⟨HS2.out.cap, HS2.out.own, below_drewN HS2.out.below _⟩
              have z0 : (w2.drewN q0).cell? ⟨bE, oE + k, none⟩ = some (.int .i64 e0) := y0
              have z1 : (w2.drewN q0).cell? ⟨bE, oE + (k + 1), none⟩ = some (.int .i64 e1) := y1
              have hsz3 : wr.heap.size ≤ (w2.drewN q0).heap.size := hsz2
              generalize w2.drewN q0 = w3 at *
              clear y0 y1 HS2 hsz2
              cases hm : meetB out e0 with
              | true =>
                obtain ⟨y, hla, hgs⟩ := ostep_on (P := fun z => opR op (inR a z) (inR b z)) (p := (e0, e1)) HZ.out hm
                have HGS := Lib.hid hgs
                generalize hLL : out.length = L at *
                have HLL := Lib.hid hLL
                have HOWN : Hid (w3.ownsRow w1.heap.size 41 2 (.slice B L d) L (spanCells out)) := by have := HS3.out.own; rw [hLL] at this; exact this
                clear hLL
                obtain ⟨q, hq⟩ : ∃ q, L = q + 1 := ⟨L - 1, by have := HLL.out; have h9 : out ≠ [] := (fun e => by rw [e] at hla; cases hla); have := List.length_pos_iff.2 h9; omega⟩
                subst hq
                obtain ⟨g, rfl, hglow, hgl2, _⟩ := own_at HOWN.out (by omega)
                have hce : w3.cell? ⟨g, q * 2 + 1, none⟩ = some (.int .i64 y.2) := by
                  rw [HOWN.out.cellAt (q * 2 + 1) (by omega)]
                  exact (spanCells_last hla HLL.out 0).2
                have hfz : w3.frozen? ⟨g, q * 2 + 1, none⟩ = false := HOWN.out.frozenAt _
                have hst := HOWN.out.stored (q * 2 + 1) (.int .i64 e1)
                rw [(spanCells_last hla HLL.out e1).1] at hst
                have HSTO := Lib.hid hst
                have j1 : (0 : Int) ≤ (q : Int) := by omega
                have j2 : (q : Int) < ((q + 1 : Nat) : Int) := by omega
                have hcap : q + 1 ≤ d := by have := HS3.out.cap; have := HLL.out; omega
                clear hla hm hgs hst z0
                go_wp2_with fail
                go_roundw
                case rel =>
                  have e := HSN.out.trans HGS.out
                  have hel : (out.dropLast ++ [(y.1, e1)]).length = q + 1 := by have := HLL.out; simp; omega
                  refine ⟨k + 1, some ⟨g, 0, none⟩, d, by omega, by go_num, by rw [e, hel], ⟨by rw [e, hel]; exact hcap, ?_, below_set HS3.out.below hglow _⟩⟩
                  rw [e, hel]
                  exact HSTO.out.1
                case measure => simp [intOf]; omega
              | false =>
                have HGS := Lib.hid (ostep_new (P := fun z => opR op (inR a z) (inR b z)) (p := (e0, e1)) HZ.out hm)
                clear hm
                have hol' : out.length ≤ 5000 := by omega
                have hne : ∀ g, (Value.slice B out.length d).ownBlock = some g → bE ≠ g := fun g hg e => by have := (HS3.out.own.lt g hg).1; omega
                have HNE : Hid ((Value.slice B out.length d).ownBlock ≠ some bE) := fun e => hne bE e rfl
                have hbE3 : bE < w3.heap.size := by omega
                have hbs := HS3.out.below.size
                clear hne
                have i4 : (0 : Int) ≤ (k : Int) + 1 := by omega
                have i5 : IntKind.i64.wrap ((k : Int) + 1) = (k : Int) + 1 := by rw [IntKind.wrap_i64]; omega
                have i6 : ((k : Int) + 1).toNat = k + 1 := by omega
                go_wp2_with fail
                go_region_held3 (fun w' => w'.cell? ⟨bE, oE + k, none⟩ = some (.int .i64 e0) ∧ w'.cell? ⟨bE, oE + (k + 1), none⟩ = some (.int .i64 e1))
                  (first
                    | go_keep
                    | (go_split_ands
                       refine ⟨?_, ?_⟩
                       · (rw [hgrow.cell_far _ (by simp; omega) (Ne.symm HNE.out)]; assumption)
                       · (rw [hgrow.cell_far _ (by simp; omega) (Ne.symm HNE.out)]; assumption)))
                  ((refine step_append_lies _ (by rfl) _ _ _ (by rfl) w1.heap.size 41 i0 _ 2 16 under52 hi0 hz0 hz1 hz2 rfl (by omega) (.slice B out.length d) out.length (spanCells out) (by rfl) ((HS3.out.own.alloc _).drew)
                      ⟨w3.heap.size, 0, none⟩ 1 1 [.int .i64 e0, .int .i64 e1] (by rfl) (by rfl) (World.news_of_block (cs := #[.int .i64 e0, .int .i64 e1]) (t := 41) (fr := (0, 0)) (heap_alloc_new w3 _)) (by simp [Value.oneCell'])
                      (by omega) (by unfold maxLen; omega) (by omega) (by simp; omega) (w3.heap.size + 1) (by simp) ?_; intro gg cap w4 hown1 hgrow hat hlt4))
                go_wp2_with fail
                have e := HSN.out.trans HGS.out
                have hel : (out ++ [(e0, e1)]).length = out.length + 1 := by simp
                have hnc : out.length + 1 ≤ cap := by
                  rcases hown1.2 with ⟨hv, h0⟩ | ⟨g', cap', cur', hv, _, _, r1, _⟩
                  · omega
                  · injection hv with _ _ hc
                    omega
                go_roundw
                case rel =>
                  refine ⟨k + 1, some ⟨gg, 0, none⟩, cap, by omega, by go_num, by rw [e, hel], ⟨by rw [e, hel]; exact hnc, ?_, ?_⟩⟩
                  · rw [e, hel, spanCells_append]
                    exact hown1
                  · exact ((HS3.out.below.alloc hbs _).drew).trans (grown_below hgrow (by simp; omega) (fun g hg => (HS3.out.own.lt g hg).1))
                case measure => simp [intOf]; omega
    · obtain rfl : k = E.length - 1 := by omega
      have hta : (pairsR E).take (E.length - 1) = pairsR E := List.take_of_length_le (by have := HPL.out; omega)
      rw [hta] at HG ⊢
      rw [← HEE.out] at HG ⊢
      clear hta
      go_wp2_with fail
      go_ret
      exact ⟨⟨B, d, rfl, own_base HG.out.own hwb, HG.out.cap⟩, HB1.out.trans (HG.out.below.mono hwb)⟩

theorem ror_any (A : Option Addr) (n c : Nat) (a : List (Int × Int)) (A' : Option Addr) (n' c' : Nat) (b : List (Int × Int)) (w : World) (h : Rd w w.heap.size 2 A n (spanCells a)) (h' : Rd w w.heap.size 2 A' n' (spanCells b)) (hn : n ≤ 1100) (hn' : n' ≤ 1100) :
    Calls Tryz.prog 125 #[.slice A n c, .slice A' n' c'] w fun e w' => (∃ B d, e = .returned (.slice B (ofR a b 1).length d) ∧ w'.ownsRow w.heap.size 41 2 (.slice B (ofR a b 1).length d) (ofR a b 1).length (spanCells (ofR a b 1)) ∧ (ofR a b 1).length ≤ d) ∧ Below w.heap.size w w' := by
  have C := Lib.hid (rof_any A n c a A' n' c' b 1 (.inl rfl) w h h' hn hn')
  clear h h'
  go_enter Tryz.func125, Tryz.ntmps125
  go_wp2_with fail
  refine C.out.mono ?_
  rintro en w1 ⟨⟨B, d, rfl, ho, hc⟩, hb⟩
  have HO := Lib.hid ho
  clear ho
  go_wp2_with fail
  go_ret
  exact ⟨⟨B, d, rfl, HO.out, hc⟩, hb⟩
theorem rless_any (A : Option Addr) (n c : Nat) (a : List (Int × Int)) (A' : Option Addr) (n' c' : Nat) (b : List (Int × Int)) (w : World) (h : Rd w w.heap.size 2 A n (spanCells a)) (h' : Rd w w.heap.size 2 A' n' (spanCells b)) (hn : n ≤ 1100) (hn' : n' ≤ 1100) :
    Calls Tryz.prog 124 #[.slice A n c, .slice A' n' c'] w fun e w' => (∃ B d, e = .returned (.slice B (ofR a b 3).length d) ∧ w'.ownsRow w.heap.size 41 2 (.slice B (ofR a b 3).length d) (ofR a b 3).length (spanCells (ofR a b 3)) ∧ (ofR a b 3).length ≤ d) ∧ Below w.heap.size w w' := by
  have C := Lib.hid (rof_any A n c a A' n' c' b 3 (.inr rfl) w h h' hn hn')
  clear h h'
  go_enter Tryz.func124, Tryz.ntmps124
  go_wp2_with fail
  refine C.out.mono ?_
  rintro en w1 ⟨⟨B, d, rfl, ho, hc⟩, hb⟩
  have HO := Lib.hid ho
  clear ho
  go_wp2_with fail
  go_ret
  exact ⟨⟨B, d, rfl, HO.out, hc⟩, hb⟩
end Go.Proofs.YtoaiamgcegnjjaaGreatDoor
