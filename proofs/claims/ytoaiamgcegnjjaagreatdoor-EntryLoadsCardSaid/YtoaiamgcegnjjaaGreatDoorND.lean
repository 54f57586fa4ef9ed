/- entry.Text: an entry's note: the walk. No condition but the bounds that it names. -/
import Derived.Test.YtoaiamgcegnjjaaGreatDoorNC
namespace Go.Proofs.YtoaiamgcegnjjaaGreatDoor
open Go.RowKit Go.Maps Go.WideMaps
set_option maxRecDepth 100000
attribute [local go_sem ↓] ld39n_fold st39n_fold

theorem noteOK_eq (e : Ent) : noteOK e = (decide (1 ≤ e.id) && decide (e.id ≤ 1099511627776) && objOK e.obj && metaOK e.t e.wk e.mo e.le e.ha e.fr e.wh e.er e.ks e.ten && (tagOK e.t && !e.wk) && tick0 e.said && tick0 e.gen) := rfl

/-- 'append' from a slice that reads as a list, at a step of a region that draws its order -/
theorem stepn_append_rd {P : Program} (w : World) {ops : Array Oper} {o : Oper} {a : Act} {K : Act → World → Prop} {Q : Exit → Act → World → Prop} {E : Prop} (hgd : o.guard = none) (s x : Operand) (t : TypeId)
    (ho : o.op = .call { callee := .builtin .append, args := #[s, x], argTypes := #[t, t] })
    (base : Nat) (e : TypeId) (i : TypeInfo) (z : Value) (size bytes : Nat) (ht : P.underlying t = some (.slice e)) (hi : P.info? e = some i) (hz : i.zero = some z)
    (hsize : i.size = size) (hby : i.bytes = bytes) (hzs : z.cells.size = size) (hsz : 0 < size)
    (v : Value) (n : Nat) (xs : List Value) (hs : a.eval s = v) (hown : w.ownsRow base e size v n xs)
    (A : Option Addr) (m c B : Nat) (news : List Value) (hx : a.eval x = .slice A m c) (hr : Rd w B size A m news) (h1 : ∀ u ∈ news, u.oneCell' = true)
    (h63 : n + m ≤ maxLen) (hbytes : (n + m) * bytes ≤ 140737488355328) (hbase : base ≤ w.heap.size)
    (h : ∀ A' c' w', w'.ownsRow base e size (.slice A' (n + m) c') (n + m) (xs ++ news) → w.grownBy w' v.ownBlock → n + m ≤ c' → K (a.put o.dst (.slice A' (n + m) c')) w') :
    if Region.wanted o (yielded ops a.tmps) = true then Oper.wp P o a w K Q else E := by
  have hw : Region.wanted o (yielded ops a.tmps) = true := by simp [Region.wanted, hgd]
  rw [if_pos hw]
  obtain ⟨A', c', w', hrun, h2, h3, h4, h5⟩ := run_append_rd (P := P) w base t o.type e i z size bytes ht hi hz hsize hby hzs hsz v n xs hown A m c B news hr h1 h63 hbytes hbase
  unfold Oper.wp execOp
  simp only [ho, resolve, invoke, builtin, Sem.run_bind, Sem.run_pure, Result.andThen_ok, List.map_toArray, List.map_cons, List.map_nil, hs, hx, hrun]
  exact h A' c' w' h2 h3 h4

theorem Blk.rd1 {w : World} {g : Nat} {v : Value} {t : TypeId} (h : Blk w g t #[v]) : Rd w w.heap.size 1 (some ⟨g, 0, none⟩) 1 [v] := by
  refine ⟨rfl, fun _ => ⟨g, 0, rfl, h.lt, fun j hj => ?_⟩⟩
  obtain rfl : j = 0 := by simp at hj; omega
  exact h.cell 0
theorem Blk.rd3 {w : World} {g : Nat} {a b c : Value} {t : TypeId} (h : Blk w g t #[a, b, c]) : Rd w w.heap.size 1 (some ⟨g, 0, none⟩) 3 [a, b, c] := by
  refine ⟨rfl, fun _ => ⟨g, 0, rfl, h.lt, fun j hj => ?_⟩⟩
  rw [h.cell (0 + j)]
  match j, hj with
  | 0, _ | 1, _ | 2, _ => rfl
set_option maxHeartbeats 4000000 in
theorem text_any (e : Ent) (A : Option Addr) (n c : Nat) (tu : Bool) (w : World) (hk : Strs w w.heap.size A n e.ks) (hn : n ≤ 1000000) (hnc : n ≤ c) (ht : Tb w) :
    Calls Tryz.prog 38 #[.agg (entC e A n c tu)] w fun en w' => en = .returned (textV e) ∧ Below w.heap.size w w' := by
  obtain ⟨i0, hi, hz0, hz1, hz2⟩ := info_parts info9
  have hb0 : Below w.heap.size w (w.alloc (.cells (entC e A n c tu) 57)) := (Below.refl _ _).alloc (Nat.le_refl _) _
  have k0 : Blk (w.alloc (.cells (entC e A n c tu) 57)) w.heap.size 57 (entC e A n c tu) := Blk.new _ _ _
  have hkl := hk.len
  have HKL := Lib.hid hkl
  have HK := Lib.hid hk
  have HT := Lib.hid ht
  have HT0 := Lib.hid ht
  clear hk hkl ht
  go_enter Tryz.func38, Tryz.ntmps38
  go_upto_region 1 with fail
  generalize w.alloc (.cells (entC e A n c tu) 57) = w1 at *
  have l39 := run_ld39n_ent k0
  have s39 := run_st39n w1 (e.mc A n c) rfl (by simp [Value.oneCell'])
  have hm : Blk (w1.alloc (.cells (e.mc A n c) 39)) w1.heap.size 39 (e.mc A n c) := Blk.new _ _ _
  have htx : TxW w (w1.alloc (.cells (e.mc A n c) 39)) w1.heap.size e A n c tu := ⟨hb0.alloc hb0.size _, k0.alloc _, hm⟩
  have ht2 : Tb (w1.alloc (.cells (e.mc A n c) 39)) := HT.out.below (hb0.alloc hb0.size _)
  have hg1 : w.heap.size < w1.heap.size := k0.lt
  clear hb0 k0 hm
  go_upto_region 2 with fail
  generalize w1.alloc (.cells (e.mc A n c) 39) = w2 at *
  clear s39 l39
  generalize w1.heap.size = g1 at *
  have HTX := Lib.hid htx
  have HT2 := Lib.hid ht2
  have hse := htx.ent.lt
  have hsm := htx.met.lt
  clear ht2
  have l39 := run_ld39n_met htx.met rfl
  have c0 : w2.cell? ⟨w.heap.size, 0, none⟩ = some (.int .i64 e.id) := (htx.ent.cell 0).trans rfl
  have c1 : w2.cell? ⟨w.heap.size, 1, none⟩ = some (.string e.obj) := (htx.ent.cell 1).trans rfl
  have FX : Hid (∀ wy, Below w2.heap.size w2 wy → (ld39n (.pointer (some ⟨g1, 0, none⟩))).run Tryz.prog wy = .ok (.agg (e.mc A n c)) wy ∧ wy.cell? ⟨w.heap.size, 13, none⟩ = some (.int .i64 e.said) ∧ wy.cell? ⟨w.heap.size, 15, none⟩ = some (.int .i64 e.gen) ∧ TxW w wy g1 e A n c tu ∧ Tb wy) := by
    show ∀ wy, Below w2.heap.size w2 wy → _
    intro wy hb
    have h := HTX.out.to hb
    exact ⟨run_ld39n_met h.met rfl, (h.ent.cell 13).trans rfl, (h.ent.cell 15).trans rfl, h, HT2.out.below hb⟩
  clear htx
  have CM := Lib.hid (metaRight_any e.t e.wk e.mo e.le e.ha e.fr e.wh e.er A n c e.ten e.kp w2 e.ks w.heap.size (HK.out.below HTX.out.below (Nat.le_refl _)) HTX.out.below.size (by omega) hnc)
  go_cut [46] (fun s wx => s = .bool (!noteOK e) ∧ TxW w wx g1 e A n c tu ∧ Tb wx)
  case first =>
    have H0 : Hid (TxW w w2 g1 e A n c tu ∧ Tb w2) := ⟨HTX.out, HT2.out⟩
    by_cases a1 : e.id < 1
    · have HN : Hid (noteOK e = false) := by show noteOK e = false; rw [noteOK_eq, decide_eq_false (by omega : ¬ 1 ≤ e.id)]; simp
      go_wp2_with fail
      go_meet
      exact ⟨by rw [HN.out]; rfl, H0.out⟩
    by_cases a2 : 1099511627776 < e.id
    · have HN : Hid (noteOK e = false) := by show noteOK e = false; rw [noteOK_eq, decide_eq_false (by omega : ¬ e.id ≤ 1099511627776)]; simp
      go_wp2_with fail
      go_meet
      exact ⟨by rw [HN.out]; rfl, H0.out⟩
    by_cases ho : objOK e.obj = true
    case neg =>
      have ho : objOK e.obj = false := by simpa using ho
      have HO := Lib.hid ho
      have HN : Hid (noteOK e = false) := by show noteOK e = false; rw [noteOK_eq, ho]; simp
      clear ho
      go_wp2_with (go_at_call 79; refine (headObject_any _ _).mono ?_; rintro en w3 ⟨rfl, rfl⟩; rw [HO.out])
      go_meet
      exact ⟨by rw [HN.out]; rfl, H0.out⟩
    have HO := Lib.hid ho
    clear ho
    by_cases hm : metaOK e.t e.wk e.mo e.le e.ha e.fr e.wh e.er e.ks e.ten = true
    case neg =>
      have hm : metaOK e.t e.wk e.mo e.le e.ha e.fr e.wh e.er e.ks e.ten = false := by simpa using hm
      have HM := Lib.hid hm
      have HN : Hid (noteOK e = false) := by show noteOK e = false; rw [noteOK_eq, hm]; simp
      clear hm
      go_wp2_with first
        | (go_at_call 79; refine (headObject_any _ _).mono ?_; rintro en w3 ⟨rfl, rfl⟩; rw [HO.out])
        | (go_at_call 80; refine CM.out.mono ?_; rintro en w3 ⟨rfl, hb3⟩; rw [HM.out]; obtain ⟨l3, p13, p15, hx3, ht3⟩ := FX.out _ hb3; have HX3 := Lib.hid hx3; have HT3 := Lib.hid ht3; clear hb3 hx3 ht3)
      go_meet
      exact ⟨by rw [HN.out]; rfl, HX3.out, HT3.out⟩
    have HM := Lib.hid hm
    clear hm
    by_cases hj : (tagOK e.t && !e.wk) = true
    case neg =>
      have hj : (tagOK e.t && !e.wk) = false := by simpa using hj
      have HJ := Lib.hid hj
      have HN : Hid (noteOK e = false) := by show noteOK e = false; rw [noteOK_eq, hj]; simp
      clear hj
      go_wp2_with first
        | (go_at_call 79; refine (headObject_any _ _).mono ?_; rintro en w3 ⟨rfl, rfl⟩; rw [HO.out])
        | (go_at_call 80; refine CM.out.mono ?_; rintro en w3 ⟨rfl, hb3⟩; rw [HM.out]; obtain ⟨l3, p13, p15, hx3, ht3⟩ := FX.out _ hb3; have HB3 := Lib.hid hb3; clear hb3 hx3 ht3)
        | (go_at_call 85; refine (joins_no e.t e.wk e.mo e.le e.ha e.fr e.wh e.er A n c e.ten e.kp w3 HJ.out).mono ?_; rintro en w4 ⟨rfl, hb4⟩; obtain ⟨l4, q13, q15, hx4, ht4⟩ := FX.out _ (HB3.out.trans (hb4.mono HB3.out.size)); have HX4 := Lib.hid hx4; have HT4 := Lib.hid ht4; clear hb4 hx4 ht4)
      go_meet
      exact ⟨by rw [HN.out]; rfl, HX4.out, HT4.out⟩
    have HJ := Lib.hid hj
    clear hj
    cases hsd : tick0 e.said with
    | false =>
      have HS := Lib.hid hsd
      have HN : Hid (noteOK e = false) := by show noteOK e = false; rw [noteOK_eq, hsd]; simp
      clear hsd
      go_wp2_with first
        | (go_at_call 79; refine (headObject_any _ _).mono ?_; rintro en w3 ⟨rfl, rfl⟩; rw [HO.out])
        | (go_at_call 80; refine CM.out.mono ?_; rintro en w3 ⟨rfl, hb3⟩; rw [HM.out]; obtain ⟨l3, p13, p15, hx3, ht3⟩ := FX.out _ hb3; have HB3 := Lib.hid hb3; clear hb3 hx3 ht3)
        | (go_at_call 85; refine (joins_yes e.t e.wk e.mo e.le e.ha e.fr e.wh e.er A n c e.ten e.kp w3 HJ.out).mono ?_; rintro en w4 ⟨rfl, hb4⟩; obtain ⟨l4, q13, q15, hx4, ht4⟩ := FX.out _ (HB3.out.trans (hb4.mono HB3.out.size)); have HX4 := Lib.hid hx4; have HT4 := Lib.hid ht4; clear hb4 hx4 ht4)
        | (go_at_call 81; refine (number0 e.said w4).mono ?_; rintro en w5 ⟨rfl, rfl⟩; rw [HS.out])
      go_meet
      exact ⟨by rw [HN.out]; rfl, HX4.out, HT4.out⟩
    | true =>
      have HS := Lib.hid hsd
      clear hsd
      have HN : Hid (noteOK e = tick0 e.gen) := by
        show noteOK e = tick0 e.gen
        rw [noteOK_eq, decide_eq_true (by omega : 1 ≤ e.id), decide_eq_true (by omega : e.id ≤ 1099511627776), HO.out, HM.out, HJ.out, HS.out]; simp
      go_wp2_with first
        | (go_at_call 79; refine (headObject_any _ _).mono ?_; rintro en w3 ⟨rfl, rfl⟩; rw [HO.out])
        | (go_at_call 80; refine CM.out.mono ?_; rintro en w3 ⟨rfl, hb3⟩; rw [HM.out]; obtain ⟨l3, p13, p15, hx3, ht3⟩ := FX.out _ hb3; have HB3 := Lib.hid hb3; clear hb3 hx3 ht3)
        | (go_at_call 85; refine (joins_yes e.t e.wk e.mo e.le e.ha e.fr e.wh e.er A n c e.ten e.kp w3 HJ.out).mono ?_; rintro en w4 ⟨rfl, hb4⟩; obtain ⟨l4, q13, q15, hx4, ht4⟩ := FX.out _ (HB3.out.trans (hb4.mono HB3.out.size)); have HX4 := Lib.hid hx4; have HT4 := Lib.hid ht4; clear hb4 hx4 ht4)
        | ((fail_if_success (have hZ := HDONE)); go_at_call 81; refine (number0 e.said w4).mono ?_; rintro en w5 ⟨rfl, rfl⟩; rw [HS.out]; have HDONE : Hid True := trivial)
        | (go_at_call 81; refine (number0 e.gen w4).mono ?_; rintro en w5 ⟨rfl, rfl⟩)
      go_meet
      exact ⟨by rw [HN.out], HX4.out, HT4.out⟩
  case rest =>
    obtain ⟨rfl, htx, ht⟩ := hcut
    generalize wc = w3 at *
    cases hok : noteOK e with
    | false =>
      have HN := Lib.hid hok
      clear hok
      have HB := Lib.hid htx.below
      clear htx ht
      go_wp2_with fail
      go_ret2
      exact ⟨by rw [textV_no HN.out]; rfl, HB.out⟩
    | true =>
      have HN := Lib.hid hok
      have HTX3 := Lib.hid htx
      have HT3 := Lib.hid ht
      clear hok FX CM HTX HT2 l39 c0 c1 hse hsm
      have hse := htx.ent.lt
      have hsm := htx.met.lt
      clear htx ht
      have F4 : Hid (∀ wy, Below w3.heap.size w3 wy → wy.cell? ⟨w.heap.size, 0, none⟩ = some (.int .i64 e.id) ∧ wy.cell? ⟨w.heap.size, 1, none⟩ = some (.string e.obj)) := by
        show ∀ wy, Below w3.heap.size w3 wy → _
        intro wy hb
        have h := HTX3.out.to hb
        exact ⟨(h.ent.cell 0).trans rfl, (h.ent.cell 1).trans rfl⟩
      have S40 := Lib.hid (F4.out _ (Below.refl _ _).drew)
      have C4 := Lib.hid (fmt_any e.id (by have := (noteIs HN.out).id; omega) (by have := (noteIs HN.out).id; omega) w3.drew (HT3.out.below (Below.refl _ _).drew))
      have F5 : Hid (∀ wy, Below w3.heap.size w3 wy → ∃ g, Value.slice (some ⟨wy.heap.size, 0, none⟩) 2 2 = .slice (some ⟨g, 0, none⟩) 2 2 ∧ (wy.alloc (.cells #[.string (itoaB e.id), .string e.obj] 9)).ownsRow w.heap.size 9 1 (.slice (some ⟨g, 0, none⟩) 2 2) 2 [.string (itoaB e.id), .string e.obj] ∧ TxW w (wy.alloc (.cells #[.string (itoaB e.id), .string e.obj] 9)) g1 e A n c tu ∧ Tb (wy.alloc (.cells #[.string (itoaB e.id), .string e.obj] 9))) := by
        show ∀ wy, Below w3.heap.size w3 wy → _
        intro wy hb
        have hb2 : Below w3.heap.size w3 (wy.alloc (.cells #[.string (itoaB e.id), .string e.obj] 9)) := hb.alloc hb.size _
        exact ⟨_, rfl, World.ownsRow_lit wy #[.string (itoaB e.id), .string e.obj] 2 (by have := hb.size; omega) (by decide) rfl, HTX3.out.to hb2, HT3.out.below hb2⟩
      go_upto_region 4 with fail
      go_cut [5] (fun s wx => ∃ g, s = .slice (some ⟨g, 0, none⟩) 2 2 ∧ wx.ownsRow w.heap.size 9 1 (.slice (some ⟨g, 0, none⟩) 2 2) 2 [.string (itoaB e.id), .string e.obj] ∧ TxW w wx g1 e A n c tu ∧ Tb wx)
      case first =>
        go_region_held3 (fun wy => wy.cell? ⟨w.heap.size, 0, none⟩ = some (.int .i64 e.id) ∧ wy.cell? ⟨w.heap.size, 1, none⟩ = some (.string e.obj))
          (first
            | exact F4.out _ HB4.out
            | exact F4.out _ (HB4.out.alloc HB4.out.size _)
            | exact S40.out)
          (first
            | (go_at_call 96; refine C4.out.mono ?_; rintro en w4 ⟨rfl, hb4⟩; (have HB4 : Hid (Below w3.heap.size w3 w4) := (Below.refl _ _).drew.trans hb4); clear hb4))
        all_goals
          go_wp2_with fail
          go_meet
          exact F5.out _ HB4.out
      case rest =>
        obtain ⟨g, rfl, hown, htx, ht⟩ := hcut
        generalize wc = w5 at *
        have c13 : w5.cell? ⟨w.heap.size, 13, none⟩ = some (.int .i64 e.said) := (htx.ent.cell 13).trans rfl
        have c15 : w5.cell? ⟨w.heap.size, 15, none⟩ = some (.int .i64 e.gen) := (htx.ent.cell 15).trans rfl
        have m2 : w5.cell? ⟨g1, 2, none⟩ = some (.int .i64 e.mo) := (htx.met.cell 2).trans rfl
        have m3 : w5.cell? ⟨g1, 3, none⟩ = some (.int .i64 e.le) := (htx.met.cell 3).trans rfl
        have m4 : w5.cell? ⟨g1, 4, none⟩ = some (.int .i64 e.ha) := (htx.met.cell 4).trans rfl
        have m5 : w5.cell? ⟨g1, 5, none⟩ = some (.int .i64 e.fr) := (htx.met.cell 5).trans rfl
        have m6 : w5.cell? ⟨g1, 6, none⟩ = some (.int .i64 e.wh) := (htx.met.cell 6).trans rfl
        have m7 : w5.cell? ⟨g1, 7, none⟩ = some (.int .i64 e.er) := (htx.met.cell 7).trans rfl
        have HOWN := Lib.hid hown
        have HTX5 := Lib.hid htx
        have HT5 := Lib.hid ht
        have hlow := htx.below.size
        clear hown htx ht F4 S40 C4 F5 HTX3 HT3 hse hsm
        go_wp2_with fail
        have hb6 : Below w5.heap.size w5 (w5.alloc (.cells #[.int .i64 e.said, .int .i64 e.gen, .int .i64 e.mo, .int .i64 e.le, .int .i64 e.ha, .int .i64 e.fr, .int .i64 e.wh, .int .i64 e.er] 2)) := (Below.refl _ _).alloc (Nat.le_refl _) _
        have k6 : Blk (w5.alloc (.cells #[.int .i64 e.said, .int .i64 e.gen, .int .i64 e.mo, .int .i64 e.le, .int .i64 e.ha, .int .i64 e.fr, .int .i64 e.wh, .int .i64 e.er] 2)) w5.heap.size 2 ((numsN e).map (Value.int .i64)).toArray := Blk.new _ _ _
        generalize w5.alloc (.cells #[.int .i64 e.said, .int .i64 e.gen, .int .i64 e.mo, .int .i64 e.le, .int .i64 e.ha, .int .i64 e.fr, .int .i64 e.wh, .int .i64 e.er] 2) = w6 at *
        have hx6 := HTX5.out.to hb6
        have ht6 := HT5.out.below hb6
        have ho6 := own_kept HOWN.out (gby_of_below hb6) (fun _ _ e' => by cases e')
        have HX6 := Lib.hid hx6
        have HT6 := Lib.hid ht6
        have HO6 := Lib.hid ho6
        have K6 := Lib.hid k6
        clear hb6 k6 hx6 ht6 ho6 HTX5 HT5 HOWN c13 c15 m2 m3 m4 m5 m6 m7 hlow
        generalize w5.heap.size = g8 at *
        go_loopw [5, 71] (fun s i wr => ∃ (k m : Nat) (A2 : Option Addr) (c2 : Nat), k ≤ 8 ∧ Hid (m = 2 + k) ∧ i = .int .i64 k ∧ s = .slice A2 m c2 ∧ Hid (wr.ownsRow w.heap.size 9 1 (.slice A2 m c2) m (((noteWords e).take m).map Value.string)) ∧ Hid (TxW w wr g1 e A n c tu) ∧ Hid (Blk wr g8 2 ((numsN e).map (Value.int .i64)).toArray) ∧ Hid (Tb wr)) (fun _ i _ => 8 - (intOf i).toNat)
        case atStart => exact ⟨0, 2, some ⟨g, 0, none⟩, 2, by omega, rfl, rfl, rfl, HO6.out, HX6, K6, HT6⟩
        case round =>
          obtain ⟨k, m, A2, c2, hk, HM, rfl, rfl, HO, HX, K8, HTr⟩ := hrel
          by_cases hlt : k < 8
          · obtain ⟨v, hv, hw⟩ := note_num (e := e) k hlt
            have hbd := nums_bd HN.out hv
            have hc : wr.cell? ⟨g8, k, none⟩ = some (.int .i64 v) := (K8.out.cell k).trans (by simp [hv])
            have HW := Lib.hid hw
            have CF := Lib.hid (fmt_any v hbd.1 hbd.2 wr HTr.out)
            have i1 : (0 : Int) ≤ (k : Int) := by omega
            have i2 : (k : Int) < 8 := by omega
            have i3 : m ≤ 10 := by have := HM.out; omega
            have hlow : w.heap.size ≤ wr.heap.size := HX.out.below.size
            clear hv hw hbd
            go_wp2_with first
              | (go_at_call 96; refine CF.out.mono ?_; rintro en w7 ⟨rfl, hb7⟩; have HB7 := Lib.hid hb7; have hs7 := hb7.size; clear hb7)
              | (at_builtin; refine wpList_append_rd _ rfl _ _ 37 rfl w.heap.size 9 i0 (.string ByteArray.empty) 1 16 Tryz.underlying37 hi hz0 hz1 hz2 rfl (by decide) (.slice A2 m c2) m (((noteWords e).take m).map Value.string) rfl (own_kept (own_kept HO.out (gby_of_below HB7.out) (fun _ _ e' => by cases e')) (gby_of_below ((Below.refl _ _).alloc (Nat.le_refl _) _)) (fun _ _ e' => by cases e')) (some ⟨w7.heap.size, 0, none⟩) 1 1 _ [.string (itoaB v)] rfl (Blk.new w7 9 #[.string (itoaB v)]).rd1 (by simp [Value.oneCell']) (by unfold maxLen; omega) (by omega) (by simp; omega) ?_; intro A3 c3 w8 hown8 hgrow8 hnc8 hat8; have HO8 := Lib.hid hown8; have HG8 := Lib.hid hgrow8; clear hown8 hgrow8 hat8)
            have hb78 : Below wr.heap.size wr (w7.alloc (.cells #[.string (itoaB v)] 9)) := HB7.out.alloc HB7.out.size _
            have hr8 := own_kept HO.out (gby_of_below hb78) (fun _ _ e' => by cases e')
            have hx8 := (HX.out.to hb78).grown hr8 HG8.out
            have k8 := (K8.out.below hb78 K8.out.lt).grown HG8.out (own_ne hr8 (K8.out.below hb78 K8.out.lt) (by decide))
            have ht8 : Tb w8 := HT0.out.below hx8.below
            have ho8 : w8.ownsRow w.heap.size 9 1 (.slice A3 (m + 1) c3) (m + 1) (((noteWords e).take (m + 1)).map Value.string) := by
              have e1 : (noteWords e).take (m + 1) = (noteWords e).take m ++ [itoaB v] := by
                have := HM.out
                subst this
                exact HW.out
              rw [e1, List.map_append]
              exact HO8.out
            have HX8 := Lib.hid hx8
            have KK8 := Lib.hid k8
            have HT8 := Lib.hid ht8
            have HO9 := Lib.hid ho8
            clear hb78 hr8 hx8 k8 ht8 ho8
            go_roundw
            case rel => exact ⟨k + 1, m + 1, A3, c3, by omega, by have := HM.out; show m + 1 = 2 + (k + 1); omega, by go_num, rfl, HO9, HX8, KK8, HT8⟩
            case measure => simp [intOf]; omega
          · obtain rfl : k = 8 := by omega
            obtain rfl : m = 10 := HM.out
            have F9 : Hid (∀ wy, Below wr.heap.size wr wy → wy.cell? ⟨g1, 10, none⟩ = some (.bool e.kp) ∧ wy.cell? ⟨g1, 9, none⟩ = some (.string e.ten) ∧ wy.cell? ⟨g1, 0, none⟩ = some (.string e.t) ∧ wy.cell? ⟨g1, 1, none⟩ = some (.bool e.wk)) := by
              show ∀ wy, Below wr.heap.size wr wy → _
              intro wy hb
              have h := (HX.out.to hb).met
              exact ⟨(h.cell 10).trans rfl, (h.cell 9).trans rfl, (h.cell 0).trans rfl, (h.cell 1).trans rfl⟩
            have c10 := (F9.out _ (Below.refl _ _)).1
            go_upto_if 82 with fail
            go_cut [8] (fun s wx => s = .string (keepB e.kp) ∧ wx = wr)
            case first =>
              clear c10
              go_wp2_with fail
              all_goals
                go_meet
                exact ⟨by first | (rw [show e.kp = true by assumption]; rfl) | (rw [show e.kp = false by assumption]; rfl), rfl⟩
            case rest =>
              obtain ⟨rfl, rfl⟩ := hcut
              generalize wc = wr at *
              clear c10
              go_upto_region 13 with fail
              have hwn := noteIs HN.out
              have zt : e.ten.size ≤ 40 := by have := hwn.ten; unfold tenOK at this; simp only [Bool.and_eq_true, decide_eq_true_eq] at this; omega
              have C13 := Lib.hid (tagText_any e.t e.wk wr.drew)
              have S13 := Lib.hid (F9.out _ (Below.refl _ _).drew)
              have EQ13 : Hid ((⟨#[61]⟩ : ByteArray) ++ e.ten = eqB e.ten) := by
                show (⟨#[61]⟩ : ByteArray) ++ e.ten = eqB e.ten
                exact ba_ext (by simp [eqB])
              have F14 : Hid (∀ (w10 w11 : World) (A3 : Option Addr) (c3 : Nat), Below wr.heap.size wr w10 → w11.ownsRow w.heap.size 9 1 (.slice A3 (10 + 3) c3) (10 + 3) (((noteWords e).take 10).map Value.string ++ [.string (keepB e.kp), .string (⟨#[61]⟩ ++ e.ten), .string (tagText e.t e.wk)]) → (w10.alloc (.cells #[.string (keepB e.kp), .string (⟨#[61]⟩ ++ e.ten), .string (tagText e.t e.wk)] 9)).grownBy w11 (Value.slice A2 10 c2).ownBlock → ∃ A4 c4, Value.slice A3 (10 + 3) c3 = .slice A4 13 c4 ∧ w11.ownsRow w.heap.size 9 1 (.slice A4 13 c4) 13 (((noteWords e).take 13).map Value.string) ∧ TxW w w11 g1 e A n c tu) := by
                show ∀ (w10 w11 : World) (A3 : Option Addr) (c3 : Nat), _
                intro w10 w11 A3 c3 hb ho hg
                have hb2 : Below wr.heap.size wr (w10.alloc (.cells #[.string (keepB e.kp), .string (⟨#[61]⟩ ++ e.ten), .string (tagText e.t e.wk)] 9)) := hb.alloc hb.size _
                refine ⟨A3, c3, rfl, ?_, (HX.out.to hb2).grown (own_kept HO.out (gby_of_below hb2) (fun _ _ e' => by cases e')) hg⟩
                have e1 : ((noteWords e).take 13).map Value.string = ((noteWords e).take 10).map Value.string ++ [.string (keepB e.kp), .string (⟨#[61]⟩ ++ e.ten), .string (tagText e.t e.wk)] := by
                  rw [EQ13.out]; rfl
                rw [e1]
                exact ho
              have F14b : Hid (∀ (w10 w11 : World), Below wr.heap.size wr w10 → (w10.alloc (.cells #[.string (keepB e.kp), .string (⟨#[61]⟩ ++ e.ten), .string (tagText e.t e.wk)] 9)).grownBy w11 (Value.slice A2 10 c2).ownBlock → TxW w w11 g1 e A n c tu) := by
                show ∀ (w10 w11 : World), _
                intro w10 w11 hb hg
                have hb2 : Below wr.heap.size wr (w10.alloc (.cells #[.string (keepB e.kp), .string (⟨#[61]⟩ ++ e.ten), .string (tagText e.t e.wk)] 9)) := hb.alloc hb.size _
                exact (HX.out.to hb2).grown (own_kept HO.out (gby_of_below hb2) (fun _ _ e' => by cases e')) hg
              have F15 : Hid (∀ wy, TxW w wy g1 e A n c tu → wy.cell? ⟨g1, 10, none⟩ = some (.bool e.kp) ∧ wy.cell? ⟨g1, 9, none⟩ = some (.string e.ten) ∧ wy.cell? ⟨g1, 0, none⟩ = some (.string e.t) ∧ wy.cell? ⟨g1, 1, none⟩ = some (.bool e.wk)) := by
                show ∀ wy, TxW w wy g1 e A n c tu → _
                intro wy h
                exact ⟨(h.met.cell 10).trans rfl, (h.met.cell 9).trans rfl, (h.met.cell 0).trans rfl, (h.met.cell 1).trans rfl⟩
              have HOb : Hid (∀ wy, Below wr.heap.size wr wy → wy.ownsRow w.heap.size 9 1 (.slice A2 10 c2) 10 (((noteWords e).take 10).map Value.string)) := by
                show ∀ wy, Below wr.heap.size wr wy → _
                intro wy hb
                exact own_kept HO.out (gby_of_below hb) (fun _ _ e' => by cases e')
              have hlow : w.heap.size ≤ wr.heap.size := HX.out.below.size
              have z9 : ¬ (9223372036854775807 < 1 + e.ten.size) := by omega
              clear hwn
              go_cut [5] (fun s wx => ∃ A4 c4, s = .slice A4 13 c4 ∧ wx.ownsRow w.heap.size 9 1 (.slice A4 13 c4) 13 (((noteWords e).take 13).map Value.string) ∧ TxW w wx g1 e A n c tu)
              case first =>
                go_region_held3 (fun wy => wy.cell? ⟨g1, 10, none⟩ = some (.bool e.kp) ∧ wy.cell? ⟨g1, 9, none⟩ = some (.string e.ten) ∧ wy.cell? ⟨g1, 0, none⟩ = some (.string e.t) ∧ wy.cell? ⟨g1, 1, none⟩ = some (.bool e.wk))
                  (first
                    | exact F15.out _ HX11.out
                    | exact F9.out _ HB10.out
                    | exact F9.out _ (HB10.out.alloc HB10.out.size _)
                    | exact S13.out)
                  (first
                    | (go_at_call 97; refine C13.out.mono ?_; rintro en w10 ⟨rfl, hb10⟩; (have HB10 : Hid (Below wr.heap.size wr w10) := (Below.refl _ _).drew.trans hb10); clear hb10)
                    | (refine stepn_append_rd _ (by rfl) _ _ _ (by rfl) w.heap.size 9 i0 (.string ByteArray.empty) 1 16 Tryz.underlying37 hi hz0 hz1 hz2 rfl (by decide) (.slice A2 10 c2) 10 (((noteWords e).take 10).map Value.string) (by rfl) (HOb.out _ (HB10.out.alloc HB10.out.size _)) (some ⟨w10.heap.size, 0, none⟩) 3 3 _ [.string (keepB e.kp), .string (⟨#[61]⟩ ++ e.ten), .string (tagText e.t e.wk)] (by rfl) (Blk.new w10 9 #[.string (keepB e.kp), .string (⟨#[61]⟩ ++ e.ten), .string (tagText e.t e.wk)]).rd3 (by simp [Value.oneCell']) (by unfold maxLen; omega) (by omega) (by have := HB10.out.size; simp; omega) ?_; intro A4 c4 w11 hown11 hgrow11 hnc11; have HF11 := Lib.hid (F14.out w10 w11 A4 c4 HB10.out hown11 hgrow11); (have HX11 := Lib.hid (F14b.out w10 w11 HB10.out hgrow11)); clear hown11 hgrow11))
                all_goals
                  go_wp2_with fail
                  go_meet
                  exact HF11.out
              case rest =>
                obtain ⟨A4, c4, rfl, hown, htx⟩ := hcut
                generalize wc = w12 at *
                have c8 : w12.cell? ⟨g1, 8, none⟩ = some (.slice A n c) := (htx.met.cell 8).trans rfl
                have HO12 := Lib.hid hown
                have HX12 := Lib.hid htx
                have hs12 := htx.below.size
                have RK := Lib.hid (HK.out.below htx.below hs12)
                have hwl := note_len HN.out
                have W13 : Hid ((noteWords e).take 13 ++ e.ks = noteWords e) := rfl
                have hkl : n ≤ 32 := by have h1 := (noteIs HN.out).few; have := HKL.out; omega
                have NL := Lib.hid hwl
                clear hown htx F9 C13 S13 EQ13 F14 F14b F15 HOb HO HX K8 HTr z9 zt hwl
                go_wp2_with first
                  | (at_builtin; refine wpList_append_rd _ rfl _ _ 37 rfl w.heap.size 9 i0 (.string ByteArray.empty) 1 16 Tryz.underlying37 hi hz0 hz1 hz2 rfl (by decide) (.slice A4 13 c4) 13 (((noteWords e).take 13).map Value.string) rfl HO12.out A n c _ (e.ks.map Value.string) rfl RK.out (oneCell_strings e.ks) (by unfold maxLen; omega) (by omega) hs12 ?_; intro A5 c5 w13 hown13 hgrow13 hnc13 hat13; have HO13 := Lib.hid hown13; have HX13 := Lib.hid (HX12.out.grown HO12.out hgrow13); clear hown13 hgrow13 hat13)
                  | (go_at_call 98; refine (join_any (ks := noteWords e) (base := w.heap.size) ⟨#[32]⟩ (by have := HO13.out; rw [← List.map_append, W13.out] at this; exact this) (by omega) (by omega) NL.out.1).mono ?_; rintro en w14 ⟨rfl, hb14⟩; have HB14 := Lib.hid (HX13.out.below.trans (hb14.mono HX13.out.below.size)); clear hb14)
                go_ret2
                exact ⟨by rw [textV_ok HN.out]; rfl, HB14.out⟩
end Go.Proofs.YtoaiamgcegnjjaaGreatDoor
