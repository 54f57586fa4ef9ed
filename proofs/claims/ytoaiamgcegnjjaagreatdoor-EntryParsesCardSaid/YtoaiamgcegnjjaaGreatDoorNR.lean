/- The reference's spelling of a tag, and its note of an entry. No condition but the bounds that they name. -/
import Derived.Test.YtoaiamgcegnjjaaGreatDoorND
import Derived.Test.YtoaiamgcegnjjaaGreatDoorNE
import Derived.Test.YtoaiamgcegnjjaaGreatDoorNJ
import Derived.Test.YtoaiamgcegnjjaaGreatDoorMG
namespace Go.Proofs.YtoaiamgcegnjjaaGreatDoor
open Go.RowKit Go.Maps Go.WideMaps Go.Sort
set_option maxRecDepth 100000
attribute [local go_sem ↓] ld54_fold ld39m_fold st39n_fold

theorem rtagText_any (t : ByteArray) (wk : Bool) (w : World) :
    Calls Tryz.prog 100 #[.agg #[.string t, .bool wk]] w fun e w' => e = .returned (.string (tagText t wk)) ∧ Below w.heap.size w w' := by
  have hb0 : Below w.heap.size w (w.alloc (.cells #[.string t, .bool wk] 36)) := (Below.refl _ _).alloc (Nat.le_refl _) _
  have hk0 : Blk (w.alloc (.cells #[.string t, .bool wk] 36)) w.heap.size 36 #[.string t, .bool wk] := Blk.new _ _ _
  have hq : ∀ a : ByteArray, (⟨#[34]⟩ ++ a ++ ⟨#[34]⟩ : ByteArray) = quoted a := fun a => ba_ext (by simp [quoted])
  have HQ := Lib.hid hq
  have HB := Lib.hid hb0
  have HK := Lib.hid hk0
  clear hb0 hk0 hq
  go_enter Tryz.func100, Tryz.ntmps100
  go_upto_region 1 with fail
  generalize w.alloc (.cells #[.string t, .bool wk] 36) = w1 at *
  have c0 : w1.cell? ⟨w.heap.size, 0, none⟩ = some (.string t) := (HK.out.cell 0).trans rfl
  have c1 : w1.cell? ⟨w.heap.size, 1, none⟩ = some (.bool wk) := (HK.out.cell 1).trans rfl
  go_wp2_with fail
  refine (rtagRight_any t wk w1).mono ?_
  rintro e w2 ⟨rfl, hb2⟩
  have k2 := HK.out.below hb2 HK.out.lt
  have d0 : w2.cell? ⟨w.heap.size, 0, none⟩ = some (.string t) := (k2.cell 0).trans rfl
  have d1 : w2.cell? ⟨w.heap.size, 1, none⟩ = some (.bool wk) := (k2.cell 1).trans rfl
  have HB2 := Lib.hid (HB.out.trans (hb2.mono HB.out.size))
  clear hb2 k2 c0 c1
  by_cases h : tagOK t = true
  · have HT := Lib.hid h
    have hz : t.size ≤ 100 := by unfold tagOK at h; simp only [Bool.and_eq_true, decide_eq_true_eq] at h; omega
    rw [h]
    clear h
    cases wk with
    | false =>
      go_wp2_with fail
      go_ret
      exact ⟨ret_str (by unfold tagText; rw [if_pos HT.out]; exact HQ.out t), HB2.out⟩
    | true =>
      go_wp2_with fail
      go_ret
      exact ⟨ret_str (by unfold tagText; rw [if_pos HT.out]; exact ba_ext (by simp [quoted])), HB2.out⟩
  · have h : tagOK t = false := by simpa using h
    have HT := Lib.hid h
    rw [h]
    clear h
    go_wp2_with fail
    go_ret
    exact ⟨ret_str (by unfold tagText; rw [if_neg (by rw [HT.out]; simp)]), HB2.out⟩

/-! ### words, joined one by one -/
def joinB (ws : List ByteArray) : ByteArray := ⟨(Lib.join (ws.map (·.data.toList)) [32]).toArray⟩
theorem noteB_join (e : Ent) : noteB e = joinB (noteWords e) := rfl
theorem joinB_one (x : ByteArray) : joinB [x] = x := ba_ext (by simp [joinB, Lib.join_one])
theorem joinB_snoc (k : ByteArray) : ∀ (ws : List ByteArray), ws ≠ [] → joinB (ws ++ [k]) = joinB ws ++ ⟨#[32]⟩ ++ k
  | [], h => absurd rfl h
  | x :: ws, _ => ba_ext (by simp [joinB, Lib.join_cons, Lib.joinTail])
theorem joinB_pre (k : ByteArray) (ws : List ByteArray) (h : ws ≠ []) : (joinB ws).size + 1 + k.size = (joinB (ws ++ [k])).size := by
  rw [joinB_snoc k ws h, ByteArray.size_append, ByteArray.size_append]
  rfl
theorem joinB_le (ws : List ByteArray) : ∀ vs : List ByteArray, ws ≠ [] → (joinB ws).size ≤ (joinB (ws ++ vs)).size
  | [], _ => by simp
  | v :: vs, h => by
    have h1 := joinB_pre v ws h
    have h2 := joinB_le (ws ++ [v]) vs (by simp)
    rw [List.append_assoc, List.singleton_append] at h2
    omega
theorem joinB_take (e : Ent) (k : Nat) : (joinB ((noteWords e).take (13 + k))).size ≤ (noteB e).size := by
  have h := joinB_le ((noteWords e).take (13 + k)) ((noteWords e).drop (13 + k)) (by unfold noteWords; simp [Nat.add_comm 13 k])
  rw [List.take_append_drop] at h
  exact h
theorem joinB_next (e : Ent) (k : Nat) (hk : k < e.ks.length) : joinB ((noteWords e).take (13 + (k + 1))) = joinB ((noteWords e).take (13 + k)) ++ ⟨#[32]⟩ ++ e.ks[k] := by
  have hl : 13 + k < (noteWords e).length := by simp [noteWords]; omega
  have h := List.take_succ_eq_append_getElem hl
  have he : (noteWords e)[13 + k] = e.ks[k] := by
    have h2 : (noteWords e)[13 + k]? = some e.ks[k] := by
      unfold noteWords
      rw [List.getElem?_append_right (by simp)]
      simp [hk]
    rw [List.getElem?_eq_getElem hl] at h2
    exact Option.some.inj h2
  rw [show 13 + (k + 1) = 13 + k + 1 from rfl, h, he]
  exact joinB_snoc _ _ (by unfold noteWords; simp [Nat.add_comm 13 k])
theorem note_size {e : Ent} (h : noteOK e = true) : (noteB e).size ≤ 140737488355328 := by
  have := (note_len h).1
  have h2 : (noteB e).size = (Lib.join ((noteWords e).map (·.data.toList)) [32]).length := by simp [noteB, ByteArray.size]
  omega
theorem head_words (e : Ent) : ((((((((((((((((((((((((itoaB e.id ++ ⟨#[32]⟩) ++ e.obj) ++ ⟨#[32]⟩) ++ itoaB e.said) ++ ⟨#[32]⟩) ++ itoaB e.gen) ++ ⟨#[32]⟩) ++ itoaB e.mo) ++ ⟨#[32]⟩) ++ itoaB e.le) ++ ⟨#[32]⟩) ++ itoaB e.ha) ++ ⟨#[32]⟩) ++ itoaB e.fr) ++ ⟨#[32]⟩) ++ itoaB e.wh) ++ ⟨#[32]⟩) ++ itoaB e.er) ++ ⟨#[32]⟩) ++ keepB e.kp) ++ ⟨#[32, 61]⟩) ++ e.ten) ++ ⟨#[32]⟩) ++ tagText e.t e.wk) = joinB ((noteWords e).take (13 + 0)) := by
  have hx : (noteWords e).take (13 + 0) = [itoaB e.id] ++ [e.obj] ++ [itoaB e.said] ++ [itoaB e.gen] ++ [itoaB e.mo] ++ [itoaB e.le] ++ [itoaB e.ha] ++ [itoaB e.fr] ++ [itoaB e.wh] ++ [itoaB e.er] ++ [keepB e.kp] ++ [eqB e.ten] ++ [tagText e.t e.wk] := rfl
  rw [hx]
  iterate 12 rw [joinB_snoc _ _ (by simp)]
  rw [joinB_one]
  refine ba_ext ?_
  simp [eqB]

theorem head_parts (e : Ent) (h : noteOK e = true) (x0 x1 x2 x3 x4 x5 x6 x7 x8 kw tg : ByteArray) (h0 : itoaB e.id = x0) (h1 : itoaB e.said = x1) (h2 : itoaB e.gen = x2) (h3 : itoaB e.mo = x3) (h4 : itoaB e.le = x4) (h5 : itoaB e.ha = x5) (h6 : itoaB e.fr = x6) (h7 : itoaB e.wh = x7) (h8 : itoaB e.er = x8) (hw : keepB e.kp = kw) (ht : tagText e.t e.wk = tg) :
    ∃ z1 z2 z3 z4 z5 z6 z7 z8 z9 z10 z11 z12 z13 z14 z15 z16 z17 z18 z19 z20 z21 z22 z23 z24 : ByteArray, (x0 ++ ⟨#[32]⟩ = z1 ∧ z1 ++ e.obj = z2 ∧ z2 ++ ⟨#[32]⟩ = z3 ∧ z3 ++ x1 = z4 ∧ z4 ++ ⟨#[32]⟩ = z5 ∧ z5 ++ x2 = z6 ∧ z6 ++ ⟨#[32]⟩ = z7 ∧ z7 ++ x3 = z8 ∧ z8 ++ ⟨#[32]⟩ = z9 ∧ z9 ++ x4 = z10 ∧ z10 ++ ⟨#[32]⟩ = z11 ∧ z11 ++ x5 = z12 ∧ z12 ++ ⟨#[32]⟩ = z13 ∧ z13 ++ x6 = z14 ∧ z14 ++ ⟨#[32]⟩ = z15 ∧ z15 ++ x7 = z16 ∧ z16 ++ ⟨#[32]⟩ = z17 ∧ z17 ++ x8 = z18 ∧ z18 ++ ⟨#[32]⟩ = z19 ∧ z19 ++ kw = z20 ∧ z20 ++ ⟨#[32, 61]⟩ = z21 ∧ z21 ++ e.ten = z22 ∧ z22 ++ ⟨#[32]⟩ = z23 ∧ z23 ++ tg = z24) ∧ (¬ (9223372036854775807 < x0.size + 1) ∧ ¬ (9223372036854775807 < z1.size + e.obj.size) ∧ ¬ (9223372036854775807 < z2.size + 1) ∧ ¬ (9223372036854775807 < z3.size + x1.size) ∧ ¬ (9223372036854775807 < z4.size + 1) ∧ ¬ (9223372036854775807 < z5.size + x2.size) ∧ ¬ (9223372036854775807 < z6.size + 1) ∧ ¬ (9223372036854775807 < z7.size + x3.size) ∧ ¬ (9223372036854775807 < z8.size + 1) ∧ ¬ (9223372036854775807 < z9.size + x4.size) ∧ ¬ (9223372036854775807 < z10.size + 1) ∧ ¬ (9223372036854775807 < z11.size + x5.size) ∧ ¬ (9223372036854775807 < z12.size + 1) ∧ ¬ (9223372036854775807 < z13.size + x6.size) ∧ ¬ (9223372036854775807 < z14.size + 1) ∧ ¬ (9223372036854775807 < z15.size + x7.size) ∧ ¬ (9223372036854775807 < z16.size + 1) ∧ ¬ (9223372036854775807 < z17.size + x8.size) ∧ ¬ (9223372036854775807 < z18.size + 1) ∧ ¬ (9223372036854775807 < z19.size + kw.size) ∧ ¬ (9223372036854775807 < z20.size + 2) ∧ ¬ (9223372036854775807 < z21.size + e.ten.size) ∧ ¬ (9223372036854775807 < z22.size + 1) ∧ ¬ (9223372036854775807 < z23.size + tg.size)) ∧ z24 = joinB ((noteWords e).take (13 + 0)) := by
  have hw0 := head_words e
  have hb := joinB_take e 0
  have hc := note_size h
  rw [h0, h1, h2, h3, h4, h5, h6, h7, h8, hw, ht] at hw0
  obtain ⟨z1, e1⟩ : ∃ z : ByteArray, x0 ++ ⟨#[32]⟩ = z := ⟨_, rfl⟩
  have s1 := congrArg ByteArray.size e1
  rw [ByteArray.size_append] at s1
  rw [show ((⟨#[32]⟩ : ByteArray)).size = 1 from rfl] at s1
  rw [e1] at hw0
  obtain ⟨z2, e2⟩ : ∃ z : ByteArray, z1 ++ e.obj = z := ⟨_, rfl⟩
  have s2 := congrArg ByteArray.size e2
  rw [ByteArray.size_append] at s2
  rw [e2] at hw0
  obtain ⟨z3, e3⟩ : ∃ z : ByteArray, z2 ++ ⟨#[32]⟩ = z := ⟨_, rfl⟩
  have s3 := congrArg ByteArray.size e3
  rw [ByteArray.size_append] at s3
  rw [show ((⟨#[32]⟩ : ByteArray)).size = 1 from rfl] at s3
  rw [e3] at hw0
  obtain ⟨z4, e4⟩ : ∃ z : ByteArray, z3 ++ x1 = z := ⟨_, rfl⟩
  have s4 := congrArg ByteArray.size e4
  rw [ByteArray.size_append] at s4
  rw [e4] at hw0
  obtain ⟨z5, e5⟩ : ∃ z : ByteArray, z4 ++ ⟨#[32]⟩ = z := ⟨_, rfl⟩
  have s5 := congrArg ByteArray.size e5
  rw [ByteArray.size_append] at s5
  rw [show ((⟨#[32]⟩ : ByteArray)).size = 1 from rfl] at s5
  rw [e5] at hw0
  obtain ⟨z6, e6⟩ : ∃ z : ByteArray, z5 ++ x2 = z := ⟨_, rfl⟩
  have s6 := congrArg ByteArray.size e6
  rw [ByteArray.size_append] at s6
  rw [e6] at hw0
  obtain ⟨z7, e7⟩ : ∃ z : ByteArray, z6 ++ ⟨#[32]⟩ = z := ⟨_, rfl⟩
  have s7 := congrArg ByteArray.size e7
  rw [ByteArray.size_append] at s7
  rw [show ((⟨#[32]⟩ : ByteArray)).size = 1 from rfl] at s7
  rw [e7] at hw0
  obtain ⟨z8, e8⟩ : ∃ z : ByteArray, z7 ++ x3 = z := ⟨_, rfl⟩
  have s8 := congrArg ByteArray.size e8
  rw [ByteArray.size_append] at s8
  rw [e8] at hw0
  obtain ⟨z9, e9⟩ : ∃ z : ByteArray, z8 ++ ⟨#[32]⟩ = z := ⟨_, rfl⟩
  have s9 := congrArg ByteArray.size e9
  rw [ByteArray.size_append] at s9
  rw [show ((⟨#[32]⟩ : ByteArray)).size = 1 from rfl] at s9
  rw [e9] at hw0
  obtain ⟨z10, e10⟩ : ∃ z : ByteArray, z9 ++ x4 = z := ⟨_, rfl⟩
  have s10 := congrArg ByteArray.size e10
  rw [ByteArray.size_append] at s10
  rw [e10] at hw0
  obtain ⟨z11, e11⟩ : ∃ z : ByteArray, z10 ++ ⟨#[32]⟩ = z := ⟨_, rfl⟩
  have s11 := congrArg ByteArray.size e11
  rw [ByteArray.size_append] at s11
  rw [show ((⟨#[32]⟩ : ByteArray)).size = 1 from rfl] at s11
  rw [e11] at hw0
  obtain ⟨z12, e12⟩ : ∃ z : ByteArray, z11 ++ x5 = z := ⟨_, rfl⟩
  have s12 := congrArg ByteArray.size e12
  rw [ByteArray.size_append] at s12
  rw [e12] at hw0
  obtain ⟨z13, e13⟩ : ∃ z : ByteArray, z12 ++ ⟨#[32]⟩ = z := ⟨_, rfl⟩
  have s13 := congrArg ByteArray.size e13
  rw [ByteArray.size_append] at s13
  rw [show ((⟨#[32]⟩ : ByteArray)).size = 1 from rfl] at s13
  rw [e13] at hw0
  obtain ⟨z14, e14⟩ : ∃ z : ByteArray, z13 ++ x6 = z := ⟨_, rfl⟩
  have s14 := congrArg ByteArray.size e14
  rw [ByteArray.size_append] at s14
  rw [e14] at hw0
  obtain ⟨z15, e15⟩ : ∃ z : ByteArray, z14 ++ ⟨#[32]⟩ = z := ⟨_, rfl⟩
  have s15 := congrArg ByteArray.size e15
  rw [ByteArray.size_append] at s15
  rw [show ((⟨#[32]⟩ : ByteArray)).size = 1 from rfl] at s15
  rw [e15] at hw0
  obtain ⟨z16, e16⟩ : ∃ z : ByteArray, z15 ++ x7 = z := ⟨_, rfl⟩
  have s16 := congrArg ByteArray.size e16
  rw [ByteArray.size_append] at s16
  rw [e16] at hw0
  obtain ⟨z17, e17⟩ : ∃ z : ByteArray, z16 ++ ⟨#[32]⟩ = z := ⟨_, rfl⟩
  have s17 := congrArg ByteArray.size e17
  rw [ByteArray.size_append] at s17
  rw [show ((⟨#[32]⟩ : ByteArray)).size = 1 from rfl] at s17
  rw [e17] at hw0
  obtain ⟨z18, e18⟩ : ∃ z : ByteArray, z17 ++ x8 = z := ⟨_, rfl⟩
  have s18 := congrArg ByteArray.size e18
  rw [ByteArray.size_append] at s18
  rw [e18] at hw0
  obtain ⟨z19, e19⟩ : ∃ z : ByteArray, z18 ++ ⟨#[32]⟩ = z := ⟨_, rfl⟩
  have s19 := congrArg ByteArray.size e19
  rw [ByteArray.size_append] at s19
  rw [show ((⟨#[32]⟩ : ByteArray)).size = 1 from rfl] at s19
  rw [e19] at hw0
  obtain ⟨z20, e20⟩ : ∃ z : ByteArray, z19 ++ kw = z := ⟨_, rfl⟩
  have s20 := congrArg ByteArray.size e20
  rw [ByteArray.size_append] at s20
  rw [e20] at hw0
  obtain ⟨z21, e21⟩ : ∃ z : ByteArray, z20 ++ ⟨#[32, 61]⟩ = z := ⟨_, rfl⟩
  have s21 := congrArg ByteArray.size e21
  rw [ByteArray.size_append] at s21
  rw [show ((⟨#[32, 61]⟩ : ByteArray)).size = 2 from rfl] at s21
  rw [e21] at hw0
  obtain ⟨z22, e22⟩ : ∃ z : ByteArray, z21 ++ e.ten = z := ⟨_, rfl⟩
  have s22 := congrArg ByteArray.size e22
  rw [ByteArray.size_append] at s22
  rw [e22] at hw0
  obtain ⟨z23, e23⟩ : ∃ z : ByteArray, z22 ++ ⟨#[32]⟩ = z := ⟨_, rfl⟩
  have s23 := congrArg ByteArray.size e23
  rw [ByteArray.size_append] at s23
  rw [show ((⟨#[32]⟩ : ByteArray)).size = 1 from rfl] at s23
  rw [e23] at hw0
  obtain ⟨z24, e24⟩ : ∃ z : ByteArray, z23 ++ tg = z := ⟨_, rfl⟩
  have s24 := congrArg ByteArray.size e24
  rw [ByteArray.size_append] at s24
  rw [e24] at hw0
  rw [← hw0] at hb
  refine ⟨z1, z2, z3, z4, z5, z6, z7, z8, z9, z10, z11, z12, z13, z14, z15, z16, z17, z18, z19, z20, z21, z22, z23, z24, ⟨e1, e2, e3, e4, e5, e6, e7, e8, e9, e10, e11, e12, e13, e14, e15, e16, e17, e18, e19, e20, e21, e22, e23, e24⟩, ⟨by omega, by omega, by omega, by omega, by omega, by omega, by omega, by omega, by omega, by omega, by omega, by omega, by omega, by omega, by omega, by omega, by omega, by omega, by omega, by omega, by omega, by omega, by omega, by omega⟩, hw0⟩

set_option maxHeartbeats 8000000 in
theorem rtext_any (r : RM) (w : World) (hk : Strs w w.heap.size r.kA r.kn r.e.M.ks) (hn : r.kn ≤ 1000000) (hs : r.e.M.Sz) :
    Calls Tryz.prog 39 #[.agg r.row] w fun en w' => en = .returned (textV r.e.ent) ∧ Below w.heap.size w w' := by
  have hb0 : Below w.heap.size w (w.alloc (.cells r.row 54)) := (Below.refl _ _).alloc (Nat.le_refl _) _
  have k0 : Blk (w.alloc (.cells r.row 54)) w.heap.size 54 r.row := Blk.new _ _ _
  have hkl := hk.len
  have HB0 := Lib.hid hb0
  have K0 := Lib.hid k0
  have HKL := Lib.hid hkl
  have HK := Lib.hid hk
  clear hb0 k0 hk hkl
  go_enter Tryz.func39, Tryz.ntmps39
  go_upto_region 1 with fail
  generalize w.alloc (.cells r.row 54) = w1 at *
  have l54 := run_ld54b K0.out
  have CN := Lib.hid (rnoted_any r w1 (HK.out.below HB0.out HB0.out.size) hn hs)
  go_wp2_with fail
  refine CN.out.mono ?_
  rintro en w2 ⟨rfl, hb2⟩
  have HB2 := Lib.hid (HB0.out.trans (hb2.mono HB0.out.size))
  have K2 := Lib.hid (K0.out.below hb2 K0.out.lt)
  clear hb2 CN l54
  cases hno : noteOK r.e.ent with
  | false =>
    have HNO := Lib.hid hno
    clear hno
    go_wp2_with fail
    go_ret2
    exact ⟨by rw [textV_no HNO.out]; rfl, HB2.out⟩
  | true =>
    have HNO := Lib.hid hno
    clear hno
    have l39 := run_ld39m K2.out
    have s39 := run_st39n w2 r.mc rfl (by simp [Value.oneCell'])
    go_upto_region 4 with fail
    have hb3 : Below w2.heap.size w2 (w2.alloc (.cells r.mc 39)) := (Below.refl _ _).alloc (Nat.le_refl _) _
    have k3 := K2.out.below hb3 K2.out.lt
    have m3 : Blk (w2.alloc (.cells r.mc 39)) w2.heap.size 39 r.mc := Blk.new _ _ _
    generalize w2.alloc (.cells r.mc 39) = w3 at *
    have HB3 := Lib.hid (HB2.out.trans (hb3.mono HB2.out.size))
    have hg1 : w.heap.size < w2.heap.size := K2.out.lt
    clear s39 l39 hb3
    generalize w2.heap.size = g1 at *
    have K3 := Lib.hid k3
    have M3 := Lib.hid m3
    clear k3 m3
    have m10 : w3.cell? ⟨g1, 10, none⟩ = some (.bool r.e.M.kp) := (M3.out.cell 10).trans rfl
    go_upto_if 14 with fail
    go_cut [5] (fun s wx => s = .string (keepB r.e.M.kp) ∧ wx = w3)
    case first =>
      cases hkp : r.e.M.kp with
      | false =>
        go_wp2_with fail
        go_meet
        exact ⟨by rw [hkp]; rfl, rfl⟩
      | true =>
        go_wp2_with fail
        go_meet
        exact ⟨by rw [hkp]; rfl, rfl⟩
    case rest =>
      obtain ⟨rfl, rfl⟩ := hcut
      clear m10
      generalize wc = v3 at *
      have hI := noteIs HNO.out
      have j0 : 1 ≤ r.e.id ∧ r.e.id ≤ 1099511627776 := hI.id
      have j1 : 0 ≤ r.e.said ∧ r.e.said ≤ 1099511627776 := hI.said
      have j2 : 0 ≤ r.e.gen ∧ r.e.gen ≤ 1099511627776 := hI.gen
      have j3 : -1 ≤ r.e.M.mo ∧ r.e.M.mo ≤ 253402300799 := hI.mo
      have j4 : -1 ≤ r.e.M.le ∧ r.e.M.le ≤ 1099511627776 := hI.le
      have j5 : 0 ≤ r.e.M.ha ∧ r.e.M.ha ≤ 1099511627776 := hI.ha
      have j6 : 0 ≤ r.e.M.fr ∧ r.e.M.fr ≤ 1099511627776 := hI.fr
      have j7 : 0 ≤ r.e.M.wh ∧ r.e.M.wh ≤ 1099511627776 := hI.wh
      have j8 : 0 ≤ r.e.M.er ∧ r.e.M.er ≤ 1099511627776 := hI.er
      have cid : ∀ d os, Calls Tryz.prog 99 #[.int .i64 r.e.id] (grow (redrawn v3 d) os) fun en w'' => en = .returned (.string (itoaB r.e.id)) ∧ ∃ p : Regrown, w'' = grow (redrawn v3 p.d) p.os := fun d os => Calls.regrown_of (rdigits_any r.e.id (by omega) (by omega) _)
      have csd : ∀ d os, Calls Tryz.prog 99 #[.int .i64 r.e.said] (grow (redrawn v3 d) os) fun en w'' => en = .returned (.string (itoaB r.e.said)) ∧ ∃ p : Regrown, w'' = grow (redrawn v3 p.d) p.os := fun d os => Calls.regrown_of (rdigits_any r.e.said (by omega) (by omega) _)
      have cgn : ∀ d os, Calls Tryz.prog 99 #[.int .i64 r.e.gen] (grow (redrawn v3 d) os) fun en w'' => en = .returned (.string (itoaB r.e.gen)) ∧ ∃ p : Regrown, w'' = grow (redrawn v3 p.d) p.os := fun d os => Calls.regrown_of (rdigits_any r.e.gen (by omega) (by omega) _)
      have cmo : ∀ d os, Calls Tryz.prog 99 #[.int .i64 r.e.M.mo] (grow (redrawn v3 d) os) fun en w'' => en = .returned (.string (itoaB r.e.M.mo)) ∧ ∃ p : Regrown, w'' = grow (redrawn v3 p.d) p.os := fun d os => Calls.regrown_of (rdigits_any r.e.M.mo (by omega) (by omega) _)
      have cle : ∀ d os, Calls Tryz.prog 99 #[.int .i64 r.e.M.le] (grow (redrawn v3 d) os) fun en w'' => en = .returned (.string (itoaB r.e.M.le)) ∧ ∃ p : Regrown, w'' = grow (redrawn v3 p.d) p.os := fun d os => Calls.regrown_of (rdigits_any r.e.M.le (by omega) (by omega) _)
      have cha : ∀ d os, Calls Tryz.prog 99 #[.int .i64 r.e.M.ha] (grow (redrawn v3 d) os) fun en w'' => en = .returned (.string (itoaB r.e.M.ha)) ∧ ∃ p : Regrown, w'' = grow (redrawn v3 p.d) p.os := fun d os => Calls.regrown_of (rdigits_any r.e.M.ha (by omega) (by omega) _)
      have cfr : ∀ d os, Calls Tryz.prog 99 #[.int .i64 r.e.M.fr] (grow (redrawn v3 d) os) fun en w'' => en = .returned (.string (itoaB r.e.M.fr)) ∧ ∃ p : Regrown, w'' = grow (redrawn v3 p.d) p.os := fun d os => Calls.regrown_of (rdigits_any r.e.M.fr (by omega) (by omega) _)
      have cwh : ∀ d os, Calls Tryz.prog 99 #[.int .i64 r.e.M.wh] (grow (redrawn v3 d) os) fun en w'' => en = .returned (.string (itoaB r.e.M.wh)) ∧ ∃ p : Regrown, w'' = grow (redrawn v3 p.d) p.os := fun d os => Calls.regrown_of (rdigits_any r.e.M.wh (by omega) (by omega) _)
      have cer : ∀ d os, Calls Tryz.prog 99 #[.int .i64 r.e.M.er] (grow (redrawn v3 d) os) fun en w'' => en = .returned (.string (itoaB r.e.M.er)) ∧ ∃ p : Regrown, w'' = grow (redrawn v3 p.d) p.os := fun d os => Calls.regrown_of (rdigits_any r.e.M.er (by omega) (by omega) _)
      have ctg : ∀ d os, Calls Tryz.prog 100 #[.agg #[.string r.e.M.t, .bool r.e.M.wk]] (grow (redrawn v3 d) os) fun en w'' => en = .returned (.string (tagText r.e.M.t r.e.M.wk)) ∧ ∃ p : Regrown, w'' = grow (redrawn v3 p.d) p.os := fun d os => Calls.regrown_of (rtagText_any r.e.M.t r.e.M.wk _)
      have q0 := cell_regrown (show v3.cell? ⟨w.heap.size, 0, none⟩ = some (.int .i64 r.e.id) from (K3.out.cell 0).trans rfl)
      have q1 := cell_regrown (show v3.cell? ⟨w.heap.size, 1, none⟩ = some (.string r.e.obj) from (K3.out.cell 1).trans rfl)
      have q2 := cell_regrown (show v3.cell? ⟨w.heap.size, 13, none⟩ = some (.int .i64 r.e.said) from (K3.out.cell 13).trans rfl)
      have q3 := cell_regrown (show v3.cell? ⟨w.heap.size, 15, none⟩ = some (.int .i64 r.e.gen) from (K3.out.cell 15).trans rfl)
      have q4 := cell_regrown (show v3.cell? ⟨g1, 0, none⟩ = some (.string r.e.M.t) from (M3.out.cell 0).trans rfl)
      have q5 := cell_regrown (show v3.cell? ⟨g1, 1, none⟩ = some (.bool r.e.M.wk) from (M3.out.cell 1).trans rfl)
      have q6 := cell_regrown (show v3.cell? ⟨g1, 2, none⟩ = some (.int .i64 r.e.M.mo) from (M3.out.cell 2).trans rfl)
      have q7 := cell_regrown (show v3.cell? ⟨g1, 3, none⟩ = some (.int .i64 r.e.M.le) from (M3.out.cell 3).trans rfl)
      have q8 := cell_regrown (show v3.cell? ⟨g1, 4, none⟩ = some (.int .i64 r.e.M.ha) from (M3.out.cell 4).trans rfl)
      have q9 := cell_regrown (show v3.cell? ⟨g1, 5, none⟩ = some (.int .i64 r.e.M.fr) from (M3.out.cell 5).trans rfl)
      have q10 := cell_regrown (show v3.cell? ⟨g1, 6, none⟩ = some (.int .i64 r.e.M.wh) from (M3.out.cell 6).trans rfl)
      have q11 := cell_regrown (show v3.cell? ⟨g1, 7, none⟩ = some (.int .i64 r.e.M.er) from (M3.out.cell 7).trans rfl)
      have q12 := cell_regrown (show v3.cell? ⟨g1, 9, none⟩ = some (.string r.e.M.ten) from (M3.out.cell 9).trans rfl)
      obtain ⟨x0, h0⟩ : ∃ x, itoaB r.e.id = x := ⟨_, rfl⟩
      obtain ⟨x1, h1⟩ : ∃ x, itoaB r.e.said = x := ⟨_, rfl⟩
      obtain ⟨x2, h2⟩ : ∃ x, itoaB r.e.gen = x := ⟨_, rfl⟩
      obtain ⟨x3, h3⟩ : ∃ x, itoaB r.e.M.mo = x := ⟨_, rfl⟩
      obtain ⟨x4, h4⟩ : ∃ x, itoaB r.e.M.le = x := ⟨_, rfl⟩
      obtain ⟨x5, h5⟩ : ∃ x, itoaB r.e.M.ha = x := ⟨_, rfl⟩
      obtain ⟨x6, h6⟩ : ∃ x, itoaB r.e.M.fr = x := ⟨_, rfl⟩
      obtain ⟨x7, h7⟩ : ∃ x, itoaB r.e.M.wh = x := ⟨_, rfl⟩
      obtain ⟨x8, h8⟩ : ∃ x, itoaB r.e.M.er = x := ⟨_, rfl⟩
      obtain ⟨kw, hw⟩ : ∃ x, keepB r.e.M.kp = x := ⟨_, rfl⟩
      obtain ⟨tg, ht⟩ : ∃ x, tagText r.e.M.t r.e.M.wk = x := ⟨_, rfl⟩
      rw [h0] at cid
      rw [h1] at csd
      rw [h2] at cgn
      rw [h3] at cmo
      rw [h4] at cle
      rw [h5] at cha
      rw [h6] at cfr
      rw [h7] at cwh
      rw [h8] at cer
      rw [ht] at ctg
      obtain ⟨z1, z2, z3, z4, z5, z6, z7, z8, z9, z10, z11, z12, z13, z14, z15, z16, z17, z18, z19, z20, z21, z22, z23, z24, ⟨e1, e2, e3, e4, e5, e6, e7, e8, e9, e10, e11, e12, e13, e14, e15, e16, e17, e18, e19, e20, e21, e22, e23, e24⟩, ⟨b1, b2, b3, b4, b5, b6, b7, b8, b9, b10, b11, b12, b13, b14, b15, b16, b17, b18, b19, b20, b21, b22, b23, b24⟩, hz⟩ := head_parts r.e.ent HNO.out x0 x1 x2 x3 x4 x5 x6 x7 x8 kw tg h0 h1 h2 h3 h4 h5 h6 h7 h8 hw ht
      have HZ := Lib.hid hz
      clear hz j0 j1 j2 j3 j4 j5 j6 j7 j8 hI
      change z1 ++ r.e.obj = z2 at e2
      change ¬ (9223372036854775807 < z1.size + r.e.obj.size) at b2
      change z21 ++ r.e.M.ten = z22 at e22
      change ¬ (9223372036854775807 < z21.size + r.e.M.ten.size) at b22
      rw [hw]
      clear h0 h1 h2 h3 h4 h5 h6 h7 h8 hw ht
      go_upto_region 7 with fail
      go_cut [6] (fun s wx => s = .string z24 ∧ Below v3.heap.size v3 wx)
      case first =>
        refine wp_region_quiet_below (by kernel_rfl) (by kernel_rfl) ?_
        repeat (go_big_quiet_step (first | exact cid _ _ | exact csd _ _ | exact cgn _ _ | exact cmo _ _ | exact cle _ _ | exact cha _ _ | exact cfr _ _ | exact cwh _ _ | exact cer _ _ | exact ctg _ _))
        refine wpQuiet_nil ?_
        intro _ hw'
        obtain ⟨⟨dq, osq⟩, hw''⟩ := hw'
        subst hw''
        go_wp2_with fail
        go_meet
        exact ⟨rfl, below_regrown v3 dq osq⟩
      case rest =>
        clear e1 e2 e3 e4 e5 e6 e7 e8 e9 e10 e11 e12 e13 e14 e15 e16 e17 e18 e19 e20 e21 e22 e23 e24 b1 b2 b3 b4 b5 b6 b7 b8 b9 b10 b11 b12 b13 b14 b15 b16 b17 b18 b19 b20 b21 b22 b23 b24 q0 q1 q2 q3 q4 q5 q6 q7 q8 q9 q10 q11 q12 cid csd cgn cmo cle cha cfr cwh cer ctg
        obtain ⟨rfl, hb4⟩ := hcut
        generalize wc = w4 at *
        have m8 : w4.cell? ⟨g1, 8, none⟩ = some (.slice r.kA r.kn r.kc) := ((M3.out.below hb4 M3.out.lt).cell 8).trans rfl
        have HB4 := Lib.hid (HB3.out.trans (hb4.mono HB3.out.size))
        have RK := Lib.hid (HK.out.below HB4.out (Nat.le_refl _))
        have hsz := note_size HNO.out
        clear hb4 K3 M3
        rw [HZ.out]
        clear HZ
        go_wp2_with fail
        go_loopw [6, 7] (fun s6 s7 wr => ∃ k : Nat, k ≤ r.kn ∧ s7 = .int .i64 k ∧ s6 = .string (joinB ((noteWords r.e.ent).take (13 + k))) ∧ wr = w4) (fun _ i _ => r.kn - (intOf i).toNat)
        case atStart => exact ⟨0, Nat.zero_le _, rfl, rfl, rfl⟩
        case round =>
          obtain ⟨k, hk, rfl, rfl, rfl⟩ := hrel
          by_cases hlt : k < r.kn
          · have hkl : k < r.e.ent.ks.length := by have := HKL.out; show k < r.e.M.ks.length; omega
            obtain ⟨b, o, hA, hbl, hat⟩ := RK.out.at_ (by omega)
            have HNX := Lib.hid (joinB_next r.e.ent k hkl)
            have hz2 := joinB_take r.e.ent (k + 1)
            rw [HNX.out, ByteArray.size_append, ByteArray.size_append] at hz2
            have hz1 : (joinB ((noteWords r.e.ent).take (13 + k))).size ≤ 140737488355328 := by omega
            have hz3 : (r.e.ent.ks[k]).size ≤ 140737488355328 := by omega
            have ck := hat k hkl
            change wr.cell? ⟨b, o + k, none⟩ = some (.string r.e.ent.ks[k]) at ck
            clear hat hz2 hsz
            rw [hA] at m8
            generalize r.e.ent.ks[k] = x at *
            generalize joinB ((noteWords r.e.ent).take (13 + k)) = z at *
            have i1 : (0 : Int) ≤ (k : Int) := by omega
            have i2 : (k : Int) < (r.kn : Int) := by omega
            go_wp2_with fail
            go_roundw
            case rel => exact ⟨k + 1, by omega, by go_num, by rw [HNX.out], trivial⟩
            case measure => simp [intOf]; omega
          · have hkn : k = r.kn := by omega
            have hfull : (noteWords r.e.ent).take (13 + k) = noteWords r.e.ent := List.take_of_length_le (by have := HKL.out; unfold noteWords; simp only [List.length_append, List.length_cons, List.length_nil]; show 13 + r.e.M.ks.length ≤ _; omega)
            rw [hfull]
            have HFU : Hid (noteB r.e.ent = joinB (noteWords r.e.ent)) := rfl
            generalize joinB (noteWords r.e.ent) = z at *
            clear hfull
            go_wp2_with fail
            go_ret2
            exact ⟨by rw [textV_ok HNO.out, HFU.out]; rfl, HB4.out⟩
end Go.Proofs.YtoaiamgcegnjjaaGreatDoor
