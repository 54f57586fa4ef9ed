/- The reference's Noted and newer; rows put in their place. No condition but the bounds that each names. -/
import Derived.Test.YtoaiamgcegnjjaaGreatDoorNB
import Derived.Test.YtoaiamgcegnjjaaGreatDoorNA
import Derived.Test.YtoaiamgcegnjjaaGreatDoorLL
namespace Go.Proofs.YtoaiamgcegnjjaaGreatDoor
open Go.RowKit Go.Maps Go.WideMaps Go.Sort
set_option maxRecDepth 100000
def ld39m (p : Value) : Sem Value := Instr.loadAt 39 p
theorem ld39m_fold (p : Value) : Instr.loadAt 39 p = ld39m p := rfl
attribute [local go_sem ↓] ld54_fold ld39m_fold

abbrev RM.mc (r : RM) : Array Value := metaC r.e.M.t r.e.M.wk r.e.M.mo r.e.M.le r.e.M.ha r.e.M.fr r.e.M.wh r.e.M.er r.kA r.kn r.kc r.e.M.ten r.e.M.kp
theorem run_ld39m {w : World} {g : Nat} {r : RM} (h : Blk w g 54 r.row) : (ld39m (.pointer (some ⟨g, 2, none⟩))).run Tryz.prog w = .ok (.agg r.mc) w := by
  refine run_loadAt_mid w g 2 39 r.mc.toList _ (fun j v hj => ?_) Tryz.underlying39 rfl size39
  have : ∀ k, w.cell? ⟨g, k, none⟩ = r.row[k]? := h.cell
  rw [this]
  match j, hj with
  | 0, hj | 1, hj | 2, hj | 3, hj | 4, hj | 5, hj | 6, hj | 7, hj | 8, hj | 9, hj | 10, hj => exact hj

theorem noteOK_re (e : RE) : noteOK e.ent = (decide (1 ≤ e.id) && decide (e.id ≤ 1099511627776) && objOK e.obj && metaOK e.M.t e.M.wk e.M.mo e.M.le e.M.ha e.M.fr e.M.wh e.M.er e.M.ks e.M.ten && (tagOK e.M.t && !e.M.wk) && tick0 e.said && tick0 e.gen) := rfl

set_option maxHeartbeats 4000000 in
theorem rnoted_any (r : RM) (w : World) (hk : Strs w w.heap.size r.kA r.kn r.e.M.ks) (hn : r.kn ≤ 1000000) (hs : r.e.M.Sz) :
    Calls Tryz.prog 50 #[.agg r.row] w fun e w' => e = .returned (.bool (noteOK r.e.ent)) ∧ Below w.heap.size w w' := by
  have hb0 : Below w.heap.size w (w.alloc (.cells r.row 54)) := (Below.refl _ _).alloc (Nat.le_refl _) _
  have k0 : Blk (w.alloc (.cells r.row 54)) w.heap.size 54 r.row := Blk.new _ _ _
  have HB0 := Lib.hid hb0
  have K0 := Lib.hid k0
  have HK := Lib.hid hk
  have HSZ := Lib.hid hs
  clear hb0 k0 hk hs
  go_enter Tryz.func50, Tryz.ntmps50
  go_upto_region 1 with fail
  generalize w.alloc (.cells r.row 54) = w1 at *
  have hlt := K0.out.lt
  have FX : Hid (∀ wy, Below w1.heap.size w1 wy → wy.cell? ⟨w.heap.size, 0, none⟩ = some (.int .i64 r.e.id) ∧ wy.cell? ⟨w.heap.size, 1, none⟩ = some (.string r.e.obj) ∧ (ld39m (.pointer (some ⟨w.heap.size, 2, none⟩))).run Tryz.prog wy = .ok (.agg r.mc) wy ∧ wy.cell? ⟨w.heap.size, 13, none⟩ = some (.int .i64 r.e.said) ∧ wy.cell? ⟨w.heap.size, 15, none⟩ = some (.int .i64 r.e.gen)) := by
    show ∀ wy, Below w1.heap.size w1 wy → _
    intro wy hb
    have h := K0.out.below hb K0.out.lt
    exact ⟨(h.cell 0).trans rfl, (h.cell 1).trans rfl, run_ld39m h, (h.cell 13).trans rfl, (h.cell 15).trans rfl⟩
  obtain ⟨c0, c1, l2, c13, c15⟩ := FX.out _ (Below.refl _ _)
  have CM := Lib.hid (rright_any r.e.M.t r.e.M.wk r.e.M.mo r.e.M.le r.e.M.ha r.e.M.fr r.e.M.wh r.e.M.er r.kA r.kn r.kc r.e.M.ten r.e.M.kp w1 r.e.M.ks w.heap.size (HK.out.below HB0.out (Nat.le_refl _)) HB0.out.size (by omega) HSZ.out.ks HSZ.out.t HSZ.out.ten)
  by_cases a1 : 1 ≤ r.e.id
  case neg =>
    have HN : Hid (noteOK r.e.ent = false) := by show noteOK r.e.ent = false; rw [noteOK_re, decide_eq_false a1]; simp
    go_wp2_with fail
    go_ret
    exact ⟨ret_bool HN.out.symm, HB0.out⟩
  by_cases a2 : r.e.id ≤ 1099511627776
  case neg =>
    have HN : Hid (noteOK r.e.ent = false) := by show noteOK r.e.ent = false; rw [noteOK_re, decide_eq_false a2]; simp
    go_wp2_with fail
    go_ret
    exact ⟨ret_bool HN.out.symm, HB0.out⟩
  cases ho : objOK r.e.obj with
  | false =>
    have HO := Lib.hid ho
    have HN : Hid (noteOK r.e.ent = false) := by show noteOK r.e.ent = false; rw [noteOK_re, ho]; simp
    clear ho
    go_wp2_with (go_at_call 112; refine (robj_any _ _).mono ?_; rintro en w3 ⟨rfl, rfl⟩; rw [HO.out])
    go_ret
    exact ⟨ret_bool HN.out.symm, HB0.out⟩
  | true =>
    have HO := Lib.hid ho
    clear ho
    cases hm : metaOK r.e.M.t r.e.M.wk r.e.M.mo r.e.M.le r.e.M.ha r.e.M.fr r.e.M.wh r.e.M.er r.e.M.ks r.e.M.ten with
    | false =>
      have HM := Lib.hid hm
      have HN : Hid (noteOK r.e.ent = false) := by show noteOK r.e.ent = false; rw [noteOK_re, hm]; simp
      clear hm
      go_wp2_with first
        | (go_at_call 112; refine (robj_any _ _).mono ?_; rintro en w3 ⟨rfl, rfl⟩; rw [HO.out])
        | (go_at_call 113; refine CM.out.mono ?_; rintro en w3 ⟨rfl, hb3⟩; rw [HM.out]; have HB3 := Lib.hid (HB0.out.trans (hb3.mono HB0.out.size)); clear hb3)
      go_ret
      exact ⟨ret_bool HN.out.symm, HB3.out⟩
    | true =>
      have HM := Lib.hid hm
      clear hm
      cases hj : (tagOK r.e.M.t && !r.e.M.wk) with
      | false =>
        have HJ := Lib.hid hj
        have HN : Hid (noteOK r.e.ent = false) := by show noteOK r.e.ent = false; rw [noteOK_re, hj]; simp
        clear hj
        go_wp2_with first
          | (go_at_call 112; refine (robj_any _ _).mono ?_; rintro en w3 ⟨rfl, rfl⟩; rw [HO.out])
          | (go_at_call 113; refine CM.out.mono ?_; rintro en w3 ⟨rfl, hb3⟩; rw [HM.out]; obtain ⟨_, _, l3, _, _⟩ := FX.out _ hb3; have HB3 := Lib.hid (HB0.out.trans (hb3.mono HB0.out.size)); clear hb3)
          | (go_at_call 114; refine (rjoins_any r.e.M.t r.e.M.wk r.e.M.mo r.e.M.le r.e.M.ha r.e.M.fr r.e.M.wh r.e.M.er r.kA r.kn r.kc r.e.M.ten r.e.M.kp w3).mono ?_; rintro en w4 ⟨rfl, hb4⟩; rw [HJ.out]; have HB4 := Lib.hid (HB3.out.trans (hb4.mono HB3.out.size)); clear hb4)
        go_ret
        exact ⟨ret_bool HN.out.symm, HB4.out⟩
      | true =>
        have HJ := Lib.hid hj
        clear hj
        cases hsd : tick0 r.e.said with
        | false =>
          have HS := Lib.hid hsd
          have HN : Hid (noteOK r.e.ent = false) := by show noteOK r.e.ent = false; rw [noteOK_re, hsd]; simp
          clear hsd
          go_wp2_with first
            | (go_at_call 112; refine (robj_any _ _).mono ?_; rintro en w3 ⟨rfl, rfl⟩; rw [HO.out])
            | (go_at_call 113; refine CM.out.mono ?_; rintro en w3 ⟨rfl, hb3⟩; rw [HM.out]; obtain ⟨_, _, l3, _, _⟩ := FX.out _ hb3; have HB30 := Lib.hid hb3; have HB3 := Lib.hid (HB0.out.trans (hb3.mono HB0.out.size)); clear hb3)
            | (go_at_call 114; refine (rjoins_any r.e.M.t r.e.M.wk r.e.M.mo r.e.M.le r.e.M.ha r.e.M.fr r.e.M.wh r.e.M.er r.kA r.kn r.kc r.e.M.ten r.e.M.kp w3).mono ?_; rintro en w4 ⟨rfl, hb4⟩; rw [HJ.out]; obtain ⟨_, _, _, p13, p15⟩ := FX.out _ (HB30.out.trans (hb4.mono HB30.out.size)); have HB4 := Lib.hid (HB3.out.trans (hb4.mono HB3.out.size)); clear hb4)
            | (go_at_call 115; refine (rnumber_any r.e.said w4).mono ?_; rintro en w5 ⟨rfl, rfl⟩; rw [HS.out])
          go_ret
          exact ⟨ret_bool HN.out.symm, HB4.out⟩
        | true =>
          have HS := Lib.hid hsd
          clear hsd
          have HN : Hid (noteOK r.e.ent = tick0 r.e.gen) := by
            show noteOK r.e.ent = tick0 r.e.gen
            rw [noteOK_re, decide_eq_true a1, decide_eq_true a2, HO.out, HM.out, HJ.out, HS.out]; simp
          go_wp2_with first
            | (go_at_call 112; refine (robj_any _ _).mono ?_; rintro en w3 ⟨rfl, rfl⟩; rw [HO.out])
            | (go_at_call 113; refine CM.out.mono ?_; rintro en w3 ⟨rfl, hb3⟩; rw [HM.out]; obtain ⟨_, _, l3, _, _⟩ := FX.out _ hb3; have HB30 := Lib.hid hb3; have HB3 := Lib.hid (HB0.out.trans (hb3.mono HB0.out.size)); clear hb3)
            | (go_at_call 114; refine (rjoins_any r.e.M.t r.e.M.wk r.e.M.mo r.e.M.le r.e.M.ha r.e.M.fr r.e.M.wh r.e.M.er r.kA r.kn r.kc r.e.M.ten r.e.M.kp w3).mono ?_; rintro en w4 ⟨rfl, hb4⟩; rw [HJ.out]; obtain ⟨_, _, _, p13, p15⟩ := FX.out _ (HB30.out.trans (hb4.mono HB30.out.size)); have HB4 := Lib.hid (HB3.out.trans (hb4.mono HB3.out.size)); clear hb4)
            | ((fail_if_success (have hZ := HDONE)); go_at_call 115; refine (rnumber_any r.e.said w4).mono ?_; rintro en w5 ⟨rfl, rfl⟩; rw [HS.out]; have HDONE : Hid True := trivial)
            | (go_at_call 115; refine (rnumber_any r.e.gen w4).mono ?_; rintro en w5 ⟨rfl, rfl⟩)
          go_ret
          exact ⟨ret_bool HN.out.symm, HB4.out⟩

theorem rnewer_any (r s : RM) (w : World) :
    Calls Tryz.prog 52 #[.agg r.row, .agg s.row] w fun e w' => e = .returned (.bool (newerR r.e s.e)) ∧ Below w.heap.size w w' := by
  have hb0 : Below w.heap.size w ((w.alloc (.cells r.row 54)).alloc (.cells s.row 54)) := ((Below.refl _ _).alloc (Nat.le_refl _) _).alloc (by simp) _
  have k0 : Blk ((w.alloc (.cells r.row 54)).alloc (.cells s.row 54)) w.heap.size 54 r.row := (Blk.new w 54 _).alloc _
  have k1 : Blk ((w.alloc (.cells r.row 54)).alloc (.cells s.row 54)) (w.heap.size + 1) 54 s.row := new2 w _ 54 _
  have HB0 := Lib.hid hb0
  have K0 := Lib.hid k0
  have K1 := Lib.hid k1
  have HN : Hid (newerR r.e s.e = newerN r.e.gen r.e.said r.e.id s.e.gen s.e.said s.e.id) := rfl
  clear hb0 k0 k1
  go_enter Tryz.func52, Tryz.ntmps52
  go_upto_region 1 with fail
  generalize (w.alloc (.cells r.row 54)).alloc (.cells s.row 54) = w1 at *
  have a15 : w1.cell? ⟨w.heap.size, 15, none⟩ = some (.int .i64 r.e.gen) := (K0.out.cell 15).trans rfl
  have a13 : w1.cell? ⟨w.heap.size, 13, none⟩ = some (.int .i64 r.e.said) := (K0.out.cell 13).trans rfl
  have a0 : w1.cell? ⟨w.heap.size, 0, none⟩ = some (.int .i64 r.e.id) := (K0.out.cell 0).trans rfl
  have b15 : w1.cell? ⟨w.heap.size + 1, 15, none⟩ = some (.int .i64 s.e.gen) := (K1.out.cell 15).trans rfl
  have b13 : w1.cell? ⟨w.heap.size + 1, 13, none⟩ = some (.int .i64 s.e.said) := (K1.out.cell 13).trans rfl
  have b0 : w1.cell? ⟨w.heap.size + 1, 0, none⟩ = some (.int .i64 s.e.id) := (K1.out.cell 0).trans rfl
  generalize r.e.gen = g1 at *
  generalize r.e.said = s1 at *
  generalize r.e.id = i1 at *
  generalize s.e.gen = g2 at *
  generalize s.e.said = s2 at *
  generalize s.e.id = i2 at *
  by_cases hg : g1 = g2
  · subst hg
    by_cases hs : s1 = s2
    · subst hs
      go_wp2_with fail
      go_ret
      exact ⟨ret_bool (by rw [HN.out]; unfold newerN; simp), HB0.out⟩
    · have hs1 : (s1 != s2) = true := by simpa using hs
      go_wp2_with fail
      go_ret
      exact ⟨ret_bool (by rw [HN.out]; unfold newerN; simp [hs]), HB0.out⟩
  · have hg1 : (g1 != g2) = true := by simpa using hg
    go_wp2_with fail
    go_ret
    exact ⟨ret_bool (by rw [HN.out]; unfold newerN; simp [hg]), HB0.out⟩

/-! ### rows put in their place -/
def RM.norm (r : RM) : RM := { e := r.e.norm, kA := r.kA, kn := r.kn, kc := r.kc, hA := none, hn := 0, hc := 0 }
theorem RM.norm_e (r : RM) : r.norm.e = r.e.norm := rfl
def insM (r : RM) : List RM → List RM
  | [] => [r]
  | a :: L => if r.e.id < a.e.id then r :: a :: L else a :: insM r L
theorem insM_e (r : RM) : ∀ L : List RM, (insM r L).map RM.e = insE r.e (L.map RM.e)
  | [] => rfl
  | a :: L => by
    unfold insM insE
    rw [List.map_cons]
    simp only
    split
    · rfl
    · rw [List.map_cons, insM_e r L]
theorem insM_mem {r a : RM} : ∀ {L : List RM}, a ∈ insM r L → a = r ∨ a ∈ L
  | [], h => by simpa [insM] using h
  | b :: L, h => by
    unfold insM at h
    split at h
    · simpa using h
    · rw [List.mem_cons] at h
      rcases h with h | h
      · exact .inr (by simp [h])
      · rcases insM_mem h with h | h
        · exact .inl h
        · exact .inr (by simp [h])
theorem insM_len (r : RM) : ∀ L : List RM, (insM r L).length = L.length + 1
  | [] => rfl
  | b :: L => by
    unfold insM
    split
    · rfl
    · rw [List.length_cons, insM_len r L]; rfl
theorem insM_snoc_hit {r a : RM} : ∀ {L : List RM}, (∃ b ∈ L, r.e.id < b.e.id) → insM r (L ++ [a]) = insM r L ++ [a]
  | [], h => by obtain ⟨b, hb, _⟩ := h; cases hb
  | c :: L, h => by
    show insM r (c :: (L ++ [a])) = _
    unfold insM
    by_cases hc : r.e.id < c.e.id
    · rw [if_pos hc, if_pos hc]; rfl
    · rw [if_neg hc, if_neg hc, insM_snoc_hit (L := L) (by
        obtain ⟨b, hb, hlt⟩ := h
        rw [List.mem_cons] at hb
        rcases hb with rfl | hb
        · exact absurd hlt hc
        · exact ⟨b, hb, hlt⟩)]
      rfl
theorem insM_none {r : RM} : ∀ {L : List RM}, (∀ b ∈ L, ¬ r.e.id < b.e.id) → insM r L = L ++ [r]
  | [], _ => rfl
  | c :: L, h => by
    unfold insM
    rw [if_neg (h c (by simp)), insM_none (fun b hb => h b (by simp [hb]))]
    rfl
theorem insM_first {r a : RM} {L : List RM} (h : ∀ b ∈ L, ¬ r.e.id < b.e.id) (ha : r.e.id < a.e.id) : insM r (L ++ [a]) = L ++ [r, a] := by
  induction L with
  | nil => show insM r [a] = _; unfold insM; rw [if_pos ha]; rfl
  | cons c L ih =>
    show insM r (c :: (L ++ [a])) = _
    unfold insM
    rw [if_neg (h c (by simp)), ih (fun b hb => h b (by simp [hb]))]
    rfl
def sortM (rs : List RM) : List RM := rs.foldl (fun L r => insM r.norm L) []
theorem sortM_snoc (rs : List RM) (r : RM) : sortM (rs ++ [r]) = insM r.norm (sortM rs) := by unfold sortM; rw [List.foldl_append]; rfl
theorem sortM_e (rs : List RM) : (sortM rs).map RM.e = sortR (rs.map RM.e) := by
  refine list_snoc (P := fun rs => (sortM rs).map RM.e = sortR (rs.map RM.e)) rfl (fun l r ih => ?_) rs
  rw [sortM_snoc, insM_e, ih, List.map_append]
  exact (sortR_snoc _ _).symm
theorem sortM_len (rs : List RM) : (sortM rs).length = rs.length := by
  refine list_snoc (P := fun rs => (sortM rs).length = rs.length) rfl (fun l r ih => ?_) rs
  rw [sortM_snoc, insM_len, ih]
  simp
theorem sortM_mem (rs : List RM) : ∀ a ∈ sortM rs, ∃ r ∈ rs, a = r.norm := by
  refine list_snoc (P := fun rs => ∀ a ∈ sortM rs, ∃ r ∈ rs, a = r.norm) (fun a h => by cases h) (fun l r ih a ha => ?_) rs
  rw [sortM_snoc] at ha
  rcases insM_mem ha with h | h
  · exact ⟨r, by simp, h⟩
  · obtain ⟨b, hb, h⟩ := ih a h
    exact ⟨b, by simp [hb], h⟩
end Go.Proofs.YtoaiamgcegnjjaaGreatDoor
