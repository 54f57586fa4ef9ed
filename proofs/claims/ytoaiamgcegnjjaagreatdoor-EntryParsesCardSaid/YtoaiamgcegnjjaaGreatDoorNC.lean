/- entry.Text: an entry's note. No condition but the bounds that it names. -/
import Derived.Test.YtoaiamgcegnjjaaGreatDoorMD
import Derived.Test.YtoaiamgcegnjjaaGreatDoorNA
import Derived.Test.YtoaiamgcegnjjaaGreatDoorSB
import Derived.Deep.RegionLaw
import Derived.Deep.RegionHeld3
import Derived.Deep.CutBlock
import Derived.Deep.MidRow
import Derived.Deep.WholeRow
import Derived.Laws.OwnMore
import Derived.Lib.AppendIntMem
namespace Go.Proofs.YtoaiamgcegnjjaaGreatDoor
open Go.RowKit Go.Maps Go.WideMaps
set_option maxRecDepth 100000

/-- the table of powers of ten reads as its text lays it -/
def Tb (w : World) : Prop := Lib.TabIs Tryz.prog w "internal/strconv.uint64pow10" .u64 Lib.pow10Tab
theorem Tb.below {w w' : World} (h : Tb w) (hb : Below w.heap.size w w') : Tb w' := Lib.tabBelow_of_tabIs h w' hb
theorem fmt_any (n : Int) (h0 : -9223372036854775808 ≤ n) (h1 : n ≤ 9223372036854775807) (w : World) (ht : Tb w) :
    Calls Tryz.prog 96 #[.int .i64 n, .int .i64 10] w fun e w' => e = .returned (.string (itoaB n)) ∧ Below w.heap.size w w' :=
  (Tryz.strconv_FormatInt_10 n h0 h1 w ht).mono fun _ _ ⟨he, k, os, hw⟩ => ⟨he, hw ▸ Lib.below_grow _ _ (Nat.le_refl _) k os⟩

theorem ret_str {a b : ByteArray} (h : a = b) : Ending.returned (.string a) = .returned (.string b) := by rw [h]
theorem ba_append (a b : ByteArray) : (a ++ b).data.toList = a.data.toList ++ b.data.toList := by simp

theorem tagText_any (t : ByteArray) (wk : Bool) (w : World) :
    Calls Tryz.prog 97 #[.agg #[.string t, .bool wk]] w fun e w' => e = .returned (.string (tagText t wk)) ∧ Below w.heap.size w w' := by
  have hb0 : Below w.heap.size w (w.alloc (.cells #[.string t, .bool wk] 36)) := (Below.refl _ _).alloc (Nat.le_refl _) _
  have hk0 : Blk (w.alloc (.cells #[.string t, .bool wk] 36)) w.heap.size 36 #[.string t, .bool wk] := Blk.new _ _ _
  have hq : ∀ a : ByteArray, (⟨#[34]⟩ ++ a ++ ⟨#[34]⟩ : ByteArray) = quoted a := fun a => ba_ext (by simp [quoted])
  have HQ := Lib.hid hq
  have HB := Lib.hid hb0
  have HK := Lib.hid hk0
  clear hb0 hk0 hq
  go_enter Tryz.func97, Tryz.ntmps97
  go_upto_region 1 with fail
  generalize w.alloc (.cells #[.string t, .bool wk] 36) = w1 at *
  have c0 : w1.cell? ⟨w.heap.size, 0, none⟩ = some (.string t) := (HK.out.cell 0).trans rfl
  have c1 : w1.cell? ⟨w.heap.size, 1, none⟩ = some (.bool wk) := (HK.out.cell 1).trans rfl
  go_wp2_with fail
  refine (tagRight_any t wk w1).mono ?_
  rintro e w2 ⟨rfl, hb2⟩
  have k2 := HK.out.below hb2 HK.out.lt
  have d0 : w2.cell? ⟨w.heap.size, 0, none⟩ = some (.string t) := (k2.cell 0).trans rfl
  have d1 : w2.cell? ⟨w.heap.size, 1, none⟩ = some (.bool wk) := (k2.cell 1).trans rfl
  have HB2 := Lib.hid (HB.out.trans (hb2.mono HB.out.size))
  clear hb2 k2 c0 c1
  by_cases h : tagOK t = true
  · have HT := Lib.hid h
    have hz : t.size ≤ 100 := by unfold tagOK at h; simp only [Bool.and_eq_true, decide_eq_true_eq] at h; omega
    rw [h]
    clear h
    cases wk with
    | false =>
      go_wp2_with fail
      go_ret
      exact ⟨ret_str (by unfold tagText; rw [if_pos HT.out]; exact HQ.out t), HB2.out⟩
    | true =>
      go_wp2_with fail
      go_ret
      exact ⟨ret_str (by unfold tagText; rw [if_pos HT.out, HQ.out t]; exact ba_ext (by simp)), HB2.out⟩
  · have h : tagOK t = false := by simpa using h
    have HT := Lib.hid h
    rw [h]
    clear h
    go_wp2_with fail
    go_ret
    exact ⟨ret_str (by unfold tagText; rw [if_neg (by rw [HT.out]; simp)]), HB2.out⟩

theorem size39n : (Tryz.prog.info? 39).map (·.size) = some 11 := by kernel_rfl
def ld39n (p : Value) : Sem Value := Instr.loadAt 39 p
theorem ld39n_fold (p : Value) : Instr.loadAt 39 p = ld39n p := rfl
def st39n (p v : Value) : Sem Unit := Instr.storeAt 39 p v
theorem st39n_fold (p v : Value) : Instr.storeAt 39 p v = st39n p v := rfl
attribute [local go_sem ↓] ld39n_fold st39n_fold
abbrev Ent.mc (e : Ent) (A : Option Addr) (n c : Nat) : Array Value := metaC e.t e.wk e.mo e.le e.ha e.fr e.wh e.er A n c e.ten e.kp
abbrev zero39n : Array Value := #[.string ⟨#[]⟩, .bool false, .int .i64 0, .int .i64 0, .int .i64 0, .int .i64 0, .int .i64 0, .int .i64 0, .slice none 0 0, .string ⟨#[]⟩, .bool false]
theorem run_ld39n_ent {w : World} {g : Nat} {e : Ent} {A : Option Addr} {n c : Nat} {tu : Bool} (h : Blk w g 57 (entC e A n c tu)) : (ld39n (.pointer (some ⟨g, 2, none⟩))).run Tryz.prog w = .ok (.agg (e.mc A n c)) w := by
  refine run_loadAt_mid w g 2 39 (e.mc A n c).toList _ (fun j v hj => ?_) Tryz.underlying39 rfl size39n
  have : ∀ k, w.cell? ⟨g, k, none⟩ = (entC e A n c tu)[k]? := h.cell
  rw [this]
  match j, hj with
  | 0, hj | 1, hj | 2, hj | 3, hj | 4, hj | 5, hj | 6, hj | 7, hj | 8, hj | 9, hj | 10, hj => exact hj
theorem run_ld39n_met {w : World} {g : Nat} {cs : Array Value} (h : Blk w g 39 cs) (hs : cs.size = 11) : (ld39n (.pointer (some ⟨g, 0, none⟩))).run Tryz.prog w = .ok (.agg cs) w := by
  have := run_loadAt_mid w g 0 39 cs.toList _ (fun j v hj => by rw [Nat.zero_add, h.cell]; simpa using hj) Tryz.underlying39 rfl (by rw [Array.length_toList, hs]; exact size39n)
  unfold ld39n
  simpa using this
theorem run_st39n (w : World) (cs : Array Value) (h1 : cs.size = 11) (h2 : cs.all (·.oneCell') = true) : (st39n (.pointer (some ⟨w.heap.size, 0, none⟩)) (.agg cs)).run Tryz.prog (w.alloc (.cells zero39n 39)) = .ok () (w.alloc (.cells cs 39)) := by
  have := run_storeVar_row (P := Tryz.prog) (w.alloc (.cells zero39n 39)) w.heap.size 39 39 zero39n cs (Blk.new w 39 zero39n) (by rw [h1]; exact size39n) (by rw [h1]; rfl) h2
  rw [World.setRow_alloc_new] at this
  simp only [st39n, Instr.storeAt, Instr.sureAddr, Sem.run_bind, Sem.run_pure, Result.andThen_ok, this]

def noteT (e : Ent) : ByteArray := if noteOK e then noteB e else ⟨#[]⟩
def noteE (e : Ent) : Int := if noteOK e then 0 else 1
def textV (e : Ent) : Value := .tuple #[.string (noteT e), .int .i64 (noteE e)]
theorem textV_no {e : Ent} (h : noteOK e = false) : textV e = .tuple #[.string ⟨#[]⟩, .int .i64 1] := by unfold textV noteT noteE; rw [if_neg (by rw [h]; simp), if_neg (by rw [h]; simp)]
theorem textV_ok {e : Ent} (h : noteOK e = true) : textV e = .tuple #[.string (noteB e), .int .i64 0] := by unfold textV noteT noteE; rw [if_pos h, if_pos h]

/-- Text's boxes -/
structure TxW (w wx : World) (g1 : Nat) (e : Ent) (A : Option Addr) (n c : Nat) (tu : Bool) : Prop where
  below : Below w.heap.size w wx
  ent : Blk wx w.heap.size 57 (entC e A n c tu)
  met : Blk wx g1 39 (e.mc A n c)
theorem TxW.to {w wx wy : World} {g1 : Nat} {e : Ent} {A : Option Addr} {n c : Nat} {tu : Bool} (h : TxW w wx g1 e A n c tu) (hb : Below wx.heap.size wx wy) : TxW w wy g1 e A n c tu :=
  ⟨h.below.trans (hb.mono h.below.size), h.ent.below hb h.ent.lt, h.met.below hb h.met.lt⟩
theorem TxW.grown {w wx wy : World} {g1 : Nat} {e : Ent} {A : Option Addr} {n c : Nat} {tu : Bool} {v : Value} {xs : List Value} {m : Nat} (h : TxW w wx g1 e A n c tu) (ho : wx.ownsRow w.heap.size 9 1 v m xs) (hg : wx.grownBy wy v.ownBlock) : TxW w wy g1 e A n c tu :=
  ⟨h.below.trans (grown_below hg h.below.size (fun k hk => (ho.lt k hk).1)), h.ent.grown hg (own_ne ho h.ent (by decide)), h.met.grown hg (own_ne ho h.met (by decide))⟩

/-- the numbers of a note, from the third word on -/
def numsN (e : Ent) : List Int := [e.said, e.gen, e.mo, e.le, e.ha, e.fr, e.wh, e.er]
theorem note_num {e : Ent} (k : Nat) (hk : k < 8) : ∃ v, (numsN e)[k]? = some v ∧ (noteWords e).take (2 + (k + 1)) = (noteWords e).take (2 + k) ++ [itoaB v] := by
  match k, hk with
  | 0, _ | 1, _ | 2, _ | 3, _ | 4, _ | 5, _ | 6, _ | 7, _ => exact ⟨_, rfl, rfl⟩
theorem nums_bd {e : Ent} (h : noteOK e = true) {k : Nat} {v : Int} (hv : (numsN e)[k]? = some v) : -9223372036854775808 ≤ v ∧ v ≤ 9223372036854775807 := by
  have n := noteIs h
  have hm := List.mem_of_getElem? hv
  unfold numsN at hm
  have n1 := n.said; have n2 := n.gen; have n3 := n.mo; have n4 := n.le; have n5 := n.ha; have n6 := n.fr; have n7 := n.wh; have n8 := n.er
  simp only [List.mem_cons, List.not_mem_nil, or_false] at hm
  rcases hm with rfl | rfl | rfl | rfl | rfl | rfl | rfl | rfl <;> omega

theorem lens_le {M : Nat} : ∀ (l : List (List UInt8)), (∀ x ∈ l, x.length ≤ M) → Lib.lens l ≤ M * l.length
  | [], _ => by simp [Lib.lens]
  | a :: l, h => by
    have ih := lens_le l (fun x hx => h x (by simp [hx]))
    have ha := h a (by simp)
    have : Lib.lens (a :: l) = a.length + Lib.lens l := by simp [Lib.lens]
    rw [this, List.length_cons, Nat.mul_add]
    omega
theorem note_len {e : Ent} (h : noteOK e = true) : (Lib.join ((noteWords e).map (·.data.toList)) [32]).length ≤ 140737488355328 ∧ (noteWords e).length ≤ 45 := by
  have n := noteIs h
  have hl : (noteWords e).length = 13 + e.ks.length := by simp [noteWords]; omega
  have hsz : ∀ s ∈ noteWords e, s.data.toList.length ≤ 1000 := fun s hs => by
    have osz : ∀ x : ByteArray, x.data.toList.length = x.size := fun x => by simp
    have it : ∀ v : Int, -9223372036854775808 ≤ v → v ≤ 9223372036854775807 → (itoaB v).data.toList.length ≤ 1000 := fun v a b => by
      have := Lib.itoa_length_le v a b
      simp only [itoaB]
      omega
    have n0 := n.id; have n1 := n.said; have n2 := n.gen; have n3 := n.mo; have n4 := n.le; have n5 := n.ha; have n6 := n.fr; have n7 := n.wh; have n8 := n.er
    unfold noteWords at hs
    rw [List.mem_append] at hs
    rcases hs with hs | hs
    · simp only [List.mem_cons, List.not_mem_nil, or_false] at hs
      rcases hs with rfl | rfl | rfl | rfl | rfl | rfl | rfl | rfl | rfl | rfl | rfl | rfl | rfl
      · exact it _ (by omega) (by omega)
      · have := n.obj
        unfold objOK at this
        simp only [Bool.and_eq_true, decide_eq_true_eq] at this
        rw [osz]; omega
      · exact it _ (by omega) (by omega)
      · exact it _ (by omega) (by omega)
      · exact it _ (by omega) (by omega)
      · exact it _ (by omega) (by omega)
      · exact it _ (by omega) (by omega)
      · exact it _ (by omega) (by omega)
      · exact it _ (by omega) (by omega)
      · exact it _ (by omega) (by omega)
      · cases e.kp <;> decide
      · have := n.ten
        unfold tenOK at this
        simp only [Bool.and_eq_true, decide_eq_true_eq] at this
        have h2 := osz e.ten
        simp only [eqB, List.length_cons]; omega
      · rw [n.strong, tagText_ok n.tag]
        have := n.tag
        unfold tagOK at this
        simp only [Bool.and_eq_true, decide_eq_true_eq] at this
        have h2 := osz e.t
        simp only [quoted, List.length_cons, List.length_append, List.length_nil]; omega
    · obtain ⟨k, hk, rfl⟩ := List.mem_iff_getElem.1 hs
      have := keysUp_at _ n.keys k hk hk
      unfold keyOK at this
      simp only [Bool.and_eq_true, decide_eq_true_eq] at this
      rw [osz]; omega
  have hk := n.few
  refine ⟨?_, by omega⟩
  have hc : (noteWords e).map (·.data.toList) = (itoaB e.id).data.toList :: ((noteWords e).tail).map (·.data.toList) := by simp [noteWords]
  have hlens := lens_le (M := 1000) ((noteWords e).map (·.data.toList)) (fun x hx => by
    obtain ⟨s, hs, rfl⟩ := List.mem_map.1 hx
    exact hsz s hs)
  rw [List.length_map] at hlens
  rw [hc] at hlens ⊢
  rw [Lib.join_length]
  simp only [List.length_map, List.length_tail, List.length_cons, List.length_nil]
  omega

theorem join_any {A : Option Addr} {n c base : Nat} {ks : List ByteArray} (sep : ByteArray) {w : World} (h : w.ownsRow base 9 1 (.slice A n c) n (ks.map Value.string)) (hn : 0 < n) (hN : n ≤ 1000000) (hlen : (Lib.join (ks.map (·.data.toList)) sep.data.toList).length ≤ 140737488355328) :
    Calls Tryz.prog 98 #[.slice A n c, .string sep] w fun e w' => e = .returned (.string ⟨(Lib.join (ks.map (·.data.toList)) sep.data.toList).toArray⟩) ∧ Below w.heap.size w w' := by
  have hl : ks.length = n := by have := h.1; simpa using this
  obtain ⟨A', c', hv, hc⟩ := own_form h
  injection hv with e1 _ e2
  subst e1 e2
  obtain ⟨b, o, rfl, hb, hcell⟩ := (own_rd h).2 hn
  have := Tryz.strings_Join b o c ks sep w (fun j x hj => by
    obtain ⟨hj', rfl⟩ := List.getElem?_eq_some_iff.1 hj
    have := hcell j (by simpa using hj')
    rw [this]; simp) hb (by omega) (by omega) hlen
  rw [hl] at this
  have h0 : o = 0 := by
    rcases h.2 with ⟨hv, rfl⟩ | ⟨g, cap, cur, hv, _⟩
    · omega
    · injection hv with hA
      injection hA with hA
      injection hA
  exact this
end Go.Proofs.YtoaiamgcegnjjaaGreatDoor
