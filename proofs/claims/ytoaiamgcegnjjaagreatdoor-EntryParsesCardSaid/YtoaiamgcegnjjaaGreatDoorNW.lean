/- entry.Parse: what a text is read as is an entry of just that note, or none where there is none. No condition but the bounds that they name. -/
import Derived.Test.YtoaiamgcegnjjaaGreatDoorNN
import Derived.Test.YtoaiamgcegnjjaaGreatDoorND
import Derived.Test.YtoaiamgcegnjjaaGreatDoorS
import Derived.BigRegion
import Derived.Lib.AtoiErrMem
namespace Go.Proofs.YtoaiamgcegnjjaaGreatDoor
open Go.RowKit Go.Maps Go.WideMaps
set_option maxRecDepth 100000

/-! ### the numbers of a note, one behind the other -/
def entOf (vs : List Int) (obj t : ByteArray) (wk : Bool) (ks : List ByteArray) (ten : ByteArray) (kp : Bool) : Ent :=
  { id := vs.getD 0 0, obj := obj, t := t, wk := wk, mo := vs.getD 4 0, le := vs.getD 5 0, ha := vs.getD 6 0, fr := vs.getD 7 0, wh := vs.getD 8 0, er := vs.getD 9 0, ks := ks, ten := ten, kp := kp, said := vs.getD 2 0, mom := 0, gen := vs.getD 3 0, has := [] }
def numsOf (e : Ent) : List Int := [e.id, 0, e.said, e.gen, e.mo, e.le, e.ha, e.fr, e.wh, e.er]
theorem numsOf_len (e : Ent) : (numsOf e).length = 10 := rfl
theorem entOf_nums (e : Ent) : entOf (numsOf e) e.obj e.t e.wk e.ks e.ten e.kp = e.bare := rfl
theorem noteWords_len (e : Ent) : (noteWords e).length = 13 + e.ks.length := by simp [noteWords]; omega
theorem numsOf_word {e : Ent} (h : noteOK e = true) (k : Nat) (hk : k < 10) (h1 : k ≠ 1) : (noteWords e)[k]? = some (itoaB ((numsOf e)[k]'(by rw [numsOf_len]; exact hk))) ∧ -1 ≤ (numsOf e)[k]'(by rw [numsOf_len]; exact hk) ∧ (numsOf e)[k]'(by rw [numsOf_len]; exact hk) ≤ 1099511627776 := by
  have n := noteIs h
  match k, hk, h1 with
  | 0, _, _ => exact ⟨rfl, by have := n.id; show -1 ≤ e.id; omega, n.id.2⟩
  | 2, _, _ => exact ⟨rfl, by have := n.said; show -1 ≤ e.said; omega, n.said.2⟩
  | 3, _, _ => exact ⟨rfl, by have := n.gen; show -1 ≤ e.gen; omega, n.gen.2⟩
  | 4, _, _ => exact ⟨rfl, n.mo.1, by have := n.mo; show e.mo ≤ 1099511627776; omega⟩
  | 5, _, _ => exact ⟨rfl, n.le⟩
  | 6, _, _ => exact ⟨rfl, by have := n.ha; show -1 ≤ e.ha; omega, n.ha.2⟩
  | 7, _, _ => exact ⟨rfl, by have := n.fr; show -1 ≤ e.fr; omega, n.fr.2⟩
  | 8, _, _ => exact ⟨rfl, by have := n.wh; show -1 ≤ e.wh; omega, n.wh.2⟩
  | 9, _, _ => exact ⟨rfl, by have := n.er; show -1 ≤ e.er; omega, n.er.2⟩
/-- the numbers that were read so far -/
def NumsAre (s : ByteArray) (k : Nat) (vs : List Int) : Prop := vs.length = k ∧ ∀ e, noteOK e = true → s = noteB e → vs = (numsOf e).take k
theorem NumsAre.zero (s : ByteArray) : NumsAre s 0 [] := ⟨rfl, fun _ _ _ => rfl⟩
theorem NumsAre.next {s : ByteArray} {k : Nat} {vs : List Int} (h : NumsAre s k vs) (hk : k < 10) {v : Int} (hv : ∀ e, noteOK e = true → s = noteB e → v = (numsOf e)[k]'(by rw [numsOf_len]; exact hk)) : NumsAre s (k + 1) (vs ++ [v]) := by
  refine ⟨by rw [List.length_append, h.1]; rfl, fun e h1 h2 => ?_⟩
  rw [List.take_succ_eq_append_getElem (by rw [numsOf_len]; exact hk), ← h.2 e h1 h2, ← hv e h1 h2]
theorem NumsAre.full {s : ByteArray} {vs : List Int} (h : NumsAre s 10 vs) : ∀ e, noteOK e = true → s = noteB e → vs = numsOf e := fun e h1 h2 => by
  rw [h.2 e h1 h2]; rfl
theorem noteOK_bare (e : Ent) : noteOK e.bare = noteOK e := rfl
theorem noteB_bare (e : Ent) : noteB e.bare = noteB e := rfl
theorem ParseIs.no {s : ByteArray} (h : ∀ e, noteOK e = true → s = noteB e → False) : ParseIs s none := ⟨fun _ he => (by cases he), fun _ e h1 (h2 : noteB e = s) => h e h1 h2.symm⟩
theorem ParseIs.yes {s : ByteArray} {x : Ent} (h1 : noteOK x = true) (h2 : noteB x = s) (h3 : x.bare = x) : ParseIs s (some x) := ⟨fun e he => by injection he with he; subst he; exact ⟨h1, h2, h3⟩, fun h => by cases h⟩
theorem ParseIs.diff {s : ByteArray} {x : Ent} (h : ∀ e, noteOK e = true → s = noteB e → x = e.bare) (hx : noteOK x = false ∨ noteB x ≠ s) : ParseIs s none := .no fun e h1 h2 => by
  have := h e h1 h2
  subst this
  rcases hx with hx | hx
  · rw [noteOK_bare, h1] at hx; cases hx
  · exact hx (by rw [noteB_bare]; exact h2.symm)

/-! ### the parts of a note, read back -/
def kpB (x : ByteArray) : Bool := decide (x = ⟨#[107, 101, 101, 112]⟩)
theorem kpB_keep (b : Bool) : kpB (keepB b) = b := by cases b <;> rfl
def tenOf (x : ByteArray) : ByteArray := ⟨(Lib.trimPrefix x.data.toList [61]).toArray⟩
theorem tenOf_eq (t : ByteArray) : tenOf (eqB t) = t := by
  refine ba_ext ?_
  unfold tenOf eqB
  rw [ba_mk, ba_mk]
  unfold Lib.trimPrefix Lib.hasPrefix
  simp
theorem tenOf_size (x : ByteArray) : (tenOf x).size ≤ x.size := by
  unfold tenOf Lib.trimPrefix
  rw [← itoaB_len, ← itoaB_len, ba_mk]
  split
  · rw [List.length_drop]; omega
  · exact Nat.le_refl _
theorem parse_word {e : Ent} {k : Nat} {x : ByteArray} (hn : noteOK e = true) (hk : k < 10) (h1 : k ≠ 1) (hx : (noteWords e)[k]? = some x) : Lib.parseIntB 64 x.data.toList = .ok ((numsOf e)[k]'(by rw [numsOf_len]; exact hk)) := by
  obtain ⟨h2, h3, h4⟩ := numsOf_word hn k hk h1
  rw [h2] at hx
  injection hx with hx
  rw [← hx]
  have := parse_itoa (n := (numsOf e)[k]'(by rw [numsOf_len]; exact hk)) (by omega) (by omega)
  simpa [itoaB] using this

/-! ### what is laid in the variables -/
/-- the variables that the library reads -/
structure Gv (w : World) : Prop where
  tb : Tb w
  mx : ∃ m : Int, w.cell? ⟨3, 0, none⟩ = some (.int .i64 m)
  es : ∃ ev, w.cell? ⟨1, 0, none⟩ = some ev ∧ (ev = .nilIface ∨ ∃ te pe, ev = .iface te pe)
  er : ∃ ev, w.cell? ⟨2, 0, none⟩ = some ev ∧ (ev = .nilIface ∨ ∃ te pe, ev = .iface te pe)
theorem Gv.below {w w' : World} (h : Gv w) (hb : Below w.heap.size w w') : Gv w' := by
  obtain ⟨m, hm⟩ := h.mx
  obtain ⟨e1, h1, h1'⟩ := h.es
  obtain ⟨e2, h2, h2'⟩ := h.er
  exact ⟨h.tb.below hb, ⟨m, (hb.cell (cell_lt hm)).trans hm⟩, ⟨e1, (hb.cell (cell_lt h1)).trans h1, h1'⟩, ⟨e2, (hb.cell (cell_lt h2)).trans h2, h2'⟩⟩

theorem splitB_sz (sep : ByteArray) (save : Nat) : ∀ (k : Nat) (s x : ByteArray), save = 0 → x ∈ Lib.splitB sep save k s → x.size ≤ s.size
  | 0, s, x, _, h => by
    rw [Lib.splitB_zero, List.mem_singleton] at h
    subst h
    exact Nat.le_refl _
  | k + 1, s, x, h0, h => by
    unfold Lib.splitB at h
    split at h
    · rw [List.mem_singleton] at h
      subst h
      exact Nat.le_refl _
    · rw [List.mem_cons] at h
      rcases h with rfl | h
      · rw [ByteArray.size_extract]; omega
      · have := splitB_sz sep save k _ x h0 h
        rw [ByteArray.size_extract] at this
        omega
theorem wordsP_sz (s : ByteArray) : ∀ x ∈ wordsP s, x.size ≤ s.size := fun x h => splitB_sz _ 0 _ s x rfl h
theorem wordsP_len (s : ByteArray) : (wordsP s).length = Lib.countB s ⟨#[32]⟩ + 1 := Lib.splitB_all ⟨#[32]⟩ (by decide) 0 _ s rfl
theorem wordsP_few (s : ByteArray) : (wordsP s).length ≤ s.size + 1 := by
  rw [wordsP_len]
  have := Lib.countB_le ⟨#[32]⟩ (by decide) s.size s (Nat.le_refl _)
  omega
theorem split_any (s : ByteArray) (w : World) (hs : s.size ≤ 1000000) (hv : Gv w) :
    Calls Tryz.prog 101 #[.string s, .string ⟨#[32]⟩] w fun e w' => e = .returned (.slice (some ⟨w.heap.size, 0, none⟩) (wordsP s).length (wordsP s).length) ∧ w' = w.alloc (.cells ((wordsP s).map Value.string).toArray 9) := by
  obtain ⟨m, hm⟩ := hv.mx
  refine (Tryz.strings_Split s ⟨#[32]⟩ m w (by omega) hm (by decide)).mono ?_
  rintro e w' ⟨rfl, rfl⟩
  rw [wordsP_len]
  exact ⟨rfl, rfl⟩
theorem parseInt_ok (x : ByteArray) (w : World) (hs : x.size ≤ 1000000) {v : Int} (h : Lib.parseIntB 64 x.data.toList = .ok v) :
    Calls Tryz.prog 102 #[.string x, .int .i64 10, .int .i64 64] w fun e w' => e = .returned (.tuple #[.int .i64 v, .nilIface]) ∧ Below w.heap.size w w' := by
  refine (Tryz.strconv_ParseInt_10_at64_ok x (by omega) v h w).mono ?_
  rintro e w' ⟨rfl, rfl | ⟨t, rfl⟩⟩
  · exact ⟨rfl, Below.refl _ _⟩
  · exact ⟨rfl, Lib.bytesWorld_below _ _ _⟩
theorem parseInt_no (x : ByteArray) (w : World) (hs : x.size ≤ 1000000) (hv : Gv w) (h : ∀ v, Lib.parseIntB 64 x.data.toList ≠ .ok v) :
    Calls Tryz.prog 102 #[.string x, .int .i64 10, .int .i64 64] w fun e w' => ∃ (v : Int) (te : TypeId) (pe : Value), e = .returned (.tuple #[.int .i64 v, .iface te pe]) ∧ Below w.heap.size w w' := by
  obtain ⟨e1, h1, h1'⟩ := hv.es
  obtain ⟨e2, h2, h2'⟩ := hv.er
  cases hp : Lib.parseIntB 64 x.data.toList with
  | ok v => exact absurd hp (h v)
  | _ =>
    first
      | (refine (Any.strconv_ParseInt_10_at64_syntax Tryz.laysC174 x (by omega) hp e1 w h1 h1').mono ?_; rintro e w' ⟨N, rfl, _, _, hb⟩; exact ⟨_, _, _, rfl, hb⟩)
      | (refine (Any.strconv_ParseInt_10_at64_range Tryz.laysC174 x (by omega) hp e2 w h2 h2').mono ?_; rintro e w' ⟨N, rfl, _, _, hb⟩; exact ⟨_, _, _, rfl, hb⟩)

/-! ### structs of type 57 -/
abbrev zero57p : Array Value := #[.int .i64 0, .string ⟨#[]⟩, .string ⟨#[]⟩, .bool false, .int .i64 0, .int .i64 0, .int .i64 0, .int .i64 0, .int .i64 0, .int .i64 0, .slice none 0 0, .string ⟨#[]⟩, .bool false, .int .i64 0, .int .i64 0, .int .i64 0, .bool false]
def ld57p (p : Value) : Sem Value := Instr.loadAt 57 p
theorem ld57p_fold (p : Value) : Instr.loadAt 57 p = ld57p p := rfl
def st57p (p v : Value) : Sem Unit := Instr.storeAt 57 p v
theorem st57p_fold (p v : Value) : Instr.storeAt 57 p v = st57p p v := rfl
theorem run_ld57p {w : World} {g : Nat} {cs : Array Value} (h : Blk w g 57 cs) (hs : cs.size = 17) : (ld57p (.pointer (some ⟨g, 0, none⟩))).run Tryz.prog w = .ok (.agg cs) w := by
  have := run_loadVar_row (P := Tryz.prog) w g 57 57 cs (0, 0) _ h Tryz.underlying57 rfl (by rw [size57, hs])
  simp only [ld57p, Instr.loadAt, Instr.sureAddr, Sem.run_bind, Sem.run_pure, Result.andThen_ok, this]
theorem run_st57p {w : World} {g : Nat} {cs v : Array Value} (hk : Blk w g 57 cs) (hs : cs.size = 17) (hv : v.size = 17) (h1 : v.all (·.oneCell') = true) : (st57p (.pointer (some ⟨g, 0, none⟩)) (.agg v)).run Tryz.prog w = .ok () (w.setRow g v) := by
  have := run_storeVar_row (P := Tryz.prog) w g 57 57 cs v hk (by rw [size57, hv]) (by rw [hs, hv]) h1
  simp only [st57p, Instr.storeAt, Instr.sureAddr, Sem.run_bind, Sem.run_pure, Result.andThen_ok, this]
attribute [local go_sem ↓] ld57p_fold st57p_fold

/-! ### the boxes of a parse -/
def offN : Nat → Nat
  | 2 => 13
  | 3 => 15
  | n => n
/-- the entry, as it is read so far -/
abbrev eP (vs : List Int) (obj : ByteArray) : Array Value := entC (entOf vs obj ⟨#[]⟩ false [] ⟨#[]⟩ false) none 0 0 false
theorem eP_set (obj : ByteArray) (v : Int) : ∀ (k : Nat) (vs : List Int), k < 10 → k ≠ 1 → vs.length = k → (eP vs obj).setIfInBounds (offN k) (.int .i64 v) = eP (vs ++ [v]) obj
  | 0, [], _, _, _ => rfl
  | 2, [_, _], _, _, _ => rfl
  | 3, [_, _, _], _, _, _ => rfl
  | 4, [_, _, _, _], _, _, _ => rfl
  | 5, [_, _, _, _, _], _, _, _ => rfl
  | 6, [_, _, _, _, _, _], _, _, _ => rfl
  | 7, [_, _, _, _, _, _, _], _, _, _ => rfl
  | 8, [_, _, _, _, _, _, _, _], _, _, _ => rfl
  | 9, [_, _, _, _, _, _, _, _, _], _, _, _ => rfl
theorem eP_one (obj : ByteArray) : ∀ (vs : List Int), vs.length = 1 → eP vs obj = eP (vs ++ [0]) obj
  | [_], _ => rfl
theorem eP_at (vs : List Int) (obj : ByteArray) : ∀ k, k < 10 → k ≠ 1 → ∃ u, (eP vs obj)[offN k]? = some u
  | 0, _, _ | 2, _, _ | 3, _, _ | 4, _, _ | 5, _, _ | 6, _, _ | 7, _, _ | 8, _, _ | 9, _, _ => ⟨_, rfl⟩
abbrev ptrsC (g : Nat) : Array Value := #[.pointer (some ⟨g, 0, none⟩), .pointer none, .pointer (some ⟨g, 13, none⟩), .pointer (some ⟨g, 15, none⟩), .pointer (some ⟨g, 4, none⟩), .pointer (some ⟨g, 5, none⟩), .pointer (some ⟨g, 6, none⟩), .pointer (some ⟨g, 7, none⟩), .pointer (some ⟨g, 8, none⟩), .pointer (some ⟨g, 9, none⟩)]
theorem ptrs_at (g : Nat) : ∀ k, k < 10 → k ≠ 1 → (ptrsC g)[k]? = some (.pointer (some ⟨g, offN k, none⟩))
  | 0, _, _ | 2, _, _ | 3, _, _ | 4, _, _ | 5, _, _ | 6, _, _ | 7, _, _ | 8, _, _ | 9, _, _ => rfl
/-- the boxes -/
structure PaW (w wr : World) (gw g gp : Nat) (ws : List ByteArray) (vs : List Int) (obj : ByteArray) : Prop where
  below : Below w.heap.size w wr
  res : Blk wr w.heap.size 57 zero57p
  wds : Blk wr gw 9 (ws.map Value.string).toArray
  ent : Blk wr g 57 (eP vs obj)
  ptr : Blk wr gp 179 (ptrsC g)
  lt : w.heap.size < gw ∧ gw < g
theorem PaW.to {w wr wy : World} {gw g gp : Nat} {ws : List ByteArray} {vs : List Int} {obj : ByteArray} (h : PaW w wr gw g gp ws vs obj) (hb : Below wr.heap.size wr wy) : PaW w wy gw g gp ws vs obj :=
  ⟨h.below.trans (hb.mono h.below.size), h.res.below hb h.res.lt, h.wds.below hb h.wds.lt, h.ent.below hb h.ent.lt, h.ptr.below hb h.ptr.lt, h.lt⟩
theorem PaW.put {w wr : World} {gw g gp : Nat} {ws : List ByteArray} {vs : List Int} {obj : ByteArray} (h : PaW w wr gw g gp ws vs obj) {k : Nat} (hk : k < 10) (h1 : k ≠ 1) (hl : vs.length = k) (v : Int) : PaW w (wr.setCell ⟨g, offN k, none⟩ (.int .i64 v)) gw g gp ws (vs ++ [v]) obj := by
  have hl2 := h.lt
  refine ⟨below_set h.below (by omega) _, h.res.far (by omega) _, h.wds.far (by omega) _, ?_, h.ptr.far (h.ptr.ne h.ent (by decide)) _, h.lt⟩
  have := h.ent.set (offN k) (.int .i64 v)
  rw [eP_set obj v k vs hk h1 hl] at this
  exact this
/-- what a parse comes to -/
def ParseOut (s : ByteArray) (w' : World) (en : Ending) : Prop := (en = .returned (.tuple #[.agg zero57p, .int .i64 2]) ∧ ParseIs s none) ∨ ∃ (x : Ent) (A : Option Addr) (n c : Nat), en = .returned (.tuple #[.agg (entC x A n c false), .int .i64 0]) ∧ ParseIs s (some x) ∧ Strs w' w'.heap.size A n x.ks ∧ n ≤ c
theorem own_lo {w : World} {base e size : Nat} {A : Option Addr} {n c : Nat} {xs : List Value} (h : w.ownsRow base e size (.slice A n c) n xs) : ∀ b o, A = some ⟨b, o, none⟩ → base ≤ b := by
  intro b o hA
  subst hA
  have := h.lt b rfl
  exact this.1
/-- strings that lie in a later block -/
def StrsUp (lo : Nat) (w : World) (A : Option Addr) (n : Nat) (ks : List ByteArray) : Prop := Strs w w.heap.size A n ks ∧ ∀ b o, A = some ⟨b, o, none⟩ → lo ≤ b
theorem StrsUp.row {lo : Nat} {w : World} {A : Option Addr} {n : Nat} {ks : List ByteArray} (h : StrsUp lo w A n ks) {g : Nat} (hg : g < lo) (cs : Array Value) : Strs (w.setRow g cs) (w.setRow g cs).heap.size A n ks := by
  refine ⟨h.1.1, fun hn => ?_⟩
  obtain ⟨b, o, hA, hb, hc⟩ := h.1.2 hn
  have hlo := h.2 b o hA
  have hs : (w.setRow g cs).heap.size = w.heap.size := by simp
  exact ⟨b, o, hA, by rw [hs]; exact hb, fun j hj => (World.cell?_of_block (setRow_other w g b _ (by omega))).trans (hc j hj)⟩
theorem StrsUp.below {lo : Nat} {w w' : World} {A : Option Addr} {n : Nat} {ks : List ByteArray} (h : StrsUp lo w A n ks) (hb : Below w.heap.size w w') : StrsUp lo w' A n ks := ⟨h.1.below hb hb.size, h.2⟩
theorem trimEq_any (x : ByteArray) (w : World) : Calls Tryz.prog 103 #[.string x, .string ⟨#[61]⟩] w fun e w' => e = .returned (.string (tenOf x)) ∧ w = w' := (Tryz.strings_TrimPrefix x ⟨#[61]⟩ w).mono fun _ _ ⟨a, b⟩ => ⟨a, b.symm⟩
structure PbW (w wr : World) (gw g : Nat) (ws : List ByteArray) (row : Array Value) : Prop where
  below : Below w.heap.size w wr
  res : Blk wr w.heap.size 57 zero57p
  wds : Blk wr gw 9 (ws.map Value.string).toArray
  ent : Blk wr g 57 row
  lt : w.heap.size < gw ∧ gw < g
theorem PbW.of {w wr : World} {gw g gp : Nat} {ws : List ByteArray} {vs : List Int} {obj : ByteArray} (h : PaW w wr gw g gp ws vs obj) : PbW w wr gw g ws (eP vs obj) := ⟨h.below, h.res, h.wds, h.ent, h.lt⟩
theorem PbW.to {w wr wy : World} {gw g : Nat} {ws : List ByteArray} {row : Array Value} (h : PbW w wr gw g ws row) (hb : Below wr.heap.size wr wy) : PbW w wy gw g ws row :=
  ⟨h.below.trans (hb.mono h.below.size), h.res.below hb h.res.lt, h.wds.below hb h.wds.lt, h.ent.below hb h.ent.lt, h.lt⟩
theorem PbW.set {w wr : World} {gw g : Nat} {ws : List ByteArray} {row : Array Value} (h : PbW w wr gw g ws row) (i : Nat) (u : Value) : PbW w (wr.setCell ⟨g, i, none⟩ u) gw g ws (row.setIfInBounds i u) := by
  have hl := h.lt
  exact ⟨below_set h.below (by omega) _, h.res.far (by omega) _, h.wds.far (by omega) _, h.ent.set i u, h.lt⟩
abbrev eP0 (x : ByteArray) : Array Value := #[.int .i64 0, .string x, .string ⟨#[]⟩, .bool false, .int .i64 0, .int .i64 0, .int .i64 0, .int .i64 0, .int .i64 0, .int .i64 0, .slice none 0 0, .string ⟨#[]⟩, .bool false, .int .i64 0, .int .i64 0, .int .i64 0, .bool false]
theorem ParseOut.none {s : ByteArray} {w' : World} (h : ParseIs s none) : ParseOut s w' (.returned (.tuple #[.agg zero57p, .int .i64 2])) := .inl ⟨rfl, h⟩

set_option maxHeartbeats 8000000 in
theorem parse_any (s : ByteArray) (w : World) (hs : s.size ≤ 100000) (hv : Gv w) :
    Calls Tryz.prog 40 #[.string s] w fun e w' => ParseOut s w' e ∧ Below w.heap.size w w' := by
  obtain ⟨i0, hi, hz0, hz1, hz2⟩ := info_parts info9
  have hb0 : Below w.heap.size w (w.alloc (.cells zero57p 57)) := (Below.refl _ _).alloc (Nat.le_refl _) _
  have kr0 : Blk (w.alloc (.cells zero57p 57)) w.heap.size 57 zero57p := Blk.new _ _ _
  have hv0 := hv.below hb0
  have GV := Lib.hid hv
  have CS := Lib.hid (split_any s (w.alloc (.cells zero57p 57)) (by omega) hv0)
  clear hv hv0
  go_enter Tryz.func40, Tryz.ntmps40
  go_wp2_with fail
  refine CS.out.mono ?_
  rintro e w2 ⟨rfl, hw2⟩
  have hb2 : Below w.heap.size w w2 := by rw [hw2]; exact hb0.alloc (by simp) _
  have kr2 : Blk w2 w.heap.size 57 zero57p := by rw [hw2]; exact kr0.alloc _
  have kw2 : Blk w2 (w.alloc (.cells zero57p 57)).heap.size 9 ((wordsP s).map Value.string).toArray := by rw [hw2]; exact Blk.new _ _ _
  have hgw : w.heap.size < (w.alloc (.cells zero57p 57)).heap.size := kr0.lt
  clear hw2 CS hb0 kr0
  generalize (w.alloc (.cells zero57p 57)).heap.size = gw at *
  have hnw : ∀ e, noteOK e = true → s = noteB e → wordsP s = noteWords e := fun e h1 h2 => by rw [h2, words_note h1]
  have hsz := wordsP_sz s
  have hfew := wordsP_few s
  generalize wordsP s = ws at *
  have HNW := Lib.hid hnw
  have HSZ := Lib.hid hsz
  have KR := Lib.hid kr2
  have KW := Lib.hid kw2
  have HB := Lib.hid hb2
  clear hnw hsz kr2 kw2 hb2
  by_cases h13 : ws.length < 13
  · have st := run_st57p KR.out rfl (v := zero57p) rfl (by simp [Value.oneCell'])
    go_wp2_with fail
    refine bodyPost_ret (v := .tuple #[.agg zero57p, .int .i64 2]) (results_cell_tmp Tryz.results40 _ _ w.heap.size 57 _ (0, 0) _ rfl (setRow_blk KR.out _) Tryz.underlying57 rfl size57) rfl ⟨.none (.no fun e h1 h2 => ?_), ?_⟩
    · have h3 := congrArg List.length (HNW.out e h1 h2)
      rw [noteWords_len] at h3
      omega
    · exact HB.out.trans (grown_below (setRow_gby _ _ _) HB.out.size (fun k hk => by injection hk with hk; omega))
  · have hwat : ∀ wy, Blk wy gw 9 (ws.map Value.string).toArray → ∀ k (hk : k < ws.length), wy.cell? ⟨gw, k, none⟩ = some (.string ws[k]) := fun wy hy k hk => (hy.cell k).trans (by simp [hk])
    have HWA := Lib.hid hwat
    clear hwat
    have c1 := HWA.out w2 KW.out 1 (by omega)
    obtain ⟨x1, hx1⟩ : ∃ x, ws[1] = x := ⟨_, rfl⟩
    rw [hx1] at c1
    have HX1 := Lib.hid hx1
    clear hx1
    have s5 : (st57p (.pointer (some ⟨w2.heap.size, 0, none⟩)) (.agg (eP0 x1))).run Tryz.prog (w2.alloc (.cells zero57p 57)) = .ok () ((w2.alloc (.cells zero57p 57)).setRow w2.heap.size (eP [] x1)) := run_st57p (w := w2.alloc (.cells zero57p 57)) (Blk.new w2 57 zero57p) rfl (v := eP [] x1) rfl (by simp [Value.oneCell'])
    go_upto_region 5 with fail
    have hb3 : Below w.heap.size w ((w2.alloc (.cells zero57p 57)).setRow w2.heap.size (eP [] x1)) := (HB.out.alloc HB.out.size _).trans (grown_below (setRow_gby _ _ _) (by have := HB.out.size; simp; omega) (fun k hk => by injection hk with hk; have := HB.out.size; omega))
    have hg3 : (w2.alloc (.cells zero57p 57)).grownBy ((w2.alloc (.cells zero57p 57)).setRow w2.heap.size (eP [] x1)) (some w2.heap.size) := setRow_gby _ _ _
    have kr3 : Blk ((w2.alloc (.cells zero57p 57)).setRow w2.heap.size (eP [] x1)) w.heap.size 57 zero57p := (KR.out.alloc _).grown hg3 (by have := KR.out.lt; simp; omega)
    have kw3 : Blk ((w2.alloc (.cells zero57p 57)).setRow w2.heap.size (eP [] x1)) gw 9 (ws.map Value.string).toArray := (KW.out.alloc _).grown hg3 (by have := KW.out.lt; simp; omega)
    have ke3 : Blk ((w2.alloc (.cells zero57p 57)).setRow w2.heap.size (eP [] x1)) w2.heap.size 57 (eP [] x1) := setRow_blk (Blk.new w2 57 zero57p) _
    have hgw2 : gw < w2.heap.size := KW.out.lt
    clear s5 c1 hg3 KR KW HB
    generalize ((w2.alloc (.cells zero57p 57)).setRow w2.heap.size (eP [] x1)) = w3 at *
    generalize w2.heap.size = g at *
    have KR := Lib.hid kr3
    have KW := Lib.hid kw3
    have KE := Lib.hid ke3
    have HB := Lib.hid hb3
    clear kr3 kw3 ke3 hb3
    go_upto_region 6 with fail
    go_cut [7] (fun v wx => ∃ gp, v = .slice (some ⟨gp, 0, none⟩) 10 10 ∧ Blk wx gp 179 (ptrsC g) ∧ Below w3.heap.size w3 wx)
    case first =>
      go_region
      all_goals
        go_wp2_with fail
        go_meet
        refine ⟨_, rfl, ?_, ?_⟩
        · exact Blk.new _ _ _
        · exact (Below.refl _ _).drew.alloc (by simp) _
    case rest =>
      obtain ⟨gp, rfl, kp, hb4⟩ := hcut
      generalize wc = w4 at *
      have hpa : PaW w w4 gw g gp ws [] x1 := ⟨HB.out.trans (hb4.mono HB.out.size), KR.out.below hb4 KR.out.lt, KW.out.below hb4 KW.out.lt, KE.out.below hb4 KE.out.lt, kp, hgw, hgw2⟩
      have HPA := Lib.hid hpa
      clear hpa kp hb4 KR KW KE HB
      go_wp2_with fail
      go_loopw [49] (fun s49 wr => ∃ (k : Nat) (vs : List Int), k ≤ 10 ∧ s49 = .int .i64 k ∧ Hid (NumsAre s k vs) ∧ Hid (PaW w wr gw g gp ws vs x1)) (fun i _ => 10 - (intOf i).toNat)
      case atStart => exact ⟨0, [], by omega, rfl, NumsAre.zero s, HPA⟩
      case round =>
        obtain ⟨k, vs, hk, rfl, HN, HP⟩ := hrel
        by_cases hlt : k < 10
        · have i1 : (0 : Int) ≤ (k : Int) := by omega
          have i2 : (k : Int) < 10 := by omega
          have i3 : (k : Int) < (ws.length : Int) := by omega
          by_cases hk1 : k = 1
          · have HK1 := Lib.hid hk1
            clear hk1
            have cp : wr.cell? ⟨gp, k, none⟩ = some (.pointer none) := (HP.out.ptr.cell k).trans (by rw [HK1.out]; rfl)
            go_wp2_with fail
            go_roundw
            case rel =>
              refine ⟨k + 1, vs ++ [0], by omega, by go_num, ?_, ?_⟩
              · refine HN.out.next hlt (fun e _ _ => ?_)
                have := HK1.out
                subst this
                rfl
              · have h1 := HK1.out
                have h2 := HN.out.1
                have h3 := HP.out
                refine ⟨h3.below, h3.res, h3.wds, ?_, h3.ptr, h3.lt⟩
                rw [← eP_one x1 vs (by omega)]
                exact h3.ent
            case measure => simp [intOf]; omega
          · have cp : wr.cell? ⟨gp, k, none⟩ = some (.pointer (some ⟨g, offN k, none⟩)) := (HP.out.ptr.cell k).trans (ptrs_at g k hlt hk1)
            have hput : ∀ wy v, PaW w wy gw g gp ws vs x1 → PaW w (wy.setCell ⟨g, offN k, none⟩ (.int .i64 v)) gw g gp ws (vs ++ [v]) x1 := fun wy v h => h.put hlt hk1 HN.out.1 v
            have hat : ∀ wy, PaW w wy gw g gp ws vs x1 → ∃ u, wy.cell? ⟨g, offN k, none⟩ = some u := fun wy h => by
              obtain ⟨u, hu⟩ := eP_at vs x1 k hlt hk1
              exact ⟨u, (h.ent.cell _).trans hu⟩
            have HPUT := Lib.hid hput
            have HAT := Lib.hid hat
            clear hput hat
            generalize offN k = o at *
            have cx := HWA.out wr HP.out.wds k (by omega)
            have hxs := HSZ.out ws[k] (List.getElem_mem (by omega))
            have hxw : ∀ e, noteOK e = true → s = noteB e → Lib.parseIntB 64 (ws[k]).data.toList = .ok ((numsOf e)[k]'(by rw [numsOf_len]; exact hlt)) := fun e h1 h2 => by
              refine parse_word h1 hlt hk1 ?_
              have h3 := HNW.out e h1 h2
              rw [← h3]
              exact List.getElem?_eq_getElem _
            generalize ws[k] = x at *
            have HXW := Lib.hid hxw
            have HK1 := Lib.hid hk1
            clear hxw hk1
            by_cases hp : ∃ v, Lib.parseIntB 64 x.data.toList = .ok v
            · obtain ⟨v, hv⟩ := hp
              have CI := Lib.hid (parseInt_ok x wr (by omega) hv)
              have HV := Lib.hid hv
              clear hv
              go_wp2_with (go_at_call 102; refine CI.out.mono ?_; rintro en w5 ⟨rfl, hb5⟩; refine Hid.out ?_)
              refine Lib.hid ?_
              have HP5 := Lib.hid (HP.out.to hb5)
              obtain ⟨u, hu⟩ := HAT.out w5 HP5.out
              have fr := HP5.out.ent.free' o
              clear hb5 CI cx cp
              go_wp2_with fail
              go_roundw
              case rel =>
                refine ⟨k + 1, vs ++ [v], by omega, by go_num, HN.out.next hlt (fun e h1 h2 => ?_), HPUT.out w5 v HP5.out⟩
                have h3 := HXW.out e h1 h2
                rw [HV.out] at h3
                injection h3
              case measure => simp [intOf]; omega
            · have CI := Lib.hid (parseInt_no x wr (by omega) (GV.out.below HP.out.below) (fun v hv => hp ⟨v, hv⟩))
              have HPN := Lib.hid hp
              clear hp
              go_wp2_with (go_at_call 102; refine CI.out.mono ?_; rintro en w5 ⟨v, te, pe, rfl, hb5⟩; refine Hid.out ?_)
              refine Lib.hid ?_
              have HP5 := Lib.hid (HP.out.to hb5)
              clear hb5 CI cx cp
              have st := run_st57p HP5.out.res rfl (v := zero57p) rfl (by simp [Value.oneCell'])
              go_wp2_with fail
              refine bodyPost_ret (v := .tuple #[.agg zero57p, .int .i64 2]) (results_cell_tmp Tryz.results40 _ _ w.heap.size 57 _ (0, 0) _ rfl (setRow_blk HP5.out.res _) Tryz.underlying57 rfl size57) rfl ⟨.none (.no fun e h1 h2 => HPN.out ⟨_, HXW.out e h1 h2⟩), ?_⟩
              exact HP5.out.below.trans (grown_below (setRow_gby _ _ _) HP5.out.below.size (fun k hk => by injection hk with hk; omega))
        · obtain rfl : k = 10 := by omega
          have c10 := HWA.out wr HP.out.wds 10 (by omega)
          have hlen : 13 ≤ ws.length := by omega
          have hnt : ∀ e, noteOK e = true → s = noteB e → x1 = e.obj ∧ ws[10] = keepB e.kp ∧ ws[11] = eqB e.ten ∧ ws[12] = tagText e.t e.wk ∧ ws.drop 13 = e.ks := fun e h1 h2 => by
            have h3 := HNW.out e h1 h2
            have hx1 := HX1.out
            subst h3
            exact ⟨hx1.symm, rfl, rfl, rfl, rfl⟩
          have z11 := HSZ.out ws[11] (List.getElem_mem (by omega))
          have z12 := HSZ.out ws[12] (List.getElem_mem (by omega))
          have hc11 : ∀ wy, Blk wy gw 9 (ws.map Value.string).toArray → wy.cell? ⟨gw, 11, none⟩ = some (.string ws[11]) ∧ wy.cell? ⟨gw, 12, none⟩ = some (.string ws[12]) := fun wy h => ⟨HWA.out wy h 11 (by omega), HWA.out wy h 12 (by omega)⟩
          have HC11 := Lib.hid hc11
          clear hc11
          generalize ws[10] = x10 at *
          generalize ws[11] = x11 at *
          generalize ws[12] = x12 at *
          have HNT := Lib.hid hnt
          have HNF := Lib.hid HN.out.full
          have e12 : wr.cell? ⟨g, 12, none⟩ = some (.bool false) := (HP.out.ent.cell 12).trans rfl
          have fr := HP.out.ent.free' 12
          clear hnt
          go_upto_region 17 with fail
          generalize hkp : (x10.toList == [107, 101, 101, 112]) = kp
          have hb6 : PbW w (wr.setCell ⟨g, 12, none⟩ (.bool kp)) gw g ws (entC (entOf vs x1 ⟨#[]⟩ false [] ⟨#[]⟩ kp) none 0 0 false) := (PbW.of HP.out).set 12 (.bool kp)
          have HKP : Hid (∀ e, noteOK e = true → s = noteB e → kp = e.kp) := by
            show ∀ e, noteOK e = true → s = noteB e → kp = e.kp
            intro e h1 h2
            rw [← hkp, (HNT.out e h1 h2).2.1, ByteArray.toList_eq]
            cases e.kp <;> rfl
          clear hkp e12 c10
          generalize wr.setCell ⟨g, 12, none⟩ (.bool kp) = w6 at *
          have HB6 := Lib.hid hb6
          clear hb6
          have q11 := (HC11.out w6 HB6.out.wds).1
          have e11 : w6.cell? ⟨g, 11, none⟩ = some (.string ⟨#[]⟩) := (HB6.out.ent.cell 11).trans rfl
          have fr11 := HB6.out.ent.free' 11
          go_upto_region 18 with (go_at_call 103; refine (trimEq_any x11 w6).mono ?_; rintro en w7 ⟨rfl, rfl⟩)
          have zt := tenOf_size x11
          have HTN : Hid (∀ e, noteOK e = true → s = noteB e → tenOf x11 = e.ten) := by
            show ∀ e, noteOK e = true → s = noteB e → tenOf x11 = e.ten
            intro e h1 h2
            rw [(HNT.out e h1 h2).2.2.1, tenOf_eq]
          have hb7 : PbW w (w6.setCell ⟨g, 11, none⟩ (.string (tenOf x11))) gw g ws (entC (entOf vs x1 ⟨#[]⟩ false [] (tenOf x11) kp) none 0 0 false) := HB6.out.set 11 (.string (tenOf x11))
          generalize w6.setCell ⟨g, 11, none⟩ (.string (tenOf x11)) = w7 at *
          generalize tenOf x11 = ten at *
          have HB7 := Lib.hid hb7
          clear hb7 q11 e11 fr11 fr
          have q12 := (HC11.out w7 HB7.out.wds).2
          go_wp2_with (go_at_call 104; refine (tagParse_any x12 w7 (by omega)).mono ?_; rintro en w8 ⟨⟨t, wk, er, rfl, ht1, ht2⟩, hb8⟩; refine Hid.out ?_)
          refine Lib.hid ?_
          have HTG : Hid (∀ e, noteOK e = true → s = noteB e → t = e.t ∧ wk = e.wk) := by
            show ∀ e, noteOK e = true → s = noteB e → t = e.t ∧ wk = e.wk
            intro e h1 h2
            have h3 := noteIs h1
            have h4 := ht2 e.t h3.tag (by rw [(HNT.out e h1 h2).2.2.2.1, h3.strong, tagText_ok h3.tag])
            exact ⟨h4.1, h4.2.1.trans h3.strong.symm⟩
          have HB8 := Lib.hid (HB7.out.to hb8)
          clear ht2 hb8 q12
          have e2 : w8.cell? ⟨g, 2, none⟩ = some (.string ⟨#[]⟩) := (HB8.out.ent.cell 2).trans rfl
          have e3 : w8.cell? ⟨g, 3, none⟩ = some (.bool false) := (HB8.out.ent.cell 3).trans rfl
          have fr8 := HB8.out.ent.free'
          go_upto_region 19 with fail
          have hb9 : PbW w ((w8.setCell ⟨g, 2, none⟩ (.string t)).setCell ⟨g, 3, none⟩ (.bool wk)) gw g ws (entC (entOf vs x1 t wk [] ten kp) none 0 0 false) := (HB8.out.set 2 (.string t)).set 3 (.bool wk)
          generalize (w8.setCell ⟨g, 2, none⟩ (.string t)).setCell ⟨g, 3, none⟩ (.bool wk) = w9 at *
          have HB9 := Lib.hid hb9
          have fr9 := hb9.ent.free'
          have e10 : w9.cell? ⟨g, 10, none⟩ = some (.slice none 0 0) := (hb9.ent.cell 10).trans rfl
          have hs9 := hb9.below.size
          have hg9 := hb9.ent.lt
          clear hb9 e2 e3 fr8
          have hrd : Rd w9 w9.heap.size 1 (if ws.length = 13 then some ⟨gw, 0, none⟩ else some ⟨gw, 13, none⟩) (ws.length - 13) ((ws.drop 13).map Value.string) := by
            refine ⟨by simp, fun hn => ⟨gw, 13, by rw [if_neg (by omega)], HB9.out.wds.lt, fun j hj => ?_⟩⟩
            rw [(HB9.out.wds.cell (13 + j))]
            simp at hj
            simp
          have HRD := Lib.hid hrd
          clear hrd
          have i13 : (13 : Int) ≤ (ws.length : Int) := by omega
          go_cut [4, 5] (fun _ v wx => v = .pointer (some ⟨g, 0, none⟩) ∧ ∃ A n c, StrsUp (w.heap.size + 1) wx A n (ws.drop 13) ∧ n ≤ c ∧ PbW w wx gw g ws (entC (entOf vs x1 t wk (ws.drop 13) ten kp) A n c false))
          case first =>
            go_wp2_with (at_builtin; refine wpList_append_rd _ rfl _ _ 37 rfl w9.heap.size 9 i0 (.string ByteArray.empty) 1 16 Tryz.underlying37 hi hz0 hz1 hz2 rfl (by decide) (.slice none 0 0) 0 [] rfl (World.ownsRow_nil _ _ _ _) (if ws.length = 13 then some ⟨gw, 0, none⟩ else some ⟨gw, 13, none⟩) (ws.length - 13) (ws.length - 13) _ ((ws.drop 13).map Value.string) rfl HRD.out (oneCell_strings _) (by unfold maxLen; omega) (by omega) (Nat.le_refl _) ?_; intro A10 c10 w10 hown10 hgrow10 hnc10 hat10; refine Hid.out ?_)
            all_goals
              refine Lib.hid ?_
              simp only [Nat.zero_add, List.nil_append] at hown10 hnc10 ⊢
              have hb9 : Below w9.heap.size w9 w10 := grown_below hgrow10 (Nat.le_refl _) (fun k hk => by simp [Value.ownBlock] at hk)
              have hb10 := HB9.out.to hb9
              have HB10 := Lib.hid hb10
              have HO10 := Lib.hid hown10
              have HC10 := Lib.hid hnc10
              have f10 := hb10.ent.free' 10
              have d10 : w10.cell? ⟨g, 10, none⟩ = some (.slice none 0 0) := (hb10.ent.cell 10).trans rfl
              have hg10 := hb10.ent.lt
              clear hown10 hgrow10 hnc10 hat10 hb9 hb10 e10 fr9 HRD
              go_wp2_with fail
              go_meet
              have hown : ∀ u, (w10.setCell ⟨g, 10, none⟩ u).ownsRow w9.heap.size 9 1 (.slice A10 (ws.length - 13) c10) (ws.length - 13) ((ws.drop 13).map Value.string) := fun u => own_kept HO10.out (gby_set (gby_refl _ _) 10 u) (fun g' hg' e' => by
                have h1 := (HO10.out.lt g' hg').1
                injection e' with e'
                omega)
              first
                | exact ⟨rfl, A10, ws.length - 13, c10, ⟨own_rd (hown _), fun b o e => by have := own_lo (hown (.bool false)) b o e; omega⟩, HC10.out, HB10.out.set 10 _⟩
                | (have hm : ws.length - 13 = 0 := by omega
                   have hc := HC10.out
                   simp only [hm] at hown hc
                   exact ⟨rfl, A10, 0, c10, ⟨own_rd (hown _), fun b o e => by have := own_lo (hown (.bool false)) b o e; omega⟩, hc, HB10.out.set 10 _⟩)
          case rest =>
            obtain ⟨rfl, A, n, c, hst, hnc, hb11⟩ := hcut
            generalize wc = w11 at *
            have hks : n ≤ 1000000 := by have := hst.1.len; simp at this; omega
            have HPE : Hid (∀ e, noteOK e = true → s = noteB e → entOf vs x1 t wk (ws.drop 13) ten kp = e.bare) := by
              show ∀ e, noteOK e = true → s = noteB e → _
              intro e h1 h2
              obtain ⟨f1, _, _, _, f2⟩ := HNT.out e h1 h2
              obtain ⟨f3, f4⟩ := HTG.out e h1 h2
              rw [HNF.out e h1 h2, f1, f3, f4, f2, HTN.out e h1 h2, HKP.out e h1 h2]
              exact entOf_nums e
            have hbare : (entOf vs x1 t wk (ws.drop 13) ten kp).bare = entOf vs x1 t wk (ws.drop 13) ten kp := rfl
            have hkk : (entOf vs x1 t wk (ws.drop 13) ten kp).ks = ws.drop 13 := rfl
            generalize entOf vs x1 t wk (ws.drop 13) ten kp = x at *
            rw [← hkk] at hst
            have l57 := run_ld57p hb11.ent rfl
            have CT := Lib.hid (text_any x A n c false w11 hst.1 hks hnc (GV.out.tb.below hb11.below))
            have HST := Lib.hid hst
            have HBA := Lib.hid hbare
            have HB11 := Lib.hid hb11
            clear hst hkk hbare hb11 HKP HTN HTG HNT HNF HN HP HB6 HB7 HB8 HB9 HC11
            go_wp2_with (go_at_call 38; refine CT.out.mono ?_; rintro en w12 ⟨rfl, hb12⟩; refine Hid.out ?_)
            refine Lib.hid ?_
            have HB12 := Lib.hid (HB11.out.to hb12)
            have HST12 := Lib.hid (HST.out.below hb12)
            clear hb12 l57 CT
            have l57 := run_ld57p HB12.out.ent rfl
            by_cases hgood : noteOK x = true ∧ noteB x = s
            · obtain ⟨g1, g2⟩ := hgood
              have PI : Hid (ParseIs s (some x)) := ParseIs.yes g1 g2 HBA.out
              rw [textV_ok g1, g2]
              have st := run_st57p HB12.out.res rfl (v := entC x A n c false) rfl (by simp [Value.oneCell'])
              clear g1 g2
              go_wp2_with fail
              refine bodyPost_ret (v := .tuple #[.agg (entC x A n c false), .int .i64 0]) (results_cell_tmp Tryz.results40 _ _ w.heap.size 57 _ (0, 0) _ rfl (setRow_blk HB12.out.res _) Tryz.underlying57 rfl size57) rfl ⟨.inr ⟨x, A, n, c, rfl, PI.out, HST12.out.row (by omega) _, hnc⟩, ?_⟩
              · exact HB12.out.below.trans (grown_below (setRow_gby _ _ _) HB12.out.below.size (fun k hk => by injection hk with hk; omega))
            · have PN : Hid (ParseIs s none) := ParseIs.diff HPE.out (by
                by_cases h1 : noteOK x = true
                · exact .inr fun h2 => hgood ⟨h1, h2⟩
                · exact .inl (by simpa using h1))
              have st := run_st57p HB12.out.res rfl (v := zero57p) rfl (by simp [Value.oneCell'])
              have hte : ¬ (noteE x = 0 ∧ noteT x = s) := by
                rintro ⟨h1, h2⟩
                by_cases h3 : noteOK x = true
                · have h4 : noteT x = noteB x := by unfold noteT; rw [if_pos h3]
                  exact hgood ⟨h3, by rw [← h4, h2]⟩
                · unfold noteE at h1
                  rw [if_neg h3] at h1
                  cases h1
              unfold textV
              generalize noteE x = ne at *
              generalize noteT x = nt at *
              go_upto_region 21 with fail
              go_cut [112] (fun v wx => v = .bool true ∧ wx = w12)
              case first =>
                by_cases h1 : ne = 0
                · have h2 : ¬ nt = s := fun h2 => hte ⟨h1, h2⟩
                  have hne : ¬ nt.toList = s.toList := fun h => h2 (ba_ext (by rw [← ByteArray.toList_eq, ← ByteArray.toList_eq, h]))
                  subst h1
                  clear hte h2
                  go_wp2_with fail
                  go_meet
                  exact ⟨by first | rfl | (simp; assumption), rfl⟩
                · clear hte
                  go_wp2_with fail
                  go_meet
                  exact ⟨by first | rfl | simp, rfl⟩
              case rest =>
                obtain ⟨rfl, rfl⟩ := hcut
                generalize wc = w12 at *
                go_wp2_with fail
                refine bodyPost_ret (v := .tuple #[.agg zero57p, .int .i64 2]) (results_cell_tmp Tryz.results40 _ _ w.heap.size 57 _ (0, 0) _ rfl (setRow_blk HB12.out.res _) Tryz.underlying57 rfl size57) rfl ⟨.none PN.out, ?_⟩
                exact HB12.out.below.trans (grown_below (setRow_gby _ _ _) HB12.out.below.size (fun k hk => by injection hk with hk; omega))
end Go.Proofs.YtoaiamgcegnjjaaGreatDoor
