/- Table.Land. No condition. -/
import Derived.Test.YtoaiamgcegnjjaaGreatDoorMC
import Derived.Lib.QuietBelow
import Derived.Deep.RegionHeld3
import Derived.Deep.LoopGhost
namespace Go.Proofs.YtoaiamgcegnjjaaGreatDoor
open Go.RowKit Go.Maps Go.WideMaps Go.Sort
set_option maxRecDepth 100000

/-- a Meta, as it is told -/
structure MetaS where
  t : ByteArray
  wk : Bool
  mo : Int
  le : Int
  ha : Int
  fr : Int
  wh : Int
  er : Int
  ks : List ByteArray
  ten : ByteArray
  kp : Bool

abbrev replyC (st : Int) (M : MetaS) (A : Option Addr) (n c : Nat) (sf sto age : Int) : Array Value :=
  #[.int .i64 st, .string M.t, .bool M.wk, .int .i64 M.mo, .int .i64 M.le, .int .i64 M.ha, .int .i64 M.fr, .int .i64 M.wh, .int .i64 M.er, .slice A n c, .string M.ten, .bool M.kp, .int .i64 sf, .int .i64 sto, .int .i64 age]

def MetaS.ok (M : MetaS) : Bool := metaOK M.t M.wk M.mo M.le M.ha M.fr M.wh M.er M.ks M.ten
def landOK (obj : ByteArray) (M : MetaS) (age ti mo ge : Int) : Bool := objOK obj && M.ok && tick0 age && askOK ti mo ge

theorem reply_cells {w : World} {g : Nat} {ty : TypeId} {st : Int} {M : MetaS} {A : Option Addr} {n c : Nat} {sf sto age : Int} (h : Blk w g ty (replyC st M A n c sf sto age)) :
    w.cell? ⟨g, 1, none⟩ = some (.string M.t) ∧ w.cell? ⟨g, 2, none⟩ = some (.bool M.wk) ∧ w.cell? ⟨g, 3, none⟩ = some (.int .i64 M.mo) ∧ w.cell? ⟨g, 4, none⟩ = some (.int .i64 M.le) ∧ w.cell? ⟨g, 5, none⟩ = some (.int .i64 M.ha) ∧
    w.cell? ⟨g, 6, none⟩ = some (.int .i64 M.fr) ∧ w.cell? ⟨g, 7, none⟩ = some (.int .i64 M.wh) ∧ w.cell? ⟨g, 8, none⟩ = some (.int .i64 M.er) ∧ w.cell? ⟨g, 9, none⟩ = some (.slice A n c) ∧ w.cell? ⟨g, 10, none⟩ = some (.string M.ten) ∧ w.cell? ⟨g, 11, none⟩ = some (.bool M.kp) ∧ w.cell? ⟨g, 14, none⟩ = some (.int .i64 age) := by
  refine ⟨?_, ?_, ?_, ?_, ?_, ?_, ?_, ?_, ?_, ?_, ?_, ?_⟩ <;> rw [h.cell] <;> rfl
theorem ask_cells {w : World} {g : Nat} {ty : TypeId} {a b c : Int} (h : Blk w g ty #[.int .i64 a, .int .i64 b, .int .i64 c]) :
    w.cell? ⟨g, 0, none⟩ = some (.int .i64 a) ∧ w.cell? ⟨g, 1, none⟩ = some (.int .i64 b) ∧ w.cell? ⟨g, 2, none⟩ = some (.int .i64 c) := by
  refine ⟨?_, ?_, ?_⟩ <;> rw [h.cell] <;> rfl

theorem wf_i64 {x : Int} (h0 : -9223372036854775808 ≤ x) (h1 : x ≤ 9223372036854775807) : (Lit.int .i64 x).wf = true := by
  have e1 : IntKind.i64.min = -9223372036854775808 := by decide
  have e2 : IntKind.i64.max = 9223372036854775807 := by decide
  show (decide (IntKind.i64.min ≤ x) && decide (x ≤ IntKind.i64.max)) = true
  rw [e1, e2, decide_eq_true h0, decide_eq_true h1]; rfl
theorem landOK_obj {obj : ByteArray} {M : MetaS} {age ti mo ge : Int} (h : landOK obj M age ti mo ge = true) : objOK obj = true := by
  unfold landOK at h
  simp only [Bool.and_eq_true] at h
  exact h.1.1.1
theorem objOK_size {obj : ByteArray} (h : objOK obj = true) : obj.size ≤ maxLen := by
  unfold objOK at h
  simp only [Bool.and_eq_true, decide_eq_true_eq] at h
  unfold maxLen
  omega

def matchB (T : TabS) (M : MetaS) (id : Int) : Bool := match T.ents id with
  | some e => (tagOK e.t && !e.wk) && strongB e.t e.wk M.t M.wk
  | none => false

def Ent.followB (e : Ent) (M : MetaS) : Bool := followsB e.t e.wk e.mo e.le e.ha e.fr e.wh e.er e.ks e.ten M.t M.wk M.mo M.le M.ha M.fr M.wh M.er M.ks M.ten
def Ent.withMeta (e : Ent) (M : MetaS) : Ent := { e with t := M.t, wk := M.wk, mo := M.mo, le := M.le, ha := M.ha, fr := M.fr, wh := M.wh, er := M.er, ks := M.ks, ten := M.ten, kp := M.kp }
def Ent.follow (e : Ent) (M : MetaS) : Ent := if e.followB M then e.withMeta M else e
theorem Ent.follow_id (e : Ent) (M : MetaS) : (e.follow M).id = e.id := by unfold Ent.follow; split <;> rfl
theorem Ent.follow_obj (e : Ent) (M : MetaS) : (e.follow M).obj = e.obj := by unfold Ent.follow; split <;> rfl
def newEnt (id : Int) (obj : ByteArray) (M : MetaS) (said mo ge : Int) : Ent :=
  { id := id, obj := obj, t := M.t, wk := M.wk, mo := M.mo, le := M.le, ha := M.ha, fr := M.fr, wh := M.wh, er := M.er, ks := M.ks, ten := M.ten, kp := M.kp, said := said, mom := mo, gen := ge, has := [] }

def landS (T : TabS) (obj : ByteArray) (M : MetaS) (age ti mo ge : Int) : TabS × Int × Bool :=
  let T1 := T.withObj obj
  match T1.objs obj with
  | none => (T1, 0, false)
  | some o => match o.ids.find? (matchB T1 M) with
    | some id => match T1.ents id with
      | some e => ((T1.setEnt ((e.follow M).say mo ge (saidOf ti age))).setObj obj (o.take mo id), id, false)
      | none => (T1, 0, false)
    | none =>
      ((({ T1 with next := T1.next + 1 } : TabS).addEnt o (newEnt T.next obj M (saidOf ti age) mo ge)).setObj obj (({ o with ids := o.ids ++ [T.next] } : ObjS).take mo T.next), T.next, true)

theorem find_first {p : Int → Bool} : ∀ (l : List Int) (j : Nat) (hj : j < l.length), (∀ x ∈ l.take j, p x = false) → p l[j] = true → l.find? p = some l[j]
  | [], j, hj, _, _ => by simp at hj
  | a :: r, 0, _, _, h => by simp at h; simp [h]
  | a :: r, j + 1, hj, h0, h => by
    have ha : p a = false := h0 a (by simp)
    have := find_first r j (by simpa using hj) (fun x hx => h0 x (by simp [hx])) (by simpa using h)
    simp [ha, this]
theorem find_none {p : Int → Bool} (l : List Int) (h : ∀ x ∈ l, p x = false) : l.find? p = none := by
  rw [List.find?_eq_none]
  intro x hx
  rw [h x hx]
  simp

theorem setEnt_setEnt (T : TabS) (a b : Ent) (h : a.id = b.id) : (T.setEnt a).setEnt b = T.setEnt b := by
  unfold TabS.setEnt
  simp only [TabS.mk.injEq, true_and, and_true]
  funext i
  split
  · rfl
  · rename_i hi
    rw [if_neg (by rw [h]; exact hi)]
theorem setEnt_self (T : TabS) (e : Ent) (h : T.ents e.id = some e) : T.setEnt e = T := by
  unfold TabS.setEnt
  cases T with
  | mk n en ob =>
    simp only [TabS.mk.injEq, true_and, and_true]
    funext i
    split
    · rename_i hi; rw [hi]; exact h.symm
    · rfl

/-- What Land's boxes hold in a world behind it. -/
structure LandW (w wx : World) (base : Nat) (st : Int) (M : MetaS) (A : Option Addr) (n c : Nat) (sf sto age ti mo ge : Int) : Prop where
  size : w.heap.size + 1 + 1 ≤ wx.heap.size
  rep : Blk wx w.heap.size 43 (replyC st M A n c sf sto age)
  ask : Blk wx (w.heap.size + 1) 74 #[.int .i64 ti, .int .i64 mo, .int .i64 ge]
  low : base ≤ w.heap.size
  keys : Strs wx base A n M.ks
theorem LandW.below {w wx wy : World} {base : Nat} {st : Int} {M : MetaS} {A : Option Addr} {n c : Nat} {sf sto age ti mo ge : Int} (h : LandW w wx base st M A n c sf sto age ti mo ge) (hb : Below wx.heap.size wx wy) : LandW w wy base st M A n c sf sto age ti mo ge :=
  ⟨by have := hb.size; have := h.size; omega, h.rep.below hb h.rep.lt, h.ask.below hb h.ask.lt, h.low, h.keys.below (hb.mono (by have := h.size; have := h.low; omega)) (Nat.le_refl _)⟩

theorem LandW.keeps {w wx wy : World} {base : Nat} {st : Int} {M : MetaS} {A : Option Addr} {n c : Nat} {sf sto age ti mo ge : Int} (h : LandW w wx base st M A n c sf sto age ti mo ge) (hk : Keeps base wx wy) : LandW w wy base st M A n c sf sto age ti mo ge :=
  ⟨by have := hk.below.size; have := h.size; omega, h.rep.keeps hk (by decide) (by decide) (by decide) (by decide), h.ask.keeps hk (by decide) (by decide) (by decide) (by decide), h.low, h.keys.below hk.below (Nat.le_refl _)⟩
theorem landOK_keys {obj : ByteArray} {M : MetaS} {age ti mo ge : Int} (h : landOK obj M age ti mo ge = true) : M.ks.length ≤ 32 := by
  unfold landOK MetaS.ok metaOK at h
  simp only [Bool.and_eq_true, decide_eq_true_eq] at h
  exact h.1.1.2.1.1.2

theorem kCells_meta (e : Ent) (M : MetaS) (A2 A' : Option Addr) (n2 c2 n c' : Nat) (hv : Value) :
    (((((((((((kCells e A2 n2 c2 hv).setIfInBounds 2 (.string M.t)).setIfInBounds 3 (.bool M.wk)).setIfInBounds 4 (.int .i64 M.mo)).setIfInBounds 5 (.int .i64 M.le)).setIfInBounds 6 (.int .i64 M.ha)).setIfInBounds 7 (.int .i64 M.fr)).setIfInBounds 8 (.int .i64 M.wh)).setIfInBounds 9 (.int .i64 M.er)).setIfInBounds 10 (.slice A' n c')).setIfInBounds 11 (.string M.ten)).setIfInBounds 12 (.bool M.kp) = kCells (e.withMeta M) A' n c' hv := by
  simp [Ent.withMeta]

/-- The eleven cells of a Meta written into an entry's block. -/
theorem known_meta {wg W : World} {base kb : Nat} {e : Ent} {M : MetaS} {A2 A' : Option Addr} {n2 c2 n c' : Nat} {hA : Option Addr} {hn hc : Nat} (hb : Blk wg kb 125 (kCells e A2 n2 c2 (.slice hA hn hc))) (hlow : base ≤ kb) (hname : e.obj.size ≤ maxLen) (hks : M.ks.length ≤ 32) (hnc : n ≤ c')
    (ho : wg.ownsRow base 9 1 (.slice A' n c') n (M.ks.map Value.string)) (hh : hn ≤ hc) (hs : wg.ownsRow base 41 2 (.slice hA hn hc) hn (spanCells e.has))
    (hW : W = ((((((((((wg.setCell ⟨kb, 2, none⟩ (.string M.t)).setCell ⟨kb, 3, none⟩ (.bool M.wk)).setCell ⟨kb, 4, none⟩ (.int .i64 M.mo)).setCell ⟨kb, 5, none⟩ (.int .i64 M.le)).setCell ⟨kb, 6, none⟩ (.int .i64 M.ha)).setCell ⟨kb, 7, none⟩ (.int .i64 M.fr)).setCell ⟨kb, 8, none⟩ (.int .i64 M.wh)).setCell ⟨kb, 9, none⟩ (.int .i64 M.er)).setCell ⟨kb, 10, none⟩ (.slice A' n c')).setCell ⟨kb, 11, none⟩ (.string M.ten)).setCell ⟨kb, 12, none⟩ (.bool M.kp)) :
    Known W base kb (e.withMeta M) ∧ wg.grownBy W (some kb) := by
  have hg : wg.grownBy W (some kb) := by
    rw [hW]
    exact gby_set (gby_set (gby_set (gby_set (gby_set (gby_set (gby_set (gby_set (gby_set (gby_set (gby_set (gby_refl _ _) _ _) _ _) _ _) _ _) _ _) _ _) _ _) _ _) _ _) _ _) _ _
  have own : ∀ e', e' = 9 ∨ e' = 41 → ∀ {size n : Nat} {v : Value} {xs : List Value}, wg.ownsRow base e' size v n xs → W.ownsRow base e' size v n xs := fun e' he size n v xs hx =>
    own_kept hx hg (fun k hk hr => by
      injection hr with hr
      subst hr
      have := own_ty hx hk
      rw [hb.ty] at this
      injection this with this
      rcases he with rfl | rfl <;> simp at this)
  have hB : Blk W kb 125 (kCells (e.withMeta M) A' n c' (.slice hA hn hc)) := by
    rw [hW, ← kCells_meta e M A2 A' n2 c2 n c']
    exact ((((((((((hb.set 2 _).set 3 _).set 4 _).set 5 _).set 6 _).set 7 _).set 8 _).set 9 _).set 10 _).set 11 _).set 12 _
  exact ⟨⟨hlow, by show M.ks.length ≤ 1000; omega, hname, A', n, c', hA, hn, hc, hB, hnc, own 9 (.inl rfl) ho, hh, own 41 (.inr rfl) hs⟩, hg⟩

theorem LandW.drew {w wx : World} {base : Nat} {st : Int} {M : MetaS} {A : Option Addr} {n c : Nat} {sf sto age ti mo ge : Int} (h : LandW w wx base st M A n c sf sto age ti mo ge) : LandW w wx.drew base st M A n c sf sto age ti mo ge := ⟨h.size, h.rep, h.ask, h.low, h.keys⟩
theorem TabR.drew {w : World} {base tb m : Nat} {T : TabS} {be bo : Nat} {kf : Int → Option Nat} {of_ rf : ByteArray → Option Nat} (h : TabR w base tb m T be bo kf of_ rf) : TabR w.drew base tb m T be bo kf of_ rf := h.grow (Below.refl _ _).drew
theorem keeps_drew {base : Nat} {w : World} : Keeps base w w.drew := ⟨(Below.refl _ _).drew, fun _ _ _ _ _ _ _ => rfl⟩

theorem landW_start (w : World) (st : Int) (M : MetaS) (A : Option Addr) (n c : Nat) (sf sto age ti mo ge : Int) {base : Nat} (hbs : base ≤ w.heap.size) (hk : Strs w base A n M.ks) :
    LandW w ((w.alloc (.cells (replyC st M A n c sf sto age) 43)).alloc (.cells #[.int .i64 ti, .int .i64 mo, .int .i64 ge] 74)) base st M A n c sf sto age ti mo ge := by
  refine ⟨by simp, (Blk.new w 43 _).alloc _, ?_, hbs, hk.below (((Below.refl _ _).alloc hbs _).alloc (by simp; omega) _) (Nat.le_refl _)⟩
  have := Blk.new (w.alloc (.cells (replyC st M A n c sf sto age) 43)) 74 #[.int .i64 ti, .int .i64 mo, .int .i64 ge]
  simpa using this

set_option maxHeartbeats 1000000 in
/-- Land's guards. -/
theorem land_guard {w : World} {base tb m : Nat} {T : TabS} {be bo : Nat} {kf : Int → Option Nat} {of_ rf : ByteArray → Option Nat} (h : TabR w base tb m T be bo kf of_ rf) (hm : m < 40000) (obj : ByteArray) (st : Int) (M : MetaS) (A : Option Addr) (n c : Nat) (sf sto age ti mo ge : Int) (hk : Strs w base A n M.ks) (hn : n ≤ 9223372036854775807) (hnc : n ≤ c) (R : Ending → World → Prop)
    (hno : landOK obj M age ti mo ge = false → ∀ w', Below w.heap.size w w' → R (.returned (.tuple #[.int .i64 0, .bool false])) w')
    (hyes : landOK obj M age ti mo ge = true → ∀ w' T' id b, landS T obj M age ti mo ge = (T', id, b) → Keeps base w w' → Tab w' base tb (m + 4) T' → R (.returned (.tuple #[.int .i64 id, .bool b])) w') :
    Calls Tryz.prog 29 #[.pointer (some ⟨tb, 0, none⟩), .string obj, .agg (replyC st M A n c sf sto age), .agg #[.int .i64 ti, .int .i64 mo, .int .i64 ge]] w R := by
  have hl := landW_start w st M A n c sf sto age ti mo ge h.lows hk
  have hb : Below w.heap.size w ((w.alloc (.cells (replyC st M A n c sf sto age) 43)).alloc (.cells #[.int .i64 ti, .int .i64 mo, .int .i64 ge] 74)) := ((Below.refl _ _).alloc (Nat.le_refl _) _).alloc (by simp) _
  have HL := Lib.hid hl
  have HB := Lib.hid hb
  have HNO := Lib.hid hno
  have HYES := Lib.hid hyes
  have HT := Lib.hid h
  clear hl hb hk hno hyes h
  go_enter Tryz.func29, Tryz.ntmps29
  go_upto_region 1 with fail
  go_cut [39] (fun s wx => s = .bool (!landOK obj M age ti mo ge) ∧ Below w.heap.size w wx ∧ LandW w wx base st M A n c sf sto age ti mo ge)
  case first =>
    by_cases h1 : objOK obj = true
    case neg =>
      have h1 : objOK obj = false := by simpa using h1
      have H1 := Lib.hid h1
      clear h1
      go_wp2_with fail
      refine (headObject_any _ _).mono ?_
      rintro e w' ⟨rfl, rfl⟩
      rw [H1.out]
      go_wp2_with fail
      go_meet
      exact ⟨by rw [landOK, H1.out]; rfl, HB.out, HL.out⟩
    have H1 := Lib.hid h1
    clear h1
    go_wp2_with fail
    refine (headObject_any _ _).mono ?_
    rintro e w' ⟨rfl, rfl⟩
    rw [H1.out]
    go_wp2_with fail
    refine (metaRight_any M.t M.wk M.mo M.le M.ha M.fr M.wh M.er A n c M.ten M.kp _ M.ks _ HL.out.keys (by have := HL.out.low; simp; omega) hn hnc).mono ?_
    rintro e w1 ⟨rfl, hb1⟩
    have hb2 := HB.out.trans (hb1.mono (by simp; omega))
    have hl2 := HL.out.below hb1
    clear HB HL hb1
    have HB := Lib.hid hb2
    have HL := Lib.hid hl2
    obtain ⟨r1, r2, r3, r4, r5, r6, r7, r8, r9, r10, r11, r14⟩ := reply_cells hl2.rep
    obtain ⟨a0, a1, a2⟩ := ask_cells hl2.ask
    clear hb2 hl2
    by_cases h2 : M.ok = true
    case neg =>
      have h2 : M.ok = false := by simpa using h2
      have H2 := Lib.hid h2
      rw [show metaOK M.t M.wk M.mo M.le M.ha M.fr M.wh M.er M.ks M.ten = false from h2]
      clear h2
      go_wp2_with fail
      go_meet
      exact ⟨by rw [landOK, H1.out, H2.out]; rfl, HB.out, HL.out⟩
    have H2 := Lib.hid h2
    rw [show metaOK M.t M.wk M.mo M.le M.ha M.fr M.wh M.er M.ks M.ten = true from h2]
    clear h2
    by_cases h3 : tick0 age = true
    case neg =>
      have h3 : tick0 age = false := by simpa using h3
      have H3 := Lib.hid h3
      clear h3
      go_wp2_with fail
      refine (number0 _ _).mono ?_
      rintro e w' ⟨rfl, rfl⟩
      rw [H3.out]
      go_wp2_with fail
      go_meet
      exact ⟨by rw [landOK, H1.out, H2.out, H3.out]; rfl, HB.out, HL.out⟩
    have H3 := Lib.hid h3
    clear h3
    go_wp2_with fail
    refine (number0 _ _).mono ?_
    rintro e w' ⟨rfl, rfl⟩
    rw [H3.out]
    go_wp2_with fail
    refine (askRight_any _ _ _ _).mono ?_
    rintro e w2 ⟨rfl, hb1⟩
    have hb2 := HB.out.trans (hb1.mono (by have := HB.out.size; omega))
    have hl2 := HL.out.below hb1
    clear HB HL hb1
    have HB := Lib.hid hb2
    have HL := Lib.hid hl2
    clear hb2 hl2
    go_wp2_with fail
    go_meet
    exact ⟨by rw [landOK, H1.out, H2.out, H3.out]; rfl, HB.out, HL.out⟩
  case rest =>
    obtain ⟨rfl, hb1, hl1⟩ := hcut
    have HB1 := Lib.hid hb1
    have HL1 := Lib.hid hl1
    clear hb1 hl1 HB HL
    by_cases hok : landOK obj M age ti mo ge = true
    case neg =>
      have hok : landOK obj M age ti mo ge = false := by simpa using hok
      have HOK := Lib.hid hok
      rw [hok]
      clear hok
      go_wp2_with fail
      exact HNO.out HOK.out _ HB1.out
    have HOK := Lib.hid hok
    rw [hok]
    clear hok
    obtain ⟨r1, r2, r3, r4, r5, r6, r7, r8, r9, r10, r11, r14⟩ := reply_cells HL1.out.rep
    obtain ⟨a0, a1, a2⟩ := ask_cells HL1.out.ask
    go_wp2_with fail
    refine (said_any _ _ _).mono ?_
    rintro e w' ⟨rfl, rfl⟩
    have h0 := HT.out.grow HB1.out
    have H0 := Lib.hid h0
    clear h0 r1 r2 r3 r4 r5 r6 r7 r8 r9 r10 r11 r14 a0 a1 a2
    go_wp2_with fail
    refine (object_any H0.out (objOK_size (landOK_obj HOK.out)) (by omega)).mono ?_
    rintro en w1 ⟨g, of1, rf1, rfl, hk1, hsz1, hg1, -, h1⟩
    obtain ⟨o, ho, hO⟩ := h1.objs obj g hg1
    obtain ⟨A1, n1, c1, hb1, x1, x2, x3⟩ := hO.cells
    have q0 : w1.cell? ⟨g, 0, none⟩ = some (.int .i64 o.mom) := (hb1.cell 0).trans rfl
    have q1 : w1.cell? ⟨g, 1, none⟩ = some (.int .i64 o.told) := (hb1.cell 1).trans rfl
    have q2 : w1.cell? ⟨g, 2, none⟩ = some (.slice A1 n1 c1) := (hb1.cell 2).trans rfl
    have hn1 : n1 ≤ m + 1 := by have := (h1.ids _ _ ho).1; have := own_len x2; simp at this; omega
    have hl1 : LandW w w1 base st M A n c sf sto age ti mo ge := ⟨by have := HL1.out.size; omega, HL1.out.rep.keeps hk1 (by decide) (by decide) (by decide) (by decide), HL1.out.ask.keeps hk1 (by decide) (by decide) (by decide) (by decide), HL1.out.low, HL1.out.keys.below hk1.below (Nat.le_refl _)⟩
    have H1 := Lib.hid h1
    have HX := Lib.hid x2
    have HX3 := Lib.hid x3
    have HO := Lib.hid ho
    have HBO := Lib.hid hb1
    have HK1 := Lib.hid hk1
    have HG1 := Lib.hid hg1
    have HL := Lib.hid hl1
    clear h1 x2 x3 ho hb1 hk1 hg1 hO hl1 HL1
    go_wp2_with fail
    go_loopg [53] n1 (fun k i wr => ∃ j : Nat, j + k = n1 ∧ i = .int .i64 j ∧ Below w1.heap.size w1 wr ∧ ∀ x ∈ o.ids.take j, matchB (T.withObj obj) M x = false)
    case atStart => exact ⟨0, by omega, rfl, Below.refl _ _, by simp⟩
    case round =>
      obtain ⟨j, hj, rfl, hbr, hno⟩ := hrel
      have hlen : o.ids.length = n1 := by have := own_len HX.out; simpa using this
      have hR := H1.out.grow hbr
      have hLr := HL.out.below hbr
      have HJ := Lib.hid hj
      have HBR := Lib.hid hbr
      have HN := Lib.hid hno
      have HR := Lib.hid hR
      have HLR := Lib.hid hLr
      have HLEN := Lib.hid hlen
      obtain ⟨r1, r2, r3, r4, r5, r6, r7, r8, r9, r10, r11, r14⟩ := reply_cells hLr.rep
      obtain ⟨a0, a1, a2⟩ := ask_cells hLr.ask
      obtain ⟨t0, t1, t2⟩ := tab_cells hR.blk
      clear hj hbr hno hR hLr hlen
      by_cases hlt : j < n1
      · have hrd := own_rd HX.out
        obtain ⟨b9, o9, hA9, hb9, hc9⟩ := hrd.2 (by omega)
        have hj' : j < o.ids.length := by have := HLEN.out; omega
        have hcell : wr.cell? ⟨b9, o9 + j, none⟩ = some (.int .i64 o.ids[j]) := by
          rw [HBR.out.cell (p := ⟨b9, o9 + j, none⟩) hb9, hc9 j (by simpa using hj')]
          simp
        obtain ⟨hwf, e, hent, heo⟩ := (HR.out.ids obj o HO.out).2 o.ids[j] (List.getElem_mem hj')
        obtain ⟨kb, hkb⟩ : ∃ kb, kf o.ids[j] = some kb := by
          cases hkk : kf o.ids[j] with
          | some kb => exact ⟨kb, rfl⟩
          | none => rw [HR.out.noent _ hkk] at hent; cases hent
        obtain ⟨e', he', hid', hKn⟩ := HR.out.ents _ kb hkb
        obtain rfl : e' = e := Option.some.inj (he'.symm.trans hent)
        have hl := HR.out.imap.look hwf
        rw [hkb] at hl
        unfold ptrV at hl
        obtain ⟨A2, n2, c2, hA2, hn2, hc2, hb2, y1, y2, y3, y4⟩ := hKn.cells
        obtain ⟨k0, k1, k2, k3, k4, k5, k6, k7, k8, k9, k10, k11, k12, k13, k14, k15, k16, k17⟩ := known_cells hb2
        subst hA9
        generalize hidj : o.ids[j] = idj at *
        have HIDJ := Lib.hid hidj
        have HENT := Lib.hid hent
        have HEO := Lib.hid heo
        have HKB := Lib.hid hkb
        have HID := Lib.hid hid'
        have HKN := Lib.hid hKn
        have HB2 := Lib.hid hb2
        have HY2 := Lib.hid y2
        have HWF := Lib.hid hwf
        clear hidj hent heo hkb hid' hKn hb2 y2 y4 hrd hc9 he' hwf
        go_upto_region 9 with fail
        go_cut [53, 82] (fun i s wx => i = .int .i64 j ∧ s = .bool (!((tagOK e'.t && !e'.wk) && strongB e'.t e'.wk M.t M.wk)) ∧ Below wr.heap.size wr wx)
        case first =>
          clear k0 k1 k13 k14 k15 k16 k17 r3 r4 r5 r6 r7 r8 r9 r10 r11 r14 a0 a1 a2 t0 t1 t2 hcell hl
          have g2 := cell_regrown k2
          have g3 := cell_regrown k3
          have g4 := cell_regrown k4
          have g5 := cell_regrown k5
          have g6 := cell_regrown k6
          have g7 := cell_regrown k7
          have g8 := cell_regrown k8
          have g9 := cell_regrown k9
          have g10 := cell_regrown k10
          have g11 := cell_regrown k11
          have g12 := cell_regrown k12
          have g20 := cell_regrown r1
          have g21 := cell_regrown r2
          clear k2 k3 k4 k5 k6 k7 k8 k9 k10 k11 k12 r1 r2
          by_cases hjo : (tagOK e'.t && !e'.wk) = true
          case neg =>
            have HJO : Hid ((tagOK e'.t && !e'.wk) = false) := by
              show (tagOK e'.t && !e'.wk) = false
              simpa using hjo
            have c85 : ∀ d os, Calls Tryz.prog 85 #[.agg (metaC e'.t e'.wk e'.mo e'.le e'.ha e'.fr e'.wh e'.er A2 n2 c2 e'.ten e'.kp)] (grow (redrawn wr d) os) fun en w'' => en = .returned (.bool false) ∧ ∃ p : Regrown, w'' = grow (redrawn wr p.d) p.os := fun d os => Calls.regrown_of (joins_no _ _ _ _ _ _ _ _ _ _ _ _ _ _ HJO.out)
            clear hjo
            refine wp_region_quiet_below (by kernel_rfl) (by kernel_rfl) ?_
            repeat (go_big_quiet_step (exact c85 _ _))
            refine wpQuiet_nil ?_
            intro _ hw'
            obtain ⟨⟨dq, osq⟩, hw''⟩ := hw'
            subst hw''
            go_wp2_with fail
            go_meet
            exact ⟨rfl, by rw [HJO.out]; rfl, below_regrown wr dq osq⟩
          have HJO := Lib.hid hjo
          have c85 : ∀ d os, Calls Tryz.prog 85 #[.agg (metaC e'.t e'.wk e'.mo e'.le e'.ha e'.fr e'.wh e'.er A2 n2 c2 e'.ten e'.kp)] (grow (redrawn wr d) os) fun en w'' => en = .returned (.bool true) ∧ ∃ p : Regrown, w'' = grow (redrawn wr p.d) p.os := fun d os => Calls.regrown_of (joins_yes _ _ _ _ _ _ _ _ _ _ _ _ _ _ HJO.out)
          have c86 : ∀ d os, Calls Tryz.prog 86 #[.agg #[.string e'.t, .bool e'.wk], .agg #[.string M.t, .bool M.wk]] (grow (redrawn wr d) os) fun en w'' => en = .returned (.bool (strongB e'.t e'.wk M.t M.wk)) ∧ ∃ p : Regrown, w'' = grow (redrawn wr p.d) p.os := fun d os => Calls.regrown_of (tagStrong_any _ _ _ _ _)
          clear hjo
          refine wp_region_quiet_below (by kernel_rfl) (by kernel_rfl) ?_
          repeat (go_big_quiet_step (first | exact c85 _ _ | exact c86 _ _))
          refine wpQuiet_nil ?_
          intro _ hw'
          obtain ⟨⟨dq, osq⟩, hw''⟩ := hw'
          subst hw''
          go_wp2_with fail
          go_meet
          exact ⟨rfl, by rw [HJO.out]; rfl, below_regrown wr dq osq⟩
        case rest =>
          obtain ⟨rfl, rfl, hbx⟩ := hcut
          have HBX := Lib.hid hbx
          clear hbx k0 k1 k2 k3 k4 k5 k6 k7 k8 k9 k10 k11 k12 k13 k14 k15 k16 k17 r1 r2 r3 r4 r5 r6 r7 r8 r9 r10 r11 r14 a0 a1 a2 t0 t1 t2 hcell hl
          have HMB : Hid (matchB (T.withObj obj) M idj = ((tagOK e'.t && !e'.wk) && strongB e'.t e'.wk M.t M.wk)) := by
            show matchB (T.withObj obj) M idj = ((tagOK e'.t && !e'.wk) && strongB e'.t e'.wk M.t M.wk)
            unfold matchB
            rw [HENT.out]
          by_cases hmt : ((tagOK e'.t && !e'.wk) && strongB e'.t e'.wk M.t M.wk) = true
          case neg =>
            have hmt : ((tagOK e'.t && !e'.wk) && strongB e'.t e'.wk M.t M.wk) = false := by simpa using hmt
            have HMT := Lib.hid hmt
            rw [hmt]
            clear hmt
            go_wp2_with fail
            go_roundg (gk - 1)
            case measure => have := HJ.out; omega
            case rel =>
              refine ⟨j + 1, by have := HJ.out; omega, by go_num, HBR.out.trans (HBX.out.mono HBR.out.size), fun x hx => ?_⟩
              rw [List.take_succ_eq_append_getElem hj'] at hx
              rcases List.mem_append.1 hx with hx | hx
              · exact HN.out x hx
              · have : x = idj := by rw [← HIDJ.out]; simpa using hx
                rw [this, HMB.out, HMT.out]
          have HMT := Lib.hid hmt
          rw [hmt]
          clear hmt
          obtain ⟨wm, rfl⟩ : ∃ x : World, x = wc := ⟨_, rfl⟩
          have hRm := HR.out.grow HBX.out
          have hLm := HLR.out.below HBX.out
          have hKm := HKN.out.kept (gby_of_below HBX.out) (by simp) (by simp)
          have hbm := HB2.out.below HBX.out HB2.out.lt
          have hym := own_kept HY2.out (gby_of_below HBX.out) (by simp)
          have hn2le : n2 ≤ 1000 := by have := own_len HY2.out; have := HKN.out.keys; simp at *; omega
          obtain ⟨k0, k1, k2, k3, k4, k5, k6, k7, k8, k9, k10, k11, k12, k13, k14, k15, k16, k17⟩ := known_cells hbm
          obtain ⟨r1, r2, r3, r4, r5, r6, r7, r8, r9, r10, r11, r14⟩ := reply_cells hLm.rep
          have HRM := Lib.hid hRm
          have HLM := Lib.hid hLm
          have HKM := Lib.hid hKm
          have HBM := Lib.hid hbm
          have HYM := Lib.hid hym
          clear hRm hLm hKm hbm hym HR HLR HKN HB2 HY2
          go_upto_region 10 with fail
          go_cut [90] (fun s wx => s = .bool (e'.followB M) ∧ Below wm.heap.size wm wx)
          case first =>
            clear k0 k1 k13 k14 k15 k16 k17 r14
            have g2 := cell_regrown k2
            have g3 := cell_regrown k3
            have g4 := cell_regrown k4
            have g5 := cell_regrown k5
            have g6 := cell_regrown k6
            have g7 := cell_regrown k7
            have g8 := cell_regrown k8
            have g9 := cell_regrown k9
            have g10 := cell_regrown k10
            have g11 := cell_regrown k11
            have g12 := cell_regrown k12
            have f1 := cell_regrown r1
            have f2 := cell_regrown r2
            have f3 := cell_regrown r3
            have f4 := cell_regrown r4
            have f5 := cell_regrown r5
            have f6 := cell_regrown r6
            have f7 := cell_regrown r7
            have f8 := cell_regrown r8
            have f9 := cell_regrown r9
            have f10 := cell_regrown r10
            have f11 := cell_regrown r11
            clear k2 k3 k4 k5 k6 k7 k8 k9 k10 k11 k12 r1 r2 r3 r4 r5 r6 r7 r8 r9 r10 r11
            have c87 : ∀ d os, Calls Tryz.prog 87 #[.agg (metaC e'.t e'.wk e'.mo e'.le e'.ha e'.fr e'.wh e'.er A2 n2 c2 e'.ten e'.kp), .agg (metaC M.t M.wk M.mo M.le M.ha M.fr M.wh M.er A n c M.ten M.kp)] (grow (redrawn wm d) os) fun en w'' => en = .returned (.bool (e'.followB M)) ∧ ∃ p : Regrown, w'' = grow (redrawn wm p.d) p.os := fun d os =>
              Calls.regrown_of (metaFollows_any e'.t e'.wk e'.mo e'.le e'.ha e'.fr e'.wh e'.er A2 n2 c2 e'.ten e'.kp e'.ks M.t M.wk M.mo M.le M.ha M.fr M.wh M.er A n c M.ten M.kp M.ks _ (Rd.below (own_rd HYM.out) (below_regrown wm d os) (below_regrown wm d os).size)
                (HLM.out.keys.below ((below_regrown wm d os).mono (by have := HLM.out.low; have := HLM.out.size; omega)) (by have := HLM.out.low; have := HLM.out.size; have := (below_regrown wm d os).size; omega)) (by omega) hn y1 hnc)
            refine wp_region_quiet_below (by kernel_rfl) (by kernel_rfl) ?_
            repeat (go_big_quiet_step (exact c87 _ _))
            refine wpQuiet_nil ?_
            intro _ hw'
            obtain ⟨⟨dq, osq⟩, hw''⟩ := hw'
            subst hw''
            go_wp2_with fail
            go_meet
            exact ⟨rfl, below_regrown wm dq osq⟩
          case rest =>
            obtain ⟨rfl, hbf⟩ := hcut
            clear k0 k1 k2 k3 k4 k5 k6 k7 k8 k9 k10 k11 k12 k13 k14 k15 k16 k17 r1 r2 r3 r4 r5 r6 r7 r8 r9 r10 r11 r14
            obtain ⟨wf, rfl⟩ : ∃ x : World, x = wc := ⟨_, rfl⟩
            have hRf := HRM.out.grow hbf
            have hLf := HLM.out.below hbf
            have hKf := HKM.out.kept (gby_of_below hbf) (by simp) (by simp)
            have hbkf := HBM.out.below hbf HBM.out.lt
            have HRF := Lib.hid hRf
            have HLF := Lib.hid hLf
            have HKF := Lib.hid hKf
            have HBF := Lib.hid hbkf
            have HBB := Lib.hid (HBR.out.trans ((HBX.out.trans (hbf.mono HBX.out.size)).mono HBR.out.size))
            clear hRf hLf hKf hbkf hbf HRM HLM HKM HBM HYM HBX
            go_upto_if 90 with fail
            go_cut [] (fun wx => TabR wx base tb (m + 1) ((T.withObj obj).setEnt (e'.follow M)) be bo kf of1 rf1 ∧ LandW w wx base st M A n c sf sto age ti mo ge ∧ Keeps base wf wx)
            case first =>
              by_cases hfo : e'.followB M = true
              case neg =>
                have hfo : e'.followB M = false := by simpa using hfo
                have HFO := Lib.hid hfo
                rw [hfo]
                clear hfo
                go_wp2_with fail
                go_meet
                refine ⟨?_, HLF.out, Keeps.refl _ _⟩
                have : e'.follow M = e' := by unfold Ent.follow; rw [HFO.out]; rfl
                rw [this, setEnt_self _ _ (by rw [HID.out]; exact HENT.out)]
                exact HRF.out
              have HFO := Lib.hid hfo
              rw [hfo]
              clear hfo
              obtain ⟨r1, r2, r3, r4, r5, r6, r7, r8, r9, r10, r11, r14⟩ := reply_cells HLF.out.rep
              go_wp2_with fail
              refine (copied_any M.t M.wk M.mo M.le M.ha M.fr M.wh M.er A n c M.ten M.kp M.ks _ (HLF.out.keys.below (Below.refl _ _) (by have := HLF.out.low; have := HLF.out.size; omega)) (by have := HLF.out.keys.len; have := landOK_keys HOK.out; omega)).mono ?_
              rintro en wg ⟨⟨A', c', rfl, hown', hnc'⟩, hbg⟩
              clear r1 r2 r3 r4 r5 r6 r7 r8 r9 r10 r11 r14
              have hbkg := HBF.out.below hbg HBF.out.lt
              obtain ⟨k0, k1, k2, k3, k4, k5, k6, k7, k8, k9, k10, k11, k12, k13, k14, k15, k16, k17⟩ := known_cells hbkg
              have hfr := hbkg.free'
              have HBG := Lib.hid hbg
              have HBKG := Lib.hid hbkg
              have HOW' := Lib.hid hown'
              clear hbg hbkg hown' k0 k1 k13 k14 k15 k16 k17
              go_wp2_with fail
              go_meet
              obtain ⟨A3, n3, c3, hA3, hn3, hc3, hb3, z1, z2, z3, z4⟩ := HKF.out.cells
              have hsame : #[Value.slice A3 n3 c3, Value.slice hA3 hn3 hc3] = #[Value.slice A2 n2 c2, Value.slice hA2 hn2 hc2] := by
                have e1 := hb3.cell 10
                have e2 := HBF.out.cell 10
                have e3 := hb3.cell 17
                have e4 := HBF.out.cell 17
                rw [e1] at e2
                rw [e3] at e4
                have e5 : Value.slice A3 n3 c3 = Value.slice A2 n2 c2 := Option.some.inj e2
                have e6 : Value.slice hA3 hn3 hc3 = Value.slice hA2 hn2 hc2 := Option.some.inj e4
                rw [e5, e6]
              simp only [Array.mk.injEq, List.cons.injEq, Value.slice.injEq, and_true] at hsame
              obtain ⟨⟨rfl, rfl, rfl⟩, rfl, rfl, rfl⟩ := hsame
              have hgrow := gby_of_below HBG.out
              obtain ⟨hKK, hGG⟩ := known_meta (M := M) (A' := A') (n := n) (c' := c') HBKG.out HKF.out.low HKF.out.name (landOK_keys HOK.out) hnc' (own_base HOW'.out (by have := HLF.out.low; have := HLF.out.size; omega)) z3 (own_kept z4 hgrow (by simp)) rfl
              have hfw : e'.follow M = e'.withMeta M := by unfold Ent.follow; rw [HFO.out]; rfl
              have hkp : Keeps base wf _ := (Keeps.of_below HBG.out HRF.out.lows).trans (Keeps.of_grown hGG (by have := HRF.out.lows; have := HBG.out.size; omega) HKF.out.low (fun t ht => by rw [HBKG.out.ty] at ht; injection ht with ht; exact .inr (.inl ht.symm)))
              refine ⟨?_, HLF.out.keeps hkp, hkp⟩
              rw [hfw]
              exact (HRF.out.grow HBG.out).updEnt (e := e'.withMeta M) (g := kb) (by show kf e'.id = some kb; rw [HID.out]; exact HKB.out) (fun e0 h0 => by
                have h0' : (T.withObj obj).ents e'.id = some e0 := h0
                rw [HID.out, HENT.out] at h0'
                rw [← Option.some.inj h0']
                rfl) hGG hKK
            case rest =>
              obtain ⟨hR2, hL2, hk2⟩ := hcut
              obtain ⟨a0, a1, a2⟩ := ask_cells hL2.ask
              have HR2 := Lib.hid hR2
              have HL2 := Lib.hid hL2
              have HK2 := Lib.hid hk2
              clear hR2 hL2 hk2
              have HE1 : Hid (((T.withObj obj).setEnt (e'.follow M)).ents (e'.follow M).id = some (e'.follow M)) := by
                show ((T.withObj obj).setEnt (e'.follow M)).ents (e'.follow M).id = some (e'.follow M)
                simp [TabS.setEnt]
              go_wp2_with fail
              refine (say_tab HR2.out (e := e'.follow M) (g := kb) (by rw [Ent.follow_id, HID.out]; exact HKB.out) HE1.out _ _ _ _).mono ?_
              rintro en ws ⟨rfl, hk3, hR3⟩
              obtain ⟨b0, b1, b2⟩ := ask_cells (HL2.out.keeps hk3).ask
              have HR3 := Lib.hid hR3
              have HK3 := Lib.hid hk3
              clear hR3 hk3 a0 a1 a2
              go_wp2_with fail
              refine (take_tab HR3.out HG1.out (o := o) (by show (T.withObj obj).objs obj = some o; exact HO.out) _ _ HWF.out).mono ?_
              rintro en w9 ⟨rfl, hk4, hR4⟩
              have HR4 := Lib.hid hR4
              have HK4 := Lib.hid hk4
              clear hR4 hk4 b0 b1 b2
              go_wp2_with fail
              have hfind : o.ids.find? (matchB (T.withObj obj) M) = some idj := by
                have := find_first o.ids j hj' HN.out (by rw [HIDJ.out, HMB.out]; exact HMT.out)
                rw [this, HIDJ.out]
              refine HYES.out HOK.out w9 _ idj false ?_ ?_ ⟨be, bo, kf, of1, rf1, HR4.out.mono (by omega)⟩
              · rw [setEnt_setEnt _ _ _ (by rw [Ent.say_id])]
                simp only [landS, HO.out, hfind, HENT.out]
              · have k1 : Keeps base w _ := (Keeps.of_below HB1.out HT.out.lows).trans HK1.out
                have k2 : Keeps base w1 wf := Keeps.of_below HBB.out H1.out.lows
                exact (((k1.trans k2).trans HK2.out).trans HK3.out).trans HK4.out
      · have hjn : j = n1 := by have := HJ.out; omega
        have hnone : o.ids.find? (matchB (T.withObj obj) M) = none := find_none _ (fun x hx => HN.out x (by rw [hjn, ← HLEN.out, List.take_length]; exact hx))
        have HNONE := Lib.hid hnone
        have hfr := HR.out.blk.free'
        have hnx : 1 ≤ T.next ∧ T.next ≤ 1099511627776 + 100000 := by have := HR.out.next; rw [withObj_next] at this; omega
        rw [withObj_next] at t0
        clear hnone hjn r1 r2 r3 r4 r5 r6 r7 r8 r9 r10 r11 r14 a0 a1 a2
        go_upto_region 18 with fail
        obtain ⟨wn, hwn⟩ : ∃ x : World, x = wr.setCell ⟨tb, 0, none⟩ (.int .i64 (T.next + 1)) := ⟨_, rfl⟩
        have hRn : TabR wn base tb (m + 2) { T.withObj obj with next := (T.withObj obj).next + 1 } be bo kf of1 rf1 := by
          rw [hwn]
          refine HR.out.updNext (gby_set (gby_refl _ _) _ _) ?_
          have := HR.out.blk.set 0 (.int .i64 (T.next + 1))
          rw [withObj_next]
          exact this
        have hkn : Keeps base wr wn := by
          rw [hwn]
          exact Keeps.of_grown (gby_set (gby_refl _ _) _ _) HR.out.lows HR.out.low.1 (fun t ht => by rw [HR.out.blk.ty] at ht; injection ht with ht; exact .inl ht.symm)
        rw [← hwn]
        have hLn := (HLR.out.keeps hkn).drew
        have HRN := Lib.hid hRn.drew
        have HLN := Lib.hid hLn
        have HKN := Lib.hid hkn
        clear hwn hRn hkn t0 t1 t2 hfr
        obtain ⟨r1, r2, r3, r4, r5, r6, r7, r8, r9, r10, r11, r14⟩ := reply_cells (HLR.out.keeps HKN.out).rep
        obtain ⟨a0, a1, a2⟩ := ask_cells (HLR.out.keeps HKN.out).ask
        clear hLn
        have HKID : Hid (kf T.next = none) := by
          show kf T.next = none
          cases hkk : kf T.next with
          | none => rfl
          | some kk =>
            obtain ⟨e9, h9, _, _⟩ := HR.out.ents _ _ hkk
            have := HR.out.idlt _ _ h9
            rw [withObj_next] at this
            omega
        have HT2 : Hid (({ T.withObj obj with next := (T.withObj obj).next + 1 } : TabS).withObj obj = { T.withObj obj with next := (T.withObj obj).next + 1 }) := by
          show ({ T.withObj obj with next := (T.withObj obj).next + 1 } : TabS).withObj obj = { T.withObj obj with next := (T.withObj obj).next + 1 }
          unfold TabS.withObj
          have := HO.out
          unfold TabS.withObj at this
          simp only [this]
        have S1 : Hid (1 ≤ (newEnt T.next obj M (saidOf ti age) mo ge).id ∧ (newEnt T.next obj M (saidOf ti age) mo ge).id < ({ T.withObj obj with next := (T.withObj obj).next + 1 } : TabS).next) := by
          show 1 ≤ T.next ∧ T.next < (T.withObj obj).next + 1
          rw [withObj_next]; omega
        have S2 : Hid ((Lit.int .i64 (newEnt T.next obj M (saidOf ti age) mo ge).id).wf = true) := by
          show (Lit.int .i64 T.next).wf = true
          exact wf_i64 (by omega) (by omega)
        have S3 : Hid ((newEnt T.next obj M (saidOf ti age) mo ge).ks.length ≤ 1000) := by
          show M.ks.length ≤ 1000
          have := landOK_keys HOK.out; omega
        have S4 : Hid ((newEnt T.next obj M (saidOf ti age) mo ge).obj.size ≤ maxLen) := objOK_size (landOK_obj HOK.out)
        go_cut [] (fun wx => ∃ kb5 of5 rf5, of5 obj = some g ∧ Keeps base wn wx ∧ TabR wx base tb (m + 4) (({ T.withObj obj with next := (T.withObj obj).next + 1 } : TabS).addEnt o (newEnt T.next obj M (saidOf ti age) mo ge)) be bo (fun y => if y = T.next then some kb5 else kf y) of5 rf5)
        case first =>
          go_region_held3 (fun w' => w'.cell? ⟨w.heap.size, 1, none⟩ = some (.string M.t) ∧ w'.cell? ⟨w.heap.size, 2, none⟩ = some (.bool M.wk) ∧ w'.cell? ⟨w.heap.size, 3, none⟩ = some (.int .i64 M.mo) ∧ w'.cell? ⟨w.heap.size, 4, none⟩ = some (.int .i64 M.le) ∧ w'.cell? ⟨w.heap.size, 5, none⟩ = some (.int .i64 M.ha) ∧ w'.cell? ⟨w.heap.size, 6, none⟩ = some (.int .i64 M.fr) ∧ w'.cell? ⟨w.heap.size, 7, none⟩ = some (.int .i64 M.wh) ∧ w'.cell? ⟨w.heap.size, 8, none⟩ = some (.int .i64 M.er) ∧ w'.cell? ⟨w.heap.size, 9, none⟩ = some (.slice A n c) ∧ w'.cell? ⟨w.heap.size, 10, none⟩ = some (.string M.ten) ∧ w'.cell? ⟨w.heap.size, 11, none⟩ = some (.bool M.kp) ∧ w'.cell? ⟨w.heap.size + 1, 1, none⟩ = some (.int .i64 mo) ∧ w'.cell? ⟨w.heap.size + 1, 2, none⟩ = some (.int .i64 ge)) (first | exact ⟨s1, s2, s3, s4, s5, s6, s7, s8, s9, s10, s11, v1, v2⟩ | exact ⟨q1, q2, q3, q4, q5, q6, q7, q8, q9, q10, q11, p1, p2⟩ | go_keep) (first
            | (go_at_call 45; refine (copied_any M.t M.wk M.mo M.le M.ha M.fr M.wh M.er A n c M.ten M.kp M.ks _ (by exact HLN.out.keys.below (Below.refl _ _) (by have := HLN.out.low; have := HLN.out.size; omega)) (by have := HLN.out.keys.len; have := landOK_keys HOK.out; omega)).mono ?_; rintro en wp ⟨⟨A', c', rfl, hown', hnc'⟩, hbp⟩; (obtain ⟨p0, p1, p2⟩ := ask_cells (HLN.out.below hbp).ask); (obtain ⟨q1, q2, q3, q4, q5, q6, q7, q8, q9, q10, q11, q14⟩ := reply_cells (HLN.out.below hbp).rep); (have HBP := Lib.hid hbp); (have HOWP := Lib.hid hown'); clear hbp hown')
            | (go_at_call 46; refine (add_any (HRN.out.grow HBP.out) (e := (newEnt T.next obj M (saidOf ti age) mo ge)) (A := A') (n := n) (c := c') S4.out (by omega) HKID.out S1.out S2.out S3.out hnc' (own_base HOWP.out HRN.out.lows) rfl).mono ?_; rintro en wq ⟨rfl, hkq, o5, kb5, of5, rf5, ho5, hof5, hR5⟩; (obtain ⟨v0, v1, v2⟩ := ask_cells ((HLN.out.below HBP.out).keeps hkq).ask); (obtain ⟨s1, s2, s3, s4, s5, s6, s7, s8, s9, s10, s11, s14⟩ := reply_cells ((HLN.out.below HBP.out).keeps hkq).rep); (have HKQ := Lib.hid hkq); (have HO5 := Lib.hid ho5); (have HF5 := Lib.hid hof5); (have HR5 := Lib.hid hR5); clear hkq ho5 hof5 hR5))
          all_goals
            go_wp2_with fail
            go_meet
            have eo : o5 = o := by
              have h9 : ({ T.withObj obj with next := (T.withObj obj).next + 1 } : TabS).objs obj = some o5 := by
                have h8 := HO5.out
                rw [show (newEnt T.next obj M (saidOf ti age) mo ge).obj = obj from rfl, HT2.out] at h8
                exact h8
              exact Option.some.inj (h9.symm.trans HO.out)
            subst eo
            refine ⟨kb5, of5, rf5, HF5.out g HG1.out, ?_, ?_⟩
            · exact (keeps_drew.trans (Keeps.of_below HBP.out HRN.out.lows)).trans HKQ.out
            · have h8 := HR5.out
              rw [show (newEnt T.next obj M (saidOf ti age) mo ge).obj = obj from rfl, HT2.out] at h8
              exact h8
        case rest =>
          obtain ⟨kb5, of5, rf5, hof5, hkq, hR5⟩ := hcut
          clear r1 r2 r3 r4 r5 r6 r7 r8 r9 r10 r11 r14 a0 a1 a2
          obtain ⟨a0, a1, a2⟩ := ask_cells ((HLR.out.keeps HKN.out).keeps hkq).ask
          have HOF5 := Lib.hid hof5
          have HKQ := Lib.hid hkq
          have HR5 := Lib.hid hR5
          clear hof5 hkq hR5
          go_wp2_with fail
          refine (take_tab HR5.out HOF5.out (o := { o with ids := o.ids ++ [T.next] }) (by simp [TabS.addEnt, newEnt]) _ _ S2.out).mono ?_
          rintro en w9 ⟨rfl, hk4, hR4⟩
          have HR4 := Lib.hid hR4
          have HK4 := Lib.hid hk4
          clear hR4 hk4 a0 a1 a2
          go_wp2_with fail
          refine HYES.out HOK.out w9 _ T.next true ?_ ?_ ⟨be, bo, _, of5, rf5, HR4.out⟩
          · simp only [landS, HO.out, HNONE.out]
            rfl
          · have k1 : Keeps base w _ := (Keeps.of_below HB1.out HT.out.lows).trans HK1.out
            have k2 : Keeps base w1 wr := Keeps.of_below HBR.out H1.out.lows
            exact (((k1.trans k2).trans HKN.out).trans HKQ.out).trans HK4.out

end Go.Proofs.YtoaiamgcegnjjaaGreatDoor
