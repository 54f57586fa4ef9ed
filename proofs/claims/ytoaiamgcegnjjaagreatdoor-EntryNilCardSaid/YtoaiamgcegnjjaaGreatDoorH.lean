/- A table in memory. No condition. -/
import Derived.Test.YtoaiamgcegnjjaaGreatDoorG
namespace Go.Proofs.YtoaiamgcegnjjaaGreatDoor
open Go.RowKit Go.Maps Go.WideMaps
set_option maxRecDepth 100000

/-- an entry -/
structure Ent where
  id : Int
  obj : ByteArray
  t : ByteArray
  wk : Bool
  mo : Int
  le : Int
  ha : Int
  fr : Int
  wh : Int
  er : Int
  ks : List ByteArray
  ten : ByteArray
  kp : Bool
  said : Int
  mom : Int
  gen : Int
  has : List (Int × Int)

/-- an object -/
structure ObjS where
  mom : Int
  told : Int
  ids : List Int

/-- a table -/
structure TabS where
  next : Int
  ents : Int → Option Ent
  objs : ByteArray → Option ObjS

def spanCells (l : List (Int × Int)) : List Value := l.flatMap fun p => [.int .i64 p.1, .int .i64 p.2]

abbrev kCells (e : Ent) (A : Option Addr) (n c : Nat) (hv : Value) : Array Value :=
  #[.int .i64 e.id, .string e.obj, .string e.t, .bool e.wk, .int .i64 e.mo, .int .i64 e.le, .int .i64 e.ha, .int .i64 e.fr, .int .i64 e.wh, .int .i64 e.er, .slice A n c, .string e.ten, .bool e.kp,
    .int .i64 e.said, .int .i64 e.mom, .int .i64 e.gen, .bool false, hv]

/-- Block g holds the entry e. -/
structure Known (w : World) (base g : Nat) (e : Ent) : Prop where
  low : base ≤ g
  keys : e.ks.length ≤ 1000
  name : e.obj.size ≤ maxLen
  cells : ∃ A n c hA hn hc, Blk w g 125 (kCells e A n c (.slice hA hn hc)) ∧ n ≤ c ∧ w.ownsRow base 9 1 (.slice A n c) n (e.ks.map Value.string) ∧ hn ≤ hc ∧ w.ownsRow base 41 2 (.slice hA hn hc) hn (spanCells e.has)

/-- Block g holds the object o, whose numbers lie in the row r. -/
structure ObjAt (w : World) (base g : Nat) (r : Option Nat) (o : ObjS) : Prop where
  low : base ≤ g
  cells : ∃ A n c, Blk w g 121 #[.int .i64 o.mom, .int .i64 o.told, .slice A n c] ∧ n ≤ c ∧ w.ownsRow base 2 1 (.slice A n c) n (o.ids.map (Value.int .i64)) ∧ (Value.slice A n c).ownBlock = r

theorem own_len {w : World} {base e n : Nat} {v : Value} {xs : List Value} (h : w.ownsRow base e 1 v n xs) : xs.length = n := by have := h.1; simpa using this

theorem own_ne {w : World} {base e size n g : Nat} {v : Value} {xs : List Value} {t : TypeId} {cs : Array Value} (h : w.ownsRow base e size v n xs) (hb : Blk w g t cs) (hne : e ≠ t) : v.ownBlock ≠ some g := by
  rcases h.2 with ⟨rfl, _⟩ | ⟨g', cap, cur, rfl, _, hg, _⟩
  · simp [Value.ownBlock]
  · intro he
    have : g' = g := by simpa [Value.ownBlock] using he
    subst this
    unfold Blk at hb
    rw [hg] at hb
    injection hb with hb
    injection hb with _ ht
    exact hne ht
theorem own_kept {w w' : World} {base e size n : Nat} {v : Value} {xs : List Value} {row : Option Nat} (h : w.ownsRow base e size v n xs) (hg : w.grownBy w' row) (hne : ∀ g, v.ownBlock = some g → row ≠ some g) : w'.ownsRow base e size v n xs :=
  h.kept hg (by cases hv : v.ownBlock with | none => exact .inl rfl | some g => exact .inr fun e => hne g hv e.symm)
theorem own_no_map {w : World} {base e size n b : Nat} {v : Value} {xs : List Value} {es : Array MapEntry} {cl : Nat} (h : w.ownsRow base e size v n xs) (hm : w.heap[b]? = some (.map es cl)) : v.ownBlock ≠ some b := by
  rcases h.2 with ⟨rfl, _⟩ | ⟨g', cap, cur, rfl, _, hg, _⟩
  · simp [Value.ownBlock]
  · intro he
    have : g' = b := by simpa [Value.ownBlock] using he
    subst this
    rw [hg] at hm
    cases hm

/-- What block k of w is, as far as it matters: the element type of its cells; nothing for a map. -/
def tyOf (w : World) (k : Nat) : Option TypeId := match w.heap[k]? with | some (.cells _ t _) => some t | _ => none
theorem Blk.ty {w : World} {g : Nat} {t : TypeId} {cs : Array Value} (h : Blk w g t cs) : tyOf w g = some t := by unfold Blk at h; simp [tyOf, h]
theorem own_ty {w : World} {base e size n g : Nat} {v : Value} {xs : List Value} (h : w.ownsRow base e size v n xs) (hg : v.ownBlock = some g) : tyOf w g = some e := by
  rcases h.2 with ⟨rfl, _⟩ | ⟨g', cap, cur, rfl, _, hh, _⟩
  · simp [Value.ownBlock] at hg
  · have : g' = g := by simpa [Value.ownBlock] using hg
    subst this
    simp [tyOf, hh]

/-- An entry stays while a block of another kind is written. -/
theorem Known.kept {w w' : World} {base g : Nat} {e : Ent} {row : Option Nat} (h : Known w base g e) (hg : w.grownBy w' row) (hne : row ≠ some g) (hty : ∀ k, row = some k → tyOf w k ≠ some 9 ∧ tyOf w k ≠ some 41) : Known w' base g e := by
  obtain ⟨A, n, c, hA, hn, hc, hb, h1, h2, h3, h4⟩ := h.cells
  refine ⟨h.low, h.keys, h.name, A, n, c, hA, hn, hc, hb.grown hg hne, h1, own_kept h2 hg (fun k hk e => (hty k e).1 (own_ty h2 hk)), h3, own_kept h4 hg (fun k hk e => (hty k e).2 (own_ty h4 hk))⟩
theorem ObjAt.kept {w w' : World} {base g : Nat} {r : Option Nat} {o : ObjS} {row : Option Nat} (h : ObjAt w base g r o) (hg : w.grownBy w' row) (hne : row ≠ some g) (hr : ∀ k, row = some k → r ≠ some k) : ObjAt w' base g r o := by
  obtain ⟨A, n, c, hb, h1, h2, h3⟩ := h.cells
  exact ⟨h.low, A, n, c, hb.grown hg hne, h1, own_kept h2 hg (fun k hk e => hr k e (h3 ▸ hk)), h3⟩

/-- Block tb of w is a table; all that it leads to lies from base on; there are at most m entries and objects. -/
structure TabR (w : World) (base tb m : Nat) (T : TabS) (be bo : Nat) (kf : Int → Option Nat) (of_ : ByteArray → Option Nat) (rf : ByteArray → Option Nat) : Prop where
  blk : Blk w tb 114 #[.int .i64 T.next, .map (some be), .map (some bo)]
  low : base ≤ tb ∧ base ≤ be ∧ base ≤ bo
  ne : be ≠ bo
  imap : IMap w be m kf
  smap : SMap w bo m of_
  ents : ∀ id g, kf id = some g → ∃ e, T.ents id = some e ∧ e.id = id ∧ Known w base g e
  noent : ∀ id, kf id = none → T.ents id = none
  objs : ∀ s g, of_ s = some g → ∃ o, T.objs s = some o ∧ ObjAt w base g (rf s) o
  noobj : ∀ s, of_ s = none → T.objs s = none
  kinj : ∀ i j g, kf i = some g → kf j = some g → i = j
  oinj : ∀ s u g, of_ s = some g → of_ u = some g → s = u
  rinj : ∀ s u r, (of_ s).isSome → (of_ u).isSome → rf s = some r → rf u = some r → s = u
  ids : ∀ s o, T.objs s = some o → o.ids.length ≤ m ∧ ∀ i ∈ o.ids, (Lit.int .i64 i).wf = true ∧ ∃ e, T.ents i = some e ∧ e.obj = s
  eobj : ∀ i e, T.ents i = some e → (T.objs e.obj).isSome
  told : ∀ s o, T.objs s = some o → (Lit.int .i64 o.told).wf = true
  idlt : ∀ i e, T.ents i = some e → 1 ≤ i ∧ i < T.next
  next : 1 ≤ T.next ∧ T.next ≤ 1099511627776 + m

def Tab (w : World) (base tb m : Nat) (T : TabS) : Prop := ∃ be bo kf of_ rf, TabR w base tb m T be bo kf of_ rf

/-- From w to w' only blocks of a table's kinds have turned, and none below base. -/
structure Keeps (base : Nat) (w w' : World) : Prop where
  below : Below base w w'
  old : ∀ k t, tyOf w k = some t → t ≠ 114 → t ≠ 125 → t ≠ 121 → t ≠ 2 → w'.heap[k]? = w.heap[k]?

theorem tyOf_lt {w : World} {k : Nat} {t : TypeId} (h : tyOf w k = some t) : k < w.heap.size := by
  unfold tyOf at h
  split at h
  · rename_i hh; exact (Array.getElem?_eq_some_iff.1 hh).1
  · cases h
theorem Keeps.refl (base : Nat) (w : World) : Keeps base w w := ⟨Below.refl _ _, fun _ _ _ _ _ _ _ => rfl⟩
theorem Keeps.trans {base : Nat} {a b c : World} (h : Keeps base a b) (k : Keeps base b c) : Keeps base a c :=
  ⟨h.below.trans k.below, fun i t hi h1 h2 h3 h4 => by
    have e1 := h.old i t hi h1 h2 h3 h4
    have : tyOf b i = some t := by unfold tyOf at hi ⊢; rw [e1]; exact hi
    exact (k.old i t this h1 h2 h3 h4).trans e1⟩
theorem Keeps.of_below {base : Nat} {w w' : World} (h : Below w.heap.size w w') (hb : base ≤ w.heap.size) : Keeps base w w' :=
  ⟨h.mono hb, fun k _ hk _ _ _ _ => h.block k (tyOf_lt hk)⟩
theorem Keeps.of_grown {base : Nat} {w w' : World} {g : Nat} (h : w.grownBy w' (some g)) (hb : base ≤ w.heap.size) (hg : base ≤ g) (ht : ∀ t, tyOf w g = some t → t = 114 ∨ t = 125 ∨ t = 121 ∨ t = 2) : Keeps base w w' :=
  ⟨grown_below h hb (fun k hk => by injection hk with hk; omega), fun k t hk h1 h2 h3 h4 => by
    refine h.block k (tyOf_lt hk) (fun e => ?_)
    injection e with e
    subst e
    rcases ht t hk with h | h | h | h
    · exact h1 h
    · exact h2 h
    · exact h3 h
    · exact h4 h⟩

end Go.Proofs.YtoaiamgcegnjjaaGreatDoor
