/- What stays in memory while a table changes: slices that are only read; the reference's tables. No condition. The reference's small looks: number, asked, newest, find, Last. No condition. The reference's anew and with. No condition. -/
import Derived.Test.YtoaiamgcegnjjaaGreatDoorMD
import Derived.Deep.MidRow
import Derived.Great.Walk
namespace Go.Proofs.YtoaiamgcegnjjaaGreatDoor
open Go.RowKit Go.Maps Go.WideMaps Go.Sort
set_option maxRecDepth 100000

/-- Block b is old, or of a kind that no table's work turns. -/
def Perm (w : World) (base b : Nat) : Prop := b < base ∨ ∃ t, tyOf w b = some t ∧ t ≠ 114 ∧ t ≠ 125 ∧ t ≠ 121 ∧ t ≠ 2

theorem tyOf_of {w w' : World} {b : Nat} (h : w'.heap[b]? = w.heap[b]?) : tyOf w' b = tyOf w b := by unfold tyOf; rw [h]
theorem Perm.keeps {w w' : World} {base b : Nat} (h : Perm w base b) (hk : Keeps base w w') : Perm w' base b ∧ w'.heap[b]? = w.heap[b]? := by
  rcases h with h | ⟨t, ht, h1, h2, h3, h4⟩
  · exact ⟨.inl h, hk.below.block b h⟩
  · have e := hk.old b t ht h1 h2 h3 h4
    exact ⟨.inr ⟨t, (tyOf_of e).trans ht, h1, h2, h3, h4⟩, e⟩

/-- A slice of n elements of sz cells each that reads as the cells xs, and stays while a table changes. -/
def PR (w : World) (base sz : Nat) (A : Option Addr) (n : Nat) (xs : List Value) : Prop :=
  xs.length = n * sz ∧ (0 < n → ∃ b o, A = some ⟨b, o, none⟩ ∧ Perm w base b ∧ b < w.heap.size ∧ ∀ j (hj : j < xs.length), w.cell? ⟨b, o + j, none⟩ = some xs[j])

section
variable {w w' : World} {base sz n : Nat} {A : Option Addr} {xs : List Value}
theorem PR.rd (h : PR w base sz A n xs) : Rd w w.heap.size sz A n xs :=
  ⟨h.1, fun hn => by
    obtain ⟨b, o, e, _, hb, hc⟩ := h.2 hn
    exact ⟨b, o, e, hb, hc⟩⟩
theorem PR.nil : PR w base sz A 0 [] := ⟨by simp, fun h => absurd h (by omega)⟩
theorem PR.keeps (h : PR w base sz A n xs) (hk : Keeps base w w') : PR w' base sz A n xs :=
  ⟨h.1, fun hn => by
    obtain ⟨b, o, e, hp, hb, hc⟩ := h.2 hn
    obtain ⟨hp', he⟩ := hp.keeps hk
    exact ⟨b, o, e, hp', Nat.lt_of_lt_of_le hb hk.below.size, fun j hj => (World.cell?_of_block he).trans (hc j hj)⟩⟩
theorem PR.below (h : PR w base sz A n xs) (hb : Below w.heap.size w w') (hB : base ≤ w.heap.size) : PR w' base sz A n xs := h.keeps (Keeps.of_below hb hB)
theorem PR.of_own {B e c : Nat} (h : w.ownsRow B e sz (.slice A n c) n xs) (h1 : e ≠ 114) (h2 : e ≠ 125) (h3 : e ≠ 121) (h4 : e ≠ 2) : PR w base sz A n xs :=
  ⟨h.1, fun hn => by
    obtain ⟨b, o, e', hb, hc⟩ := (own_rd h).2 hn
    subst e'
    have ho : (Value.slice (some ⟨b, o, none⟩) n c).ownBlock = some b := by
      rcases h.2 with ⟨hv, _⟩ | ⟨g, cap, cur, hv, _⟩
      · injection hv with hA; cases hA
      · injection hv with hA
        injection hA with hA
        injection hA with hA ho
        subst hA ho
        rfl
    exact ⟨b, o, rfl, .inr ⟨e, own_ty h ho, h1, h2, h3, h4⟩, hb, hc⟩⟩
theorem PR.of_old (h : Rd w base sz A n xs) (hB : base ≤ w.heap.size) : PR w base sz A n xs :=
  ⟨h.1, fun hn => by
    obtain ⟨b, o, e, hb, hc⟩ := h.2 hn
    exact ⟨b, o, e, .inl hb, by omega, hc⟩⟩
theorem PR.take (h : PR w base sz A n xs) {k : Nat} (hk : k ≤ n) : PR w base sz A k (xs.take (k * sz)) := by
  refine ⟨?_, fun hn => ?_⟩
  · rw [List.length_take, h.1]
    exact Nat.min_eq_left (Nat.mul_le_mul_right _ hk)
  · obtain ⟨b, o, e, hp, hb, hc⟩ := h.2 (by omega)
    refine ⟨b, o, e, hp, hb, fun j hj => ?_⟩
    rw [hc j (by rw [List.length_take] at hj; omega)]
    simp
end

/-- rows of one length, laid end to end -/
theorem flat_len {α : Type} (f : α → List Value) (k : Nat) (hf : ∀ a, (f a).length = k) (l : List α) : (l.flatMap f).length = l.length * k := by
  induction l with
  | nil => simp
  | cons a l ih => simp [List.flatMap_cons, ih, hf, Nat.succ_mul]; omega
theorem flat_get {α : Type} (f : α → List Value) (k : Nat) (hf : ∀ a, (f a).length = k) (l : List α) (i j : Nat) (hi : i < l.length) (hj : j < k) : (l.flatMap f)[i * k + j]? = (f l[i])[j]? := by
  induction l generalizing i with
  | nil => simp at hi
  | cons a l ih =>
    rw [List.flatMap_cons]
    cases i with
    | zero => simp only [Nat.zero_mul, Nat.zero_add, List.getElem_cons_zero]; rw [List.getElem?_append_left (by rw [hf]; exact hj)]
    | succ i =>
      rw [List.getElem?_append_right (by rw [hf, Nat.succ_mul]; omega), hf, show (i + 1) * k + j - k = i * k + j by rw [Nat.succ_mul]; omega]
      simp only [List.getElem_cons_succ]
      exact ih i (by simpa using hi)

/-- A row of such a slice, at its own place. -/
theorem PR.row {α : Type} {f : α → List Value} {k : Nat} (hf : ∀ a, (f a).length = k) {w : World} {base n : Nat} {A : Option Addr} {l : List α} (h : PR w base k A n (l.flatMap f)) (hk : 0 < k) :
    l.length = n ∧ ∀ i (hi : i < l.length), ∃ b o, A = some ⟨b, o, none⟩ ∧ b < w.heap.size ∧ w.rangeAt b (o + i * k) (f l[i]) := by
  have hl : l.length = n := by
    have := h.1
    rw [flat_len f k hf] at this
    exact Nat.eq_of_mul_eq_mul_right hk this
  refine ⟨hl, fun i hi => ?_⟩
  obtain ⟨b, o, e, _, hb, hc⟩ := h.2 (by omega)
  refine ⟨b, o, e, hb, fun j v hv => ?_⟩
  have hj : j < k := by have := (List.getElem?_eq_some_iff.1 hv).1; rw [hf] at this; exact this
  have hg := flat_get f k hf l i j hi hj
  rw [hv] at hg
  obtain ⟨hlt, he⟩ := List.getElem?_eq_some_iff.1 hg
  have := hc (i * k + j) hlt
  rw [he] at this
  rw [Nat.add_assoc]
  exact this

/-- the reference's entry -/
structure RE where
  id : Int
  obj : ByteArray
  M : MetaS
  said : Int
  mom : Int
  gen : Int
  last : Bool
  has : List (Int × Int)
/-- .. in memory: where its keys and its spans lie -/
structure RM where
  e : RE
  kA : Option Addr
  kn : Nat
  kc : Nat
  hA : Option Addr
  hn : Nat
  hc : Nat
abbrev RM.row (r : RM) : Array Value :=
  #[.int .i64 r.e.id, .string r.e.obj, .string r.e.M.t, .bool r.e.M.wk, .int .i64 r.e.M.mo, .int .i64 r.e.M.le, .int .i64 r.e.M.ha, .int .i64 r.e.M.fr, .int .i64 r.e.M.wh, .int .i64 r.e.M.er, .slice r.kA r.kn r.kc, .string r.e.M.ten, .bool r.e.M.kp,
    .int .i64 r.e.said, .int .i64 r.e.mom, .int .i64 r.e.gen, .bool r.e.last, .slice r.hA r.hn r.hc]
def RM.cells (r : RM) : List Value := r.row.toList
theorem RM.cells_len (r : RM) : r.cells.length = 18 := rfl
structure RM.Ok (w : World) (base : Nat) (r : RM) : Prop where
  keys : PR w base 1 r.kA r.kn (r.e.M.ks.map Value.string)
  kc : r.kn ≤ r.kc
  few : r.e.M.ks.length ≤ 1000
  has : PR w base 2 r.hA r.hn (spanCells r.e.has)
  hc : r.hn ≤ r.hc
  spans : r.e.has.length ≤ 1000

/-- the reference's table -/
structure RTab where
  L : List RE
  N : List (ByteArray × Int)
  next : Int
def nwCells (p : ByteArray × Int) : List Value := [.string p.1, .int .i64 p.2]
theorem nwCells_len (p : ByteArray × Int) : (nwCells p).length = 2 := rfl

/-- The value v is the reference's table x, of at most m entries and newest moments. -/
structure RT (w : World) (base m : Nat) (v : Array Value) (x : RTab) (LA : Option Addr) (ln lc : Nat) (NA : Option Addr) (nn nc : Nat) (rs : List RM) : Prop where
  val : v = #[.slice LA ln lc, .slice NA nn nc, .int .i64 x.next]
  ents : rs.map RM.e = x.L
  rows : PR w base 18 LA ln (rs.flatMap RM.cells)
  ok : ∀ r ∈ rs, r.Ok w base
  news : PR w base 2 NA nn (x.N.flatMap nwCells)
  lcap : ln ≤ lc
  ncap : nn ≤ nc
  lfew : ln ≤ m
  nfew : nn ≤ m

theorem RM.Ok.keeps {w w' : World} {base : Nat} {r : RM} (h : r.Ok w base) (hk : Keeps base w w') : r.Ok w' base := { h with keys := h.keys.keeps hk, has := h.has.keeps hk }
theorem RT.keeps {w w' : World} {base m : Nat} {v : Array Value} {x : RTab} {LA NA : Option Addr} {ln lc nn nc : Nat} {rs : List RM} (h : RT w base m v x LA ln lc NA nn nc rs) (hk : Keeps base w w') : RT w' base m v x LA ln lc NA nn nc rs :=
  { h with rows := h.rows.keeps hk, ok := fun r hr => (h.ok r hr).keeps hk, news := h.news.keeps hk }
theorem RT.below {w w' : World} {base m : Nat} {v : Array Value} {x : RTab} {LA NA : Option Addr} {ln lc nn nc : Nat} {rs : List RM} (h : RT w base m v x LA ln lc NA nn nc rs) (hb : Below w.heap.size w w') (hB : base ≤ w.heap.size) : RT w' base m v x LA ln lc NA nn nc rs := h.keeps (Keeps.of_below hb hB)
theorem RT.len {w : World} {base m : Nat} {v : Array Value} {x : RTab} {LA NA : Option Addr} {ln lc nn nc : Nat} {rs : List RM} (h : RT w base m v x LA ln lc NA nn nc rs) : rs.length = ln ∧ x.L.length = ln ∧ x.N.length = nn := by
  have h1 := (h.rows.row RM.cells_len (by decide)).1
  have h2 := (h.news.row nwCells_len (by decide)).1
  refine ⟨h1, ?_, h2⟩
  rw [← h.ents, List.length_map, h1]

end Go.Proofs.YtoaiamgcegnjjaaGreatDoor
namespace Go.Proofs.YtoaiamgcegnjjaaGreatDoor
open Go.RowKit Go.Maps Go.WideMaps Go.Sort
set_option maxRecDepth 100000

/-- where an entry stands -/
def findR (L : List RE) (id : Int) : Option Nat := L.findIdx? (fun e => e.id == id)
def findI (o : Option Nat) : Int := match o with | some i => (i : Int) | none => -1
theorem findR_hit {L : List RE} {id : Int} {k : Nat} (hk : k < L.length) (h : ∀ j (hj : j < L.length), j < k → L[j].id ≠ id) (he : L[k].id = id) : findR L id = some k := by
  unfold findR
  rw [List.findIdx?_eq_some_iff_getElem]
  exact ⟨hk, by simpa using he, fun j hj => by simpa using h j (by omega) hj⟩
theorem findR_miss {L : List RE} {id : Int} (h : ∀ j (hj : j < L.length), L[j].id ≠ id) : findR L id = none := by
  unfold findR
  rw [List.findIdx?_eq_none_iff]
  intro x hx
  obtain ⟨j, hj, rfl⟩ := List.mem_iff_getElem.1 hx
  simpa using h j hj

section
variable {w : World} {base m : Nat} {v : Array Value} {x : RTab} {LA NA : Option Addr} {ln lc nn nc : Nat} {rs : List RM}

theorem RT.at_ (h : RT w base m v x LA ln lc NA nn nc rs) {k : Nat} (hk : k < ln) : ∃ b o, LA = some ⟨b, o, none⟩ ∧ b < w.heap.size ∧ ∃ (h1 : k < rs.length) (h2 : k < x.L.length), rs[k].e = x.L[k] ∧ w.rangeAt b (o + k * 18) rs[k].cells ∧ rs[k].Ok w base := by
  obtain ⟨l1, l2, l3⟩ := h.len
  obtain ⟨b, o, e, hb, hr⟩ := (h.rows.row RM.cells_len (by decide)).2 k (by omega)
  refine ⟨b, o, e, hb, by omega, by omega, ?_, hr, h.ok _ (List.getElem_mem _)⟩
  have := h.ents
  simp only [← this, List.getElem_map]

theorem rfind_any (h : RT w base m v x LA ln lc NA nn nc rs) (hm : m ≤ 100000) (id : Int) :
    Calls Tryz.prog 51 #[.agg v, .int .i64 id] w fun e w' => e = .returned (.int .i64 (findI (findR x.L id))) ∧ Below w.heap.size w w' := by
  have hl := h.len
  have hf := h.lfew
  have HL := Lib.hid hl
  have HR := Lib.hid h
  have hv := h.val
  subst hv
  clear h hl
  have hb0 : Below w.heap.size w (w.alloc (.cells #[.slice LA ln lc, .slice NA nn nc, .int .i64 x.next] 32)) := (Below.refl _ _).alloc (Nat.le_refl _) _
  have HB := Lib.hid hb0
  clear hb0
  go_enter Tryz.func51, Tryz.ntmps51
  go_wp2
  go_loop [5] (fun i => ∃ k : Nat, k ≤ ln ∧ i = .int .i64 k ∧ ∀ j (hj : j < x.L.length), j < k → x.L[j].id ≠ id) (fun i => ln - (intOf i).toNat)
  case atStart => exact ⟨0, Nat.zero_le _, rfl, fun j _ hj => absurd hj (by omega)⟩
  case round =>
    obtain ⟨k, hk, rfl, hno⟩ := hrel
    have HN := Lib.hid hno
    clear hno
    by_cases hlt : k < ln
    · obtain ⟨b, o, rfl, hbl, h1, h2, he, hr, _⟩ := HR.out.at_ hlt
      have c0 : w.cell? ⟨b, o + k * 18, none⟩ = some (.int .i64 x.L[k].id) := by rw [← he]; exact hr 0 _ rfl
      clear he hr
      by_cases hid : (x.L[k].id == id) = true
      · go_wp2
        go_ret
        refine ⟨ret_int ?_, HB.out⟩
        rw [findR_hit h2 HN.out (by simpa using hid)]
        rfl
      · have hid : (x.L[k].id == id) = false := by simpa using hid
        go_wp2
        refine ⟨⟨k + 1, by omega, by go_num, fun j hj hjk => ?_⟩, by simp [intOf]; omega⟩
        by_cases hj' : j < k
        · exact HN.out j hj hj'
        · obtain rfl : j = k := by omega
          simpa using hid
    · go_wp2
      go_ret
      refine ⟨ret_int ?_, HB.out⟩
      rw [findR_miss (fun j hj => HN.out j hj (by have := HL.out; omega))]
      rfl

/-- an object's newest moment -/
def newestR (N : List (ByteArray × Int)) (s : ByteArray) : Option Int := (N.find? fun p => decide (p.1 = s)).map (·.2)
theorem newestR_hit {N : List (ByteArray × Int)} {s : ByteArray} {k : Nat} (hk : k < N.length) (h : ∀ j (hj : j < N.length), j < k → N[j].1 ≠ s) (he : N[k].1 = s) : newestR N s = some N[k].2 := by
  unfold newestR
  have : N.find? (fun p => decide (p.1 = s)) = some N[k] := by
    rw [List.find?_eq_some_iff_getElem]
    exact ⟨by simpa using he, k, hk, rfl, fun j hj => by simpa using h j (by omega) hj⟩
  rw [this]
  rfl
theorem newestR_miss {N : List (ByteArray × Int)} {s : ByteArray} (h : ∀ j (hj : j < N.length), N[j].1 ≠ s) : newestR N s = none := by
  unfold newestR
  have : N.find? (fun p => decide (p.1 = s)) = none := by
    rw [List.find?_eq_none]
    intro x hx
    obtain ⟨j, hj, rfl⟩ := List.mem_iff_getElem.1 hx
    simpa using h j hj
  rw [this]
  rfl

theorem RT.nat_ (h : RT w base m v x LA ln lc NA nn nc rs) {k : Nat} (hk : k < nn) : ∃ b o, NA = some ⟨b, o, none⟩ ∧ b < w.heap.size ∧ ∃ (h2 : k < x.N.length), w.cell? ⟨b, o + k * 2, none⟩ = some (.string x.N[k].1) ∧ w.cell? ⟨b, o + k * 2 + 1, none⟩ = some (.int .i64 x.N[k].2) ∧ w.rangeAt b (o + k * 2) (nwCells x.N[k]) := by
  obtain ⟨l1, l2, l3⟩ := h.len
  obtain ⟨b, o, e, hb, hr⟩ := (h.news.row nwCells_len (by decide)).2 k (by omega)
  exact ⟨b, o, e, hb, by omega, hr 0 _ rfl, hr 1 _ rfl, hr⟩

theorem rnewest_any (h : RT w base m v x LA ln lc NA nn nc rs) (hm : m ≤ 100000) (s : ByteArray) :
    Calls Tryz.prog 116 #[.agg v, .string s] w fun e w' => e = .returned (lastV (newestR x.N s)) ∧ Below w.heap.size w w' := by
  have hl := h.len
  have hf := h.nfew
  have HL := Lib.hid hl
  have HR := Lib.hid h
  have hv := h.val
  subst hv
  clear h hl
  have hb0 : Below w.heap.size w (w.alloc (.cells #[.slice LA ln lc, .slice NA nn nc, .int .i64 x.next] 32)) := (Below.refl _ _).alloc (Nat.le_refl _) _
  have HB := Lib.hid hb0
  clear hb0
  go_enter Tryz.func116, Tryz.ntmps116
  go_wp2
  go_loop [6] (fun i => ∃ k : Nat, k ≤ nn ∧ i = .int .i64 k ∧ ∀ j (hj : j < x.N.length), j < k → x.N[j].1 ≠ s) (fun i => nn - (intOf i).toNat)
  case atStart => exact ⟨0, Nat.zero_le _, rfl, fun j _ hj => absurd hj (by omega)⟩
  case round =>
    obtain ⟨k, hk, rfl, hno⟩ := hrel
    have HN := Lib.hid hno
    clear hno
    by_cases hlt : k < nn
    · obtain ⟨b, o, rfl, hbl, h2, c0, c1, _⟩ := HR.out.nat_ hlt
      by_cases hid : (x.N[k].1.toList == s.toList) = true
      · go_wp2
        go_ret2
        refine ⟨?_, HB.out⟩
        rw [bytes_beq] at hid
        rw [newestR_hit h2 HN.out (of_decide_eq_true hid)]
        rfl
      · have hid : (x.N[k].1.toList == s.toList) = false := by simpa using hid
        go_wp2
        refine ⟨⟨k + 1, by omega, by go_num, fun j hj hjk => ?_⟩, by simp [intOf]; omega⟩
        by_cases hj' : j < k
        · exact HN.out j hj hj'
        · obtain rfl : j = k := by omega
          rw [bytes_beq] at hid
          exact of_decide_eq_false hid
    · go_wp2
      go_ret2
      refine ⟨?_, HB.out⟩
      rw [newestR_miss (fun j hj => HN.out j hj (by have := HL.out; omega))]
      rfl

/-- an object's last entry -/
def lastR (L : List RE) (s : ByteArray) : Option Int := (L.find? fun e => decide (e.obj = s) && e.last).map (·.id)
theorem lastR_hit {L : List RE} {s : ByteArray} {k : Nat} (hk : k < L.length) (h : ∀ j (hj : j < L.length), j < k → (decide (L[j].obj = s) && L[j].last) = false) (he : (decide (L[k].obj = s) && L[k].last) = true) : lastR L s = some L[k].id := by
  unfold lastR
  have : L.find? (fun e => decide (e.obj = s) && e.last) = some L[k] := by
    rw [List.find?_eq_some_iff_getElem]
    exact ⟨he, k, hk, rfl, fun j hj => by rw [h j (by omega) hj]; rfl⟩
  rw [this]
  rfl
theorem lastR_miss {L : List RE} {s : ByteArray} (h : ∀ j (hj : j < L.length), (decide (L[j].obj = s) && L[j].last) = false) : lastR L s = none := by
  unfold lastR
  have : L.find? (fun e => decide (e.obj = s) && e.last) = none := by
    rw [List.find?_eq_none]
    intro x hx
    obtain ⟨j, hj, rfl⟩ := List.mem_iff_getElem.1 hx
    rw [h j hj]
    simp
  rw [this]
  rfl

theorem rlast_any (h : RT w base m v x LA ln lc NA nn nc rs) (hm : m ≤ 100000) (s : ByteArray) :
    Calls Tryz.prog 63 #[.agg v, .string s] w fun e w' => e = .returned (lastV (lastR x.L s)) ∧ Below w.heap.size w w' := by
  have hl := h.len
  have hf := h.lfew
  have HL := Lib.hid hl
  have HR := Lib.hid h
  have hv := h.val
  subst hv
  clear h hl
  have hb0 : Below w.heap.size w (w.alloc (.cells #[.slice LA ln lc, .slice NA nn nc, .int .i64 x.next] 32)) := (Below.refl _ _).alloc (Nat.le_refl _) _
  have HB := Lib.hid hb0
  clear hb0
  go_enter Tryz.func63, Tryz.ntmps63
  go_wp2
  go_loop [6] (fun i => ∃ k : Nat, k ≤ ln ∧ i = .int .i64 k ∧ ∀ j (hj : j < x.L.length), j < k → (decide (x.L[j].obj = s) && x.L[j].last) = false) (fun i => ln - (intOf i).toNat)
  case atStart => exact ⟨0, Nat.zero_le _, rfl, fun j _ hj => absurd hj (by omega)⟩
  case round =>
    obtain ⟨k, hk, rfl, hno⟩ := hrel
    have HN := Lib.hid hno
    clear hno
    by_cases hlt : k < ln
    · obtain ⟨b, o, rfl, hbl, h1, h2, he, hr, _⟩ := HR.out.at_ hlt
      have c0 : w.cell? ⟨b, o + k * 18, none⟩ = some (.int .i64 x.L[k].id) := by rw [← he]; exact hr 0 _ rfl
      have c1 : w.cell? ⟨b, o + k * 18 + 1, none⟩ = some (.string x.L[k].obj) := by rw [← he]; exact hr 1 _ rfl
      have c16 : w.cell? ⟨b, o + k * 18 + 16, none⟩ = some (.bool x.L[k].last) := by rw [← he]; exact hr 16 _ rfl
      clear he hr
      have step : ∀ bb : Bool, (decide (x.L[k].obj = s) && x.L[k].last) = false → ∀ j (hj : j < x.L.length), j < k + 1 → (decide (x.L[j].obj = s) && x.L[j].last) = false := fun _ hf j hj hjk => by
        by_cases hj' : j < k
        · exact HN.out j hj hj'
        · obtain rfl : j = k := by omega
          exact hf
      have ST := Lib.hid step
      clear step
      by_cases hid : (x.L[k].obj.toList == s.toList) = true
      · have HO : Hid (decide (x.L[k].obj = s) = true) := by show decide (x.L[k].obj = s) = true; rw [← bytes_beq]; exact hid
        cases hla : x.L[k].last
        · have HLA := Lib.hid hla
          rw [hla] at c16
          clear hla
          go_wp2
          refine ⟨⟨k + 1, by omega, by go_num, ST.out true (by rw [HLA.out]; simp)⟩, by simp [intOf]; omega⟩
        · have HLA := Lib.hid hla
          rw [hla] at c16
          clear hla
          go_wp2
          go_ret2
          refine ⟨?_, HB.out⟩
          rw [lastR_hit h2 HN.out (by rw [HO.out, HLA.out]; rfl)]
          rfl
      · have hid : (x.L[k].obj.toList == s.toList) = false := by simpa using hid
        have HO : Hid (decide (x.L[k].obj = s) = false) := by show decide (x.L[k].obj = s) = false; rw [← bytes_beq]; exact hid
        go_wp2
        refine ⟨⟨k + 1, by omega, by go_num, ST.out true (by rw [HO.out]; rfl)⟩, by simp [intOf]; omega⟩
    · go_wp2
      go_ret2
      refine ⟨?_, HB.out⟩
      rw [lastR_miss (fun j hj => HN.out j hj (by have := HL.out; omega))]
      rfl
end

theorem rnumber_any (n : Int) (w : World) :
    Calls Tryz.prog 115 #[.int .i64 n] w fun e w' => e = .returned (.bool (tick0 n)) ∧ w = w' := by
  go_enter Tryz.func115, Tryz.ntmps115
  go_wp2
  all_goals (go_ret; refine ⟨ret_bool ?_, rfl⟩; unfold tick0; rw [Bool.eq_iff_iff]; simp; omega)

theorem rasked_any (ti mo ge : Int) (w : World) : Calls Tryz.prog 117 #[.agg #[.int .i64 ti, .int .i64 mo, .int .i64 ge]] w fun e w' => e = .returned (.bool (askOK ti mo ge)) ∧ Below w.heap.size w w' := by
  have hb0 : Below w.heap.size w (w.alloc (.cells #[.int .i64 ti, .int .i64 mo, .int .i64 ge] 45)) := (Below.refl _ _).alloc (Nat.le_refl _) _
  have HB := Lib.hid hb0
  clear hb0
  go_enter Tryz.func117, Tryz.ntmps117
  go_wp2_with (go_at_call 115; refine (rnumber_any _ _).mono ?_; rintro e w' ⟨rfl, rfl⟩)
  all_goals (go_ret; refine ⟨ret_bool ?_, HB.out⟩; simp_all [askOK])

end Go.Proofs.YtoaiamgcegnjjaaGreatDoor
namespace Go.Proofs.YtoaiamgcegnjjaaGreatDoor
open Go.RowKit Go.Maps Go.WideMaps Go.Sort
set_option maxRecDepth 100000

def anewR (e : RE) (ti mo ge : Int) : RE := if e.mom ≤ mo then { e with said := ti, mom := mo, gen := ge } else e

theorem size54 : (Tryz.prog.info? 54).map (·.size) = some 18 := by kernel_rfl
theorem size32 : (Tryz.prog.info? 32).map (·.size) = some 3 := by kernel_rfl
theorem RM.one (r : RM) : r.row.all (·.oneCell') = true := by simp [Value.oneCell']
abbrev zero54 : Array Value := #[.int .i64 0, .string ⟨#[]⟩, .string ⟨#[]⟩, .bool false, .int .i64 0, .int .i64 0, .int .i64 0, .int .i64 0, .int .i64 0, .int .i64 0, .slice none 0 0, .string ⟨#[]⟩, .bool false, .int .i64 0, .int .i64 0, .int .i64 0, .bool false, .slice none 0 0]

theorem row_says (r : RM) (ti mo ge : Int) : ((r.row.setIfInBounds 13 (.int .i64 ti)).setIfInBounds 14 (.int .i64 mo)).setIfInBounds 15 (.int .i64 ge) = ({ r with e := { r.e with said := ti, mom := mo, gen := ge } } : RM).row := by
  simp

theorem ranew_any (r : RM) (ti mo ge : Int) (w : World) :
    Calls Tryz.prog 122 #[.agg r.row, .agg #[.int .i64 ti, .int .i64 mo, .int .i64 ge]] w fun e w' => e = .returned (.agg ({ r with e := anewR r.e ti mo ge } : RM).row) ∧ Below w.heap.size w w' := by
  have hb0 : Below w.heap.size w (((w.alloc (.cells r.row 54)).alloc (.cells #[.int .i64 ti, .int .i64 mo, .int .i64 ge] 45)).alloc (.cells zero54 54)) := (((Below.refl _ _).alloc (Nat.le_refl _) _).alloc (by simp) _).alloc (by simp; omega) _
  have k0 : Blk (((w.alloc (.cells r.row 54)).alloc (.cells #[.int .i64 ti, .int .i64 mo, .int .i64 ge] 45)).alloc (.cells zero54 54)) w.heap.size 54 r.row := ((Blk.new w 54 _).alloc _).alloc _
  have k1 : Blk (((w.alloc (.cells r.row 54)).alloc (.cells #[.int .i64 ti, .int .i64 mo, .int .i64 ge] 45)).alloc (.cells zero54 54)) (w.heap.size + 1) 45 #[.int .i64 ti, .int .i64 mo, .int .i64 ge] := (new2 w _ 45 _).alloc _
  have k2 : Blk (((w.alloc (.cells r.row 54)).alloc (.cells #[.int .i64 ti, .int .i64 mo, .int .i64 ge] 45)).alloc (.cells zero54 54)) (w.heap.size + 1 + 1) 54 zero54 := by
    have := new2 (w.alloc (.cells r.row 54)) (.cells #[.int .i64 ti, .int .i64 mo, .int .i64 ge] 45) 54 zero54
    simpa using this
  go_enter Tryz.func122, Tryz.ntmps122
  go_upto_region 1 with fail
  generalize ((w.alloc (.cells r.row 54)).alloc (.cells #[.int .i64 ti, .int .i64 mo, .int .i64 ge] 45)).alloc (.cells zero54 54) = w3 at *
  have hs := k2.lt
  obtain ⟨a0, a1, a2⟩ := ask_cells k1
  have r13 : w3.cell? ⟨w.heap.size, 13, none⟩ = some (.int .i64 r.e.said) := (k0.cell 13).trans rfl
  have r14 : w3.cell? ⟨w.heap.size, 14, none⟩ = some (.int .i64 r.e.mom) := (k0.cell 14).trans rfl
  have r15 : w3.cell? ⟨w.heap.size, 15, none⟩ = some (.int .i64 r.e.gen) := (k0.cell 15).trans rfl
  have fr := k0.free'
  have K0 := Lib.hid k0
  have K2 := Lib.hid k2
  have HB := Lib.hid hb0
  clear k0 k1 k2 hb0
  have fin : ∀ (r' : RM) (wx : World), Blk wx w.heap.size 54 r'.row → w3.grownBy wx (some w.heap.size) → Blk wx (w.heap.size + 1 + 1) 54 zero54 ∧ Below w.heap.size w wx := fun r' wx _ hg =>
    ⟨K2.out.grown hg (by simp; omega), HB.out.trans (grown_below hg (by omega) (fun k hk => by injection hk with hk; omega))⟩
  have FIN := Lib.hid fin
  clear fin
  have HS : Hid (zero54.size = r.row.size) := rfl
  by_cases hm : r.e.mom ≤ mo
  · have HE : Hid (anewR r.e ti mo ge = { r.e with said := ti, mom := mo, gen := ge }) := by show anewR r.e ti mo ge = _; unfold anewR; rw [if_pos hm]
    go_upto_region 3 with fail
    go_region
    go_upto_region 3 with fail
    have k9 : Blk ((((w3.setCell ⟨w.heap.size, 13, none⟩ (.int .i64 ti)).setCell ⟨w.heap.size, 14, none⟩ (.int .i64 mo)).setCell ⟨w.heap.size, 15, none⟩ (.int .i64 ge)).drew) w.heap.size 54 ({ r with e := { r.e with said := ti, mom := mo, gen := ge } } : RM).row := by
      rw [← row_says]
      exact (((K0.out.set 13 _).set 14 _).set 15 _).drew
    have g9 : w3.grownBy ((((w3.setCell ⟨w.heap.size, 13, none⟩ (.int .i64 ti)).setCell ⟨w.heap.size, 14, none⟩ (.int .i64 mo)).setCell ⟨w.heap.size, 15, none⟩ (.int .i64 ge)).drew) (some w.heap.size) := gby_drew (gby_set (gby_set (gby_set (gby_refl _ _) _ _) _ _) _ _)
    generalize ((((w3.setCell ⟨w.heap.size, 13, none⟩ (.int .i64 ti)).setCell ⟨w.heap.size, 14, none⟩ (.int .i64 mo)).setCell ⟨w.heap.size, 15, none⟩ (.int .i64 ge)).drew) = w4 at *
    obtain ⟨z1, z2⟩ := FIN.out _ w4 k9 g9
    have Z1 := Lib.hid z1
    have Z2 := Lib.hid z2
    have K9 := Lib.hid k9
    clear z1 z2 k9 g9 r13 r14 r15 a0 a1 a2 fr
    have HS9 : Hid (zero54.size = ({ r with e := { r.e with said := ti, mom := mo, gen := ge } } : RM).row.size) := rfl
    have HE9 : Hid (({ r with e := { r.e with said := ti, mom := mo, gen := ge } } : RM) = { r with e := anewR r.e ti mo ge }) := by
      show ({ r with e := { r.e with said := ti, mom := mo, gen := ge } } : RM) = { r with e := anewR r.e ti mo ge }
      rw [HE.out]
    generalize ({ r with e := { r.e with said := ti, mom := mo, gen := ge } } : RM) = r9 at *
    go_wp2_with (first
      | (refine wpList_load_row rfl 54 _ rfl w.heap.size rfl 54 r9.row (0, 0) _ K9.out Tryz.underlying54 rfl size54 ?_)
      | (refine wpList_store_row rfl 54 _ _ rfl (w.heap.size + 1 + 1) r9.row rfl rfl 54 zero54 Z1.out size54 HS9.out r9.one ?_))
    exact bodyPost_ret (v := .agg r9.row) (results_cell_row Tryz.results122 _ _ (w.heap.size + 1 + 1) 54 _ (0, 0) _ rfl (setRow_blk Z1.out _) Tryz.underlying54 rfl size54) rfl ⟨by rw [HE9.out], Z2.out.trans (grown_below (setRow_gby _ _ _) (by have := Z2.out.size; exact this) (fun k hk => by injection hk with hk; omega))⟩
  · have HE : Hid (anewR r.e ti mo ge = r.e) := by show anewR r.e ti mo ge = _; unfold anewR; rw [if_neg hm]
    go_upto_region 3 with fail
    obtain ⟨z1, z2⟩ := FIN.out r w3 K0.out (gby_refl _ _)
    have Z1 := Lib.hid z1
    have Z2 := Lib.hid z2
    clear z1 z2
    go_wp2_with (first
      | (refine wpList_load_row rfl 54 _ rfl w.heap.size rfl 54 r.row (0, 0) _ K0.out Tryz.underlying54 rfl size54 ?_)
      | (refine wpList_store_row rfl 54 _ _ rfl (w.heap.size + 1 + 1) r.row rfl rfl 54 zero54 Z1.out size54 HS.out r.one ?_))
    exact bodyPost_ret (v := .agg r.row) (results_cell_row Tryz.results122 _ _ (w.heap.size + 1 + 1) 54 _ (0, 0) _ rfl (setRow_blk Z1.out _) Tryz.underlying54 rfl size54) rfl ⟨by rw [HE.out], Z2.out.trans (grown_below (setRow_gby _ _ _) (by have := Z2.out.size; exact this) (fun k hk => by injection hk with hk; omega))⟩

theorem gby_setCells {a : World} {g : Nat} : ∀ (vs : List Value) (o : Nat) {w : World}, a.grownBy w (some g) → a.grownBy (w.setCells g o vs) (some g)
  | [], _, _, h => h
  | v :: r, o, w, h => by
    rw [World.setCells]
    exact gby_setCells r (o + 1) (gby_set h o v)
theorem tyOf_setCell (w : World) (a : Addr) (v : Value) (k : Nat) : tyOf (w.setCell a v) k = tyOf w k := by
  by_cases h : k = a.block
  · subst h
    unfold tyOf
    cases hh : w.heap[a.block]? with
    | none => simp [World.setCell, Array.getElem?_modify, hh]
    | some o => cases o <;> simp [World.setCell, Array.getElem?_modify, hh] <;> (try split) <;> rfl
  · exact tyOf_of (Below.heap_setCell w a v k h)
theorem tyOf_setCells (g k : Nat) : ∀ (vs : List Value) (o : Nat) (w : World), tyOf (w.setCells g o vs) k = tyOf w k
  | [], _, _ => rfl
  | v :: r, o, w => by
    rw [World.setCells, tyOf_setCells g k r (o + 1), tyOf_setCell]
theorem size_setCells (g : Nat) : ∀ (vs : List Value) (o : Nat) (w : World), (w.setCells g o vs).heap.size = w.heap.size
  | [], _, _ => rfl
  | v :: r, o, w => by
    rw [World.setCells, size_setCells g r (o + 1)]
    simp [World.setCell]

/-- A slice stays while a block of another number is written. -/
theorem PR.grown {w w' : World} {base sz n g b o : Nat} {xs : List Value} (h : PR w base sz (some ⟨b, o, none⟩) n xs) (hg : w.grownBy w' (some g)) (hne : some g ≠ some b) : PR w' base sz (some ⟨b, o, none⟩) n xs :=
  ⟨h.1, fun hn => by
    obtain ⟨b', o', e, hp, hb, hc⟩ := h.2 hn
    injection e with e
    injection e with e1 e2
    subst e1 e2
    have eb : w'.heap[b]? = w.heap[b]? := hg.block b hb (fun e => hne e.symm)
    refine ⟨b, o, rfl, ?_, Nat.lt_of_lt_of_le hb hg.size, fun j hj => (World.cell?_of_block eb).trans (hc j hj)⟩
    rcases hp with hp | ⟨t, ht, h1⟩
    · exact .inl hp
    · exact .inr ⟨t, (tyOf_of eb).trans ht, h1⟩⟩

/-- One row is written anew. -/
theorem PR.set_row {α : Type} {f : α → List Value} {k : Nat} (hf : ∀ a, (f a).length = k) (hk : 0 < k) {w : World} {base n b o : Nat} {l : List α} (h : PR w base k (some ⟨b, o, none⟩) n (l.flatMap f)) {i : Nat} (hi : i < l.length) (a : α) :
    PR (w.setCells b (o + i * k) (f a)) base k (some ⟨b, o, none⟩) n ((l.set i a).flatMap f) := by
  have hl := (h.row hf hk).1
  refine ⟨by rw [flat_len f k hf, List.length_set, hl], fun hn => ?_⟩
  obtain ⟨b', o', e, hp, hb, hc⟩ := h.2 hn
  injection e with e
  injection e with e1 e2
  subst e1 e2
  refine ⟨b, o, rfl, ?_, by rw [size_setCells]; exact hb, fun j hj => ?_⟩
  · rcases hp with hp | ⟨t, ht, h1⟩
    · exact .inl hp
    · exact .inr ⟨t, by rw [tyOf_setCells]; exact ht, h1⟩
  · have hj' : j < l.length * k := by rw [flat_len f k hf, List.length_set] at hj; exact hj
    have hs : j % k < k := Nat.mod_lt _ hk
    have hq : j / k < l.length := Nat.div_lt_of_lt_mul (by rw [Nat.mul_comm]; exact hj')
    have ej : j / k * k + j % k = j := by rw [Nat.mul_comm]; exact Nat.div_add_mod j k
    have g' := flat_get f k hf (l.set i a) (j / k) (j % k) (by rw [List.length_set]; exact hq) hs
    have g0 := flat_get f k hf l (j / k) (j % k) hq hs
    rw [ej] at g' g0
    rw [List.getElem?_eq_getElem hj] at g'
    by_cases hqi : j / k = i
    · have hin := World.cell?_setCells_in b (f a) (o + i * k) w (fun s hs' => by
        rw [hf] at hs'
        have hx : i * k + s < (l.flatMap f).length := by
          rw [flat_len f k hf]
          have : (i + 1) * k ≤ l.length * k := Nat.mul_le_mul_right _ hi
          rw [Nat.succ_mul] at this
          omega
        have := hc (i * k + s) hx
        rw [Nat.add_assoc, this]
        rfl) (j % k) (by rw [hf]; exact hs)
      have e2 : o + j = o + i * k + j % k := by rw [← hqi]; omega
      rw [e2, hin, g']
      have ha : (l.set i a)[j / k]'(by rw [List.length_set]; exact hq) = a := by simp [hqi]
      rw [ha, List.getElem?_eq_getElem (by rw [hf]; exact hs)]
    · rw [World.cell?_setCells_out b (f a) (o + i * k) w ⟨b, o + j, none⟩ (fun _ _ => by
        show o + j < o + i * k ∨ o + i * k + (f a).length ≤ o + j
        rw [hf]
        rcases Nat.lt_or_gt_of_ne hqi with hlt | hgt
        · left
          have : (j / k + 1) * k ≤ i * k := Nat.mul_le_mul_right _ hlt
          rw [Nat.succ_mul] at this
          omega
        · right
          have : (i + 1) * k ≤ j / k * k := Nat.mul_le_mul_right _ hgt
          rw [Nat.succ_mul] at this
          omega)]
      rw [List.getElem_set_ne (Ne.symm hqi), ← g0] at g'
      obtain ⟨h1, h2⟩ := List.getElem?_eq_some_iff.1 g'.symm
      rw [hc j h1, h2]

theorem info54 : (Tryz.prog.info? 54).map (fun i => (i.zero, i.size, i.bytes)) = some (some (.agg zero54), 18, 200) := by kernel_rfl
theorem oneCell_rows (rs : List RM) : ∀ u ∈ rs.flatMap RM.cells, u.oneCell' = true := by
  intro u hu
  obtain ⟨r, _, h⟩ := List.mem_flatMap.1 hu
  have := r.one
  rw [Array.all_eq_true_iff_forall_mem] at this
  exact this u (by simpa [RM.cells] using h)
theorem own_at {w : World} {base e size n c : Nat} {A : Option Addr} {xs : List Value} (h : w.ownsRow base e size (.slice A n c) n xs) (hn : 0 < n) : ∃ g, A = some ⟨g, 0, none⟩ ∧ base ≤ g ∧ g < w.heap.size ∧ (∀ o k, w.frozen? ⟨g, o, k⟩ = false ∨ k ≠ none) := by
  rcases h.2 with ⟨hv, hn'⟩ | ⟨g, cap, cur, hv, hb, hg, _⟩
  · omega
  · injection hv with hA
    subst hA
    refine ⟨g, rfl, hb, (Array.getElem?_eq_some_iff.1 hg).1, fun o k => ?_⟩
    cases k with
    | none => left; simp [World.frozen?, hg]
    | some k => right; simp

section
variable {w : World} {base m : Nat} {v : Array Value} {x : RTab} {LA NA : Option Addr} {ln lc nn nc : Nat} {rs : List RM}
set_option maxHeartbeats 400000 in
theorem rwith_any (h : RT w base m v x LA ln lc NA nn nc rs) (hB : base ≤ w.heap.size) (hm : m ≤ 100000) (i : Nat) (hi : i < ln) (r : RM) (hr : r.Ok w base) :
    Calls Tryz.prog 121 #[.agg v, .int .i64 i, .agg r.row] w fun e w' => ∃ v' LA' lc', e = .returned (.agg v') ∧ RT w' base m v' { x with L := x.L.set i r.e } LA' ln lc' NA nn nc (rs.set i r) ∧ Below w.heap.size w w' := by
  obtain ⟨i0, hi0, hz0, hz1, hz2⟩ := info_parts info54
  have hf := h.lfew
  have HL := Lib.hid h.len
  have HR := Lib.hid h
  have HO := Lib.hid hr
  have hv := h.val
  subst hv
  clear h hr
  have hb0 : Below w.heap.size w ((((w.alloc (.cells #[.slice LA ln lc, .slice NA nn nc, .int .i64 x.next] 32)).alloc (.cells r.row 54)).alloc (.cells #[.slice none 0 0, .slice none 0 0, .int .i64 0] 32)).alloc (.cells #[] 54)) := ((((Below.refl _ _).alloc (Nat.le_refl _) _).alloc (by simp) _).alloc (by simp; omega) _).alloc (by simp; omega) _
  have k0 : Blk ((((w.alloc (.cells #[.slice LA ln lc, .slice NA nn nc, .int .i64 x.next] 32)).alloc (.cells r.row 54)).alloc (.cells #[.slice none 0 0, .slice none 0 0, .int .i64 0] 32)).alloc (.cells #[] 54)) w.heap.size 32 #[.slice LA ln lc, .slice NA nn nc, .int .i64 x.next] := (((Blk.new w 32 _).alloc _).alloc _).alloc _
  have k1 : Blk ((((w.alloc (.cells #[.slice LA ln lc, .slice NA nn nc, .int .i64 x.next] 32)).alloc (.cells r.row 54)).alloc (.cells #[.slice none 0 0, .slice none 0 0, .int .i64 0] 32)).alloc (.cells #[] 54)) (w.heap.size + 1) 54 r.row := ((new2 w _ 54 _).alloc _).alloc _
  have k2 : Blk ((((w.alloc (.cells #[.slice LA ln lc, .slice NA nn nc, .int .i64 x.next] 32)).alloc (.cells r.row 54)).alloc (.cells #[.slice none 0 0, .slice none 0 0, .int .i64 0] 32)).alloc (.cells #[] 54)) (w.heap.size + 1 + 1) 32 #[.slice none 0 0, .slice none 0 0, .int .i64 0] := by
    have := (new2 (w.alloc (.cells #[.slice LA ln lc, .slice NA nn nc, .int .i64 x.next] 32)) (.cells r.row 54) 32 #[.slice none 0 0, .slice none 0 0, .int .i64 0]).alloc (.cells #[] 54)
    simpa using this
  have o0 : ((((w.alloc (.cells #[.slice LA ln lc, .slice NA nn nc, .int .i64 x.next] 32)).alloc (.cells r.row 54)).alloc (.cells #[.slice none 0 0, .slice none 0 0, .int .i64 0] 32)).alloc (.cells #[] 54)).ownsRow (w.heap.size + 3) 54 18 (.slice (some ⟨w.heap.size + 1 + 1 + 1, 0, none⟩) 0 0) 0 [] := by
    have := World.ownsRow_made (base := w.heap.size + 3) (e := 54) (size := 18) (((w.alloc (.cells #[.slice LA ln lc, .slice NA nn nc, .int .i64 x.next] 32)).alloc (.cells r.row 54)).alloc (.cells #[.slice none 0 0, .slice none 0 0, .int .i64 0] 32)) #[] 0 (by simp) (by unfold maxLen; omega) (by simp)
    simpa using this
  have c0 : ((((w.alloc (.cells #[.slice LA ln lc, .slice NA nn nc, .int .i64 x.next] 32)).alloc (.cells r.row 54)).alloc (.cells #[.slice none 0 0, .slice none 0 0, .int .i64 0] 32)).alloc (.cells #[] 54)).cell? ⟨w.heap.size, 0, none⟩ = some (.slice LA ln lc) := (k0.cell 0).trans rfl
  go_enter Tryz.func121, Tryz.ntmps121
  have hrd : Rd ((((w.alloc (.cells #[.slice LA ln lc, .slice NA nn nc, .int .i64 x.next] 32)).alloc (.cells r.row 54)).alloc (.cells #[.slice none 0 0, .slice none 0 0, .int .i64 0] 32)).alloc (.cells #[] 54)) w.heap.size 18 LA ln (rs.flatMap RM.cells) := Rd.below HR.out.rows.rd hb0 (Nat.le_refl _)
  have HRD := Lib.hid hrd
  have HB0 := Lib.hid hb0
  have K0 := Lib.hid k0
  have K1 := Lib.hid k1
  have K2 := Lib.hid k2
  have O0 := Lib.hid o0
  clear hrd hb0 k0 k1 k2 o0
  go_upto_region 2 with (at_builtin; refine wpList_append_rd _ rfl _ _ 29 rfl (w.heap.size + 3) 54 i0 (.agg zero54) 18 200 Tryz.underlying29 hi0 hz0 hz1 hz2 rfl (by decide) (.slice (some ⟨w.heap.size + 1 + 1 + 1, 0, none⟩) 0 0) 0 [] rfl O0.out LA ln lc _ _ rfl HRD.out (oneCell_rows rs) (by unfold maxLen; omega) (by omega) (by simp) ?_; intro A' c' w1 hown hgrow hnc hat)
  simp only [Nat.zero_add, List.nil_append] at hown hnc hat
  have hat' : ∀ k, (Value.slice A' ln c').ownBlock = some k → w.heap.size + 3 ≤ k := fun k hk => (hown.lt k hk).1
  have bk0 := K0.out.grown hgrow (by simp [Value.ownBlock]; omega)
  have bk1 := K1.out.grown hgrow (by simp [Value.ownBlock]; omega)
  have bk2 := K2.out.grown hgrow (by simp [Value.ownBlock])
  have hbw : Below w.heap.size w w1 := HB0.out.trans (grown_below hgrow (by simp; omega) (fun k hk => by simp [Value.ownBlock] at hk; omega))
  obtain ⟨g, rfl, hg3, hgl, hfz⟩ := own_at hown (by omega)
  have hpr : PR w1 base 18 (some ⟨g, 0, none⟩) ln (rs.flatMap RM.cells) := PR.of_own hown (by decide) (by decide) (by decide) (by decide)
  skip
  have HPR := Lib.hid hpr
  have HOW := Lib.hid hown
  have HBW := Lib.hid hbw
  have HFZ := Lib.hid hfz
  clear K0 K1 K2 O0 HRD HB0 hown hgrow hat hat' hpr hbw hfz c0
  have K0 := Lib.hid bk0
  have K1 := Lib.hid bk1
  have K2 := Lib.hid bk2
  clear bk0 bk1 bk2
  have hth : w1.there g (i * 18) r.row.size := fun j hj => by
    have hj' : j < 18 := hj
    have hlen := (HPR.out.row RM.cells_len (by decide)).1
    obtain ⟨b, o, e, _, hra⟩ := (HPR.out.row RM.cells_len (by decide)).2 i (by omega)
    injection e with e
    injection e with e1 e2
    subst e1 e2
    have hl18 : j < rs[i].cells.length := by rw [RM.cells_len]; exact hj'
    have hz := hra j _ (List.getElem?_eq_getElem hl18)
    rw [Nat.zero_add] at hz
    refine ⟨by rw [hz]; rfl, ?_⟩
    rcases HFZ.out (i * 18 + j) none with h | h
    · exact h
    · exact absurd rfl h
  have HTH := Lib.hid hth
  clear hth
  go_upto_region 3 with first
    | (refine wpList_load_row rfl 54 _ rfl (w.heap.size + 1) rfl 54 r.row (0, 0) _ K1.out Tryz.underlying54 rfl size54 ?_)
    | (refine wpList_store_mid rfl 54 _ _ rfl g (i * 18) r.row rfl rfl HTH.out size54 r.one ?_)
  have hlen := HL.out
  have hset := HPR.out.set_row RM.cells_len (by decide) (i := i) (by omega) r
  rw [Nat.zero_add] at hset
  have hgw : w1.grownBy (w1.setCells g (i * 18) r.row.toList) (some g) := gby_setCells _ _ (gby_refl _ _)
  have hne : ∀ {a : Nat}, a < w.heap.size + 3 → some g ≠ some a := fun ha e => by injection e with e; omega
  have b0 := K0.out.grown hgw (hne (by omega))
  have b2 := K2.out.grown hgw (hne (by omega))
  have hb2 : Below w.heap.size w (w1.setCells g (i * 18) r.row.toList) := HBW.out.trans (grown_below hgw (by omega) (fun k hk => by injection hk with hk; omega))
  change PR (w1.setCells g (i * 18) r.row.toList) base 18 (some ⟨g, 0, none⟩) ln ((rs.set i r).flatMap RM.cells) at hset
  generalize w1.setCells g (i * 18) r.row.toList = w2 at *
  have HST := Lib.hid hset
  have HB2 := Lib.hid hb2
  have hsz := b2.lt
  clear HTH HPR HOW HBW HFZ K0 K1 K2 hset hgw hne hb2 hlen
  obtain ⟨d0, d1, d2⟩ : w2.cell? ⟨w.heap.size, 0, none⟩ = some (.slice LA ln lc) ∧ w2.cell? ⟨w.heap.size, 1, none⟩ = some (.slice NA nn nc) ∧ w2.cell? ⟨w.heap.size, 2, none⟩ = some (.int .i64 x.next) := ⟨(b0.cell 0).trans rfl, (b0.cell 1).trans rfl, (b0.cell 2).trans rfl⟩
  have f0 := b0.free'
  have B0 := Lib.hid b0
  have B2 := Lib.hid b2
  clear b0 b2
  go_upto_region 4 with fail
  have b0 := B0.out.set 0 (.slice (some ⟨g, 0, none⟩) ln c')
  have b2 := B2.out.far (b := w.heap.size) (o := 0) (by omega) (.slice (some ⟨g, 0, none⟩) ln c')
  have hgw : w2.grownBy (w2.setCell ⟨w.heap.size, 0, none⟩ (.slice (some ⟨g, 0, none⟩) ln c')) (some w.heap.size) := gby_set (gby_refl _ _) _ _
  have hb3 : Below w.heap.size w (w2.setCell ⟨w.heap.size, 0, none⟩ (.slice (some ⟨g, 0, none⟩) ln c')) := below_set HB2.out (Nat.le_refl _) _
  have hpr3 : PR (w2.setCell ⟨w.heap.size, 0, none⟩ (.slice (some ⟨g, 0, none⟩) ln c')) base 18 (some ⟨g, 0, none⟩) ln ((rs.set i r).flatMap RM.cells) := HST.out.grown hgw (by intro e; injection e with e; omega)
  generalize w2.setCell ⟨w.heap.size, 0, none⟩ (.slice (some ⟨g, 0, none⟩) ln c') = w3 at *
  have K0 := Lib.hid (show Blk w3 w.heap.size 32 #[.slice (some ⟨g, 0, none⟩) ln c', .slice NA nn nc, .int .i64 x.next] from b0)
  have K2 := Lib.hid b2
  have HPR3 := Lib.hid hpr3
  have HB3 := Lib.hid hb3
  have hsz3 := b2.lt
  clear b0 b2 hb3 hpr3 hgw B0 B2 HST HB2 d0 d1 d2 f0
  have HS : Hid ((#[.slice none 0 0, .slice none 0 0, .int .i64 0] : Array Value).size = (#[.slice (some ⟨g, 0, none⟩) ln c', .slice NA nn nc, .int .i64 x.next] : Array Value).size) := rfl
  have H1 : Hid ((#[.slice (some ⟨g, 0, none⟩) ln c', .slice NA nn nc, .int .i64 x.next] : Array Value).all (·.oneCell') = true) := by
    show (#[.slice (some ⟨g, 0, none⟩) ln c', .slice NA nn nc, .int .i64 x.next] : Array Value).all (·.oneCell') = true
    simp [Value.oneCell']
  go_wp2_with (first
    | (refine wpList_load_row rfl 32 _ rfl w.heap.size rfl 32 #[.slice (some ⟨g, 0, none⟩) ln c', .slice NA nn nc, .int .i64 x.next] (0, 0) _ K0.out Tryz.underlying32 rfl size32 ?_)
    | (refine wpList_store_row rfl 32 _ _ rfl (w.heap.size + 1 + 1) #[.slice (some ⟨g, 0, none⟩) ln c', .slice NA nn nc, .int .i64 x.next] rfl rfl 32 _ K2.out size32 HS.out H1.out ?_))
  have hg9 : w3.grownBy (w3.setRow (w.heap.size + 1 + 1) #[.slice (some ⟨g, 0, none⟩) ln c', .slice NA nn nc, .int .i64 x.next]) (some (w.heap.size + 1 + 1)) := setRow_gby _ _ _
  have hb9 := HB3.out.trans (grown_below hg9 (by omega) (fun k hk => by injection hk with hk; omega))
  have hp9 := HPR3.out.grown hg9 (by intro e; injection e with e; omega)
  refine bodyPost_ret (v := .agg #[.slice (some ⟨g, 0, none⟩) ln c', .slice NA nn nc, .int .i64 x.next]) (results_cell_row Tryz.results121 _ _ (w.heap.size + 1 + 1) 32 _ (0, 0) _ rfl (setRow_blk K2.out _) Tryz.underlying32 rfl size32) rfl ⟨_, some ⟨g, 0, none⟩, c', rfl, ?_, hb9⟩
  exact { val := rfl, ents := by rw [List.map_set, HR.out.ents], rows := hp9, ok := fun q hq => by
            rcases List.mem_or_eq_of_mem_set hq with hq | rfl
            · exact (HR.out.ok q hq).keeps (Keeps.of_below hb9 hB)
            · exact HO.out.keeps (Keeps.of_below hb9 hB), news := HR.out.news.below hb9 hB, lcap := hnc, ncap := HR.out.ncap, lfew := hf, nfew := HR.out.nfew }
end
end Go.Proofs.YtoaiamgcegnjjaaGreatDoor
