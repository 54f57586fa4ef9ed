/- The disk: what stays, and what a write makes of it. -/
import Derived.Test.YtmgmfnimaafkdaaGreatDoorProg
import Derived.Test.YtmgmfnimaafkdaaGreatDoorVA
import Derived.WalkKit
import Derived.WalkSpells
import Derived.WalkLawsBesides
import Derived.Lib.Hide
import Derived.Lib.LaidTab
import Derived.Deep.DeepCutAuto
import Derived.Laws.BitsLemmas
import Derived.KernelRfl
import Derived.Maps.AppendAt
import Derived.Deep.QuietTactic
import Derived.BigQuiet
import Derived.Maps.OwnSet
import Derived.Maps.OwnOps
import Derived.Maps.Ext
import Derived.Lib.QuietBelow
import Derived.Deep.MidRow
import Derived.Deep.RegionLaw
import Derived.Deep.RegionHeld3
import Derived.Laws.CopyOwn
namespace Go.Proofs.YtmgmfnimaafkdaaGreatDoor
section
open Go.RowKit
set_option maxRecDepth 100000

theorem bits_xor_u32_nat (a b : Nat) (ha : a < 2 ^ 32) (hb : b < 2 ^ 32) : bits .xor .u32 (a : Int) (b : Int) = ((a ^^^ b : Nat) : Int) := by
 have hx : a ^^^ b < 2 ^ 32 := Nat.xor_lt_two_pow (by omega) (by omega)
 have h1 : (BitVec.ofInt 32 (a : Int)).toNat = a := by
  rw [BitVec.ofInt_natCast, BitVec.toNat_ofNat]; exact Nat.mod_eq_of_lt (by omega)
 have h2 : (BitVec.ofInt 32 (b : Int)).toNat = b := by
  rw [BitVec.ofInt_natCast, BitVec.toNat_ofNat]; exact Nat.mod_eq_of_lt (by omega)
 show IntKind.u32.wrap ((BitVec.ofInt 32 (a : Int) ^^^ BitVec.ofInt 32 (b : Int)).toNat : Int) = _
 rw [BitVec.toNat_xor, h1, h2, IntKind.wrap_u32]
 omega
theorem bits_and15 (s : Nat) (h : s < 2 ^ 32) : bits .and .u32 (s : Int) 15 = ((s % 16 : Nat) : Int) := by
 have := bits_mask .u32 32 (by decide) (fun n a b => by rw [IntKind.wrap_u32]; omega) 4 (by decide) (s : Int) (by omega) (by omega)
 rw [show (15 : Int) = 2 ^ 4 - 1 by decide, this]
 omega
theorem bits_nib (s : Nat) (h : s < 2 ^ 32) : bits .xor .u32 ((crcTab[s % 16]?.getD 0 : Nat) : Int) ((s : Int) / 16) = ((nib s : Nat) : Int) := by
 have e : ((s : Int) / 16) = ((s / 16 : Nat) : Int) := by omega
 have hl : crcTab[s % 16]?.getD 0 < 2 ^ 32 := tab_lt _ (Nat.mod_lt _ (by omega))
 rw [e, bits_xor_u32_nat _ _ hl (by omega)]; rfl
def Steps (w : World) : Prop := ∀ i, i < 16 → w.cell? ⟨2, i, none⟩ = some (.int .u32 (crcTab[i]?.getD 0 : Nat))

theorem eight_any (s : Nat) (w : World) (hs : s < 2 ^ 32) (ht : Steps w) :
  Calls Tryz.prog 218 #[.int .u32 s] w fun e w' => e = .returned (.int .u32 (eight s : Nat)) ∧ w = w' := by
 have hn := nib_lt hs
 have a1 := bits_and15 s hs
 have a2 := bits_nib s hs
 have a3 := bits_and15 (nib s) hn
 have a4 := bits_nib (nib s) hn
 have c1 := ht (s % 16) (Nat.mod_lt _ (by omega))
 have c2 := ht (nib s % 16) (Nat.mod_lt _ (by omega))
 have l1 : s % 16 < 16 := Nat.mod_lt _ (by omega)
 have l2 : nib s % 16 < 16 := Nat.mod_lt _ (by omega)
 go_enter Tryz.func218, Tryz.ntmps218
 go_wp2
 go_ret
 exact ⟨rfl, rfl⟩
def Bys (w : World) (A : Option Addr) (l : List UInt8) : Prop :=
 0 < l.length → ∃ b o, A = some ⟨b, o, none⟩ ∧ b < w.heap.size ∧ ∀ j (hj : j < l.length), w.cell? ⟨b, o + j, none⟩ = some (.int .u8 l[j].toNat)
theorem crcGo_take_succ (l : List UInt8) (k : Nat) (h : k < l.length) (s : Nat) : crcGo s (l.take (k + 1)) = eight (crcGo s (l.take k) ^^^ l[k].toNat) := by
 rw [List.take_succ_eq_append_getElem h, crcGo_append]; rfl
theorem sumMore_any (l : List UInt8) (A : Option Addr) (c : Nat) (w : World) (ht : Steps w) (hl : l.length < 2 ^ 60) (hb : Bys w A l) :
  Calls Tryz.prog 190 #[.int .u32 0, .slice A l.length c] w fun e w' => e = .returned (.int .u32 (crcOf l : Nat)) ∧ w = w' := by
 have m0 : bits BinOp.xor IntKind.u32 IntKind.u32.max 0 = 4294967295 := by decide
 have c0 : (0 ^^^ 0xFFFFFFFF : Nat) < 2 ^ 32 := by decide
 go_enter Tryz.func190, Tryz.ntmps190
 go_wp2
 go_loop [5, 12] (fun s i => ∃ k : Nat, k ≤ l.length ∧ i = .int .i64 k ∧ s = .int .u32 (crcGo 4294967295 (l.take k) : Nat)) (fun _ i => l.length - (intOf i).toNat)
 case atStart => exact ⟨0, Nat.zero_le _, rfl, rfl⟩
 case round =>
  obtain ⟨k, hk, rfl, rfl⟩ := hrel
  have hs : crcGo 4294967295 (l.take k) < 2 ^ 32 := crcGo_lt _ c0
  by_cases hlt : k < l.length
  ·obtain ⟨b, o, rfl, hB, hc⟩ := hb (by omega)
   have h1 := hc k hlt
   have x1 := bits_xor_u32_nat _ _ hs (byte_lt l[k])
   rw [show ((l[k].toNat : Nat) : Int) = (l[k].toNat : Int) % 4294967296 by have := byte_lt l[k]; omega] at x1
   have hx : crcGo 4294967295 (l.take k) ^^^ l[k].toNat < 2 ^ 32 := Nat.xor_lt_two_pow hs (byte_lt _)
   have hr := crcGo_take_succ l k hlt 4294967295
   generalize crcGo 4294967295 (l.take k) = s at *
   go_wp2_with (go_at_call 218; refine (eight_any _ _ hx ht).mono ?_; rintro e w' ⟨rfl, rfl⟩)
   exact ⟨⟨k + 1, by omega, by go_num, by rw [hr]⟩, by simp [intOf]; omega⟩
  ·obtain rfl : k = l.length := by omega
   have x2 := bits_xor_u32_nat (2 ^ 32 - 1) _ (by decide) hs
   rw [List.take_length] at *
   have ef : ((2 ^ 32 - 1 : Nat) : Int) = IntKind.u32.max := by decide
   rw [ef] at x2
   go_wp2
   go_ret
   refine ⟨?_, rfl⟩
   show Ending.returned (.int .u32 ((4294967295 ^^^ crcGo 4294967295 l : Nat) : Int)) = _
   rw [Nat.xor_comm]; rfl
theorem sumOf_any (l : List UInt8) (A : Option Addr) (c : Nat) (w : World) (ht : Steps w) (hl : l.length < 2 ^ 60) (hb : Bys w A l) :
  Calls Tryz.prog 162 #[.slice A l.length c] w fun e w' => e = .returned (.int .u32 (crcOf l : Nat)) ∧ w = w' := by
 go_enter Tryz.func162, Tryz.ntmps162
 go_wp2_with (go_at_call 190; refine (sumMore_any l A c w ht hl hb).mono ?_; rintro e w' ⟨rfl, rfl⟩)
 go_ret
 exact ⟨rfl, rfl⟩
end
section
open Go.RowKit Go.Maps
set_option maxRecDepth 100000

theorem ret_bool {a b : Bool} (h : a = b) : Ending.returned (.bool a) = .returned (.bool b) := by rw [h]
theorem ret_int {k : IntKind} {a b : Int} (h : a = b) : Ending.returned (.int k a) = .returned (.int k b) := by rw [h]
def Rd (w : World) (B sz : Nat) (A : Option Addr) (n : Nat) (xs : List Value) : Prop :=
 xs.length = n * sz ∧ (0 < n → ∃ b o, A = some ⟨b, o, none⟩ ∧ b < B ∧ ∀ j (hj : j < xs.length), w.cell? ⟨b, o + j, none⟩ = some xs[j])
theorem Rd.keep {w w' : World} {B B' sz n : Nat} {A : Option Addr} {xs : List Value} (h : Rd w B sz A n xs) (hB : B ≤ B') (hk : ∀ p : Addr, p.block < B → w'.cell? p = w.cell? p) : Rd w' B' sz A n xs := by
 refine ⟨h.1, fun hn => ?_⟩
 obtain ⟨b, o, e, hb, hc⟩ := h.2 hn
 exact ⟨b, o, e, by omega, fun j hj => (hk _ hb).trans (hc j hj)⟩
theorem Rd.below {w w' : World} {B B' sz n : Nat} {A : Option Addr} {xs : List Value} (h : Rd w B sz A n xs) (hb : Below B w w') (hB : B ≤ B') : Rd w' B' sz A n xs :=
 h.keep hB fun _ hp => hb.cell hp
theorem Rd.nil {w : World} {B sz : Nat} {A : Option Addr} : Rd w B sz A 0 [] := ⟨by simp, fun h => absurd h (by omega)⟩
theorem Rd.take {w : World} {B n : Nat} {A : Option Addr} {xs : List Value} (h : Rd w B 1 A n xs) {k : Nat} (hk : k ≤ n) : Rd w B 1 A k (xs.take k) := by
 refine ⟨by rw [List.length_take, h.1]; omega, fun hn => ?_⟩
 obtain ⟨b, o, e, hb, hc⟩ := h.2 (by omega)
 refine ⟨b, o, e, hb, fun j hj => ?_⟩
 rw [hc j (by rw [List.length_take] at hj; omega)]
 simp
def Blk (w : World) (g : Nat) (t : TypeId) (cs : Array Value) : Prop := w.heap[g]? = some (.cells cs t (0, 0))
theorem Blk.lt {w : World} {g : Nat} {t : TypeId} {cs : Array Value} (h : Blk w g t cs) : g < w.heap.size := (Array.getElem?_eq_some_iff.1 h).1
theorem Blk.cell {w : World} {g : Nat} {t : TypeId} {cs : Array Value} (h : Blk w g t cs) (i : Nat) : w.cell? ⟨g, i, none⟩ = cs[i]? := cell_of_row w g i cs t (0, 0) h
theorem Blk.free {w : World} {g : Nat} {t : TypeId} {cs : Array Value} (h : Blk w g t cs) (i : Nat) : w.frozen? ⟨g, i, none⟩ = false := by
 unfold Blk at h; simp [World.frozen?, h]
theorem Blk.new (w : World) (t : TypeId) (cs : Array Value) : Blk (w.alloc (.cells cs t)) w.heap.size t cs := heap_alloc_new w _
theorem Blk.below {w w' : World} {g B : Nat} {t : TypeId} {cs : Array Value} (h : Blk w g t cs) (hb : Below B w w') (hg : g < B) : Blk w' g t cs := (hb.block g hg).trans h
theorem Blk.alloc {w : World} {g : Nat} {t : TypeId} {cs : Array Value} (h : Blk w g t cs) (o : Obj) : Blk (w.alloc o) g t cs := (Below.heap_alloc w o g h.lt).trans h
theorem addr_add (b o j : Nat) : (⟨b, o, none⟩ : Addr).add j = ⟨b, o + j, none⟩ := by
 unfold Addr.add; split <;> simp_all
theorem own_form {w : World} {base e size : Nat} {v : Value} {n : Nat} {xs : List Value} (h : w.ownsRow base e size v n xs) : ∃ A c, v = .slice A n c ∧ n ≤ c := by
 rcases h.2 with ⟨rfl, rfl⟩ | ⟨g, cap, cur, rfl, _, _, hnc, _⟩
 ·exact ⟨_, _, rfl, nR0⟩
 ·exact ⟨_, _, rfl, hnc⟩
theorem own_rd {w : World} {base e size : Nat} {A : Option Addr} {n c : Nat} {xs : List Value} (h : w.ownsRow base e size (.slice A n c) n xs) : Rd w w.heap.size size A n xs := by
 refine ⟨h.1, fun hn => ?_⟩
 rcases h.2 with ⟨hv, rfl⟩ | ⟨g, cap, cur, hv, _, hg, _⟩
 ·omega
 ·injection hv with hA
  subst hA
  refine ⟨g, 0, rfl, (Array.getElem?_eq_some_iff.1 hg).1, fun j hj => ?_⟩
  have := h.cells (g := g) rfl j xs[j] (List.getElem?_eq_getElem hj)
  rw [addr_add] at this
  exact this
theorem run_append_rd {P : Program} (w : World) (base : Nat) (t ty e : TypeId) (i : TypeInfo) (z : Value) (size bytes : Nat) (ht : P.underlying t = some (.slice e)) (hi : P.info? e = some i) (hz : i.zero = some z)
  (hsize : i.size = size) (hby : i.bytes = bytes) (hzs : z.cells.size = size) (hsz : 0 < size)
  (v : Value) (n : Nat) (xs : List Value) (hown : w.ownsRow base e size v n xs)
  (A : Option Addr) (m c B : Nat) (news : List Value) (hr : Rd w B size A m news) (h1 : ∀ u ∈ news, u.oneCell' = true)
  (h63 : n + m ≤ maxLen) (hbytes : (n + m) * bytes ≤ 140737488355328) (hbase : base ≤ w.heap.size) :
  ∃ A' c' w', (Builtin.append_ #[t, t] ty #[v, .slice A m c]).run P w = .ok (.slice A' (n + m) c') w' ∧ w'.ownsRow base e size (.slice A' (n + m) c') (n + m) (xs ++ news) ∧ w.grownBy w' v.ownBlock ∧
   n + m ≤ c' ∧ ((Value.slice A' (n + m) c').ownBlock = v.ownBlock ∨ (Value.slice A' (n + m) c').ownBlock = some w.heap.size) := by
 have fin : ∀ v' w', (Builtin.append_ #[t, t] ty #[v, .slice A m c]).run P w = .ok v' w' → w'.ownsRow base e size v' (n + m) (xs ++ news) → w.grownBy w' v.ownBlock → (v'.ownBlock = v.ownBlock ∨ v'.ownBlock = some w.heap.size) →
   ∃ A' c' w', (Builtin.append_ #[t, t] ty #[v, .slice A m c]).run P w = .ok (.slice A' (n + m) c') w' ∧ w'.ownsRow base e size (.slice A' (n + m) c') (n + m) (xs ++ news) ∧ w.grownBy w' v.ownBlock ∧
   n + m ≤ c' ∧ ((Value.slice A' (n + m) c').ownBlock = v.ownBlock ∨ (Value.slice A' (n + m) c').ownBlock = some w.heap.size) := by
  intro v' w' h h2 h3 h4
  obtain ⟨A', c', rfl, hc⟩ := own_form h2
  exact ⟨A', c', w', h, h2, h3, hc, h4⟩
 by_cases hm : m = 0
 ·subst hm
  have hn : news = [] := List.eq_nil_of_length_eq_zero (by simpa using hr.1)
  subst hn
  refine fin v w ?_ (by simpa using hown) ⟨rfl, rfl, rfl, nR0, fun _ _ _ => rfl⟩ (.inl rfl)
  rcases hown.2 with ⟨rfl, rfl⟩ | ⟨g, cap, cur, rfl, _, _, hnc, _⟩ <;> cases A <;>
   simp [*, Builtin.append_, run_underlying ht, sizeOf, typeInfo, Builtin.lenOf, Builtin.firstCells, loadCells, loadCellsFrom, storeCells]
 ·obtain ⟨b, o, rfl, hb, hc⟩ := hr.2 (by omega)
  obtain ⟨v', w', hrun, ho, hg, _, hv⟩ := run_append_own_at (P := P) w base t ty e i z size bytes ht hi hz hsize hby hzs hsz v n xs hown ⟨b, o, none⟩ m c news hr.1
   (fun j u hu => by obtain ⟨hj, rfl⟩ := List.getElem?_eq_some_iff.1 hu; rw [addr_add]; exact hc j hj) h1 h63 hbytes hbase
  exact fin v' w' hrun ho hg hv
theorem wpList_append_rd {P : Program} (w : World) {ops : Array Oper} {rest : List Oper} {o : Oper} {a : Act} {Q : Exit → Act → World → Prop} (hgd : o.guard = none) (s x : Operand) (t : TypeId)
  (ho : o.op = .call { callee := .builtin .append, args := #[s, x], argTypes := #[t, t] })
  (base : Nat) (e : TypeId) (i : TypeInfo) (z : Value) (size bytes : Nat) (ht : P.underlying t = some (.slice e)) (hi : P.info? e = some i) (hz : i.zero = some z)
  (hsize : i.size = size) (hby : i.bytes = bytes) (hzs : z.cells.size = size) (hsz : 0 < size)
  (v : Value) (n : Nat) (xs : List Value) (hs : a.eval s = v) (hown : w.ownsRow base e size v n xs)
  (A : Option Addr) (m c B : Nat) (news : List Value) (hx : a.eval x = .slice A m c) (hr : Rd w B size A m news) (h1 : ∀ u ∈ news, u.oneCell' = true)
  (h63 : n + m ≤ maxLen) (hbytes : (n + m) * bytes ≤ 140737488355328) (hbase : base ≤ w.heap.size)
  (h : ∀ A' c' w', w'.ownsRow base e size (.slice A' (n + m) c') (n + m) (xs ++ news) → w.grownBy w' v.ownBlock → n + m ≤ c' → ((Value.slice A' (n + m) c').ownBlock = v.ownBlock ∨ (Value.slice A' (n + m) c').ownBlock = some w.heap.size) → wpList P ops Q rest (a.put o.dst (.slice A' (n + m) c')) w') :
  wpList P ops Q (o :: rest) a w := by
 refine wpList_plain hgd fun K hK => ?_
 obtain ⟨A', c', w', hrun, h2, h3, h4, h5⟩ := run_append_rd (P := P) w base t o.type e i z size bytes ht hi hz hsize hby hzs hsz v n xs hown A m c B news hr h1 h63 hbytes hbase
 unfold Oper.wp execOp
 simp only [ho, resolve, invoke, builtin, Sem.run_bind, Sem.run_pure, Result.andThen_ok, List.map_toArray, List.map_cons, List.map_nil, hs, hx, hrun]
 exact hK _ _ (h A' c' w' h2 h3 h4 h5)
theorem grown_below {w w' : World} {row : Option Nat} (hg : w.grownBy w' row) {B : Nat} (hB : B ≤ w.heap.size) (hr : ∀ k, row = some k → B ≤ k) : Below B w w' := (Below.refl B w).grown hg hB hr
theorem Blk.grown {w w' : World} {g : Nat} {t : TypeId} {cs : Array Value} {row : Option Nat} (h : Blk w g t cs) (hb : w.grownBy w' row) (hg : row ≠ some g) : Blk w' g t cs := (hb.block g h.lt (fun e => hg e.symm)).trans h
theorem own_base {w : World} {base base' e size : Nat} {v : Value} {n : Nat} {xs : List Value} (h : w.ownsRow base e size v n xs) (hb : base' ≤ base) : w.ownsRow base' e size v n xs := by
 refine ⟨h.1, ?_⟩
 rcases h.2 with h | ⟨g, cap, cur, hv, hbg, hg, r⟩
 ·exact .inl h
 ·exact .inr ⟨g, cap, cur, hv, Nat.le_trans hb hbg, hg, r⟩
theorem own_set {w : World} {base e size : Nat} {v : Value} {n : Nat} {xs : List Value} (h : w.ownsRow base e size v n xs) {b o : Nat} (hb : b < base) (u : Value) : (w.setCell ⟨b, o, none⟩ u).ownsRow base e size v n xs :=
 ownsRow_setCell_below h (a := ⟨b, o, none⟩) hb u
theorem below_set {B : Nat} {a w : World} (h : Below B a w) {b o : Nat} (hp : B ≤ b) (u : Value) : Below B a (w.setCell ⟨b, o, none⟩ u) := h.setCell (p := ⟨b, o, none⟩) hp u
theorem Blk.drewN {w : World} {g : Nat} {t : TypeId} {cs : Array Value} (h : Blk w g t cs) (n : Nat) : Blk (w.drewN n) g t cs := h
theorem Blk.drew {w : World} {g : Nat} {t : TypeId} {cs : Array Value} (h : Blk w g t cs) : Blk w.drew g t cs := h
theorem Blk.set {w : World} {g : Nat} {t : TypeId} {cs : Array Value} (h : Blk w g t cs) (i : Nat) (u : Value) : Blk (w.setCell ⟨g, i, none⟩ u) g t (cs.setIfInBounds i u) := by
 unfold Blk at h ⊢
 simp [World.setCell, Array.getElem?_modify, h]
theorem Blk.far {w : World} {g : Nat} {t : TypeId} {cs : Array Value} (h : Blk w g t cs) {b o : Nat} (hp : g ≠ b) (u : Value) : Blk (w.setCell ⟨b, o, none⟩ u) g t cs := (Below.heap_setCell w ⟨b, o, none⟩ u g hp).trans h
theorem gby_refl (w : World) (row : Option Nat) : w.grownBy w row := ⟨rfl, rfl, rfl, nR0, fun _ _ _ => rfl⟩
theorem gby_set {a w : World} {g : Nat} (h : a.grownBy w (some g)) (i : Nat) (u : Value) : a.grownBy (w.setCell ⟨g, i, none⟩ u) (some g) :=
 ⟨h.os, h.tape, h.output, by simpa [World.setCell] using h.size, fun k hk hne => (Below.heap_setCell w ⟨g, i, none⟩ u k (fun e => hne (by rw [e]))).trans (h.block k hk hne)⟩
theorem gby_alloc {a w : World} {row : Option Nat} (h : a.grownBy w row) (o : Obj) : a.grownBy (w.alloc o) row :=
 ⟨h.os, h.tape, h.output, by have := h.size; simp; omega, fun k hk hne => (Below.heap_alloc w o k (by have := h.size; omega)).trans (h.block k hk hne)⟩
theorem own_ne {w : World} {base e size n g : Nat} {v : Value} {xs : List Value} {t : TypeId} {cs : Array Value} (h : w.ownsRow base e size v n xs) (hb : Blk w g t cs) (hne : e ≠ t) : v.ownBlock ≠ some g := by
 rcases h.2 with ⟨rfl, _⟩ | ⟨g', cap, cur, rfl, _, hg, _⟩
 ·simp [Value.ownBlock]
 ·intro he
  have : g' = g := by simpa [Value.ownBlock] using he
  subst this
  unfold Blk at hb
  rw [hg] at hb
  injection hb with hb
  injection hb with _ ht
  exact hne ht
theorem own_kept {w w' : World} {base e size n : Nat} {v : Value} {xs : List Value} {row : Option Nat} (h : w.ownsRow base e size v n xs) (hg : w.grownBy w' row) (hne : ∀ g, v.ownBlock = some g → row ≠ some g) : w'.ownsRow base e size v n xs :=
 h.kept hg (by cases hv : v.ownBlock with | none => exact .inl rfl | some g => exact .inr fun e => hne g hv e.symm)
def tyOf (w : World) (k : Nat) : Option TypeId := match w.heap[k]? with | some (.cells _ t _) => some t | some (.map _ _) => some 1000000 | _ => none
theorem Blk.ty {w : World} {g : Nat} {t : TypeId} {cs : Array Value} (h : Blk w g t cs) : tyOf w g = some t := by unfold Blk at h; simp [tyOf, h]
theorem own_ty {w : World} {base e size n g : Nat} {v : Value} {xs : List Value} (h : w.ownsRow base e size v n xs) (hg : v.ownBlock = some g) : tyOf w g = some e := by
 rcases h.2 with ⟨rfl, _⟩ | ⟨g', cap, cur, rfl, _, hh, _⟩
 ·simp [Value.ownBlock] at hg
 ·have : g' = g := by simpa [Value.ownBlock] using hg
  subst this
  simp [tyOf, hh]
theorem tyOf_lt {w : World} {k : Nat} {t : TypeId} (h : tyOf w k = some t) : k < w.heap.size := by
 unfold tyOf at h
 split at h
 ·rename_i hh; exact (Array.getElem?_eq_some_iff.1 hh).1
 ·rename_i hh; exact (Array.getElem?_eq_some_iff.1 hh).1
 ·cases h
theorem gby_of_below {w w' : World} (h : Below w.heap.size w w') : w.grownBy w' none := ⟨h.os, h.tape, h.output, h.size, fun k hk _ => h.block k hk⟩
theorem Blk.ne {w : World} {g g' : Nat} {t t' : TypeId} {cs cs' : Array Value} (h : Blk w g t cs) (h' : Blk w g' t' cs') (hne : t ≠ t') : g ≠ g' := by
 rintro rfl
 have := h.ty
 rw [h'.ty] at this
 injection this with this
 exact hne this.symm
theorem own_at {w : World} {base e size n c : Nat} {A : Option Addr} {xs : List Value} (h : w.ownsRow base e size (.slice A n c) n xs) (hn : 0 < n) : ∃ g, A = some ⟨g, 0, none⟩ ∧ base ≤ g ∧ g < w.heap.size ∧ (∀ o k, w.frozen? ⟨g, o, k⟩ = false ∨ k ≠ none) := by
 rcases h.2 with ⟨hv, hn'⟩ | ⟨g, cap, cur, hv, hb, hg, _⟩
 ·omega
 ·injection hv with hA
  subst hA
  refine ⟨g, rfl, hb, (Array.getElem?_eq_some_iff.1 hg).1, fun o k => ?_⟩
  cases k with
  | none => left; simp [World.frozen?, hg]
  | some k => right; simp
theorem Blk.range {w : World} {g : Nat} {t : TypeId} {cs : Array Value} (h : Blk w g t cs) (o : Nat) (xs : List Value) (hx : ∀ j v, xs[j]? = some v → cs[o + j]? = some v) : w.rangeAt g o xs := fun j v hv => (h.cell (o + j)).trans (hx j v hv)
theorem Blk.there {w : World} {g : Nat} {t : TypeId} {cs : Array Value} (h : Blk w g t cs) (o n : Nat) (hn : o + n ≤ cs.size) : w.there g o n := fun j hj => ⟨by rw [h.cell, Array.getElem?_eq_getElem (by omega)]; rfl, h.free _⟩
def setA (cs : Array Value) (o : Nat) : List Value → Array Value
 | [] => cs
 | v :: vs => setA (cs.setIfInBounds o v) (o + 1) vs
theorem Blk.sets {w : World} {g : Nat} {t : TypeId} {cs : Array Value} (h : Blk w g t cs) : ∀ (vs : List Value) (o : Nat), Blk (w.setCells g o vs) g t (setA cs o vs) := by
 intro vs
 induction vs generalizing w cs with
 | nil => intro o; exact h
 | cons v vs ih => intro o; exact ih (h.set o v) (o + 1)
theorem step_append_rd {P : Program} (w : World) {ops : Array Oper} {o : Oper} {a : Act} {K : Act → World → Prop} {Q : Exit → Act → World → Prop} {E : Prop} (hgd : o.guard = none) (s x : Operand) (t : TypeId)
  (ho : o.op = .call { callee := .builtin .append, args := #[s, x], argTypes := #[t, t] })
  (base : Nat) (e : TypeId) (i : TypeInfo) (z : Value) (size bytes : Nat) (ht : P.underlying t = some (.slice e)) (hi : P.info? e = some i) (hz : i.zero = some z)
  (hsize : i.size = size) (hby : i.bytes = bytes) (hzs : z.cells.size = size) (hsz : 0 < size)
  (v : Value) (n : Nat) (xs : List Value) (hs : a.eval s = v) (hown : w.ownsRow base e size v n xs)
  (A : Option Addr) (m c B : Nat) (news : List Value) (hx : a.eval x = .slice A m c) (hr : Rd w B size A m news) (h1 : ∀ u ∈ news, u.oneCell' = true)
  (h63 : n + m ≤ maxLen) (hbytes : (n + m) * bytes ≤ 140737488355328) (hbase : base ≤ w.heap.size)
  (h : ∀ A' c' w', w'.ownsRow base e size (.slice A' (n + m) c') (n + m) (xs ++ news) → w.grownBy w' v.ownBlock → n + m ≤ c' → K (a.put o.dst (.slice A' (n + m) c')) w') :
  if Region.wanted o (yielded ops a.tmps) = true then Oper.wp P o a w K Q else E := by
 have hw : Region.wanted o (yielded ops a.tmps) = true := by simp [Region.wanted, hgd]
 rw [if_pos hw]
 obtain ⟨A', c', w', hrun, h2, h3, h4, h5⟩ := run_append_rd (P := P) w base t o.type e i z size bytes ht hi hz hsize hby hzs hsz v n xs hown A m c B news hr h1 h63 hbytes hbase
 unfold Oper.wp execOp
 simp only [ho, resolve, invoke, builtin, Sem.run_bind, Sem.run_pure, Result.andThen_ok, List.map_toArray, List.map_cons, List.map_nil, hs, hx, hrun]
 exact h A' c' w' h2 h3 h4
structure Keeps (base : Nat) (ts : List TypeId) (w w' : World) : Prop where
 below : Below base w w'
 old : ∀ k t, tyOf w k = some t → t ∉ ts → w'.heap[k]? = w.heap[k]?
theorem Keeps.refl (base : Nat) (ts : List TypeId) (w : World) : Keeps base ts w w := ⟨bR0, fun _ _ _ _ => rfl⟩
theorem Keeps.trans {base : Nat} {ts : List TypeId} {a b c : World} (h : Keeps base ts a b) (k : Keeps base ts b c) : Keeps base ts a c :=
 ⟨h.below.trans k.below, fun i t hi h1 => by
  have e1 := h.old i t hi h1
  have : tyOf b i = some t := by unfold tyOf at hi ⊢; rw [e1]; exact hi
  exact (k.old i t this h1).trans e1⟩
theorem Keeps.mono {base base' : Nat} {ts ts' : List TypeId} {w w' : World} (h : Keeps base ts w w') (hb : base' ≤ base) (ht : ∀ t ∈ ts, t ∈ ts') : Keeps base' ts' w w' :=
 ⟨h.below.mono hb, fun k t hk h1 => h.old k t hk fun g => h1 (ht t g)⟩
theorem Keeps.of_below {base : Nat} {ts : List TypeId} {w w' : World} (h : Below w.heap.size w w') (hb : base ≤ w.heap.size) : Keeps base ts w w' :=
 ⟨h.mono hb, fun k _ hk _ => h.block k (tyOf_lt hk)⟩
theorem Keeps.of_grown {base : Nat} {ts : List TypeId} {w w' : World} {r : Option Nat} (h : w.grownBy w' r) (hb : base ≤ w.heap.size) (hg : ∀ g, r = some g → base ≤ g ∧ ∀ t, tyOf w g = some t → t ∈ ts) : Keeps base ts w w' :=
 ⟨grown_below h hb (fun k hk => (hg k hk).1), fun k t hk h1 => by
  refine h.block k (tyOf_lt hk) (fun e => ?_)
  exact h1 ((hg k e.symm).2 t hk)⟩
theorem Keeps.set {base : Nat} {ts : List TypeId} {a w : World} (h : Keeps base ts a w) {g o : Nat} {t : TypeId} {cs : Array Value} (hB : Blk w g t cs) (hg : base ≤ g) (ht : t ∈ ts) (u : Value) : Keeps base ts a (w.setCell ⟨g, o, none⟩ u) :=
 h.trans ⟨below_set bR0 hg u, fun k t' hk h1 => by
  by_cases e : k = g
  ·subst e
   have := hB.ty.symm.trans hk
   injection this with this
   exact absurd (this ▸ ht) h1
  ·exact Below.heap_setCell w ⟨g, o, none⟩ u k e⟩
theorem Keeps.alloc {base : Nat} {ts : List TypeId} {a w : World} (h : Keeps base ts a w) (hb : base ≤ w.heap.size) (o : Obj) : Keeps base ts a (w.alloc o) :=
 h.trans (Keeps.of_below (bR0.alloc nR0 o) hb)
theorem Keeps.drewN {base : Nat} {ts : List TypeId} {a w : World} (h : Keeps base ts a w) (n : Nat) : Keeps base ts a (w.drewN n) := h.trans ⟨⟨rfl, rfl, rfl, nR0, fun _ _ => rfl⟩, fun _ _ _ _ => rfl⟩
theorem Blk.keeps {base : Nat} {ts : List TypeId} {w w' : World} {g : Nat} {t : TypeId} {cs : Array Value} (h : Blk w g t cs) (k : Keeps base ts w w') (ht : t ∉ ts) : Blk w' g t cs := (k.old g t h.ty ht).trans h
theorem own_keeps {base base' : Nat} {ts : List TypeId} {w w' : World} {e size n : Nat} {v : Value} {xs : List Value} (h : w.ownsRow base' e size v n xs) (k : Keeps base ts w w') (ht : e ∉ ts) : w'.ownsRow base' e size v n xs := by
 refine ⟨h.1, ?_⟩
 rcases h.2 with h | ⟨g, cap, cur, hv, hbg, hg, r⟩
 ·exact .inl h
 ·refine .inr ⟨g, cap, cur, hv, hbg, ?_, r⟩
  rw [k.old g e (by simp [tyOf, hg]) ht]
  exact hg
end
section
open Go.RowKit Go.Maps
set_option maxRecDepth 100000

def u8v (c : UInt8) : Value := .int .u8 (c.toNat : Int)
def ptrV : Option Nat → Value
 | none => .pointer none
 | some g => .pointer (some ⟨g, 0, none⟩)
def Cont (w : World) (base size g : Nat) : SecV → Prop
 | .zero => False
 | .torn => base ≤ g ∧ Blk w g 169 #[.slice none 0 0, .bool true, .bool false]
 | .data b t => b.length = size ∧ base < g ∧ ∃ c, Blk w g 169 #[.slice (some ⟨g - 1, 0, none⟩) size c, .bool false, .bool t] ∧ w.ownsRow base 5 1 (.slice (some ⟨g - 1, 0, none⟩) size c) size (b.map u8v)
structure DskM where
 LB : Nat
 TB : Nat
 li : List (Option Nat)
 wi : List (Nat × Nat)
 A : Option Addr
 c : Nat
def DskM.last (m : DskM) (k : Nat) : Option Nat := m.li.getD k none
def DskM.told (m : DskM) (k : Nat) : Option Nat := match m.wi.reverse.find? (fun x => x.1 == k) with
 | some x => some x.2
 | none => m.last k
def SecAt (w : World) (base size : Nat) (o : Option Nat) (v : SecV) : Prop := match o with
 | none => v = .zero
 | some g => Cont w base size g v
abbrev dskC (d : DskV) (m : DskM) : Array Value := #[.int .i64 d.size, .slice (some ⟨m.LB, 0, none⟩) d.lasts.length d.lasts.length, .slice (some ⟨m.TB, 0, none⟩) d.lasts.length d.lasts.length, .slice m.A m.wi.length m.c, .bool d.off]
structure DskR (w : World) (base B : Nat) (d : DskV) (m : DskM) : Prop where
 low : base ≤ B ∧ base ≤ m.LB ∧ base ≤ m.TB
 ne : m.LB ≠ m.TB
 sz : 16 ≤ d.size ∧ d.size ≤ 4096
 n1 : 1 ≤ d.lasts.length ∧ d.lasts.length ≤ 65536
 blk : Blk w B 121 (dskC d m)
 lb : Blk w m.LB 165 (m.li.map ptrV).toArray
 tb : Blk w m.TB 165 ((List.range d.lasts.length).map fun k => ptrV (m.told k)).toArray
 own : w.ownsRow base 167 2 (.slice m.A m.wi.length m.c) m.wi.length (m.wi.flatMap fun x => [.int .i64 x.1, ptrV (some x.2)])
 ll : m.li.length = d.lasts.length
 wl : m.wi.map (·.1) = d.waits.map (·.1)
 wlt : ∀ x ∈ m.wi, x.1 < d.lasts.length
 last : ∀ k, k < d.lasts.length → SecAt w base d.size (m.last k) (d.lasts.getD k .zero)
 wait : ∀ k (h : k < m.wi.length) (h' : k < d.waits.length), Cont w base d.size m.wi[k].2 d.waits[k].2
 nd : (m.wi.map (·.2) ++ m.li.filterMap id).Nodup
def Dsk (w : World) (base B : Nat) (d : DskV) : Prop := ∃ m, DskR w base B d m

theorem under118 : Tryz.prog.underlying 118 = some (.slice 165) := by kernel_rfl
theorem info165 : (Tryz.prog.info? 165).map (fun i => (i.zero, i.size, i.bytes)) = some (some (.pointer none), 1, 8) := by kernel_rfl
def nilsA (n : Nat) : Array Value := Array.replicate n (.pointer none)
theorem made_nils (n : Nat) : madeCells (Value.pointer none).cells n = nilsA n := by
 unfold madeCells nilsA
 apply Array.ext
 ·simp
 ·intro i h1 h2
  simp [Value.cells, Nat.mod_one]
theorem run_make118 (n : Int) (h0 : 0 ≤ n) (h1 : n ≤ 65536) (W : World) :
  (Instr.makeSlice 118 (.int .i64 n) (.int .i64 n)).run Tryz.prog W = .ok (.slice (some ⟨W.heap.size, 0, none⟩) n.toNat n.toNat) (W.alloc (.cells (nilsA n.toNat) 165)) := by
 obtain ⟨i, hi, hz0, hz1, hz2⟩ := info_parts info165
 have := run_make (P := Tryz.prog) W 118 165 i _ under118 hi hz0 .i64 .i64 n n h0 (Int.le_refl _) (by rw [hz2]; omega) (by omega)
 rw [this, hz1, Nat.mul_one, made_nils]
theorem own_nil (w : World) (base e size : Nat) : w.ownsRow base e size (.slice none 0 0) 0 [] := ⟨by simp, .inl ⟨rfl, rfl⟩⟩
theorem nils_list (n : Nat) : ((List.replicate n (none : Option Nat)).map ptrV).toArray = nilsA n := by
 unfold nilsA
 apply Array.ext
 ·simp
 ·intro i h1 h2; simp [ptrV]
theorem dsk_fresh {w : World} {base B LB TB n s : Nat} (h1 : base ≤ B ∧ base ≤ LB ∧ base ≤ TB) (hne : LB ≠ TB) (hs : 16 ≤ s ∧ s ≤ 4096) (hn : 1 ≤ n ∧ n ≤ 65536)
  (hb : Blk w B 121 #[.int .i64 s, .slice (some ⟨LB, 0, none⟩) n n, .slice (some ⟨TB, 0, none⟩) n n, .slice none 0 0, .bool false]) (hl : Blk w LB 165 (nilsA n)) (ht : Blk w TB 165 (nilsA n)) : Dsk w base B (newD n s) := by
 have hg : ∀ k, (DskM.mk LB TB (List.replicate n none) [] none 0).told k = none := fun k => by
  simp only [DskM.told, DskM.last, List.getD, List.getElem?_replicate, List.reverse_nil, List.find?_nil]; split <;> rfl
 refine ⟨⟨LB, TB, List.replicate n none, [], none, 0⟩, ⟨h1, hne, hs, by simpa [newD] using hn, by simpa [dskC, newD] using hb, by rw [nils_list]; exact hl, ?_, own_nil w base 167 2, by simp [newD], rfl, by simp, ?_, by simp, by simp⟩⟩
 ·simp only [hg, newD, List.length_replicate]
  have : ((List.range n).map fun _ => ptrV none) = (List.replicate n (none : Option Nat)).map ptrV := by rw [List.map_const', List.map_replicate, List.length_range]
  rw [this, nils_list]; exact ht
 ·intro k hk
  have e : (DskM.mk LB TB (List.replicate n none) [] none 0).last k = none := by simp only [DskM.last, List.getD, List.getElem?_replicate]; split <;> rfl
  rw [e]
  simp only [newD, List.length_replicate] at hk ⊢
  simp [SecAt, List.getD, hk]
theorem Blk.new_eq {w : World} {t : TypeId} {cs : Array Value} {k : Nat} (h : w.heap.size = k) : Blk (w.alloc (.cells cs t)).drew k t cs := h ▸ (Blk.new w t cs).drew
theorem Blk.new_eq0 {w : World} {t : TypeId} {cs : Array Value} {k : Nat} (h : w.heap.size = k) : Blk (w.alloc (.cells cs t)) k t cs := h ▸ (Blk.new w t cs)
section
attribute [local go_sem ↓] run_make118
def NewOK (n s : Int) : Prop := 1 ≤ n ∧ n ≤ 65536 ∧ 16 ≤ s ∧ s ≤ 4096
theorem diskNew_any (n s : Int) (w : World) :
  Calls Tryz.prog 15 #[.int .i64 n, .int .i64 s] w fun e w' => Below w.heap.size w w' ∧
   ((e = .returned (.tuple #[.pointer none, .int .i64 1]) ∧ ¬ NewOK n s) ∨
    (NewOK n s ∧ ∃ B, e = .returned (.tuple #[.pointer (some ⟨B, 0, none⟩), .int .i64 0]) ∧ Dsk w' w.heap.size B (newD n.toNat s.toNat))) := by
 by_cases hh : 1 ≤ n ∧ n ≤ 65536 ∧ 16 ≤ s ∧ s ≤ 4096
 ·obtain ⟨h1, h2, h3, h4⟩ := hh
  go_enter Tryz.func15, Tryz.ntmps15
  have h0 : 0 ≤ n := by omega
  go_wp2_with fail
  go_region
  all_goals
   go_wp2_with fail
   go_ret2
   have hs : ((s.toNat : Nat) : Int) = s := by omega
   refine ⟨(((bR0.alloc nR0 _).alloc (by simp) _).alloc (by simp; omega) _).drew, .inr ⟨⟨h1, h2, h3, h4⟩, w.heap.size + 1 + 1, rfl, ?_⟩⟩
  ·exact dsk_fresh (LB := w.heap.size) (TB := w.heap.size + 1) (by omega) (by omega) (by omega) (by omega)
    (by rw [hs]; exact Blk.new_eq (by simp)) (((Blk.new w 165 _).alloc _).alloc _).drew (Blk.alloc (Blk.new_eq0 (by simp)) _).drew
  ·exact dsk_fresh (LB := w.heap.size + 1) (TB := w.heap.size) (by omega) (by omega) (by omega) (by omega)
    (by rw [hs]; exact Blk.new_eq (by simp)) (Blk.alloc (Blk.new_eq0 (by simp)) _).drew (((Blk.new w 165 _).alloc _).alloc _).drew
 ·go_enter Tryz.func15, Tryz.ntmps15
  go_wp2
  all_goals first
   | (go_ret2; exact ⟨bR0, .inl ⟨rfl, hh⟩⟩)
   | (exfalso; omega)
end
end
section
open Go.RowKit Go.Maps
set_option maxRecDepth 100000

theorem below_drewN (B : Nat) (w : World) (n : Nat) : Below B w (w.drewN n) := ⟨rfl, rfl, rfl, nR0, fun _ _ => rfl⟩
theorem diskSize_any {w : World} {base B : Nat} {d : DskV} (h : Dsk w base B d) :
  Calls Tryz.prog 55 #[.pointer (some ⟨B, 0, none⟩)] w fun e w' => e = .returned (.tuple #[.int .i64 d.lasts.length, .int .i64 d.size]) ∧ Below w.heap.size w w' := by
 obtain ⟨m, h⟩ := h
 have hb := h.blk
 have hlt := hb.lt
 have e0 := hb.cell 0
 have e1 := hb.cell 1
 simp only [dskC] at e0 e1
 have HB := hZ9 hb
 clear hb h
 go_enter Tryz.func55, Tryz.ntmps55
 go_wp2_with fail
 go_quiet (fail)
 go_wp2_with fail
 go_ret2
 exact ⟨rfl, below_drewN _ _ _⟩
theorem diskHas_any {w : World} {base B : Nat} {d : DskV} (h : Dsk w base B d) (n : Int) :
  Calls Tryz.prog 92 #[.pointer (some ⟨B, 0, none⟩), .int .i64 n] w fun e w' => e = .returned (.bool (decide (0 ≤ n ∧ n < d.lasts.length))) ∧ w = w' := by
 obtain ⟨m, h⟩ := h
 have hb := h.blk
 have hlt := hb.lt
 have e1 := hb.cell 1
 simp only [dskC] at e1
 have HB := hZ9 hb
 clear hb h
 go_enter Tryz.func92, Tryz.ntmps92
 go_wp2
 all_goals (go_ret; refine ⟨ret_bool ?_, rfl⟩; rw [Bool.eq_iff_iff]; simp; omega)
theorem find_pair {α β : Type} {R : α → β → Prop} (n : Nat) : ∀ (a : List (Nat × α)) (b : List (Nat × β)), a.map (·.1) = b.map (·.1) → (∀ k (h : k < a.length) (h' : k < b.length), R a[k].2 b[k].2) →
  (a.find? (fun x => x.1 == n) = none ∧ b.find? (fun x => x.1 == n) = none) ∨ ∃ x y, a.find? (fun x => x.1 == n) = some x ∧ b.find? (fun x => x.1 == n) = some y ∧ R x.2 y.2
 | [], [], _, _ => .inl ⟨rfl, rfl⟩
 | [], _ :: _, h, _ => by simp at h
 | _ :: _, [], h, _ => by simp at h
 | x :: a, y :: b, h, hr => by
  simp only [List.map_cons, List.cons.injEq] at h
  by_cases hx : x.1 = n
  ·exact .inr ⟨x, y, by simp [hx], by simp [← h.1, hx], hr 0 (by simp) (by simp)⟩
  ·rcases find_pair n a b h.2 (fun k h1 h2 => hr (k + 1) (by simpa using h1) (by simpa using h2)) with ⟨h1, h2⟩ | ⟨u, v, h1, h2, h3⟩
   ·exact .inl ⟨by simp [hx, h1], by simp [← h.1, hx, h2]⟩
   ·exact .inr ⟨u, v, by simp [hx, h1], by simp [← h.1, hx, h2], h3⟩
theorem DskR.told_at {w : World} {base B : Nat} {d : DskV} {m : DskM} (h : DskR w base B d m) (n : Nat) (hn : n < d.lasts.length) : SecAt w base d.size (m.told n) (d.told n) := by
 have hl : m.wi.length = d.waits.length := by have := congrArg List.length h.wl; simpa using this
 have := find_pair (R := fun g v => Cont w base d.size g v) n m.wi.reverse d.waits.reverse (by rw [List.map_reverse, List.map_reverse, h.wl]) (fun k h1 h2 => by
  rw [List.getElem_reverse, List.getElem_reverse]
  have e : m.wi.length - 1 - k = d.waits.length - 1 - k := by omega
  simp only [List.length_reverse] at h1 h2
  have := h.wait (d.waits.length - 1 - k) (by omega) (by omega)
  simp only [e]
  exact this)
 unfold DskM.told DskV.told
 rcases this with ⟨h1, h2⟩ | ⟨x, y, h1, h2, h3⟩
 ·rw [h1, h2]; exact h.last n hn
 ·rw [h1, h2]; exact h3
theorem under43 : Tryz.prog.underlying 43 = some (.slice 5) := by kernel_rfl
theorem info5 : (Tryz.prog.info? 5).map (fun i => (i.zero, i.size, i.bytes)) = some (some (.int .u8 0), 1, 1) := by kernel_rfl
def zerosA (n : Nat) : Array Value := ((List.replicate n (0 : UInt8)).map u8v).toArray
theorem made_zeros (n : Nat) : madeCells (Value.int .u8 0).cells n = zerosA n := by
 unfold madeCells zerosA
 apply Array.ext
 ·simp
 ·intro i h1 h2
  simp [Value.cells, Nat.mod_one, u8v]
theorem run_make43 (n : Int) (h0 : 0 ≤ n) (h1 : n ≤ 65536) (W : World) :
  (Instr.makeSlice 43 (.int .i64 n) (.int .i64 n)).run Tryz.prog W = .ok (.slice (some ⟨W.heap.size, 0, none⟩) n.toNat n.toNat) (W.alloc (.cells (zerosA n.toNat) 5)) := by
 obtain ⟨i, hi, hz0, hz1, hz2⟩ := info_parts info5
 have := run_make (P := Tryz.prog) W 43 5 i _ under43 hi hz0 .i64 .i64 n n h0 (Int.le_refl _) (by rw [hz2]; omega) (by omega)
 rw [this, hz1, Nat.mul_one, made_zeros]
end
section
open Go.RowKit Go.Maps
set_option maxRecDepth 100000

def Made (w : World) (base : Nat) (v : Value) (l : List UInt8) : Prop := ∃ g c, v = .slice (some ⟨g, 0, none⟩) l.length c ∧ w.ownsRow base 5 1 v l.length (l.map u8v)
def ReadOut (w' : World) (base : Nat) (r : Nat × List UInt8) (e : Ending) : Prop :=
 (r.1 = 0 ∧ ∃ v, e = .returned (.tuple #[v, .int .i64 0]) ∧ Made w' base v r.2) ∨ (r.1 ≠ 0 ∧ e = .returned (.tuple #[.slice none 0 0, .int .i64 r.1]))
theorem made_of_blk {w : World} {base g : Nat} {l : List UInt8} (h : Blk w g 5 (l.map u8v).toArray) (hb : base ≤ g) (hl : l.length ≤ maxLen) : Made w base (.slice (some ⟨g, 0, none⟩) l.length l.length) l :=
 ⟨g, l.length, rfl, by simp, .inr ⟨g, l.length, _, rfl, hb, h, nR0, hl, by simp, by rw [Nat.mul_one]; exact List.take_of_length_le (by simp)⟩⟩
theorem u8v_one (l : List UInt8) : ∀ u ∈ l.map u8v, u.oneCell' = true := by
 intro u hu
 obtain ⟨x, _, rfl⟩ := List.mem_map.1 hu
 rfl
theorem own_keep_alloc {w : World} {base e size n : Nat} {v : Value} {xs : List Value} (h : w.ownsRow base e size v n xs) (o : Obj) : (w.alloc o).ownsRow base e size v n xs := own_keeps (base := 0) (ts := []) h (Keeps.of_below (bR0.alloc nR0 o) (Nat.zero_le _)) (by simp)
theorem copied (w : World) (b : List UInt8) (g : Nat) (k c base : Nat) (hk : b.length = k) (hown : w.ownsRow base 5 1 (.slice (some ⟨g, 0, none⟩) k c) k (b.map u8v)) :
  (Builtin.copy_ #[43, 43] 3 #[.slice (some ⟨w.heap.size, 0, none⟩) k k, .slice (some ⟨g, 0, none⟩) k c]).run Tryz.prog (w.alloc (.cells (zerosA k) 5)) = .ok (goInt k) ((w.alloc (.cells (zerosA k) 5)).setRow w.heap.size (b.map u8v).toArray) := by
 have hc := own_keep_alloc hown (.cells (zerosA k) 5)
 have h := run_copy_row (P := Tryz.prog) (w.alloc (.cells (zerosA k) 5)) 43 43 3 5 w.heap.size 0 k k ⟨g, 0, none⟩ k c (zerosA k) 5 (b.map u8v) under43 (by kernel_rfl) (heap_alloc_new w _) (by simp [hk]) (fun j v hj => ?_) (by simp [zerosA, hk]) (u8v_one b)
 ·rw [h]
  simp [hk, zerosA]
 ·exact hc.cells (g := g) rfl j v hj
theorem diskHas_no {w : World} {base B : Nat} {d : DskV} (h : Dsk w base B d) {n : Nat} (hn : d.lasts.length ≤ n) :
  Calls Tryz.prog 92 #[.pointer (some ⟨B, 0, none⟩), .int .i64 n] w fun e w' => e = .returned (.bool false) ∧ w = w' :=
 (diskHas_any h n).mono fun e w' ⟨h1, h2⟩ => ⟨by rw [h1, decide_eq_false (by omega)], h2⟩
theorem diskHas_ok {w : World} {base B : Nat} {d : DskV} (h : Dsk w base B d) {n : Nat} (hn : n < d.lasts.length) :
  Calls Tryz.prog 92 #[.pointer (some ⟨B, 0, none⟩), .int .i64 n] w fun e w' => e = .returned (.bool true) ∧ w = w' :=
 (diskHas_any h n).mono fun e w' ⟨h1, h2⟩ => ⟨by rw [h1, decide_eq_true (by omega)], h2⟩
section
attribute [local go_sem ↓] run_make43
theorem diskRead_any {w : World} {base B : Nat} {d : DskV} (h : Dsk w base B d) (n : Nat) :
  Calls Tryz.prog 171 #[.pointer (some ⟨B, 0, none⟩), .int .i64 n] w fun e w' => ReadOut w' w.heap.size (readD d n) e ∧ Below w.heap.size w w' := by
 have hD := h
 obtain ⟨m, h⟩ := h
 have hb := h.blk
 have hlt := hb.lt
 have e0 : w.cell? ⟨B, 0, none⟩ = some (.int .i64 d.size) := hb.cell 0
 have e2 : w.cell? ⟨B, 2, none⟩ = some (.slice (some ⟨m.TB, 0, none⟩) d.lasts.length d.lasts.length) := hb.cell 2
 have e4 : w.cell? ⟨B, 4, none⟩ = some (.bool d.off) := hb.cell 4
 have HD := hZ9 hD
 obtain ⟨r, hr⟩ : ∃ r, r = readD d n := ⟨_, rfl⟩
 rw [← hr]
 by_cases hn : d.lasts.length ≤ n
 ·have hr' : r = (1, []) := by rw [hr]; unfold readD; rw [if_pos hn]
  subst hr'
  clear h hD hb hr
  go_enter Tryz.func171, Tryz.ntmps171
  go_wp2_with (go_at_call 92; refine (diskHas_no HD.out hn).mono ?_; rintro e w' ⟨rfl, rfl⟩)
  go_ret2
  exact ⟨.inr ⟨by decide, rfl⟩, bR0⟩
 ·by_cases ho : d.off = true
  ·have hr' : r = (10, []) := by rw [hr]; unfold readD; rw [if_neg hn, if_pos ho]
   subst hr'
   rw [ho] at e4
   clear h hD hb hr
   go_enter Tryz.func171, Tryz.ntmps171
   go_wp2_with (go_at_call 92; refine (diskHas_ok HD.out (by omega)).mono ?_; rintro e w' ⟨rfl, rfl⟩)
   go_ret2
   exact ⟨.inr ⟨by decide, rfl⟩, bR0⟩
  ·have hn' : n < d.lasts.length := by omega
   have ho' : d.off = false := by simpa using ho
   have hs := h.told_at n hn'
   have et : w.cell? ⟨m.TB, n, none⟩ = some (ptrV (m.told n)) := by
    rw [h.tb.cell n]; simp [hn']
   have htl := h.tb.lt
   have sz1 := h.sz.1
   have sz2 := h.sz.2
   have z0 : (0 : Int) ≤ d.size := by omega
   have z1 : (d.size : Int) ≤ 65536 := by omega
   have hr' : r = match d.told n with | .torn => (9, []) | .zero => (0, List.replicate d.size 0) | .data b _ => (0, b) := by
    rw [hr]; unfold readD; rw [if_neg hn, if_neg ho]; cases d.told n <;> rfl
   rw [ho'] at e4
   cases hq : m.told n with
   | none =>
    rw [hq] at hs et
    have hz : d.told n = .zero := hs
    rw [hz] at hr'
    simp only at hr'
    simp only [ptrV] at et
    subst hr'
    clear h hD hb hr ho
    go_enter Tryz.func171, Tryz.ntmps171
    go_wp2_with (go_at_call 92; refine (diskHas_ok HD.out (by omega)).mono ?_; rintro e w' ⟨rfl, rfl⟩)
    go_ret2
    exact ⟨.inl ⟨rfl, _, rfl, by
     have := made_of_blk (l := List.replicate d.size 0) (Blk.new w 5 _) nR0 (by simp [maxLen]; omega)
     rw [List.length_replicate] at this
     exact this⟩, bR0.alloc nR0 _⟩
   | some g =>
    rw [hq] at hs et
    simp only [ptrV] at et
    cases hv : d.told n with
    | zero => rw [hv] at hs; exact absurd hs (by simp [SecAt, Cont])
    | torn =>
     rw [hv] at hs hr'
     have hc := hs.2
     have hgl := hc.lt
     have c1 : w.cell? ⟨g, 1, none⟩ = some (.bool true) := hc.cell 1
     simp only at hr'
     subst hr'
     clear h hD hb hr ho hs hc
     go_enter Tryz.func171, Tryz.ntmps171
     go_wp2_with (go_at_call 92; refine (diskHas_ok HD.out (by omega)).mono ?_; rintro e w' ⟨rfl, rfl⟩)
     go_ret2
     exact ⟨.inr ⟨by decide, rfl⟩, bR0.alloc nR0 _⟩
    | data b tu =>
     rw [hv] at hs hr'
     obtain ⟨hlen, hbg, c, hc, hown⟩ := hs
     have hgl := hc.lt
     have c0 : w.cell? ⟨g, 0, none⟩ = some (.slice (some ⟨g - 1, 0, none⟩) d.size c) := hc.cell 0
     have c1 : w.cell? ⟨g, 1, none⟩ = some (.bool false) := hc.cell 1
     simp only at hr'
     subst hr'
     have hcp := copied w b (g - 1) d.size c base hlen hown
     have HL := hZ9 hlen
     clear h hD hb hr ho hc hown hlen
     go_enter Tryz.func171, Tryz.ntmps171
     go_wp2_with (go_at_call 92; refine (diskHas_ok HD.out (by omega)).mono ?_; rintro e w' ⟨rfl, rfl⟩)
     go_ret2
     have hm := made_of_blk (w := (w.alloc (.cells (zerosA d.size) 5)).setRow w.heap.size (b.map u8v).toArray) (l := b) (g := w.heap.size) (base := w.heap.size) (setRow_heap _ _ _ _ _ _ (heap_alloc_new w _)) nR0 (by rw [HL.out]; simp [maxLen]; omega)
     rw [HL.out] at hm
     exact ⟨.inl ⟨rfl, _, rfl, hm⟩, below_setRow (bR0.alloc nR0 _) nR0 _⟩
end
end
section
open Go.RowKit Go.Maps
set_option maxRecDepth 100000

theorem Cont.keeps {base base' : Nat} {ts : List TypeId} {w w' : World} {size g : Nat} {v : SecV} (h : Cont w base size g v) (k : Keeps base' ts w w') (h1 : 169 ∉ ts) (h2 : 5 ∉ ts) : Cont w' base size g v := by
 cases v with
 | zero => exact h
 | torn => exact ⟨h.1, h.2.keeps k h1⟩
 | data b t =>
  obtain ⟨a, b', c, hb, ho⟩ := h
  exact ⟨a, b', c, hb.keeps k h1, own_keeps ho k h2⟩
theorem Cont.lt {base : Nat} {w : World} {size g : Nat} {v : SecV} (h : Cont w base size g v) : g < w.heap.size := by
 cases v with
 | zero => exact absurd h (by simp [Cont])
 | torn => exact h.2.lt
 | data b t => obtain ⟨_, _, c, hb, _⟩ := h; exact hb.lt
theorem SecAt.keeps {base base' : Nat} {ts : List TypeId} {w w' : World} {size : Nat} {o : Option Nat} {v : SecV} (h : SecAt w base size o v) (k : Keeps base' ts w w') (h1 : 169 ∉ ts) (h2 : 5 ∉ ts) : SecAt w' base size o v := by
 cases o with
 | none => exact h
 | some g => exact Cont.keeps (show Cont w base size g v from h) k h1 h2
theorem DskR.keeps {base base' B : Nat} {ts : List TypeId} {w w' : World} {d : DskV} {m : DskM} (h : DskR w base B d m) (k : Keeps base' ts w w') (h1 : 121 ∉ ts) (h2 : 165 ∉ ts) (h3 : 167 ∉ ts) (h4 : 169 ∉ ts) (h5 : 5 ∉ ts) : DskR w' base B d m :=
 { h with blk := h.blk.keeps k h1, lb := h.lb.keeps k h2, tb := h.tb.keeps k h2, own := own_keeps h.own k h3, last := fun i hi => (h.last i hi).keeps k h4 h5, wait := fun i a b => (h.wait i a b).keeps k h4 h5 }
theorem Dsk.keeps {base base' B : Nat} {ts : List TypeId} {w w' : World} {d : DskV} (h : Dsk w base B d) (k : Keeps base' ts w w') (h1 : 121 ∉ ts) (h2 : 165 ∉ ts) (h3 : 167 ∉ ts) (h4 : 169 ∉ ts) (h5 : 5 ∉ ts) : Dsk w' base B d := by
 obtain ⟨m, h⟩ := h
 exact ⟨m, h.keeps k h1 h2 h3 h4 h5⟩
theorem Dsk.below {base B : Nat} {w w' : World} {d : DskV} (h : Dsk w base B d) (k : Below w.heap.size w w') : Dsk w' base B d :=
 h.keeps (ts := []) (Keeps.of_below (base := 0) k (Nat.zero_le _)) (by simp) (by simp) (by simp) (by simp) (by simp)
theorem DskR.ids_lt {base B : Nat} {w : World} {d : DskV} {m : DskM} (h : DskR w base B d m) : ∀ g ∈ m.wi.map (·.2) ++ m.li.filterMap id, g < w.heap.size := by
 intro g hg
 have hl : m.wi.length = d.waits.length := by have := congrArg List.length h.wl; simpa using this
 rcases List.mem_append.1 hg with hg | hg
 ·obtain ⟨x, hx, rfl⟩ := List.mem_map.1 hg
  obtain ⟨k, hk, rfl⟩ := List.mem_iff_getElem.1 hx
  exact (h.wait k hk (by omega)).lt
 ·rw [List.mem_filterMap] at hg
  obtain ⟨o, ho, he⟩ := hg
  simp only [id] at he
  subst he
  obtain ⟨k, hk, he⟩ := List.mem_iff_getElem.1 ho
  have := h.last k (by rw [← h.ll]; exact hk)
  have e : m.last k = some g := by unfold DskM.last; rw [List.getD, List.getElem?_eq_getElem hk, he]; rfl
  rw [e] at this
  exact Cont.lt (show Cont w base d.size g _ from this)
def DskM.wrote (m : DskM) (n g : Nat) (A : Option Addr) (c : Nat) : DskM := { m with wi := m.wi ++ [(n, g)], A := A, c := c }
theorem DskM.told_wrote (m : DskM) (n g : Nat) (A : Option Addr) (c k : Nat) : (m.wrote n g A c).told k = if n = k then some g else m.told k := by
 unfold DskM.told DskM.wrote
 rw [List.reverse_append, List.reverse_singleton, List.singleton_append, List.find?_cons]
 by_cases hk : n = k
 ·simp [hk]
 ·have : (n == k) = false := by simpa using hk
  simp only [this, if_neg hk]
  rfl
theorem DskR.wrote {base B : Nat} {w w' : World} {d : DskV} {m : DskM} (h : DskR w base B d m) {n g : Nat} {b : List UInt8} {A : Option Addr} {c : Nat} (hn : n < d.lasts.length) (hlo : w.heap.size ≤ g)
  (hk : Keeps base [121, 165, 167] w w') (hblk : Blk w' B 121 (dskC { d with waits := d.waits ++ [(n, .data b false)] } (m.wrote n g A c))) (hlb : Blk w' m.LB 165 (m.li.map ptrV).toArray)
  (htb : Blk w' m.TB 165 (((List.range d.lasts.length).map fun k => ptrV (m.told k)).toArray.setIfInBounds n (ptrV (some g))))
  (hown : w'.ownsRow base 167 2 (.slice A (m.wi.length + 1) c) (m.wi.length + 1) ((m.wi.flatMap fun x => [.int .i64 x.1, ptrV (some x.2)]) ++ [.int .i64 n, ptrV (some g)]))
  (hc : Cont w' base d.size g (.data b false)) : DskR w' base B { d with waits := d.waits ++ [(n, .data b false)] } (m.wrote n g A c) := by
 have hl : m.wi.length = d.waits.length := by have := congrArg List.length h.wl; simpa using this
 refine ⟨h.low, h.ne, h.sz, h.n1, hblk, hlb, ?_, ?_, h.ll, ?_, ?_, fun k hk' => (h.last k hk').keeps hk (by simp) (by simp), ?_, ?_⟩
 ·have : ((List.range d.lasts.length).map fun k => ptrV ((m.wrote n g A c).told k)).toArray = ((List.range d.lasts.length).map fun k => ptrV (m.told k)).toArray.setIfInBounds n (ptrV (some g)) := by
   apply Array.ext
   ·simp
   ·intro i h1 h2
    simp only [DskM.told_wrote, List.getElem_toArray, List.getElem_map, List.getElem_range]
    by_cases hi : n = i
    ·simp [hi]
    ·simp [hi]
  show Blk w' m.TB 165 _
  rw [this]; exact htb
 ·simp only [DskM.wrote, List.length_append, List.length_singleton, List.flatMap_append, List.flatMap_singleton]
  exact hown
 ·simp [DskM.wrote, h.wl]
 ·intro x hx
  simp only [DskM.wrote, List.mem_append, List.mem_singleton] at hx
  rcases hx with hx | rfl
  ·exact h.wlt x hx
  ·exact hn
 ·intro k h1 h2
  simp only [DskM.wrote, List.length_append, List.length_singleton] at h1 h2
  by_cases hlt : k < m.wi.length
  ·have e1 : (m.wrote n g A c).wi[k]'(by simpa [DskM.wrote] using h1) = m.wi[k] := by simp [DskM.wrote, List.getElem_append_left hlt]
   have e2 : (d.waits ++ [(n, SecV.data b false)])[k]'(by simpa using h2) = d.waits[k]'(by omega) := by rw [List.getElem_append_left (by omega)]
   simp only [e1, e2]
   exact (h.wait k hlt (by omega)).keeps hk (by simp) (by simp)
  ·obtain rfl : k = m.wi.length := by omega
   have e1 : (m.wrote n g A c).wi[m.wi.length]'(by simp [DskM.wrote]) = (n, g) := by simp [DskM.wrote]
   have e2 : (d.waits ++ [(n, SecV.data b false)])[m.wi.length]'(by simp; omega) = (n, SecV.data b false) := by
    rw [List.getElem_append_right (by omega)]; simp
   simp only [e1, e2]
   exact hc
 ·have hids := h.ids_lt
  have hnot : g ∉ m.wi.map (·.2) ++ m.li.filterMap id := fun hg => by have := hids g hg; omega
  have hnd := h.nd
  simp only [DskM.wrote, List.map_append, List.map_cons, List.map_nil, List.append_assoc, List.singleton_append]
  rw [List.nodup_append] at hnd ⊢
  simp only [List.mem_append, not_or] at hnot
  refine ⟨hnd.1, List.nodup_cons.2 ⟨hnot.2, hnd.2.1⟩, fun a ha c' hc' => ?_⟩
  rcases List.mem_cons.1 hc' with rfl | hc'
  ·intro e; subst e; exact hnot.1 ha
  ·exact hnd.2.2 a ha c' hc'
end
end Go.Proofs.YtmgmfnimaafkdaaGreatDoor
