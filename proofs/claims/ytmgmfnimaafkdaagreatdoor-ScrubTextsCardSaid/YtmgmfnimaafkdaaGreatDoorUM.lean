/- A put, whatever comes of it; an act that puts.  Whatever bit rots: what the law's own walk wants; the bytes that were put, in a map by their names; acts in a slice.  -/
import Derived.Test.YtmgmfnimaafkdaaGreatDoorUL
import Derived.Test.YtmgmfnimaafkdaaGreatDoorUK
import Derived.Test.YtmgmfnimaafkdaaGreatDoorVV
import Derived.Test.YtmgmfnimaafkdaaGreatDoorVY
import Derived.Test.YtmgmfnimaafkdaaGreatDoorUH
import Derived.Deep.MidRow
import Derived.Deep.WholeRow
namespace Go.Proofs.YtmgmfnimaafkdaaGreatDoor
open Go.RowKit Go.Maps
set_option maxRecDepth 100000

theorem put_any {w : World} {base Sb lo E : Nat} {s : StV} {m : StM} {ts : List (NameV × List UInt8)} (h : StR w base Sb s m) (ha : StAll s lo E ts) (hok : StOK s) (hE : E + 4 < 549755813888) (hK : s.d.waits.length ≤ 824633720832) (hp : s.puts < 1048575)
    (n : NameV) (b : List UInt8) (A : Option Addr) (c : Nat) (hby : Byt w A b) (hc : b.length ≤ c) :
    Calls Tryz.prog 53 #[.pointer (some ⟨Sb, 0, none⟩), nameV n, .slice A b.length c] w fun e w' => e = .returned (.int .i64 (putStore s n b).1) ∧ StR w' base Sb (putStore s n b).2 m ∧ KeepS base m m w w' := by
  by_cases hn : rightB n.1 = false ∨ rightB n.2 = false ∨ b.length < 1 ∨ 1048576 < b.length
  · rw [putStore_arg hn]
    exact putArg_any h hn A c
  · have r1 : rightB n.1 = true := by cases hh : rightB n.1 <;> simp_all
    have r2 : rightB n.2 = true := by cases hh : rightB n.2 <;> simp_all
    have b1 : 1 ≤ b.length := by omega
    have b2 : b.length ≤ 1048576 := by omega
    cases hg : getL s.slices n with
    | some x =>
      rw [putStore_twice r1 r2 b1 b2 hg]
      exact putTwice_any h r1 r2 b1 b2 hg A c
    | none =>
      rcases put_split ha hE hK hp r1 r2 b1 b2 hg with ⟨e, he, hne⟩ | ⟨a, l, m1, mark, s1, nn, d1, hq, hmi⟩
      · rw [putStore_full r1 r2 b1 b2 hg he hne]
        exact putFull_any h hok r1 r2 b1 b2 hg he hne A c
      · rw [hq.is]
        exact putL_any h hok hq hmi A c hby hc
set_option maxHeartbeats 4000000 in
theorem doesPut_any {w : World} {base Sb lo E : Nat} {s : StV} {m : StM} {ts : List (NameV × List UInt8)} (h : StR w base Sb s m) (ha : StAll s lo E ts) (hok : StOK s) (hE : E + 4 < 549755813888) (hK : s.d.waits.length ≤ 824633720832) (hp : s.puts < 1048575)
    (v n : Int) (sz b : Nat) (hsz : sz < 65536) :
    Calls Tryz.prog 20 #[.pointer (some ⟨Sb, 0, none⟩), .agg (actC 0 v n sz b)] w fun e w' => e = .returned (.int .i64 (putStore s (v, n) (bytesV sz b)).1) ∧ StR w' base Sb (putStore s (v, n) (bytesV sz b)).2 m ∧ KeepS base m m w w' := by
  obtain ⟨q, hq⟩ : ∃ q, q = putStore s (v, n) (bytesV sz b) := ⟨_, rfl⟩
  have HX := Lib.hid (Blk.new w 55 (actC 0 v n sz b))
  have HB0 : Hid (Below w.heap.size w (w.alloc (.cells (actC 0 v n sz b) 55))) := (Below.refl _ _).alloc (Nat.le_refl _) _
  have HBY := Lib.hid (fun wy => actBytes_any 0 v n sz b hsz wy)
  have HNM := Lib.hid (fun wy => actName_any v n wy)
  have hlt := h.lt
  have HST := Lib.hid h
  have HPU := Lib.hid (show ∀ wy A c, Below w.heap.size w wy → Byt wy A (bytesV sz b) → (bytesV sz b).length ≤ c → Calls Tryz.prog 53 #[.pointer (some ⟨Sb, 0, none⟩), .agg #[.int .i64 v, .int .i64 n], .slice A (bytesV sz b).length c] wy fun e w' => e = .returned (.int .i64 q.1) ∧ StR w' base Sb q.2 m ∧ KeepS base m m wy w' from fun wy A c hy hby hc => by
    rw [hq]
    exact put_any (h.below hy) ha hok hE hK hp (v, n) _ A c hby hc)
  rw [← hq]
  clear hq ha hok h
  generalize bytesV sz b = bt at *
  go_enter Tryz.func20, Tryz.ntmps20
  go_upto_region 1 with fail
  generalize w.alloc (.cells (actC 0 v n sz b) 55) = w1 at *
  have hw1 := HB0.out.size
  have SKb := Lib.hid (show ∀ wy, Blk wy w.heap.size 55 (actC 0 v n sz b) → wy.cell? ⟨w.heap.size, 0, none⟩ = some (.int .i64 0) ∧ wy.cell? ⟨w.heap.size, 1, none⟩ = some (.int .i64 v) ∧ wy.cell? ⟨w.heap.size, 2, none⟩ = some (.int .i64 n) ∧ wy.cell? ⟨w.heap.size, 3, none⟩ = some (.int .u16 sz) ∧ wy.cell? ⟨w.heap.size, 4, none⟩ = some (.int .u8 b) from fun wy hx =>
    ⟨hx.cell 0, hx.cell 1, hx.cell 2, hx.cell 3, hx.cell 4⟩)
  have SK := Lib.hid (show ∀ wy, Below w1.heap.size w1 wy → wy.cell? ⟨w.heap.size, 0, none⟩ = some (.int .i64 0) ∧ wy.cell? ⟨w.heap.size, 1, none⟩ = some (.int .i64 v) ∧ wy.cell? ⟨w.heap.size, 2, none⟩ = some (.int .i64 n) ∧ wy.cell? ⟨w.heap.size, 3, none⟩ = some (.int .u16 sz) ∧ wy.cell? ⟨w.heap.size, 4, none⟩ = some (.int .u8 b) from fun wy hy =>
    SKb.out _ (HX.out.below hy HX.out.lt))
  have S0 := Lib.hid (SK.out _ (Below.refl _ _).drew)
  obtain ⟨c0, c1, c2, c3, c4⟩ := SK.out _ (Below.refl _ _)
  have xl := HX.out.lt
  go_upto_region 3 with fail
  clear c0 c1 c2 c3 c4
  go_region_held3 (fun wy => wy.cell? ⟨w.heap.size, 0, none⟩ = some (.int .i64 0) ∧ wy.cell? ⟨w.heap.size, 1, none⟩ = some (.int .i64 v) ∧ wy.cell? ⟨w.heap.size, 2, none⟩ = some (.int .i64 n) ∧ wy.cell? ⟨w.heap.size, 3, none⟩ = some (.int .u16 sz) ∧ wy.cell? ⟨w.heap.size, 4, none⟩ = some (.int .u8 b))
    (first | exact S5.out | exact SK.out _ HB4.out | exact SK.out _ HB3.out | exact S0.out)
    (first
      | ((fail_if_success (have := HB3)); go_at_call 31; refine (HNM.out _).mono ?_; rintro en w3 ⟨rfl, hb⟩; (have HB3 : Hid (Below w1.heap.size w1 w3) := (Below.refl _ _).drew.trans hb); clear hb)
      | ((fail_if_success (have := HB3)); go_at_call 38; refine (HBY.out _).mono ?_; rintro en w3 ⟨A, c, rfl, hy, hc, hb⟩; (have HB3 : Hid (Below w1.heap.size w1 w3) := (Below.refl _ _).drew.trans hb); (have HY3 := Lib.hid hy); (have HC := Lib.hid hc); clear hb hy hc)
      | ((fail_if_success (have := HB4)); go_at_call 31; refine (HNM.out _).mono ?_; rintro en w4 ⟨rfl, hb⟩; (have HB4 : Hid (Below w1.heap.size w1 w4) := HB3.out.trans (hb.mono HB3.out.size)); (have HY4 := Lib.hid (HY3.out.below hb)); clear hb)
      | ((fail_if_success (have := HB4)); go_at_call 38; refine (HBY.out _).mono ?_; rintro en w4 ⟨A, c, rfl, hy, hc, hb⟩; (have HB4 : Hid (Below w1.heap.size w1 w4) := HB3.out.trans (hb.mono HB3.out.size)); (have HY4 := Lib.hid hy); (have HC := Lib.hid hc); clear hb hy hc)
      | (go_at_call 53; refine (HPU.out _ _ _ (HB0.out.trans (HB4.out.mono hw1)) HY4.out HC.out).mono ?_; rintro en w5 ⟨rfl, hs5, hk5⟩; (have S5 := Lib.hid (SKb.out _ (hk5.blk (HST.out.below (HB0.out.trans (HB4.out.mono hw1))) (HX.out.below HB4.out HX.out.lt) (by decide) (by decide)))); (have HS5 := Lib.hid hs5); (have HK5 := Lib.hid ((KeepS.of_below (m := m) (HB0.out.trans (HB4.out.mono hw1)) hlt).trans hk5)); clear hs5 hk5))
  all_goals
    go_wp2_with fail
    go_ret
    exact ⟨rfl, HS5.out, HK5.out⟩
theorem openGo_new {n k : Nat} (hs : standsB n k = true) (hn : n ≤ 65536) : ∃ d1 l1 sl mp d2 l2, OpenGo (newD n k) d1 l1 sl mp d2 l2 ∧ StAll (openEnd (newD n k) d1 l1 sl mp d2 l2) (n / 4) 2 [] ∧ (openEnd (newD n k) d1 l1 sl mp d2 l2).slices = [] ∧ (openEnd (newD n k) d1 l1 sl mp d2 l2).notes = [] ∧ (openEnd (newD n k) d1 l1 sl mp d2 l2).marks = [] ∧ d2.waits.length ≤ 8589934592 ∧ RunsB (SecOK 2) 8589934592 (newD n k) (openEnd (newD n k) d1 l1 sl mp d2 l2).d ∧ (openEnd (newD n k) d1 l1 sl mp d2 l2).puts = 0 := by
  obtain ⟨d1, d, e1, e2, L1, L, h⟩ := open_fresh2 hs
  obtain ⟨d', s', f1, f2, f3, f4, f5, f6, f7⟩ := fresh_all hs hn
  have hl : (newD n k).lasts.length = n := by simp [newD]
  have hz : (newD n k).size = k := rfl
  have r1 := openL_runs (E := 1) (fine_fresh n k 1) (by rw [hl]; exact hn) (by omega) (by omega) e1
  have hw1 := r1.like.2
  have hw0 : (newD n k).waits.length = 0 := by simp [newD]
  rw [hw0] at hw1
  rw [h] at f1
  injection f1 with _ f1
  injection f1 with f1 f8
  injection f8 with f8
  have hst := hs
  unfold standsB at hs
  simp only [Bool.not_eq_true', Bool.or_eq_false_iff, decide_eq_false_iff_not, beq_eq_false_iff_ne] at hs
  obtain ⟨⟨⟨hq, hne⟩, hfit⟩, hfit2⟩ := hs
  obtain ⟨g1, g2⟩ := needP_some hne
  have hgo : OpenGo (newD n k) d1 ⟨0, n / 4 / 2, k, 0, 1, 1, []⟩ [] ⟨n / 4, n - n / 4, if 0 < n - n / 4 then [(n / 4, n - n / 4)] else []⟩ d ⟨0, n / 4 / 2, k, 1, 2, n / 4 / 2 + 1, []⟩ := by
    refine ⟨by rw [hl]; omega, by rw [hz]; exact hne, by rw [hz, hl]; omega, by rw [hz]; exact g1, ⟨1, by omega, fine_fresh n k 1⟩, by rw [hw0]; omega, by rw [hl]; exact e1, fun r hr => (by cases hr), by simp, fun h => absurd rfl h, fun h => absurd rfl h, L1.1, L1.2.1, by omega, by show k = d1.size; rw [L1.1, hz], by show 1 + 1 < _; omega, ?_, ?_⟩
    · rw [hl]; rfl
    · rw [hl]; exact e2
  have hend : openEnd (newD n k) d1 ⟨0, n / 4 / 2, k, 0, 1, 1, []⟩ [] ⟨n / 4, n - n / 4, if 0 < n - n / 4 then [(n / 4, n - n / 4)] else []⟩ d ⟨0, n / 4 / 2, k, 1, 2, n / 4 / 2 + 1, []⟩ = s' := by
    rw [← f8]
    unfold openEnd
    rw [hl]; rfl
  have hw2 := f4.like.2
  rw [hw0, ← f1] at hw2
  exact ⟨d1, _, [], _, d, _, hgo, by rw [hend]; exact f3, by rw [hend]; exact f5, by rw [hend]; exact f6, by rw [hend]; exact f7, by omega, by rw [hend, f2]; exact f4, rfl⟩
end Go.Proofs.YtmgmfnimaafkdaaGreatDoor
namespace Go.Proofs.YtmgmfnimaafkdaaGreatDoor
open Go.RowKit Go.Maps
set_option maxRecDepth 100000

/-- the bytes that were put, by their names -/
def PK : KV Tryz.prog NameV (List UInt8) where
  k := 73
  t := 87
  e := 9
  ek := nameV
  lk := nameL
  ok := wfN
  ea := strV
  da := fun l => .lit (.string l)
  z := []
  keyed := keyed73
  ut := Tryz.underlying87
  key := fun x h => keyOf_name h
  inv := fun v l h => keyOf_name_inv h
  inj := fun x y hx hy h => nameV_inj (keyed73.inj (keyOf_name hx) (by rw [h]; exact keyOf_name hy))
  kinj := fun x y h => nameV_inj h
  einj := fun _ _ h => strV_inj h
  dinj := fun a b h => by injection h with h; injection h
  zero := fun w => Tryz.zeroValue9 w
theorem KV.In.keepS {P : Program} {κ α : Type} {kv : KV P κ α} {w w' : World} {base Sb b n : Nat} {f : κ → Option α} {s : StV} {m m' : StM} (h : kv.In w b n f) (k : KeepS base m m' w w') (hs : StR w base Sb s m) (h1 : b ≠ m.Nb) (h2 : b ≠ m.Pb) : kv.In w' b n f := by
  have hty := h.ty
  have he := k.old b 1000000 hty (by decide) h1 h2 (fun a ha e => by
    have := own_ty (g := a.block) hs.mks (by rw [ha]; simp [Value.ownBlock])
    rw [← e, hty] at this
    exact absurd this (by decide))
  obtain ⟨D, ⟨es, cl, hb, r⟩, hf⟩ := h
  exact ⟨D, ⟨es, cl, he.trans hb, r⟩, hf⟩
/-- another map turned -/
theorem StR.otherMap {w w' : World} {base Sb P : Nat} {s : StV} {m : StM} (h : StR w base Sb s m) (ht : w.mapTurned w' P) (hP : base ≤ P) (h1 : P ≠ m.Nb) (h2 : P ≠ m.Pb) : StR w' base Sb s m :=
  have k := KV.turned ht hP h.lt
  ⟨h.low, h.blk.keeps k (by decide), h.dsk.keeps k (by decide) (by decide) (by decide) (by decide) (by decide), h.log.keeps k (by decide) (by decide) (by decide), h.map.keeps k (by decide) (by decide), h.nmap.kept ht.grown (fun e => by injection e with e; exact h1 e.symm), h.nlow, h.pmap.kept ht.grown (fun e => by injection e with e; exact h2 e.symm), h.plow, h.ne, own_keeps h.mks k (by decide), h.tab.below k.below, h.b2⟩
/-- nothing that has a kind turned -/
theorem StR.keeps0 {w w' : World} {base Sb : Nat} {s : StV} {m : StM} (h : StR w base Sb s m) (k : Keeps base [] w w') : StR w' base Sb s m :=
  ⟨h.low, h.blk.keeps k (by decide), h.dsk.keeps k (by decide) (by decide) (by decide) (by decide) (by decide), h.log.keeps k (by decide) (by decide) (by decide), h.map.keeps k (by decide) (by decide), h.nmap.keeps k (by decide), h.nlow, h.pmap.keeps k (by decide), h.plow, h.ne, own_keeps h.mks k (by decide), h.tab.below k.below, h.b2⟩
theorem TabsB.up {base base' : Nat} {w : World} (h : TabsB base w) (hb : base ≤ base') : TabsB base' w := fun w' hw => h w' (hw.mono hb)
/-- an act -/
structure ActW where
  k : Int
  v : Int
  n : Int
  sz : Nat
  b : Nat
def ActW.cells (a : ActW) : List Value := [.int .i64 a.k, .int .i64 a.v, .int .i64 a.n, .int .u16 a.sz, .int .u8 a.b]
theorem ActW.cells_len (a : ActW) : a.cells.length = 5 := rfl
/-- rows of one length, laid end to end -/
theorem flat_len {α : Type} (f : α → List Value) (k : Nat) (hf : ∀ a, (f a).length = k) (l : List α) : (l.flatMap f).length = l.length * k := by
  induction l with
  | nil => simp
  | cons a l ih => simp [List.flatMap_cons, ih, hf, Nat.succ_mul]; omega
theorem flat_get {α : Type} (f : α → List Value) (k : Nat) (hf : ∀ a, (f a).length = k) (l : List α) (i j : Nat) (hi : i < l.length) (hj : j < k) : (l.flatMap f)[i * k + j]? = (f l[i])[j]? := by
  induction l generalizing i with
  | nil => simp at hi
  | cons a l ih =>
    rw [List.flatMap_cons]
    cases i with
    | zero => simp only [Nat.zero_mul, Nat.zero_add, List.getElem_cons_zero]; rw [List.getElem?_append_left (by rw [hf]; exact hj)]
    | succ i =>
      rw [List.getElem?_append_right (by rw [hf, Nat.succ_mul]; omega), hf, show (i + 1) * k + j - k = i * k + j by rw [Nat.succ_mul]; omega]
      simp only [List.getElem_cons_succ]
      exact ih i (by simpa using hi)
theorem row_of {α : Type} {f : α → List Value} {k : Nat} (hf : ∀ a, (f a).length = k) (hk : 0 < k) {w : World} {B n : Nat} {A : Option Addr} {l : List α} (h : Rd w B k A n (l.flatMap f)) :
    l.length = n ∧ ∀ i (hi : i < l.length), ∃ b o, A = some ⟨b, o, none⟩ ∧ b < B ∧ w.rangeAt b (o + i * k) (f l[i]) := by
  have hl : l.length = n := by
    have := h.1
    rw [flat_len f k hf] at this
    exact Nat.eq_of_mul_eq_mul_right hk this
  refine ⟨hl, fun i hi => ?_⟩
  obtain ⟨b, o, rfl, hb, hc⟩ := h.2 (by omega)
  refine ⟨b, o, rfl, hb, fun j v hv => ?_⟩
  obtain ⟨hj, _⟩ := List.getElem?_eq_some_iff.1 hv
  rw [hf] at hj
  have hg := flat_get f k hf l i j hi hj
  have hlt : i * k + j < (l.flatMap f).length := by
    rw [flat_len f k hf]
    have : (i + 1) * k ≤ l.length * k := Nat.mul_le_mul_right _ hi
    rw [Nat.succ_mul] at this
    omega
  have := hc (i * k + j) hlt
  rw [← Nat.add_assoc] at this
  rw [this, ← hv, ← hg, List.getElem?_eq_getElem hlt]
theorem size55 : (Tryz.prog.info? 55).map (·.size) = some 5 := by kernel_rfl
/-- behind j acts -/
structure RotsL (w wr : World) (base Sb P : Nat) (m : StM) (j : Nat) (s : StV) (ts : List (NameV × List UInt8)) : Prop where
  bel : Below w.heap.size w wr
  str : StR wr base Sb s m
  inv : RotsI s j ts
  map : PK.In wr P j (getL ts)
  low : base ≤ P
  ne1 : P ≠ m.Nb
  ne2 : P ≠ m.Pb
  wle : w.heap.size ≤ base
theorem RotsL.below {w wr w' : World} {base Sb P : Nat} {m : StM} {j : Nat} {s : StV} {ts : List (NameV × List UInt8)} (h : RotsL w wr base Sb P m j s ts) (hb : Below wr.heap.size wr w') : RotsL w w' base Sb P m j s ts :=
  ⟨h.bel.trans (hb.mono h.bel.size), h.str.below hb, h.inv, h.map.below hb, h.low, h.ne1, h.ne2, h.wle⟩
theorem RotsL.idle {w wr : World} {base Sb P : Nat} {m : StM} {j : Nat} {s : StV} {ts : List (NameV × List UInt8)} (h : RotsL w wr base Sb P m j s ts) : RotsL w wr base Sb P m (j + 1) s ts :=
  ⟨h.bel, h.str, h.inv.le (Nat.le_succ _), h.map.mono (Nat.le_succ _), h.low, h.ne1, h.ne2, h.wle⟩
/-- behind a put that is refused -/
theorem RotsL.no {w wr w' : World} {base Sb P : Nat} {m : StM} {j : Nat} {s : StV} {ts : List (NameV × List UInt8)} (h : RotsL w wr base Sb P m j s ts) (hj : j ≤ 30) {n : NameV} {b : List UInt8} (hs : StR w' base Sb (putStore s n b).2 m) (hk : KeepS base m m wr w') (he : (putStore s n b).1 ≠ 0) : RotsL w w' base Sb P m (j + 1) (putStore s n b).2 ts := by
  have hi := h.inv.put hj n b
  rw [if_neg he] at hi
  exact ⟨h.bel.trans (hk.below.mono h.wle), hs, hi, (h.map.keepS hk h.str h.ne1 h.ne2).mono (Nat.le_succ _), h.low, h.ne1, h.ne2, h.wle⟩
theorem put_right {s : StV} {n : NameV} {b : List UInt8} (he : (putStore s n b).1 = 0) : rightB n.1 = true ∧ rightB n.2 = true := by
  by_cases hn : rightB n.1 = false ∨ rightB n.2 = false ∨ b.length < 1 ∨ 1048576 < b.length
  · rw [putStore_arg hn] at he
    exact absurd he (by simp)
  · exact ⟨by cases hh : rightB n.1 <;> simp_all, by cases hh : rightB n.2 <;> simp_all⟩
/-- behind a put that is taken: the map is written -/
theorem RotsL.yes {w wr w' : World} {base Sb P : Nat} {m : StM} {j : Nat} {s : StV} {ts : List (NameV × List UInt8)} (h : RotsL w wr base Sb P m j s ts) (hj : j ≤ 30) {n : NameV} {b : List UInt8} (hs : StR w' base Sb (putStore s n b).2 m) (hk : KeepS base m m wr w') (he : (putStore s n b).1 = 0) :
    ∀ wy, Below w'.heap.size w' wy → ∃ w9, (Instr.mapUpdate 87 (.map (some P)) (nameV n) (strV b)).run Tryz.prog wy = .ok () w9 ∧ RotsL w w9 base Sb P m (j + 1) (putStore s n b).2 (putS n b ts) ∧ wy.mapTurned w9 P := by
  intro wy hy
  have hi := h.inv.put hj n b
  rw [if_pos he] at hi
  obtain ⟨r1, r2⟩ := put_right he
  have hm := (h.map.keepS hk h.str h.ne1 h.ne2).below hy
  obtain ⟨w9, hrun, hin, htu⟩ := hm.put (by unfold maxLen; omega) ⟨wfI_right r1, wfI_right r2⟩ b
  have hwy : w.heap.size ≤ wy.heap.size := Nat.le_trans (Nat.le_trans h.bel.size (by have := hk.below.size; exact this)) hy.size
  have hsy := hs.below hy
  have hby : Below w.heap.size w wy := (h.bel.trans (hk.below.mono h.wle)).trans (hy.mono (Nat.le_trans h.bel.size hk.below.size))
  have hk9 := KV.turned htu h.low hsy.lt
  exact ⟨w9, hrun, ⟨hby.trans (hk9.below.mono h.wle), hsy.otherMap htu h.low h.ne1 h.ne2, hi, hin.congr fun y _ => getL_putS n b y ts, h.low, h.ne1, h.ne2, h.wle⟩, htu⟩
/-- an iterator's step turns nothing that has a kind -/
theorem keeps_iter {w w' : World} {base r : Nat} {P : Program} {k : TypeId} {R : Value → Option (DataW Unit × List MemPlace)} {b n : Nat} {D : DataW Unit} {left : Lit → Bool} {cnt : Nat} (h : w.ranges P k R b r n D left cnt) (hg : w.grownBy w' (some r)) (hb : base ≤ w.heap.size) (hr : base ≤ r) : Keeps base [] w w' :=
  Keeps.of_grown hg hb fun g e => ⟨by injection e with e; omega, fun t ht => by
    injection e with e
    subst e
    obtain ⟨es, clock, since, seen, c0, _, _, _, _, hi, _⟩ := h
    simp [tyOf, hi] at ht⟩
theorem ranges_below {w w' : World} {P : Program} {k : TypeId} {R : Value → Option (DataW Unit × List MemPlace)} {b r n : Nat} {D : DataW Unit} {left : Lit → Bool} {cnt : Nat} (h : w.ranges P k R b r n D left cnt) (hb : Below w.heap.size w w') : w'.ranges P k R b r n D left cnt := by
  have h1 := h.owns.lt
  have h2 := h.lt
  obtain ⟨es, clock, since, seen, c0, g1, g2, g3, g4, g5, g6⟩ := h
  exact ⟨es, clock, since, seen, c0, (hb.block b h1).trans g1, g2, g3, g4, (hb.block r h2).trans g5, g6⟩
end Go.Proofs.YtmgmfnimaafkdaaGreatDoor
