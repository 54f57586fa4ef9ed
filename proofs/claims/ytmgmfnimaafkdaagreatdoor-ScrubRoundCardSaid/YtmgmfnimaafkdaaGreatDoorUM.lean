/- Whatever bit rots: what the law's own walk wants; the bytes that were put, in a map by their names; acts in a slice. -/
import Derived.Test.YtmgmfnimaafkdaaGreatDoorVJ
import Derived.Test.YtmgmfnimaafkdaaGreatDoorVV
import Derived.Test.YtmgmfnimaafkdaaGreatDoorUL
import Derived.Test.YtmgmfnimaafkdaaGreatDoorUK
import Derived.Test.YtmgmfnimaafkdaaGreatDoorUH
import Derived.Deep.MidRow
import Derived.Deep.WholeRow
namespace Go.Proofs.YtmgmfnimaafkdaaGreatDoor
section
open Go.RowKit Go.Maps
set_option maxRecDepth 100000

theorem strOf0_run (w : World) (A : Option Addr) (c : Nat) : (convert 43 9 (.slice A 0 c)).run Tryz.prog w = .ok (.string ⟨#[]⟩) w := by
 rw [run_convert_bytes_string w 43 9 5 A 0 c under43 Tryz.underlying5 Tryz.underlying9]
 cases A with
 | none => simp [Conv.bytesToString, Sem.run_pure]; rfl
 | some a => exact run_bytesToString (P := Tryz.prog) w a 0 c [] (by simp [loadCells, loadCellsFrom, Sem.run_pure])
theorem strOfAny_run (w : World) (A : Option Addr) (c : Nat) (t : List UInt8) (h : Byt w A t) : (convert 43 9 (.slice A t.length c)).run Tryz.prog w = .ok (.string ⟨t.toArray⟩) w := by
 rcases Nat.eq_zero_or_pos t.length with h0 | h0
 ·have : t = [] := List.eq_nil_of_length_eq_zero h0
  subst this
  exact strOf0_run w A c
 ·exact strOf_run w A c t h h0
end
section
open Go.RowKit Go.Maps
set_option maxRecDepth 100000

theorem put_any {w : World} {base Sb lo E : Nat} {s : StV} {m : StM} {ts : List (NameV × List UInt8)} (h : StR w base Sb s m) (ha : StAll s lo E ts) (hok : StOK s) (hE : E + 4 < 549755813888) (hK : s.d.waits.length ≤ 824633720832) (hp : s.puts < 1048575)
  (n : NameV) (b : List UInt8) (A : Option Addr) (c : Nat) (hby : ByL base w A b) (hc : b.length ≤ c) :
  Calls Tryz.prog 53 #[.pointer (some ⟨Sb, 0, none⟩), nameV n, .slice A b.length c] w fun e w' => e = .returned (.int .i64 (putStore s n b).1) ∧ StR w' base Sb (putStore s n b).2 m ∧ KeepS base m m w w' := by
 by_cases hn : rightB n.1 = false ∨ rightB n.2 = false ∨ b.length < 1 ∨ 1048576 < b.length
 ·rw [putStore_arg hn]
  exact putArg_any h hn A c
 ·have r1 : rightB n.1 = true := by cases hh : rightB n.1 <;> simp_all
  have r2 : rightB n.2 = true := by cases hh : rightB n.2 <;> simp_all
  have b1 : 1 ≤ b.length := by omega
  have b2 : b.length ≤ 1048576 := by omega
  cases hg : getL s.slices n with
  | some x =>
   rw [putStore_twice r1 r2 b1 b2 hg]
   exact putTwice_any h r1 r2 b1 b2 hg A c
  | none =>
   rcases put_split ha hE hK hp r1 r2 b1 b2 hg with ⟨e, he, hne⟩ | ⟨a, l, m1, mark, s1, nn, d1, hq, hmi⟩
   ·rw [putStore_full r1 r2 b1 b2 hg he hne]
    exact putFull_any h hok r1 r2 b1 b2 hg he hne A c
   ·rw [hq.is]
    exact putL_any h hok hq hmi A c hby hc
theorem openGo_new {n k : Nat} (hs : standsB n k = true) (hn : n ≤ 65536) : ∃ d1 l1 sl mp d2 l2, OpenGo (newD n k) d1 l1 sl mp d2 l2 ∧ StAll (openEnd (newD n k) d1 l1 sl mp d2 l2) (n / 4) 2 [] ∧ (openEnd (newD n k) d1 l1 sl mp d2 l2).slices = [] ∧ (openEnd (newD n k) d1 l1 sl mp d2 l2).notes = [] ∧ (openEnd (newD n k) d1 l1 sl mp d2 l2).marks = [] ∧ d2.waits.length ≤ 8589934592 ∧ RunsB (SecOK 2) 8589934592 (newD n k) (openEnd (newD n k) d1 l1 sl mp d2 l2).d ∧ (openEnd (newD n k) d1 l1 sl mp d2 l2).puts = 0 := by
 obtain ⟨d1, d, e1, e2, L1, L, h⟩ := open_fresh2 hs
 obtain ⟨d', s', f1, f2, f3, f4, f5, f6, f7⟩ := fresh_all hs hn
 have hl : (newD n k).lasts.length = n := by simp [newD]
 have hz : (newD n k).size = k := rfl
 have r1 := openL_runs (E := 1) (fine_fresh n k 1) (by rw [hl]; exact hn) (by omega) (by omega) e1
 have hw1 := r1.like.2
 have hw0 : (newD n k).waits.length = 0 := by simp [newD]
 rw [hw0] at hw1
 rw [h] at f1
 injection f1 with _ f1
 injection f1 with f1 f8
 injection f8 with f8
 have hst := hs
 unfold standsB at hs
 simp only [Bool.not_eq_true', Bool.or_eq_false_iff, decide_eq_false_iff_not, beq_eq_false_iff_ne] at hs
 obtain ⟨⟨⟨hq, hne⟩, hfit⟩, hfit2⟩ := hs
 obtain ⟨g1, g2⟩ := needP_some hne
 have hgo : OpenGo (newD n k) d1 ⟨0, n / 4 / 2, k, 0, 1, 1, []⟩ [] ⟨n / 4, n - n / 4, if 0 < n - n / 4 then [(n / 4, n - n / 4)] else []⟩ d ⟨0, n / 4 / 2, k, 1, 2, n / 4 / 2 + 1, []⟩ := by
  refine ⟨by rw [hl]; omega, by rw [hz]; exact hne, by rw [hz, hl]; omega, by rw [hz]; exact g1, ⟨1, by omega, fine_fresh n k 1⟩, by rw [hw0]; omega, by rw [hl]; exact e1, fun r hr => (by cases hr), by simp, fun h => absurd rfl h, fun h => absurd rfl h, L1.1, L1.2.1, by omega, by show k = d1.size; rw [L1.1, hz], by show 1 + 1 < _; omega, ?_, ?_⟩
  ·rw [hl]; rfl
  ·rw [hl]; exact e2
 have hend : openEnd (newD n k) d1 ⟨0, n / 4 / 2, k, 0, 1, 1, []⟩ [] ⟨n / 4, n - n / 4, if 0 < n - n / 4 then [(n / 4, n - n / 4)] else []⟩ d ⟨0, n / 4 / 2, k, 1, 2, n / 4 / 2 + 1, []⟩ = s' := by
  rw [← f8]
  unfold openEnd
  rw [hl]; rfl
 have hw2 := f4.like.2
 rw [hw0, ← f1] at hw2
 exact ⟨d1, _, [], _, d, _, hgo, by rw [hend]; exact f3, by rw [hend]; exact f5, by rw [hend]; exact f6, by rw [hend]; exact f7, by omega, by rw [hend, f2]; exact f4, rfl⟩
end
section
open Go.RowKit Go.Maps
set_option maxRecDepth 100000

def PK : KV Tryz.prog NameV (List UInt8) where
 k := 73
 t := 87
 e := 9
 ek := nameV
 lk := nameL
 ok := wfN
 ea := strV
 da := fun l => .lit (.string l)
 z := []
 keyed := keyed73
 ut := Tryz.underlying87
 key := fun x h => keyOf_name h
 inv := fun v l h => keyOf_name_inv h
 inj := fun x y hx hy h => nameV_inj (keyed73.inj (keyOf_name hx) (by rw [h]; exact keyOf_name hy))
 kinj := fun x y h => nameV_inj h
 einj := fun _ _ h => strV_inj h
 dinj := fun a b h => by injection h with h; injection h
 zero := fun w => Tryz.zeroValue9 w
theorem KV.In.keepS {P : Program} {κ α : Type} {kv : KV P κ α} {w w' : World} {base Sb b n : Nat} {f : κ → Option α} {s : StV} {m m' : StM} (h : kv.In w b n f) (k : KeepS base m m' w w') (hs : StR w base Sb s m) (h1 : b ≠ m.Nb) (h2 : b ≠ m.Pb) : kv.In w' b n f := by
 have hty := h.ty
 have he := k.old b 1000000 hty (by decide) h1 h2 (fun a ha e => by
  have := own_ty (g := a.block) hs.mks (by rw [ha]; simp [Value.ownBlock])
  rw [← e, hty] at this
  exact absurd this (by decide))
 obtain ⟨D, ⟨es, cl, hb, r⟩, hf⟩ := h
 exact ⟨D, ⟨es, cl, he.trans hb, r⟩, hf⟩
theorem TabsB.up {base base' : Nat} {w : World} (h : TabsB base w) (hb : base ≤ base') : TabsB base' w := fun w' hw => h w' (hw.mono hb)
structure ActW where
 k : Int
 v : Int
 n : Int
 sz : Nat
 b : Nat
def ActW.cells (a : ActW) : List Value := [.int .i64 a.k, .int .i64 a.v, .int .i64 a.n, .int .u16 a.sz, .int .u8 a.b]
theorem ActW.cells_len (a : ActW) : a.cells.length = 5 := rfl
theorem flat_len {α : Type} (f : α → List Value) (k : Nat) (hf : ∀ a, (f a).length = k) (l : List α) : (l.flatMap f).length = l.length * k := by
 induction l with
 | nil => simp
 | cons a l ih => simp [List.flatMap_cons, ih, hf, Nat.succ_mul]; omega
theorem flat_get {α : Type} (f : α → List Value) (k : Nat) (hf : ∀ a, (f a).length = k) (l : List α) (i j : Nat) (hi : i < l.length) (hj : j < k) : (l.flatMap f)[i * k + j]? = (f l[i])[j]? := by
 induction l generalizing i with
 | nil => simp at hi
 | cons a l ih =>
  rw [List.flatMap_cons]
  cases i with
  | zero => simp only [Nat.zero_mul, Nat.zero_add, List.getElem_cons_zero]; rw [List.getElem?_append_left (by rw [hf]; exact hj)]
  | succ i =>
   rw [List.getElem?_append_right (by rw [hf, Nat.succ_mul]; omega), hf, show (i + 1) * k + j - k = i * k + j by rw [Nat.succ_mul]; omega]
   simp only [List.getElem_cons_succ]
   exact ih i (by simpa using hi)
theorem row_of {α : Type} {f : α → List Value} {k : Nat} (hf : ∀ a, (f a).length = k) (hk : 0 < k) {w : World} {B n : Nat} {A : Option Addr} {l : List α} (h : Rd w B k A n (l.flatMap f)) :
  l.length = n ∧ ∀ i (hi : i < l.length), ∃ b o, A = some ⟨b, o, none⟩ ∧ b < B ∧ w.rangeAt b (o + i * k) (f l[i]) := by
 have hl : l.length = n := by
  have := h.1
  rw [flat_len f k hf] at this
  exact Nat.eq_of_mul_eq_mul_right hk this
 refine ⟨hl, fun i hi => ?_⟩
 obtain ⟨b, o, rfl, hb, hc⟩ := h.2 (by omega)
 refine ⟨b, o, rfl, hb, fun j v hv => ?_⟩
 obtain ⟨hj, _⟩ := List.getElem?_eq_some_iff.1 hv
 rw [hf] at hj
 have hg := flat_get f k hf l i j hi hj
 have hlt : i * k + j < (l.flatMap f).length := by
  rw [flat_len f k hf]
  have : (i + 1) * k ≤ l.length * k := Nat.mul_le_mul_right _ hi
  rw [Nat.succ_mul] at this
  omega
 have := hc (i * k + j) hlt
 rw [← Nat.add_assoc] at this
 rw [this, ← hv, ← hg, List.getElem?_eq_getElem hlt]
structure RotsL (w wr : World) (base Sb P : Nat) (m : StM) (j : Nat) (s : StV) (ts : List (NameV × List UInt8)) : Prop where
 bel : Below w.heap.size w wr
 str : StR wr base Sb s m
 inv : RotsI s j ts
 map : PK.In wr P j (getL ts)
 low : base ≤ P
 ne1 : P ≠ m.Nb
 ne2 : P ≠ m.Pb
 wle : w.heap.size ≤ base
theorem RotsL.below {w wr w' : World} {base Sb P : Nat} {m : StM} {j : Nat} {s : StV} {ts : List (NameV × List UInt8)} (h : RotsL w wr base Sb P m j s ts) (hb : Below wr.heap.size wr w') : RotsL w w' base Sb P m j s ts :=
 ⟨h.bel.trans (hb.mono h.bel.size), h.str.below hb, h.inv, h.map.below hb, h.low, h.ne1, h.ne2, h.wle⟩
theorem RotsL.idle {w wr : World} {base Sb P : Nat} {m : StM} {j : Nat} {s : StV} {ts : List (NameV × List UInt8)} (h : RotsL w wr base Sb P m j s ts) : RotsL w wr base Sb P m (j + 1) s ts :=
 ⟨h.bel, h.str, h.inv.le (Nat.le_succ _), h.map.mono (Nat.le_succ _), h.low, h.ne1, h.ne2, h.wle⟩
theorem RotsL.no {w wr w' : World} {base Sb P : Nat} {m : StM} {j : Nat} {s : StV} {ts : List (NameV × List UInt8)} (h : RotsL w wr base Sb P m j s ts) (hj : j ≤ 30) {n : NameV} {b : List UInt8} (hs : StR w' base Sb (putStore s n b).2 m) (hk : KeepS base m m wr w') (he : (putStore s n b).1 ≠ 0) : RotsL w w' base Sb P m (j + 1) (putStore s n b).2 ts := by
 have hi := h.inv.put hj n b
 rw [if_neg he] at hi
 exact ⟨h.bel.trans (hk.below.mono h.wle), hs, hi, (h.map.keepS hk h.str h.ne1 h.ne2).mono (Nat.le_succ _), h.low, h.ne1, h.ne2, h.wle⟩
end
end Go.Proofs.YtmgmfnimaafkdaaGreatDoor
