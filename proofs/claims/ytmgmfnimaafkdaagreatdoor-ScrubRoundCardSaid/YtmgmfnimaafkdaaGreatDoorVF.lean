/- Slices that are read, in blocks of a kind; bytes within bytes. -/
import Derived.Test.YtmgmfnimaafkdaaGreatDoorVE
namespace Go.Proofs.YtmgmfnimaafkdaaGreatDoor
section
open Go.RowKit Go.Maps
set_option maxRecDepth 100000

def lostV (d : DskV) : DskV := { d with waits := [], off := true }
def DskM.lost (m : DskM) : DskM := { m with wi := [], A := none, c := 0 }
theorem DskM.told_lost (m : DskM) (k : Nat) : m.lost.told k = m.last k := rfl
theorem DskM.told_last (m : DskM) (k : Nat) (h : k ∉ m.wi.map (·.1)) : m.told k = m.last k := by
 unfold DskM.told
 have : m.wi.reverse.find? (fun x => x.1 == k) = none := by
  rw [List.find?_eq_none]
  intro x hx hk
  rw [List.mem_reverse] at hx
  exact h (List.mem_map.2 ⟨x, hx, by simpa using hk⟩)
 rw [this]
def DskM.back (m : DskM) (j k : Nat) : Option Nat := if k ∈ (m.wi.take j).map (·.1) then m.last k else m.told k
def cutRow (m : DskM) (n j : Nat) : Array Value := ((List.range n).map fun k => ptrV (m.back j k)).toArray
theorem cutRow_all (m : DskM) (n : Nat) : cutRow m n m.wi.length = ((List.range n).map fun k => ptrV (m.lost.told k)).toArray := by
 unfold cutRow
 congr 1
 refine List.map_congr_left fun k _ => ?_
 unfold DskM.back
 rw [List.take_length, DskM.told_lost]
 split
 ·rfl
 ·rename_i h; rw [m.told_last k h]
theorem DskR.lost {base B : Nat} {w w' : World} {d : DskV} {m : DskM} (h : DskR w base B d m) (hk : Keeps base [121, 165] w w') (hblk : Blk w' B 121 (dskC (lostV d) m.lost)) (hlb : Blk w' m.LB 165 (m.li.map ptrV).toArray)
  (htb : Blk w' m.TB 165 (cutRow m d.lasts.length m.wi.length)) : DskR w' base B (lostV d) m.lost := by
 refine ⟨h.low, h.ne, h.sz, h.n1, hblk, hlb, ?_, ⟨by simp [DskM.lost], .inl ⟨rfl, rfl⟩⟩, h.ll, rfl, by simp [DskM.lost], fun k hk' => ?_, fun k h1 _ => by simp [DskM.lost] at h1, ?_⟩
 ·rw [cutRow_all] at htb; exact htb
 ·exact (h.last k hk').keeps hk (by simp) (by simp)
 ·simp only [DskM.lost, List.map_nil, List.nil_append]
  have := h.nd
  rw [List.nodup_append] at this
  exact this.2.1
end
section
open Go.RowKit Go.Maps
set_option maxRecDepth 100000

def Sl (w : World) (e sz : Nat) (A : Option Addr) (n : Nat) (xs : List Value) : Prop := Rd w w.heap.size sz A n xs ∧ (0 < n → ∀ a, A = some a → tyOf w a.block = some e)
theorem Sl.keeps {base e sz n : Nat} {ts : List TypeId} {w w' : World} {A : Option Addr} {xs : List Value} (h : Sl w e sz A n xs) (k : Keeps base ts w w') (ht : e ∉ ts) : Sl w' e sz A n xs := by
 refine ⟨⟨h.1.1, fun hn => ?_⟩, fun hn a ha => ?_⟩
 ·obtain ⟨b, o, rfl, hb, hc⟩ := h.1.2 hn
  have e := k.old b _ (h.2 hn _ rfl) ht
  exact ⟨b, o, rfl, Nat.lt_of_lt_of_le hb k.below.size, fun j hj => by rw [← hc j hj]; simp only [World.cell?, e]⟩
 ·have := h.2 hn a ha
  have e := k.old a.block _ this ht
  unfold tyOf at this ⊢
  rw [e]; exact this
theorem Sl.below {e sz n : Nat} {w w' : World} {A : Option Addr} {xs : List Value} (h : Sl w e sz A n xs) (k : Below w.heap.size w w') : Sl w' e sz A n xs := h.keeps (ts := []) (Keeps.of_below (base := 0) k (Nat.zero_le _)) (by simp)
theorem Sl.nil {e sz : Nat} {w : World} {A : Option Addr} : Sl w e sz A 0 [] := ⟨⟨by simp, fun h => absurd h (by omega)⟩, fun h => absurd h (by omega)⟩
theorem Sl.of_own {w : World} {base e size n c : Nat} {A : Option Addr} {xs : List Value} (h : w.ownsRow base e size (.slice A n c) n xs) : Sl w e size A n xs :=
 ⟨own_rd h, fun _ a ha => by subst ha; exact own_ty h (g := a.block) (by
  rcases h.2 with ⟨hv, _⟩ | ⟨g, cap, cur, hv, _⟩
  ·cases hv
  ·injection hv with hA; injection hA with hA; subst hA; rfl)⟩
theorem Sl.of_blk {w : World} {g e sz n : Nat} {xs : List Value} (h : Blk w g e xs.toArray) (hn : xs.length = n * sz) : Sl w e sz (some ⟨g, 0, none⟩) n xs := by
 refine ⟨⟨hn, fun _ => ⟨g, 0, rfl, h.lt, fun j hj => ?_⟩⟩, fun _ a ha => by injection ha with ha; subst ha; exact h.ty⟩
 rw [h.cell]; simp [hj]
theorem Byt.sl {w : World} {A : Option Addr} {l : List UInt8} (h : Byt w A l) : Sl w 5 1 A l.length (l.map u8v) := h
theorem Byt.of_blk {w : World} {g : Nat} {l : List UInt8} (h : Blk w g 5 (l.map u8v).toArray) : Byt w (some ⟨g, 0, none⟩) l := Sl.of_blk h (by simp)
theorem Byt.of_own {w : World} {base c : Nat} {A : Option Addr} {l : List UInt8} (h : w.ownsRow base 5 1 (.slice A l.length c) l.length (l.map u8v)) : Byt w A l := Sl.of_own h
theorem Byt.nil {w : World} {A : Option Addr} : Byt w A [] := Sl.nil
theorem Byt.sub {w : World} {b o : Nat} {l : List UInt8} (h : Byt w (some ⟨b, o, none⟩) l) {i k : Nat} (hk : i + k ≤ l.length) : Byt w (some ⟨b, o + i, none⟩) ((l.drop i).take k) := by
 have hl : ((l.drop i).take k).length = k := by rw [List.length_take, List.length_drop]; omega
 refine ⟨⟨by simp, fun hn => ?_⟩, fun hn a ha => ?_⟩
 ·rw [hl] at hn
  obtain ⟨b', o', hA, hb, hc⟩ := h.1.2 (by omega)
  injection hA with hA; injection hA with h1 h2 h3
  subst h1; subst h2
  refine ⟨b, o + i, rfl, hb, fun j hj => ?_⟩
  rw [List.length_map, hl] at hj
  have := hc (i + j) (by rw [List.length_map]; omega)
  rw [Nat.add_assoc, this]
  simp
 ·rw [hl] at hn
  injection ha with ha
  subst ha
  exact h.2 (by omega) ⟨b, o, none⟩ rfl
theorem Byt.at {w : World} {A : Option Addr} {l : List UInt8} (h : Byt w A l) (hn : 0 < l.length) : ∃ b o, A = some ⟨b, o, none⟩ ∧ b < w.heap.size ∧ tyOf w b = some 5 ∧ ∀ j (hj : j < l.length), w.cell? ⟨b, o + j, none⟩ = some (.int .u8 l[j].toNat) := by
 obtain ⟨b, o, rfl, hb, hc⟩ := h.1.2 hn
 refine ⟨b, o, rfl, hb, h.2 hn _ rfl, fun j hj => ?_⟩
 have := hc j (by simpa using hj)
 simpa [u8v] using this
theorem Byt.rd {w : World} {A : Option Addr} {l : List UInt8} (h : Byt w A l) : Rd w w.heap.size 1 A l.length (l.map u8v) := h.1
def ByL (base : Nat) (w : World) (A : Option Addr) (l : List UInt8) : Prop := Rd w w.heap.size 1 A l.length (l.map u8v) ∧ (0 < l.length → ∀ a, A = some a → tyOf w a.block = some 5 ∨ a.block < base)
theorem ByL.stay {base : Nat} {w w' : World} {A : Option Addr} {l : List UInt8} (h : ByL base w A l) (hz : w.heap.size ≤ w'.heap.size) (hs : ∀ a, A = some a → 0 < l.length → w'.heap[a.block]? = w.heap[a.block]?) : ByL base w' A l := by
 refine ⟨⟨h.1.1, fun hn => ?_⟩, fun hn a ha => ?_⟩
 ·obtain ⟨b, o, rfl, hb, hc⟩ := h.1.2 hn
  have e := hs _ rfl hn
  exact ⟨b, o, rfl, Nat.lt_of_lt_of_le hb hz, fun j hj => by rw [← hc j hj]; simp only [World.cell?, e]⟩
 ·have e := hs a ha hn
  refine (h.2 hn a ha).imp (fun h => ?_) id
  unfold tyOf at h ⊢
  rw [e]; exact h
theorem ByL.keeps {base : Nat} {ts : List TypeId} {w w' : World} {A : Option Addr} {l : List UInt8} (h : ByL base w A l) (k : Keeps base ts w w') (ht : 5 ∉ ts) : ByL base w' A l :=
 h.stay k.below.size fun a ha hn => by
  rcases h.2 hn a ha with e | e
  ·exact k.old a.block 5 e ht
  ·exact k.below.block a.block e
theorem ByL.below {base : Nat} {w w' : World} {A : Option Addr} {l : List UInt8} (h : ByL base w A l) (k : Below w.heap.size w w') : ByL base w' A l :=
 h.stay k.size fun a ha hn => by
  obtain ⟨b, o, rfl, hb, _⟩ := h.1.2 hn
  injection ha with ha
  subst ha
  exact k.block b hb
theorem Byt.byl {base : Nat} {w : World} {A : Option Addr} {l : List UInt8} (h : Byt w A l) : ByL base w A l := ⟨h.1, fun hn a ha => .inl (h.2 hn a ha)⟩
theorem ByL.of_rd {base : Nat} {w : World} {A : Option Addr} {l : List UInt8} (h : Rd w w.heap.size 1 A l.length (l.map u8v)) (hb : w.heap.size ≤ base) : ByL base w A l := ⟨h, fun hn a ha => .inr (by
 obtain ⟨b, o, rfl, hb', _⟩ := h.2 hn
 injection ha with ha
 subst ha
 exact Nat.lt_of_lt_of_le hb' hb)⟩
theorem ByL.up {base base' : Nat} {w : World} {A : Option Addr} {l : List UInt8} (h : ByL base w A l) (hb : base ≤ base') : ByL base' w A l := ⟨h.1, fun hn a ha => (h.2 hn a ha).imp id fun e => Nat.lt_of_lt_of_le e hb⟩
theorem ByL.sub {base : Nat} {w : World} {b o : Nat} {l : List UInt8} (h : ByL base w (some ⟨b, o, none⟩) l) {i k : Nat} (hk : i + k ≤ l.length) : ByL base w (some ⟨b, o + i, none⟩) ((l.drop i).take k) := by
 have hl : ((l.drop i).take k).length = k := by rw [List.length_take, List.length_drop]; omega
 refine ⟨⟨by simp, fun hn => ?_⟩, fun hn a ha => ?_⟩
 ·rw [hl] at hn
  obtain ⟨b', o', hA, hb, hc⟩ := h.1.2 (by omega)
  injection hA with hA; injection hA with h1 h2 h3
  subst h1; subst h2
  refine ⟨b, o + i, rfl, hb, fun j hj => ?_⟩
  rw [List.length_map, hl] at hj
  have := hc (i + j) (by rw [List.length_map]; omega)
  rw [Nat.add_assoc, this]
  simp
 ·rw [hl] at hn
  injection ha with ha
  subst ha
  exact h.2 (by omega) ⟨b, o, none⟩ rfl
theorem ByL.at {base : Nat} {w : World} {A : Option Addr} {l : List UInt8} (h : ByL base w A l) (hn : 0 < l.length) : ∃ b o, A = some ⟨b, o, none⟩ ∧ b < w.heap.size ∧ ∀ j (hj : j < l.length), w.cell? ⟨b, o + j, none⟩ = some (.int .u8 l[j].toNat) := by
 obtain ⟨b, o, rfl, hb, hc⟩ := h.1.2 hn
 refine ⟨b, o, rfl, hb, fun j hj => ?_⟩
 have := hc j (by simpa using hj)
 simpa [u8v] using this
theorem gby_setRow (w : World) (g : Nat) (cs : Array Value) : w.grownBy (w.setRow g cs) (some g) := ⟨rfl, rfl, rfl, by simp, fun k _ hk => setRow_other w g k _ (fun e => hk (by rw [e]))⟩
theorem run_copied {base : Nat} (w : World) (g o k c : Nat) (X b : List UInt8) (A : Option Addr) (c2 : Nat) (hg : Blk w g 5 (X.map u8v).toArray) (hb : ByL base w A b) (ho : o + k ≤ X.length) :
  ∃ w1, (Builtin.copy_ #[43, 43] 3 #[.slice (some ⟨g, o, none⟩) k c, .slice A b.length c2]).run Tryz.prog w = .ok (.int .i64 (min b.length k : Nat)) w1 ∧ Blk w1 g 5 ((splice X o (b.take k)).map u8v).toArray ∧ w.grownBy w1 (some g) := by
 have hlen : ((b.take k).map u8v).length = Nat.min b.length k := by rw [List.length_map, List.length_take, Nat.min_comm]
 have fin : ∀ a : Addr, (∀ j v, ((b.take k).map u8v)[j]? = some v → w.cell? (a.add j) = some v) → ∃ w1, (Builtin.copy_ #[43, 43] 3 #[.slice (some ⟨g, o, none⟩) k c, .slice (some a) b.length c2]).run Tryz.prog w = .ok (.int .i64 (min b.length k : Nat)) w1 ∧ Blk w1 g 5 ((splice X o (b.take k)).map u8v).toArray ∧ w.grownBy w1 (some g) := by
  intro a hsrc
  have h := run_copy_row (P := Tryz.prog) w 43 43 3 5 g o k c a b.length c2 _ 5 ((b.take k).map u8v) under43 (by kernel_rfl) hg hlen hsrc (by rw [hlen]; simp; have : Nat.min b.length k ≤ k := Nat.min_le_right _ _; omega) (u8v_one _)
  refine ⟨_, h.trans (congrArg (fun n : Nat => Result.ok (goInt n) _) hlen), ?_, gby_setRow w g _⟩
  have := setRow_heap w g ((X.map u8v).toArray) (((X.map u8v).toArray.toList.take o ++ (b.take k).map u8v ++ (X.map u8v).toArray.toList.drop (o + ((b.take k).map u8v).length)).toArray) 5 (0, 0) hg
  have e : ((X.map u8v).toArray.toList.take o ++ (b.take k).map u8v ++ (X.map u8v).toArray.toList.drop (o + ((b.take k).map u8v).length)).toArray = ((splice X o (b.take k)).map u8v).toArray := by
   simp [splice]
  rw [e] at this ⊢
  exact this
 by_cases hz : 0 < b.length
 ·obtain ⟨bb, oo, rfl, hb1, hc⟩ := hb.at hz
  refine fin _ fun j v hv => ?_
  obtain ⟨hj, rfl⟩ := List.getElem?_eq_some_iff.1 hv
  rw [addr_add]
  rw [List.length_map, List.length_take] at hj
  rw [hc j (by omega)]
  simp [u8v]
 ·obtain rfl : b = [] := List.eq_nil_of_length_eq_zero (by omega)
  cases A with
  | some a => exact fin a fun j v hv => by simp at hv
  | none =>
   refine ⟨w, ?_, by simpa [splice] using hg, gby_refl _ _⟩
   simp [Builtin.copy_, run_underlying under43, Builtin.lenOf, Builtin.firstCells]
   rfl
end
end Go.Proofs.YtmgmfnimaafkdaaGreatDoor
