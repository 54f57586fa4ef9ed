/- A line of a report's text. -/
import Derived.Test.YtmgmfnimaafkdaaGreatDoorVQ
import Derived.Test.YtmgmfnimaafkdaaGreatDoorVF
import Derived.Shelf.Strings.BuilderK
namespace Go.Proofs.YtmgmfnimaafkdaaGreatDoor
open Go.RowKit Go.Maps
set_option maxRecDepth 100000

def itemB (n : Int) : List UInt8 := 32 :: Lib.itoa n
def lineB (wd : List UInt8) (l : List Int) : List UInt8 := wd ++ l.flatMap itemB ++ [10]
theorem items_len (l : List Int) (hn : ∀ x ∈ l, -9223372036854775808 ≤ x ∧ x ≤ 9223372036854775807) : (l.flatMap itemB).length ≤ 22 * l.length := by
 induction l with
 | nil => simp
 | cons a l ih =>
  have h1 := hn a List.mem_cons_self
  have h2 := Lib.itoa_length_le a h1.1 h1.2
  have h3 := ih fun x hx => hn x (List.mem_cons_of_mem _ hx)
  simp only [List.flatMap_cons, List.length_append, List.length_cons, itemB]
  omega
theorem builderF_below {B b : Nat} {bs : List Value} {w w' : World} (h : Lib.IsBuilderF 196 5 B b bs w) (hb : Below w.heap.size w w') : Lib.IsBuilderF 196 5 B b bs w' := by
 have go : ∀ p, Lib.BuilderAtF 196 5 B b p bs w → Lib.BuilderAtF 196 5 B b p bs w' := fun p ⟨h1, v, h2, h3, h4⟩ => by
  refine ⟨h1, v, (hb.block b (Array.getElem?_eq_some_iff.1 h2).1).trans h2, ⟨h3.1, ?_⟩, h4⟩
  rcases h3.2 with h5 | ⟨g, cap, cur, fz, e1, e2, e3, e4⟩
  ·exact .inl h5
  ·exact .inr ⟨g, cap, cur, fz, e1, e2, (hb.block g (Array.getElem?_eq_some_iff.1 e3).1).trans e3, e4⟩
 rcases h with h | h
 ·exact .inl (go _ h)
 ·exact .inr (go _ h)
theorem blk_others {w w' : World} {g b : Nat} {t : TypeId} {cs : Array Value} (h : Lib.OthersKept 5 (some b) w w') (hb : Blk w g t cs) (hg : g ≠ b) (ht : t ≠ 5) : Blk w' g t cs :=
 h g _ hb (fun e => by injection e with e; exact hg e) (fun c fz e => by injection e with _ e; exact ht e)
set_option maxHeartbeats 4000000 in
theorem line_any {w : World} {B b s c : Nat} {bs : List UInt8} (wd : List UInt8) (l : List Int) (hu : Lib.IsBuilderF 196 5 B b (Lib.byteCells bs) w) (hB : B ≤ w.heap.size) (hs : Blk w s 2 (numVs l).toArray) (hsb : s ≠ b) (hl : l.length ≤ 10)
  (hn : ∀ x ∈ l, -9223372036854775808 ≤ x ∧ x ≤ 9223372036854775807) (ht : ∀ wy, Below B w wy → Tb wy) (hbs : bs.length ≤ 1000000) (hwd : wd.length ≤ 100) :
  Calls Tryz.prog 97 #[.string ⟨wd.toArray⟩, .slice (some ⟨s, 0, none⟩) l.length c, .pointer (some ⟨b, 0, none⟩)] w fun e w' => e = .returned (.tuple #[]) ∧ Lib.IsBuilderF 196 5 B b (Lib.byteCells (bs ++ lineB wd l)) w' ∧ Below B w w' := by
 have HN := hZ9 hn
 have HT := hZ9 ht
 have hwz : (⟨wd.toArray⟩ : ByteArray).size = wd.length := by simp [ByteArray.size]
 have W0 := hZ9 (show Calls Tryz.prog 98 #[.pointer (some ⟨b, 0, none⟩), .string ⟨wd.toArray⟩] w fun e w' => (∃ v, e = .returned v) ∧ Lib.IsBuilderF 196 5 B b (Lib.byteCells (bs ++ wd)) w' ∧ Below B w w' ∧ Blk w' s 2 (numVs l).toArray from
  (Any.Builder_WriteString_k Tryz.lays166 Tryz.Builder_Extra_166 B b (Lib.byteCells bs) ⟨wd.toArray⟩ w hu (by rw [hwz]; simp [Lib.byteCells]; omega) hB).mono fun e w' ⟨h1, h2, h3, h4⟩ => ⟨⟨_, h1⟩, by rw [byteCells_append]; exact .inr h2, h3, blk_others h4 hs hsb (by decide)⟩)
 clear hu hs hn ht hwz
 go_enter Tryz.func97, Tryz.ntmps97
 go_wp2_with (go_at_call 98; refine W0.out.mono ?_; rintro en w1 ⟨⟨v1, rfl⟩, hu1, hb1, hs1⟩; (have HU1 := hZ9 hu1); (have HB1 := hZ9 hb1); (have HS1 := hZ9 hs1); clear hu1 hb1 hs1)
 go_loopw [11] (fun i wr => ∃ k : Nat, k ≤ l.length ∧ i = .int .i64 (k : Nat) ∧ Lib.IsBuilderF 196 5 B b (Lib.byteCells (bs ++ wd ++ (l.take k).flatMap itemB)) wr ∧ Below B w wr ∧ Blk wr s 2 (numVs l).toArray) (fun i _ => l.length - (intOf i).toNat)
 case atStart => exact ⟨0, Nat.zero_le _, rfl, by rw [List.take_zero, List.flatMap_nil, List.append_nil]; exact HU1.out, HB1.out, HS1.out⟩
 case round =>
  obtain ⟨k, hk, rfl, hu, hb, hs⟩ := hrel
  have hsz : B ≤ wr.heap.size := Nat.le_trans hB hb.size
  obtain ⟨bk, hbk⟩ : ∃ bk, bk = bs ++ wd ++ (l.take k).flatMap itemB := ⟨_, rfl⟩
  have hbl : bk.length ≤ 1001000 := by
   have := items_len (l.take k) fun x hx => HN.out x (List.mem_of_mem_take hx)
   rw [List.length_take] at this
   rw [hbk]
   simp only [List.length_append]
   omega
  rw [← hbk] at hu
  by_cases hkl : k < l.length
  ·have hkl' : (k : Int) < l.length := by omega
   have hck : wr.cell? ⟨s, k, none⟩ = some (.int .i64 l[k]) := by
    have := hs.cell k
    rw [this]
    simp [numVs, hkl]
   have hx := HN.out l[k] (List.getElem_mem _)
   have htk : l.take (k + 1) = l.take k ++ [l[k]] := List.take_succ_eq_append_getElem hkl
   generalize l[k] = x at *
   have hxl := Lib.itoa_length_le x hx.1 hx.2
   have hxz : (⟨(Lib.itoa x).toArray⟩ : ByteArray).size = (Lib.itoa x).length := by simp [ByteArray.size]
   have W1 := hZ9 (show Calls Tryz.prog 99 #[.pointer (some ⟨b, 0, none⟩), .int .u8 32] wr fun e w' => (∃ v, e = .returned v) ∧ Lib.IsBuilderF 196 5 B b (Lib.byteCells (bk ++ [32])) w' ∧ Below B w w' ∧ Blk w' s 2 (numVs l).toArray from
    (Any.Builder_WriteByte_k Tryz.lays167 Tryz.Builder_Extra_167 B b (Lib.byteCells bk) 32 wr hu (by simp [Lib.byteCells]; omega) hsz).mono fun e w' ⟨h1, h2, h3, h4⟩ => ⟨⟨_, h1⟩, by rw [byteCells_append]; exact .inr h2, hb.trans h3, blk_others h4 hs hsb (by decide)⟩)
   have W2 := hZ9 (show ∀ wy, Lib.IsBuilderF 196 5 B b (Lib.byteCells (bk ++ [32])) wy → Below B w wy → Blk wy s 2 (numVs l).toArray → Calls Tryz.prog 100 #[.int .i64 x, .int .i64 10] wy fun e w' => e = .returned (.string ⟨(Lib.itoa x).toArray⟩) ∧ Lib.IsBuilderF 196 5 B b (Lib.byteCells (bk ++ [32])) w' ∧ Below B w w' ∧ Blk w' s 2 (numVs l).toArray from fun wy h1 h2 h3 =>
    (fmt_any x hx.1 hx.2 wy (HT.out wy h2)).mono fun e w' ⟨h4, h5⟩ => ⟨h4, builderF_below h1 h5, h2.trans (h5.mono (Nat.le_trans hB h2.size)), h3.below h5 h3.lt⟩)
   have W3 := hZ9 (show ∀ wy, Lib.IsBuilderF 196 5 B b (Lib.byteCells (bk ++ [32])) wy → Below B w wy → Blk wy s 2 (numVs l).toArray → Calls Tryz.prog 98 #[.pointer (some ⟨b, 0, none⟩), .string ⟨(Lib.itoa x).toArray⟩] wy fun e w' => (∃ v, e = .returned v) ∧ Lib.IsBuilderF 196 5 B b (Lib.byteCells (bk ++ itemB x)) w' ∧ Below B w w' ∧ Blk w' s 2 (numVs l).toArray from fun wy h1 h2 h3 =>
    (Any.Builder_WriteString_k Tryz.lays166 Tryz.Builder_Extra_166 B b (Lib.byteCells (bk ++ [32])) ⟨(Lib.itoa x).toArray⟩ wy h1 (by rw [hxz]; simp [Lib.byteCells]; omega) (Nat.le_trans hB h2.size)).mono fun e w' ⟨h4, h5, h6, h7⟩ => ⟨⟨_, h4⟩, by
     have : bk ++ itemB x = bk ++ [32] ++ Lib.itoa x := by simp [itemB]
     rw [this, byteCells_append (bk ++ [32])]
     exact .inr h5, h2.trans h6, blk_others h7 h3 hsb (by decide)⟩)
   have HTK := hZ9 htk
   have HBK := hZ9 hbk
   clear hu hb hs htk hbk hxl hxz
   go_wp2_with (first
    | (go_at_call 99; refine W1.out.mono ?_; rintro en w2 ⟨⟨v2, rfl⟩, h1, h2, h3⟩; (have HU2 := hZ9 h1); (have HB2 := hZ9 h2); (have HS2 := hZ9 h3); clear h1 h2 h3)
    | (go_at_call 100; refine (W2.out _ HU2.out HB2.out HS2.out).mono ?_; rintro en w3 ⟨rfl, h1, h2, h3⟩; (have HU3 := hZ9 h1); (have HB3 := hZ9 h2); (have HS3 := hZ9 h3); clear h1 h2 h3)
    | (go_at_call 98; refine (W3.out _ HU3.out HB3.out HS3.out).mono ?_; rintro en w4 ⟨⟨v4, rfl⟩, h1, h2, h3⟩; (have HU4 := hZ9 h1); (have HB4 := hZ9 h2); (have HS4 := hZ9 h3); clear h1 h2 h3))
   go_roundw
   case rel =>
    refine ⟨k + 1, by omega, by go_num, ?_, HB4.out, HS4.out⟩
    rw [HTK.out, List.flatMap_append, List.flatMap_cons, List.flatMap_nil, List.append_nil, ← List.append_assoc, ← HBK.out]
    exact HU4.out
   case measure => simp [intOf]; omega
  ·have hke : k = l.length := by omega
   subst hke
   rw [List.take_length] at hbk
   have W4 := hZ9 (show Calls Tryz.prog 99 #[.pointer (some ⟨b, 0, none⟩), .int .u8 10] wr fun e w' => (∃ v, e = .returned v) ∧ Lib.IsBuilderF 196 5 B b (Lib.byteCells (bs ++ lineB wd l)) w' ∧ Below B w w' from
    (Any.Builder_WriteByte_k Tryz.lays167 Tryz.Builder_Extra_167 B b (Lib.byteCells bk) 10 wr hu (by simp [Lib.byteCells]; omega) hsz).mono fun e w' ⟨h1, h2, h3, h4⟩ => ⟨⟨_, h1⟩, by
     have : bs ++ lineB wd l = bk ++ [10] := by rw [hbk]; simp [lineB]
     rw [this, byteCells_append]
     exact .inr h2, hb.trans h3⟩)
   clear hu hb hs hbk
   go_wp2_with (go_at_call 99; refine W4.out.mono ?_; rintro en w2 ⟨⟨v2, rfl⟩, h1, h2⟩; (have HU2 := hZ9 h1); (have HB2 := hZ9 h2); clear h1 h2)
   go_end0
   exact ⟨rfl, HU2.out, HB2.out⟩
end Go.Proofs.YtmgmfnimaafkdaaGreatDoor
