/- Records of a kind and a text; a slice's record. -/
import Derived.Test.YtmgmfnimaafkdaaGreatDoorProg
import Derived.Test.YtmgmfnimaafkdaaGreatDoorVP
import Derived.Shelf.Strings.Builder1
import Derived.Shelf.LaysM
import Derived.Shelf.Strconv.Itoa4
import Derived.Lib.ItoaLen
import Derived.Lib.AppendIntMem
import Derived.Lib.ConvBytes
namespace Go.Proofs
open Go.Shelf
def Tryz.lays166_ren : Go.Shelf.Ren := ⟨fun | 166 => 98 | 240 => 155 | 276 => 185 | n => n, fun | 0 => 0 | 3 => 3 | 4 => 4 | 5 => 5 | 9 => 9 | 20 => 20 | 37 => 43 | 70 => 194 | 72 => 196 | 75 => 198 | 80 => 204 | 164 => 290 | n => n, fun | n => n⟩
theorem Tryz.lays166 : Go.Proofs.Lays.n166 Tryz.prog Tryz.lays166_ren := {
 mixed := by kernel_rfl
 f166 := Tryz.func98.trans (congrArg some (by kernel_rfl))
 f240 := Tryz.func155.trans (congrArg some (by kernel_rfl))
 f276 := Tryz.func185.trans (congrArg some (by kernel_rfl))
 t0 := Tryz.underlying0
 a0 := Tryz.isAgg0
 z0 := Tryz.sizeOf0
 v0 := Tryz.zeroValue0
 t3 := Tryz.underlying3
 a3 := Tryz.isAgg3
 z3 := Tryz.sizeOf3
 v3 := Tryz.zeroValue3
 t4 := Tryz.underlying4
 a4 := Tryz.isAgg4
 z4 := Tryz.sizeOf4
 v4 := Tryz.zeroValue4
 t9 := Tryz.underlying9
 a9 := Tryz.isAgg9
 z9 := Tryz.sizeOf9
 v9 := Tryz.zeroValue9
 t20 := Tryz.underlying20
 a20 := Tryz.isAgg20
 z20 := Tryz.sizeOf20
 v20 := Tryz.zeroValue20
 t37 := Tryz.underlying43
 a37 := Tryz.isAgg43
 z37 := Tryz.sizeOf43
 v37 := Tryz.zeroValue43
 t70 := Tryz.underlying194
 a70 := Tryz.isAgg194
 z70 := Tryz.sizeOf194
 v70 := Tryz.zeroValue194
 t72 := Tryz.underlying196
 a72 := Tryz.isAgg196
 z72 := Tryz.sizeOf196
 v72 := Tryz.zeroValue196
 t75 := Tryz.underlying198
 a75 := Tryz.isAgg198
 z75 := Tryz.sizeOf198
 v75 := Tryz.zeroValue198
 t164 := Tryz.underlying290
 a164 := Tryz.isAgg290
 z164 := Tryz.sizeOf290
 v164 := Tryz.zeroValue290 }
theorem Tryz.Builder_Extra_166 : Builder.Extra Tryz.prog Tryz.lays166_ren := {
 sizeBuilder := by kernel_rfl
 liesBuilder := by kernel_rfl
 t5 := Tryz.underlying5
 a5 := Tryz.isAgg5
 z5 := Tryz.sizeOf5
 v5 := Tryz.zeroValue5
 infoByte := by kernel_rfl
 cellsByte := by kernel_rfl
 sizeByte := by kernel_rfl
 neB5 := by decide }
open Go.RowKit in
theorem Tryz.Builder_WriteString (B b : Nat) (bs : List Value) (s : ByteArray) (w : World) (h : Lib.IsBuilder 196 5 B b bs w) (hlen : bs.length + s.size ≤ 140737488355328) (hBw : B ≤ w.heap.size) :
  Calls Tryz.prog 98 #[.pointer (some ⟨b, 0, none⟩), .string s] w fun e w' => e = .returned (.tuple #[.int .i64 s.size, .nilIface]) ∧ (Lib.BuilderAt 196 5 B b (.pointer (some ⟨b, 0, none⟩)) (bs ++ Lib.strCells s) w' ∧ Below B w w') := Any.Builder_WriteString Tryz.lays166 Tryz.Builder_Extra_166 B b bs s w h hlen hBw
def Tryz.lays167_ren : Go.Shelf.Ren := ⟨fun | 167 => 99 | 240 => 155 | 276 => 185 | n => n, fun | 0 => 0 | 3 => 3 | 4 => 4 | 5 => 5 | 9 => 9 | 20 => 20 | 37 => 43 | 70 => 194 | 72 => 196 | 75 => 198 | 80 => 204 | 164 => 290 | n => n, fun | n => n⟩
theorem Tryz.lays167 : Go.Proofs.Lays.n167 Tryz.prog Tryz.lays167_ren := {
 mixed := by kernel_rfl
 f167 := Tryz.func99.trans (congrArg some (by kernel_rfl))
 f240 := Tryz.func155.trans (congrArg some (by kernel_rfl))
 f276 := Tryz.func185.trans (congrArg some (by kernel_rfl))
 t0 := Tryz.underlying0
 a0 := Tryz.isAgg0
 z0 := Tryz.sizeOf0
 v0 := Tryz.zeroValue0
 t4 := Tryz.underlying4
 a4 := Tryz.isAgg4
 z4 := Tryz.sizeOf4
 v4 := Tryz.zeroValue4
 t5 := Tryz.underlying5
 a5 := Tryz.isAgg5
 z5 := Tryz.sizeOf5
 v5 := Tryz.zeroValue5
 t9 := Tryz.underlying9
 a9 := Tryz.isAgg9
 z9 := Tryz.sizeOf9
 v9 := Tryz.zeroValue9
 t20 := Tryz.underlying20
 a20 := Tryz.isAgg20
 z20 := Tryz.sizeOf20
 v20 := Tryz.zeroValue20
 t37 := Tryz.underlying43
 a37 := Tryz.isAgg43
 z37 := Tryz.sizeOf43
 v37 := Tryz.zeroValue43
 t70 := Tryz.underlying194
 a70 := Tryz.isAgg194
 z70 := Tryz.sizeOf194
 v70 := Tryz.zeroValue194
 t72 := Tryz.underlying196
 a72 := Tryz.isAgg196
 z72 := Tryz.sizeOf196
 v72 := Tryz.zeroValue196
 t75 := Tryz.underlying198
 a75 := Tryz.isAgg198
 z75 := Tryz.sizeOf198
 v75 := Tryz.zeroValue198
 t164 := Tryz.underlying290
 a164 := Tryz.isAgg290
 z164 := Tryz.sizeOf290
 v164 := Tryz.zeroValue290 }
theorem Tryz.Builder_Extra_167 : Builder.Extra Tryz.prog Tryz.lays167_ren := {
 sizeBuilder := by kernel_rfl
 liesBuilder := by kernel_rfl
 t5 := Tryz.underlying5
 a5 := Tryz.isAgg5
 z5 := Tryz.sizeOf5
 v5 := Tryz.zeroValue5
 infoByte := by kernel_rfl
 cellsByte := by kernel_rfl
 sizeByte := by kernel_rfl
 neB5 := by decide }
open Go.RowKit in
theorem Tryz.Builder_WriteByte (B b : Nat) (bs : List Value) (c : Int) (w : World) (h : Lib.IsBuilder 196 5 B b bs w) (hlen : bs.length + 1 ≤ 140737488355328) (hBw : B ≤ w.heap.size) :
  Calls Tryz.prog 99 #[.pointer (some ⟨b, 0, none⟩), .int .u8 c] w fun e w' => e = .returned .nilIface ∧ (Lib.BuilderAt 196 5 B b (.pointer (some ⟨b, 0, none⟩)) (bs ++ [.int .u8 c]) w' ∧ Below B w w') := Any.Builder_WriteByte Tryz.lays167 Tryz.Builder_Extra_167 B b bs c w h hlen hBw
def Tryz.lays169_ren : Go.Shelf.Ren := ⟨fun | 169 => 101 | n => n, fun | 70 => 194 | 9 => 9 | 0 => 0 | 72 => 196 | 37 => 43 | 127 => 259 | 3 => 3 | 5 => 5 | n => n, fun | n => n⟩
theorem Tryz.lays169 : Go.Proofs.Lays.n169 Tryz.prog Tryz.lays169_ren := {
 mixed := by kernel_rfl
 f169 := Tryz.func101.trans (congrArg some (by kernel_rfl))
 t0 := Tryz.underlying0
 a0 := Tryz.isAgg0
 z0 := Tryz.sizeOf0
 v0 := Tryz.zeroValue0
 t3 := Tryz.underlying3
 a3 := Tryz.isAgg3
 z3 := Tryz.sizeOf3
 v3 := Tryz.zeroValue3
 t9 := Tryz.underlying9
 a9 := Tryz.isAgg9
 z9 := Tryz.sizeOf9
 v9 := Tryz.zeroValue9
 t37 := Tryz.underlying43
 a37 := Tryz.isAgg43
 z37 := Tryz.sizeOf43
 v37 := Tryz.zeroValue43
 t70 := Tryz.underlying194
 a70 := Tryz.isAgg194
 z70 := Tryz.sizeOf194
 v70 := Tryz.zeroValue194
 t72 := Tryz.underlying196
 a72 := Tryz.isAgg196
 z72 := Tryz.sizeOf196
 v72 := Tryz.zeroValue196
 t127 := Tryz.underlying259
 a127 := Tryz.isAgg259
 z127 := Tryz.sizeOf259
 v127 := Tryz.zeroValue259 }
theorem Tryz.Builder_Extra_169 : Builder.Extra Tryz.prog Tryz.lays169_ren := {
 sizeBuilder := by kernel_rfl
 liesBuilder := by kernel_rfl
 t5 := Tryz.underlying5
 a5 := Tryz.isAgg5
 z5 := Tryz.sizeOf5
 v5 := Tryz.zeroValue5
 infoByte := by kernel_rfl
 cellsByte := by kernel_rfl
 sizeByte := by kernel_rfl
 neB5 := by decide }
open Go.RowKit in
theorem Tryz.Builder_String_any (B b : Nat) (l : List UInt8) (w : World) (h : Lib.IsBuilder 196 5 B b (Lib.byteCells l) w) (hBw : B ≤ w.heap.size) :
  Calls Tryz.prog 101 #[.pointer (some ⟨b, 0, none⟩)] w fun e w' => e = .returned (.string ⟨l.toArray⟩) ∧ Below B w w' := Any.Builder_String_any Tryz.lays169 Tryz.Builder_Extra_169 B b l w h hBw
def Tryz.laysM173_ren : Go.Shelf.Ren := ⟨fun | 173 => 100 | 246 => 156 | 283 => 186 | 284 => 187 | 285 => 188 | 286 => 189 | 129 => 205 | 317 => 214 | 318 => 215 | 319 => 216 | 320 => 217 | 337 => 239 | 338 => 240 | n => n, fun | 2 => 2 | 3 => 3 | 9 => 9 | 4 => 4 | 171 => 293 | 0 => 0 | 53 => 263 | 37 => 43 | 5 => 5 | 173 => 295 | 212 => 316 | 51 => 264 | 20 => 20 | 213 => 317 | 46 => 244 | 232 => 348 | 233 => 349 | n => n, fun | 17 => 0 | 18 => 5 | 19 => 6 | n => n⟩
theorem Tryz.laysM173 : Go.Proofs.LaysM.n173 Tryz.prog Tryz.laysM173_ren := {
 mixed := by kernel_rfl
 f129 := Tryz.func205.trans (congrArg some (by kernel_rfl))
 f173 := Tryz.func100.trans (congrArg some (by kernel_rfl))
 f246 := Tryz.func156.trans (congrArg some (by kernel_rfl))
 f283 := Tryz.func186.trans (congrArg some (by kernel_rfl))
 f284 := Tryz.func187.trans (congrArg some (by kernel_rfl))
 f285 := Tryz.func188.trans (congrArg some (by kernel_rfl))
 f286 := Tryz.func189.trans (congrArg some (by kernel_rfl))
 f317 := Tryz.func214.trans (congrArg some (by kernel_rfl))
 f318 := Tryz.func215.trans (congrArg some (by kernel_rfl))
 f319 := Tryz.func216.trans (congrArg some (by kernel_rfl))
 f320 := Tryz.func217.trans (congrArg some (by kernel_rfl))
 f337 := Tryz.func239.trans (congrArg some (by kernel_rfl))
 f338 := Tryz.func240.trans (congrArg some (by kernel_rfl))
 t0 := Tryz.underlying0
 a0 := Tryz.isAgg0
 z0 := Tryz.sizeOf0
 v0 := Tryz.zeroValue0
 t2 := Tryz.underlying2
 a2 := Tryz.isAgg2
 z2 := Tryz.sizeOf2
 v2 := Tryz.zeroValue2
 t3 := Tryz.underlying3
 a3 := Tryz.isAgg3
 z3 := Tryz.sizeOf3
 v3 := Tryz.zeroValue3
 t4 := Tryz.underlying4
 a4 := Tryz.isAgg4
 z4 := Tryz.sizeOf4
 v4 := Tryz.zeroValue4
 t5 := Tryz.underlying5
 a5 := Tryz.isAgg5
 z5 := Tryz.sizeOf5
 v5 := Tryz.zeroValue5
 t9 := Tryz.underlying9
 a9 := Tryz.isAgg9
 z9 := Tryz.sizeOf9
 v9 := Tryz.zeroValue9
 t20 := Tryz.underlying20
 a20 := Tryz.isAgg20
 z20 := Tryz.sizeOf20
 v20 := Tryz.zeroValue20
 t37 := Tryz.underlying43
 a37 := Tryz.isAgg43
 z37 := Tryz.sizeOf43
 v37 := Tryz.zeroValue43
 t46 := Tryz.underlying244
 a46 := Tryz.isAgg244
 z46 := Tryz.sizeOf244
 v46 := Tryz.zeroValue244
 t51 := Tryz.underlying264
 a51 := Tryz.isAgg264
 z51 := Tryz.sizeOf264
 v51 := Tryz.zeroValue264
 t53 := Tryz.underlying263
 a53 := Tryz.isAgg263
 z53 := Tryz.sizeOf263
 v53 := Tryz.zeroValue263
 t171 := Tryz.underlying293
 a171 := Tryz.isAgg293
 z171 := Tryz.sizeOf293
 v171 := Tryz.zeroValue293
 t173 := Tryz.underlying295
 a173 := Tryz.isAgg295
 z173 := Tryz.sizeOf295
 v173 := Tryz.zeroValue295
 t212 := Tryz.underlying316
 a212 := Tryz.isAgg316
 z212 := Tryz.sizeOf316
 v212 := Tryz.zeroValue316
 t213 := Tryz.underlying317
 a213 := Tryz.isAgg317
 z213 := Tryz.sizeOf317
 t232 := Tryz.underlying348
 a232 := Tryz.isAgg348
 z232 := Tryz.sizeOf348
 v232 := Tryz.zeroValue348
 t233 := Tryz.underlying349
 a233 := Tryz.isAgg349
 z233 := Tryz.sizeOf349
 v233 := Tryz.zeroValue349
 g17 := by kernel_rfl
 g18 := by kernel_rfl
 g19 := by kernel_rfl
 i0 := by kernel_rfl
 i2 := by kernel_rfl
 i3 := by kernel_rfl
 i4 := by kernel_rfl
 i5 := by kernel_rfl
 i9 := by kernel_rfl
 i20 := by kernel_rfl
 i37 := by kernel_rfl
 i46 := by kernel_rfl
 i51 := by kernel_rfl
 i53 := by kernel_rfl
 i171 := by kernel_rfl
 i173 := by kernel_rfl
 i212 := by kernel_rfl
 i232 := by kernel_rfl
 i233 := by kernel_rfl
 m17 := by kernel_rfl
 m18 := by kernel_rfl
 m19 := by kernel_rfl }
open Go.RowKit Go.Sort Go.Lib in
theorem Tryz.strconv_FormatInt_10 (n : Int) (h0 : -9223372036854775808 ≤ n) (h1 : n ≤ 9223372036854775807) (w : World) (htab : Lib.TabIs Tryz.prog w "internal/strconv.uint64pow10" .u64 Lib.pow10Tab) :
  Calls Tryz.prog 100 #[.int .i64 n, .int .i64 10] w fun e w' => e = .returned (.string ⟨(Lib.itoa n).toArray⟩) ∧ ∃ k os, w' = grow (w.drewN k) os := Any.strconv_FormatInt_10 Tryz.laysM173 n h0 h1 w htab
end Go.Proofs
namespace Go.Proofs.YtmgmfnimaafkdaaGreatDoor
open Go.RowKit Go.Maps
set_option maxRecDepth 100000

theorem fmt_any (n : Int) (h0 : -9223372036854775808 ≤ n) (h1 : n ≤ 9223372036854775807) (w : World) (ht : Tb w) :
  Calls Tryz.prog 100 #[.int .i64 n, .int .i64 10] w fun e w' => e = .returned (strV (Lib.itoa n)) ∧ Below w.heap.size w w' :=
 (Tryz.strconv_FormatInt_10 n h0 h1 w ht).mono fun _ _ ⟨he, k, os, hw⟩ => ⟨he, hw ▸ Lib.below_grow _ _ nR0 k os⟩
theorem joinTail_snoc (sep : List UInt8) (r : List (List UInt8)) (y : List UInt8) : Lib.joinTail sep (r ++ [y]) = Lib.joinTail sep r ++ (sep ++ y) := by
 unfold Lib.joinTail; simp
theorem join_snoc (xs : List (List UInt8)) (y sep : List UInt8) (h : xs ≠ []) : Lib.join (xs ++ [y]) sep = Lib.join xs sep ++ (sep ++ y) := by
 cases xs with
 | nil => exact absurd rfl h
 | cons x r => rw [List.cons_append, Lib.join_cons, Lib.join_cons, joinTail_snoc, List.append_assoc]
theorem words_nil : wordsS [] = [] := rfl
theorem words_one (n : Int) : wordsS [n] = Lib.itoa n := by unfold wordsS; rw [List.map_cons, List.map_nil, Lib.join_one]
theorem words_snoc (l : List Int) (n : Int) (h : l ≠ []) : wordsS (l ++ [n]) = wordsS l ++ ([32] ++ Lib.itoa n) := by
 unfold wordsS
 rw [List.map_append, List.map_cons, List.map_nil, join_snoc _ _ _ (by simpa using h)]
theorem lens_le (l : List Int) (hn : ∀ x ∈ l, -9223372036854775808 ≤ x ∧ x ≤ 9223372036854775807) : Lib.lens (l.map Lib.itoa) ≤ 21 * l.length := by
 induction l with
 | nil => simp [Lib.lens]
 | cons a l ih =>
  have h1 := hn a List.mem_cons_self
  have h2 := Lib.itoa_length_le a h1.1 h1.2
  have h3 := ih fun x hx => hn x (List.mem_cons_of_mem _ hx)
  unfold Lib.lens at h3 ⊢
  simp only [List.map_cons, List.sum_cons, List.length_cons] at h3 ⊢
  omega
theorem words_len (l : List Int) (hn : ∀ x ∈ l, -9223372036854775808 ≤ x ∧ x ≤ 9223372036854775807) : (wordsS l).length ≤ 22 * l.length := by
 cases l with
 | nil => simp [words_nil]
 | cons a r =>
  have h1 := hn a List.mem_cons_self
  have h2 := Lib.itoa_length_le a h1.1 h1.2
  have h3 := lens_le r fun x hx => hn x (List.mem_cons_of_mem _ hx)
  unfold wordsS
  rw [List.map_cons, Lib.join_cons, List.length_append, Lib.joinTail_length, List.length_map]
  simp only [List.length_cons, List.length_nil]
  omega
theorem builder_below {B b : Nat} {bs : List Value} {w w' : World} (h : Lib.IsBuilder 196 5 B b bs w) (hb : Below w.heap.size w w') : Lib.IsBuilder 196 5 B b bs w' := by
 have go : ∀ p, Lib.BuilderAt 196 5 B b p bs w → Lib.BuilderAt 196 5 B b p bs w' := fun p ⟨h1, v, h2, h3, h4⟩ =>
  ⟨h1, v, (hb.block b (Array.getElem?_eq_some_iff.1 h2).1).trans h2, own_keeps h3 (ts := []) (Keeps.of_below (base := 0) hb (Nat.zero_le _)) (by simp), h4⟩
 rcases h with h | h
 ·exact .inl (go _ h)
 ·exact .inr (go _ h)
theorem byteCells_append (a b : List UInt8) : Lib.byteCells (a ++ b) = Lib.byteCells a ++ Lib.byteCells b := by simp [Lib.byteCells]
def numVs (l : List Int) : List Value := l.map (Value.int .i64)
set_option maxHeartbeats 4000000 in
theorem words_any {w : World} (l : List Int) (A : Option Addr) (c : Nat) (h : Rd w w.heap.size 1 A l.length (numVs l)) (hl : l.length ≤ 1000) (hn : ∀ x ∈ l, -9223372036854775808 ≤ x ∧ x ≤ 9223372036854775807) (ht : Tb w) :
  Calls Tryz.prog 123 #[.slice A l.length c] w fun e w' => e = .returned (strV (wordsS l)) ∧ Below w.heap.size w w' := by
 have HRD := hZ9 h
 have HN := hZ9 hn
 have HT := hZ9 ht
 clear h hn ht
 go_enter Tryz.func123, Tryz.ntmps123
 go_upto_region 2 with fail
 have hb0 : Below w.heap.size w (w.alloc (.cells #[.pointer none, .slice none 0 0] 196)) := bR0.alloc nR0 _
 have HB0 := hZ9 hb0
 have HBU := hZ9 (Lib.fresh_isBuilder 196 5 w)
 clear hb0
 generalize w.alloc (.cells #[.pointer none, .slice none 0 0] 196) = w1 at *
 go_wp2_with fail
 go_loopw [8] (fun i wr => ∃ k : Nat, k ≤ l.length ∧ i = .int .i64 (k : Nat) ∧ Lib.IsBuilder 196 5 w.heap.size w.heap.size (Lib.byteCells (wordsS (l.take k))) wr ∧ Below w.heap.size w wr) (fun i _ => l.length - (intOf i).toNat)
 case atStart => exact ⟨0, Nat.zero_le _, rfl, HBU.out, HB0.out⟩
 case round =>
  obtain ⟨k, hk, rfl, hbu, hbw⟩ := hrel
  have HB := hZ9 hbu
  have HBW := hZ9 hbw
  have hsz := hbw.size
  clear hbu hbw
  by_cases hkl : k < l.length
  ·have hkl' : (k : Int) < l.length := by omega
   obtain ⟨b, o, hA, hbl, hc⟩ := HRD.out.2 (by omega)
   have hck : wr.cell? ⟨b, o + k, none⟩ = some (.int .i64 l[k]) := by
    have := hc k (by unfold numVs; simpa using hkl)
    rw [HBW.out.cell (p := ⟨b, o + k, none⟩) hbl, this]
    simp [numVs]
   have hx := HN.out l[k] (List.getElem_mem _)
   have hlen := words_len (l.take k) fun x hx => HN.out x (List.mem_of_mem_take hx)
   rw [List.length_take, Nat.min_eq_left hk] at hlen
   have htk : l.take (k + 1) = l.take k ++ [l[k]] := List.take_succ_eq_append_getElem hkl
   subst hA
   generalize l[k] = x at *
   have hxl := Lib.itoa_length_le x hx.1 hx.2
   have hxl' : (ByteArray.mk (Lib.itoa x).toArray).size = (Lib.itoa x).length := by simp [ByteArray.size]
   have HFM := hZ9 (fun wy (hy : Below w.heap.size w wy) => fmt_any x hx.1 hx.2 wy (HT.out.below hy))
   have HTK := hZ9 htk
   clear htk hc
   obtain ⟨bs, hbs⟩ : ∃ bs, bs = wordsS (l.take k) := ⟨_, rfl⟩
   rw [← hbs] at HB hlen
   have hbc : (Lib.byteCells bs).length = bs.length := by simp [Lib.byteCells]
   by_cases hk0 : k = 0
   ·subst hk0
    have hbs0 : bs = [] := by rw [hbs]; rfl
    subst hbs0
    have hck0 : wr.cell? ⟨b, o, none⟩ = some (.int .i64 x) := hck
    clear hck hbs
    go_wp2_with (first
     | (go_at_call 100; refine (HFM.out _ HBW.out).mono ?_; rintro en w2 ⟨rfl, hb2⟩; (have HB2 := hZ9 hb2); (have HU2 := hZ9 (builder_below HB.out hb2)); (have hs2 := hb2.size); clear hb2)
     | (go_at_call 98; refine (Tryz.Builder_WriteString w.heap.size w.heap.size _ _ _ HU2.out (by rw [hbc, hxl']; omega) (by omega)).mono ?_; rintro en w3 ⟨rfl, hu3, hb3⟩; (have HU3 := hZ9 hu3); (have HB3 := hZ9 hb3); (have hs3 := hb3.size); clear hu3 hb3))
    go_roundw
    case rel =>
     refine ⟨1, by omega, rfl, .inr ?_, (HBW.out.trans (HB2.out.mono hsz)).trans HB3.out⟩
     rw [HTK.out, List.take_zero, List.nil_append, words_one]
     exact HU3.out
    case measure => simp [intOf]; omega
   ·have hne : l.take k ≠ [] := by
     rw [Ne, List.take_eq_nil_iff]
     rintro (h | h)
     ·exact hk0 h
     ·subst h; simp at hkl
    have hk0' : (k : Int) > 0 := by omega
    go_wp2_with (first
     | (go_at_call 99; refine (Tryz.Builder_WriteByte w.heap.size w.heap.size _ 32 _ HB.out (by rw [hbc]; omega) (by omega)).mono ?_; rintro en w1' ⟨rfl, hu1, hb1⟩; (have HU1 := hZ9 hu1); (have HB1 := hZ9 (HBW.out.trans hb1)); (have hs1 := HB1.out.size); clear hu1 hb1)
     | (go_at_call 100; refine (HFM.out _ HB1.out).mono ?_; rintro en w2 ⟨rfl, hb2⟩; (have HB2 := hZ9 (HB1.out.trans (hb2.mono hs1))); (have HU2 := hZ9 (builder_below (.inr HU1.out) hb2)); (have hs2 := HB2.out.size); clear hb2)
     | (go_at_call 98; refine (Tryz.Builder_WriteString w.heap.size w.heap.size _ _ _ HU2.out (by rw [List.length_append, hbc, hxl']; simp only [List.length_cons, List.length_nil]; omega) (by omega)).mono ?_; rintro en w3 ⟨rfl, hu3, hb3⟩; (have HU3 := hZ9 hu3); (have HB3 := hZ9 (HB2.out.trans hb3)); (have hs3 := hb3.size); clear hu3 hb3))
    go_roundw
    case rel =>
     refine ⟨k + 1, by omega, by simp, .inr ?_, HB3.out⟩
     rw [HTK.out, words_snoc _ _ hne, byteCells_append, byteCells_append, ← List.append_assoc, ← hbs]
     exact HU3.out
    case measure => simp [intOf]; omega
  ·have hkl' : ¬ (k : Int) < l.length := by omega
   have hke : k = l.length := by omega
   subst hke
   rw [List.take_length] at HB
   go_wp2_with (go_at_call 101; refine (Tryz.Builder_String_any w.heap.size w.heap.size _ _ HB.out (by omega)).mono ?_; rintro en w2 ⟨rfl, hb2⟩)
   go_ret
   exact ⟨rfl, HBW.out.trans hb2⟩
end Go.Proofs.YtmgmfnimaafkdaaGreatDoor
namespace Go.Proofs.YtmgmfnimaafkdaaGreatDoor
open Go.RowKit Go.Maps
set_option maxRecDepth 100000

def RecOut (w w' : World) (r : RecL) (e : Ending) : Prop := (∃ A c, e = .returned (.agg #[.int .u8 r.1, .slice A r.2.length c]) ∧ Byt w' A r.2 ∧ r.2.length ≤ c) ∧ Below w.heap.size w w'
theorem strBytes_run (w : World) (t : List UInt8) : ∃ c w', (convert 9 43 (strV t)).run Tryz.prog w = .ok (.slice (some ⟨w.heap.size, 0, none⟩) t.length c) w' ∧ Byt w' (some ⟨w.heap.size, 0, none⟩) t ∧ t.length ≤ c ∧ Below w.heap.size w w' ∧ w'.heap.size = w.heap.size + 1 := by
 have hs : (⟨t.toArray⟩ : ByteArray).size = t.length := by simp [ByteArray.size]
 have h := Lib.run_convert_string_bytes (P := Tryz.prog) w 9 43 5 ⟨t.toArray⟩ Tryz.underlying9 under43 Tryz.underlying5
 rw [hs] at h
 refine ⟨_, _, h, ⟨⟨by simp, fun _ => ⟨w.heap.size, 0, rfl, by rw [Lib.bytesWorld_size]; omega, fun j hj => ?_⟩⟩, fun _ a ha => ?_⟩, grownCap_ge _ _ _ _, ⟨?_, ?_, ?_, by rw [Lib.bytesWorld_size]; omega, fun k hk => Lib.bytesWorld_at_old _ _ _ _ hk⟩, Lib.bytesWorld_size _ _ _⟩
 ·rw [List.length_map] at hj
  have := Lib.bytesWorld_cell w 5 ⟨t.toArray⟩ (0 + j) (by rw [hs]; omega)
  rw [this]
  simp [u8v, List.getD, hj]
 ·injection ha with ha
  subst ha
  unfold tyOf
  rw [Lib.bytesWorld_at_new]
 all_goals (unfold Lib.bytesWorld World.freeze; rfl)
theorem size137 : (Tryz.prog.info? 137).map (·.size) = some 2 := by kernel_rfl
set_option maxHeartbeats 4000000 in
theorem record_any {w : World} (kd : Nat) (t : List UInt8) : Calls Tryz.prog 71 #[.int .u8 kd, strV t] w fun e w' => RecOut w w' (kd, t) e := by
 have hb0 : Below w.heap.size w (w.alloc (.cells #[.int .u8 0, .slice none 0 0] 137)) := bR0.alloc nR0 _
 have hx0 := Blk.new w 137 #[.int .u8 0, .slice none 0 0]
 have HB0 := hZ9 hb0
 have HX0 := hZ9 hx0
 clear hb0 hx0
 go_enter Tryz.func71, Tryz.ntmps71
 go_upto_region 1 with fail
 generalize w.alloc (.cells #[.int .u8 0, .slice none 0 0] 137) = w1 at *
 obtain ⟨c, w2, hrun, hby, hc, hb2, hs2⟩ := strBytes_run w1 t
 have HRUN := hZ9 hrun
 have hx2 := HX0.out.below hb2 HX0.out.lt
 have hc0 := hx2.cell 0
 have hc1 := hx2.cell 1
 have hf0 := hx2.free 0
 have hf1 := hx2.free 1
 have HX2 := hZ9 hx2
 have HI2 : Hid ((Tryz.prog.info? 137).map (·.size) = some (#[.int .u8 kd, .slice (some ⟨w1.heap.size, 0, none⟩) t.length c] : Array Value).size) := size137
 have H1 : Hid ((#[.int .u8 kd, .slice (some ⟨w1.heap.size, 0, none⟩) t.length c] : Array Value).all (·.oneCell') = true) := by
  show (#[.int .u8 kd, .slice (some ⟨w1.heap.size, 0, none⟩) t.length c] : Array Value).all (·.oneCell') = true
  simp [Value.oneCell']
 clear hx2 hc0 hc1 hf0 hf1
 go_wp2_with (refine wpList_store_row rfl 137 _ _ rfl w.heap.size #[.int .u8 kd, .slice (some ⟨w1.heap.size, 0, none⟩) t.length c] rfl rfl 137 #[.int .u8 0, .slice none 0 0] HX2.out HI2.out rfl H1.out ?_)
 refine bodyPost_ret (v := .agg #[.int .u8 kd, .slice (some ⟨w1.heap.size, 0, none⟩) t.length c]) (results_cell_row Tryz.results71 _ _ w.heap.size 137 _ (0, 0) _ rfl (setRow_blk HX2.out _) Tryz.underlying137 rfl HI2.out) rfl ?_
 have hk : Keeps w2.heap.size [137] w2 (w2.setRow w.heap.size #[.int .u8 kd, .slice (some ⟨w1.heap.size, 0, none⟩) t.length c]) → True := fun _ => trivial
 refine ⟨⟨_, _, rfl, ?_, hc⟩, (HB0.out.trans (hb2.mono HB0.out.size)).trans (grown_below (setRow_gby _ _ _) (by have := HB0.out.size; have := hb2.size; omega) (fun k hk => by injection hk with hk; omega))⟩
 have k2 : Keeps 0 [137] w2 (w2.setRow w.heap.size #[.int .u8 kd, .slice (some ⟨w1.heap.size, 0, none⟩) t.length c]) :=
  Keeps.of_grown (setRow_gby _ _ _) (Nat.zero_le _) fun g hg => ⟨Nat.zero_le _, fun t ht => by injection hg with hg; subst hg; rw [HX2.out.ty] at ht; injection ht with ht; simp [← ht]⟩
 exact hby.keeps k2 (by decide)
set_option maxHeartbeats 4000000 in
theorem slotRec_any {w : World} (x : SlotV) (n : NameV) (ht : Tb w) (hn : ∀ y ∈ [n.1, n.2, x.at', (x.bytes : Int), x.mark], -9223372036854775808 ≤ y ∧ y ≤ 9223372036854775807) :
  Calls Tryz.prog 109 #[slotV x, nameV n] w fun e w' => RecOut w w' (slotRec n x) e := by
 have HN := hZ9 hn
 have HT := hZ9 ht
 have HW := hZ9 (fun (wy : World) A c (h : Rd wy wy.heap.size 1 A 5 (numVs [n.1, n.2, x.at', (x.bytes : Int), x.mark])) (ht : Tb wy) => words_any [n.1, n.2, x.at', (x.bytes : Int), x.mark] A c h (by simp) hn ht)
 have HR := hZ9 (fun wy => record_any (w := wy) 83 (wordsS [n.1, n.2, x.at', (x.bytes : Int), x.mark]))
 have HE : Hid (slotRec n x = (83, wordsS [n.1, n.2, x.at', (x.bytes : Int), x.mark])) := show slotRec n x = (83, wordsS [n.1, n.2, x.at', (x.bytes : Int), x.mark]) from rfl
 clear hn ht
 obtain ⟨at', len, bytes, mark⟩ := x
 obtain ⟨v, no⟩ := n
 simp only at HN HW HR HE
 generalize wordsS [v, no, at', (bytes : Int), mark] = tx at *
 rw [HE.out]
 unfold slotV nameV
 simp only
 have hb0 : Below w.heap.size w (((w.alloc (.cells #[.int .i64 at', .int .i64 len, .int .i64 bytes, .int .i64 mark] 142)).alloc (.cells #[.int .i64 v, .int .i64 no] 73)).alloc (.cells #[.int .u8 0, .slice none 0 0] 137)) := ((bR0.alloc nR0 _).alloc (by simp) _).alloc (by simp; omega) _
 have h2 : Blk (((w.alloc (.cells #[.int .i64 at', .int .i64 len, .int .i64 bytes, .int .i64 mark] 142)).alloc (.cells #[.int .i64 v, .int .i64 no] 73)).alloc (.cells #[.int .u8 0, .slice none 0 0] 137)) w.heap.size 142 #[.int .i64 at', .int .i64 len, .int .i64 bytes, .int .i64 mark] := ((Blk.new _ _ _).alloc _).alloc _
 have h3 : Blk (((w.alloc (.cells #[.int .i64 at', .int .i64 len, .int .i64 bytes, .int .i64 mark] 142)).alloc (.cells #[.int .i64 v, .int .i64 no] 73)).alloc (.cells #[.int .u8 0, .slice none 0 0] 137)) (w.heap.size + 1) 73 #[.int .i64 v, .int .i64 no] := (Blk.new_eq0 (by simp)).alloc _
 have h4 : Blk (((w.alloc (.cells #[.int .i64 at', .int .i64 len, .int .i64 bytes, .int .i64 mark] 142)).alloc (.cells #[.int .i64 v, .int .i64 no] 73)).alloc (.cells #[.int .u8 0, .slice none 0 0] 137)) (w.heap.size + 1 + 1) 137 #[.int .u8 0, .slice none 0 0] := Blk.new_eq0 (by simp)
 have HB0 := hZ9 hb0
 have H4 := hZ9 h4
 have HZ : Hid ((((w.alloc (.cells #[.int .i64 at', .int .i64 len, .int .i64 bytes, .int .i64 mark] 142)).alloc (.cells #[.int .i64 v, .int .i64 no] 73)).alloc (.cells #[.int .u8 0, .slice none 0 0] 137)).heap.size = w.heap.size + 3) := by
  show (((w.alloc (.cells #[.int .i64 at', .int .i64 len, .int .i64 bytes, .int .i64 mark] 142)).alloc (.cells #[.int .i64 v, .int .i64 no] 73)).alloc (.cells #[.int .u8 0, .slice none 0 0] 137)).heap.size = w.heap.size + 3
  simp
 clear hb0 h4
 go_enter Tryz.func109, Tryz.ntmps109
 go_upto_region 1 with fail
 generalize ((w.alloc (.cells #[.int .i64 at', .int .i64 len, .int .i64 bytes, .int .i64 mark] 142)).alloc (.cells #[.int .i64 v, .int .i64 no] 73)).alloc (.cells #[.int .u8 0, .slice none 0 0] 137) = w1 at *
 have a0 : w1.cell? ⟨w.heap.size, 0, none⟩ = some (.int .i64 at') := h2.cell 0
 have a2 : w1.cell? ⟨w.heap.size, 2, none⟩ = some (.int .i64 bytes) := h2.cell 2
 have a3 : w1.cell? ⟨w.heap.size, 3, none⟩ = some (.int .i64 mark) := h2.cell 3
 have b0 : w1.cell? ⟨w.heap.size + 1, 0, none⟩ = some (.int .i64 v) := h3.cell 0
 have b1 : w1.cell? ⟨w.heap.size + 1, 1, none⟩ = some (.int .i64 no) := h3.cell 1
 have l2 := h2.lt
 have l3 := h3.lt
 clear h2 h3
 have hbs : Below w1.heap.size w1 (w1.alloc (.cells #[.int .i64 v, .int .i64 no, .int .i64 at', .int .i64 bytes, .int .i64 mark] 2)) := bR0.alloc nR0 _
 have HBS := hZ9 (HB0.out.trans (hbs.mono HB0.out.size))
 have HX : Hid (Rd (w1.alloc (.cells #[.int .i64 v, .int .i64 no, .int .i64 at', .int .i64 bytes, .int .i64 mark] 2)) (w1.alloc (.cells #[.int .i64 v, .int .i64 no, .int .i64 at', .int .i64 bytes, .int .i64 mark] 2)).heap.size 1 (some ⟨w1.heap.size, 0, none⟩) 5 (numVs [v, no, at', (bytes : Int), mark])) :=
  show Rd (w1.alloc (.cells #[.int .i64 v, .int .i64 no, .int .i64 at', .int .i64 bytes, .int .i64 mark] 2)) (w1.alloc (.cells #[.int .i64 v, .int .i64 no, .int .i64 at', .int .i64 bytes, .int .i64 mark] 2)).heap.size 1 (some ⟨w1.heap.size, 0, none⟩) 5 (numVs [v, no, at', (bytes : Int), mark]) from (Sl.of_blk (Blk.new w1 2 _) rfl).1
 have H4B := hZ9 (H4.out.alloc (.cells #[.int .i64 v, .int .i64 no, .int .i64 at', .int .i64 bytes, .int .i64 mark] 2))
 clear hbs
 go_wp2_with (first
  | (go_at_call 123; refine (HW.out _ _ _ HX.out (HT.out.below HBS.out)).mono ?_; rintro en w2 ⟨rfl, hb2⟩; (have HB2 := hZ9 (HBS.out.trans (hb2.mono HBS.out.size))); (have H42 := hZ9 (H4B.out.below hb2 H4B.out.lt)); clear hb2)
  | (go_at_call 71; refine (HR.out _).mono ?_; rintro en w3 ⟨⟨A, c, rfl, hby, hcp⟩, hb3⟩; (have HBY := hZ9 hby); (have HB3 := hZ9 (HB2.out.trans (hb3.mono HB2.out.size))); (have H43 := hZ9 (H42.out.below hb3 H42.out.lt)); (have HCP := hZ9 hcp); clear hby hb3 hcp; (have HI2 : Hid ((Tryz.prog.info? 137).map (·.size) = some (#[.int .u8 83, .slice A tx.length c] : Array Value).size) := size137); (have H1 : Hid ((#[.int .u8 83, .slice A tx.length c] : Array Value).all (·.oneCell') = true) := hZ9 (by simp [Value.oneCell'])))
  | (refine wpList_store_row rfl 137 _ _ rfl (w.heap.size + 1 + 1) #[.int .u8 83, .slice A tx.length c] rfl rfl 137 #[.int .u8 0, .slice none 0 0] H43.out HI2.out rfl H1.out ?_))
 refine bodyPost_ret (v := .agg #[.int .u8 83, .slice A tx.length c]) (results_cell_row Tryz.results109 _ _ (w.heap.size + 1 + 1) 137 _ (0, 0) _ rfl (setRow_blk H43.out _) Tryz.underlying137 rfl HI2.out) rfl ?_
 refine ⟨⟨_, _, rfl, ?_, HCP.out⟩, HB3.out.trans (grown_below (setRow_gby _ _ _) HB3.out.size (fun k hk => by injection hk with hk; omega))⟩
 have k2 : Keeps 0 [137] w3 (w3.setRow (w.heap.size + 1 + 1) #[.int .u8 83, .slice A tx.length c]) :=
  Keeps.of_grown (setRow_gby _ _ _) (Nat.zero_le _) fun g hg => ⟨Nat.zero_le _, fun t ht => by injection hg with hg; subst hg; rw [H43.out.ty] at ht; injection ht with ht; simp [← ht]⟩
 exact HBY.out.keeps k2 (by decide)
end Go.Proofs.YtmgmfnimaafkdaaGreatDoor
