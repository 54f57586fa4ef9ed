/- The bytes and the name of an act; what no store tells.  An act on no store.  -/
import Derived.Test.YtmgmfnimaafkdaaGreatDoorVJ
import Derived.Test.YtmgmfnimaafkdaaGreatDoorVV
namespace Go.Proofs.YtmgmfnimaafkdaaGreatDoor
open Go.RowKit Go.Maps
set_option maxRecDepth 100000

/-- an act -/
abbrev actC (k v n : Int) (sz b : Nat) : Array Value := #[.int .i64 k, .int .i64 v, .int .i64 n, .int .u16 sz, .int .u8 b]
def bytesV (sz b : Nat) : List UInt8 := (List.range (sz % 400)).map fun i => UInt8.ofNat (b + i % 3)
def bytesTo (L b i : Nat) : List UInt8 := (List.range L).map fun j => if j < i then UInt8.ofNat (b + j % 3) else 0
theorem bytesTo_len (L b i : Nat) : (bytesTo L b i).length = L := by simp [bytesTo]
theorem bytesTo_zero (L b : Nat) : bytesTo L b 0 = List.replicate L 0 := by
  unfold bytesTo
  apply List.ext_getElem
  · simp
  · intro i h1 h2; simp
theorem bytesTo_all (L b : Nat) : bytesTo L b L = (List.range L).map fun i => UInt8.ofNat (b + i % 3) := by
  unfold bytesTo
  apply List.ext_getElem
  · simp
  · intro i h1 h2
    simp at h1
    simp [h1]
theorem bytesTo_step (L b i : Nat) (_ : i < L) : bytesTo L b (i + 1) = (bytesTo L b i).set i (UInt8.ofNat (b + i % 3)) := by
  unfold bytesTo
  apply List.ext_getElem
  · simp
  · intro j h1 h2
    simp at h1
    rw [List.getElem_set]
    simp only [List.getElem_map, List.getElem_range]
    by_cases e : i = j
    · subst e; simp
    · rw [if_neg e]
      by_cases hj : j < i
      · rw [if_pos (by omega), if_pos hj]
      · rw [if_neg (by omega), if_neg hj]
section
attribute [local go_sem ↓] run_make43
set_option maxHeartbeats 4000000 in
theorem actBytes_any (k v n : Int) (sz b : Nat) (hsz : sz < 65536) (w : World) :
    Calls Tryz.prog 38 #[.agg (actC k v n sz b)] w fun e w' => ∃ A c, e = .returned (.slice A (bytesV sz b).length c) ∧ Byt w' A (bytesV sz b) ∧ (bytesV sz b).length ≤ c ∧ Below w.heap.size w w' := by
  have HX := Lib.hid (Blk.new w 55 (actC k v n sz b))
  have HB0 : Hid (Below w.heap.size w (w.alloc (.cells (actC k v n sz b) 55))) := (Below.refl _ _).alloc (Nat.le_refl _) _
  obtain ⟨L, hL⟩ : ∃ L, L = sz % 400 := ⟨_, rfl⟩
  have hrem : ((sz : Int) % 400) = (L : Int) := by omega
  have hlt : L < 400 := by rw [hL]; exact Nat.mod_lt _ (by omega)
  have hbl : (bytesV sz b).length = L := by simp [bytesV, hL]
  have hbv : Hid (bytesV sz b = bytesTo L b L) := by
    show bytesV sz b = bytesTo L b L
    rw [bytesTo_all, hL]; rfl
  rw [hbl]
  clear hL hbl
  go_enter Tryz.func38, Tryz.ntmps38
  go_upto_region 1 with fail
  generalize w.alloc (.cells (actC k v n sz b) 55) = w1 at *
  have c3 : w1.cell? ⟨w.heap.size, 3, none⟩ = some (.int .u16 sz) := HX.out.cell 3
  have xl := HX.out.lt
  have hmk := run_make43 (L : Int) (by omega) (by omega) w1
  rw [Int.toNat_natCast] at hmk
  go_upto_region 2 with fail
  have HX2 := Lib.hid (HX.out.alloc (.cells (zerosA L) 5))
  have HB2 : Hid (Below w.heap.size w (w1.alloc (.cells (zerosA L) 5))) := HB0.out.alloc HB0.out.size _
  have HG2 : Hid (Blk (w1.alloc (.cells (zerosA L) 5)) w1.heap.size 5 ((bytesTo L b 0).map u8v).toArray) := by
    show Blk (w1.alloc (.cells (zerosA L) 5)) w1.heap.size 5 ((bytesTo L b 0).map u8v).toArray
    rw [bytesTo_zero]
    exact Blk.new w1 5 _
  have hne : w.heap.size ≠ w1.heap.size := by omega
  have hgl : w.heap.size ≤ w1.heap.size := by omega
  obtain ⟨g, hg⟩ : ∃ g, g = w1.heap.size := ⟨_, rfl⟩
  rw [← hg] at HG2 hne hgl ⊢
  clear hmk c3 xl HX HB0
  generalize w1.alloc (.cells (zerosA L) 5) = w2 at *
  clear hg
  go_wp2_with fail
  go_loopw [12] (fun i wr => ∃ j : Nat, j ≤ L ∧ i = .int .i64 j ∧ Blk wr g 5 ((bytesTo L b j).map u8v).toArray ∧ Blk wr w.heap.size 55 (actC k v n sz b) ∧ Below w.heap.size w wr) (fun i _ => L - (intOf i).toNat)
  case atStart => exact ⟨0, Nat.zero_le _, rfl, HG2.out, HX2.out, HB2.out⟩
  case round =>
    obtain ⟨j, hj, rfl, hgk, hxk, hbk⟩ := hrel
    have HGK := Lib.hid hgk
    have HXK := Lib.hid hxk
    have HBK := Lib.hid hbk
    have c3 : wr.cell? ⟨w.heap.size, 3, none⟩ = some (.int .u16 sz) := hxk.cell 3
    have c4 : wr.cell? ⟨w.heap.size, 4, none⟩ = some (.int .u8 b) := hxk.cell 4
    have xl := hxk.lt
    have gl := hgk.lt
    have fr := hgk.free j
    by_cases hjl : j < L
    · have hjl' : (j : Int) < L := by omega
      have hcell : wr.cell? ⟨g, j, none⟩ = some (u8v ((bytesTo L b j)[j]'(by rw [bytesTo_len]; exact hjl))) := by
        rw [hgk.cell j]
        simp [bytesTo_len, hjl]
      clear hgk hxk hbk
      go_wp2_with fail
      go_roundw
      case rel =>
        refine ⟨j + 1, by omega, by simp, ?_, HXK.out.far hne _, below_set HBK.out hgl _⟩
        have h1 := HGK.out.set j (.int .u8 (((b : Int) + (j : Int) % 3) % 256))
        rw [bytesTo_step L b j hjl, List.map_set]
        have e : u8v (UInt8.ofNat (b + j % 3)) = .int .u8 (((b : Int) + (j : Int) % 3) % 256) := by
          unfold u8v
          congr 1
        rw [e]
        simpa using h1
      case measure => simp [intOf]; omega
    · obtain rfl : j = L := by omega
      have hjl' : ¬ (j : Int) < j := by omega
      clear hgk hxk hbk
      go_wp2_with fail
      go_ret
      rw [hbv.out]
      exact ⟨some ⟨g, 0, none⟩, j, rfl, Byt.of_blk HGK.out, Nat.le_refl _, HBK.out⟩
end
theorem actName_any (v n : Int) (w : World) : Calls Tryz.prog 31 #[.agg #[.int .i64 v, .int .i64 n]] w fun e w' => e = .returned (.agg #[.int .i64 v, .int .i64 n]) ∧ Below w.heap.size w w' := by
  have HB0 : Hid (Below w.heap.size w ((w.alloc (.cells #[.int .i64 v, .int .i64 n] 53)).alloc (.cells #[.int .i64 0, .int .i64 0] 73))) := ((Below.refl _ _).alloc (Nat.le_refl _) _).alloc (by simp) _
  have HX : Hid (Blk ((w.alloc (.cells #[.int .i64 v, .int .i64 n] 53)).alloc (.cells #[.int .i64 0, .int .i64 0] 73)) w.heap.size 53 #[.int .i64 v, .int .i64 n]) := (Blk.new _ _ _).alloc _
  have HG : Hid (Blk ((w.alloc (.cells #[.int .i64 v, .int .i64 n] 53)).alloc (.cells #[.int .i64 0, .int .i64 0] 73)) (w.heap.size + 1) 73 #[.int .i64 0, .int .i64 0]) := Blk.new_eq0 (by simp)
  have HI : Hid ((Tryz.prog.info? 73).map (·.size) = some (#[.int .i64 v, .int .i64 n] : Array Value).size) := show (Tryz.prog.info? 73).map (·.size) = some 2 from by kernel_rfl
  have H1 : Hid ((#[.int .i64 v, .int .i64 n] : Array Value).all (·.oneCell') = true) := Lib.hid (by simp [Value.oneCell'])
  go_enter Tryz.func31, Tryz.ntmps31
  go_upto_region 1 with fail
  generalize (w.alloc (.cells #[.int .i64 v, .int .i64 n] 53)).alloc (.cells #[.int .i64 0, .int .i64 0] 73) = w1 at *
  have c0 : w1.cell? ⟨w.heap.size, 0, none⟩ = some (.int .i64 v) := HX.out.cell 0
  have c1 : w1.cell? ⟨w.heap.size, 1, none⟩ = some (.int .i64 n) := HX.out.cell 1
  have xl := HX.out.lt
  go_wp2_with (refine wpList_store_row rfl 73 _ _ rfl (w.heap.size + 1) #[.int .i64 v, .int .i64 n] rfl rfl 73 #[.int .i64 0, .int .i64 0] HG.out HI.out rfl H1.out ?_)
  refine bodyPost_ret (v := .agg #[.int .i64 v, .int .i64 n]) (results_cell_row Tryz.results31 _ _ (w.heap.size + 1) 73 _ (0, 0) _ rfl (setRow_blk HG.out _) Tryz.underlying73 rfl HI.out) rfl ?_
  exact ⟨rfl, HB0.out.trans (grown_below (setRow_gby _ _ _) HB0.out.size (fun k hk => by injection hk with hk; omega))⟩
/-! ### no store -/
theorem put_nil (n : Value) (b : Value) (v1 v2 : Int) (hn : n = .agg #[.int .i64 v1, .int .i64 v2]) (w : World) : Calls Tryz.prog 53 #[.pointer none, n, b] w fun e w' => e = .returned (.int .i64 6) ∧ Below w.heap.size w w' := by
  subst hn
  go_enter Tryz.func53, Tryz.ntmps53
  go_wp2_with fail
  go_ret
  exact ⟨rfl, ((Below.refl _ _).alloc (Nat.le_refl _) _).alloc (by simp) _⟩
theorem drop_nil (v1 v2 : Int) (w : World) : Calls Tryz.prog 74 #[.pointer none, .agg #[.int .i64 v1, .int .i64 v2]] w fun e w' => e = .returned (.int .i64 6) ∧ Below w.heap.size w w' := by
  go_enter Tryz.func74, Tryz.ntmps74
  go_wp2_with fail
  go_ret
  exact ⟨rfl, ((Below.refl _ _).alloc (Nat.le_refl _) _).alloc (by simp) _⟩
theorem note_nil (v1 : Int) (t : ByteArray) (w : World) : Calls Tryz.prog 75 #[.pointer none, .int .i64 v1, .string t] w fun e w' => e = .returned (.int .i64 6) ∧ Below w.heap.size w w' := by
  go_enter Tryz.func75, Tryz.ntmps75
  go_wp2_with fail
  go_ret
  exact ⟨rfl, ((Below.refl _ _).alloc (Nat.le_refl _) _).alloc (by simp) _⟩
theorem mark_nil (t : ByteArray) (w : World) : Calls Tryz.prog 18 #[.pointer none, .string t] w fun e w' => e = .returned (.int .i64 6) ∧ Below w.heap.size w w' := by
  go_enter Tryz.func18, Tryz.ntmps18
  go_wp2_with fail
  go_ret
  exact ⟨rfl, (Below.refl _ _).alloc (Nat.le_refl _) _⟩
theorem forget_nil (v : Int) (w : World) : Calls Tryz.prog 76 #[.pointer none, .int .i64 v] w fun e w' => e = .returned (.int .i64 6) ∧ Below w.heap.size w w' := by
  go_enter Tryz.func76, Tryz.ntmps76
  go_wp2_with fail
  go_ret
  exact ⟨rfl, by first
    | exact Below.refl _ _
    | exact (Below.refl _ _).alloc (Nat.le_refl _) _
    | exact ((Below.refl _ _).alloc (Nat.le_refl _) _).alloc (by simp) _
    | exact (((Below.refl _ _).alloc (Nat.le_refl _) _).alloc (by simp) _).alloc (by simp; omega) _⟩
theorem trim_nil (v : Int) (w : World) : Calls Tryz.prog 77 #[.pointer none, .int .i64 v] w fun e w' => e = .returned (.int .i64 6) ∧ Below w.heap.size w w' := by
  go_enter Tryz.func77, Tryz.ntmps77
  go_wp2_with fail
  go_ret
  exact ⟨rfl, by first
    | exact Below.refl _ _
    | exact (Below.refl _ _).alloc (Nat.le_refl _) _
    | exact ((Below.refl _ _).alloc (Nat.le_refl _) _).alloc (by simp) _
    | exact (((Below.refl _ _).alloc (Nat.le_refl _) _).alloc (by simp) _).alloc (by simp; omega) _⟩
theorem sync_nil (w : World) : Calls Tryz.prog 54 #[.pointer none] w fun e w' => e = .returned (.int .i64 6) ∧ w = w' := by
  go_enter Tryz.func54, Tryz.ntmps54
  go_wp2_with fail
  go_ret
  exact ⟨rfl, rfl⟩
theorem get_nil (v1 v2 : Int) (w : World) : Calls Tryz.prog 30 #[.pointer none, .agg #[.int .i64 v1, .int .i64 v2]] w fun e w' => e = .returned (.tuple #[.slice none 0 0, .int .i64 6]) ∧ Below w.heap.size w w' := by
  go_enter Tryz.func30, Tryz.ntmps30
  go_wp2_with fail
  go_ret2
  exact ⟨rfl, (Below.refl _ _).alloc (Nat.le_refl _) _⟩
theorem text_nil (v : Int) (w : World) : Calls Tryz.prog 33 #[.pointer none, .int .i64 v] w fun e w' => e = .returned (.tuple #[.string ⟨#[]⟩, .bool false]) ∧ w = w' := by
  go_enter Tryz.func33, Tryz.ntmps33
  go_wp2_with fail
  go_ret2
  exact ⟨rfl, rfl⟩
theorem names_nil (w : World) : Calls Tryz.prog 35 #[.pointer none] w fun e w' => e = .returned (.slice none 0 0) ∧ w = w' := by
  go_enter Tryz.func35, Tryz.ntmps35
  go_wp2_with fail
  go_ret
  exact ⟨rfl, rfl⟩
theorem notes_nil (w : World) : Calls Tryz.prog 36 #[.pointer none] w fun e w' => e = .returned (.slice none 0 0) ∧ w = w' := by
  go_enter Tryz.func36, Tryz.ntmps36
  go_wp2_with fail
  go_ret
  exact ⟨rfl, rfl⟩
theorem marks_nil (w : World) : Calls Tryz.prog 27 #[.pointer none] w fun e w' => e = .returned (.slice none 0 0) ∧ w = w' := by
  go_enter Tryz.func27, Tryz.ntmps27
  go_wp2_with fail
  go_ret
  exact ⟨rfl, rfl⟩
theorem sums_nil (w : World) : Calls Tryz.prog 37 #[.pointer none] w fun e w' => e = .returned (.int .i64 0) ∧ w = w' := by
  go_enter Tryz.func37, Tryz.ntmps37
  go_wp2_with fail
  go_ret
  exact ⟨rfl, rfl⟩
end Go.Proofs.YtmgmfnimaafkdaaGreatDoor
namespace Go.Proofs.YtmgmfnimaafkdaaGreatDoor
open Go.RowKit Go.Maps
set_option maxRecDepth 100000

theorem strOf0_run (w : World) (A : Option Addr) (c : Nat) : (convert 43 9 (.slice A 0 c)).run Tryz.prog w = .ok (.string ⟨#[]⟩) w := by
  rw [run_convert_bytes_string w 43 9 5 A 0 c under43 Tryz.underlying5 Tryz.underlying9]
  cases A with
  | none => simp [Conv.bytesToString, Sem.run_pure]; rfl
  | some a => exact run_bytesToString (P := Tryz.prog) w a 0 c [] (by simp [loadCells, loadCellsFrom, Sem.run_pure])
/-- bytes read as a string -/
theorem strOfAny_run (w : World) (A : Option Addr) (c : Nat) (t : List UInt8) (h : Byt w A t) : (convert 43 9 (.slice A t.length c)).run Tryz.prog w = .ok (.string ⟨t.toArray⟩) w := by
  rcases Nat.eq_zero_or_pos t.length with h0 | h0
  · have : t = [] := List.eq_nil_of_length_eq_zero h0
    subst this
    exact strOf0_run w A c
  · exact strOf_run w A c t h h0
set_option maxHeartbeats 4000000 in
theorem does_nil0 (v n : Int) (sz b : Nat) (hsz : sz < 65536) (w : World) :
    Calls Tryz.prog 20 #[.pointer none, .agg (actC 0 v n sz b)] w fun e w' => e = .returned (.int .i64 6) ∧ Below w.heap.size w w' := by
  have HX := Lib.hid (Blk.new w 55 (actC 0 v n sz b))
  have HB0 : Hid (Below w.heap.size w (w.alloc (.cells (actC 0 v n sz b) 55))) := (Below.refl _ _).alloc (Nat.le_refl _) _
  have HBY := Lib.hid (fun wy => actBytes_any 0 v n sz b hsz wy)
  have HNM := Lib.hid (fun wy => actName_any v n wy)
  go_enter Tryz.func20, Tryz.ntmps20
  go_upto_region 1 with fail
  generalize w.alloc (.cells (actC 0 v n sz b) 55) = w1 at *
  have hw1 := HB0.out.size
  have SK := Lib.hid (show ∀ wy, Below w1.heap.size w1 wy → wy.cell? ⟨w.heap.size, 0, none⟩ = some (.int .i64 0) ∧ wy.cell? ⟨w.heap.size, 1, none⟩ = some (.int .i64 v) ∧ wy.cell? ⟨w.heap.size, 2, none⟩ = some (.int .i64 n) ∧ wy.cell? ⟨w.heap.size, 3, none⟩ = some (.int .u16 sz) ∧ wy.cell? ⟨w.heap.size, 4, none⟩ = some (.int .u8 b) from fun wy hy => by
    have hx := HX.out.below hy HX.out.lt
    exact ⟨hx.cell 0, hx.cell 1, hx.cell 2, hx.cell 3, hx.cell 4⟩)
  have S0 := Lib.hid (SK.out _ (Below.refl _ _).drew)
  obtain ⟨c0, c1, c2, c3, c4⟩ := SK.out _ (Below.refl _ _)
  have xl := HX.out.lt
  clear HX
  go_upto_region 3 with fail
  clear c0 c1 c2 c3 c4
  go_region_held3 (fun wy => wy.cell? ⟨w.heap.size, 0, none⟩ = some (.int .i64 0) ∧ wy.cell? ⟨w.heap.size, 1, none⟩ = some (.int .i64 v) ∧ wy.cell? ⟨w.heap.size, 2, none⟩ = some (.int .i64 n) ∧ wy.cell? ⟨w.heap.size, 3, none⟩ = some (.int .u16 sz) ∧ wy.cell? ⟨w.heap.size, 4, none⟩ = some (.int .u8 b))
    (first | exact SK.out _ HB5.out | exact SK.out _ HB4.out | exact SK.out _ HB3.out | exact S0.out)
    (first
      | ((fail_if_success (have := HB3)); go_at_call 31; refine (HNM.out _).mono ?_; rintro en w3 ⟨rfl, hb⟩; (have HB3 : Hid (Below w1.heap.size w1 w3) := (Below.refl _ _).drew.trans hb); clear hb)
      | ((fail_if_success (have := HB3)); go_at_call 38; refine (HBY.out _).mono ?_; rintro en w3 ⟨A, c, rfl, _, _, hb⟩; (have HB3 : Hid (Below w1.heap.size w1 w3) := (Below.refl _ _).drew.trans hb); clear hb)
      | (go_at_call 31; refine (HNM.out _).mono ?_; rintro en w4 ⟨rfl, hb⟩; (have HB4 : Hid (Below w1.heap.size w1 w4) := HB3.out.trans (hb.mono HB3.out.size)); clear hb)
      | (go_at_call 38; refine (HBY.out _).mono ?_; rintro en w4 ⟨A, c, rfl, _, _, hb⟩; (have HB4 : Hid (Below w1.heap.size w1 w4) := HB3.out.trans (hb.mono HB3.out.size)); clear hb)
      | (go_at_call 53; refine (put_nil _ _ v n rfl _).mono ?_; rintro en w5 ⟨rfl, hb⟩; (have HB5 : Hid (Below w1.heap.size w1 w5) := HB4.out.trans (hb.mono HB4.out.size)); clear hb))
  all_goals
    go_wp2_with fail
    go_ret
    exact ⟨rfl, HB0.out.trans (HB5.out.mono hw1)⟩
set_option maxHeartbeats 4000000 in
theorem does_nil1 (v n : Int) (sz b : Nat) (hsz : sz < 65536) (w : World) :
    Calls Tryz.prog 20 #[.pointer none, .agg (actC 1 v n sz b)] w fun e w' => e = .returned (.int .i64 6) ∧ Below w.heap.size w w' := by
  have HX := Lib.hid (Blk.new w 55 (actC 1 v n sz b))
  have HB0 : Hid (Below w.heap.size w (w.alloc (.cells (actC 1 v n sz b) 55))) := (Below.refl _ _).alloc (Nat.le_refl _) _
  have HBY := Lib.hid (fun wy => actBytes_any 1 v n sz b hsz wy)
  have HNM := Lib.hid (fun wy => actName_any v n wy)
  go_enter Tryz.func20, Tryz.ntmps20
  go_upto_region 1 with fail
  generalize w.alloc (.cells (actC 1 v n sz b) 55) = w1 at *
  have hw1 := HB0.out.size
  have SK := Lib.hid (show ∀ wy, Below w1.heap.size w1 wy → wy.cell? ⟨w.heap.size, 0, none⟩ = some (.int .i64 1) ∧ wy.cell? ⟨w.heap.size, 1, none⟩ = some (.int .i64 v) ∧ wy.cell? ⟨w.heap.size, 2, none⟩ = some (.int .i64 n) ∧ wy.cell? ⟨w.heap.size, 3, none⟩ = some (.int .u16 sz) ∧ wy.cell? ⟨w.heap.size, 4, none⟩ = some (.int .u8 b) from fun wy hy => by
    have hx := HX.out.below hy HX.out.lt
    exact ⟨hx.cell 0, hx.cell 1, hx.cell 2, hx.cell 3, hx.cell 4⟩)
  have S0 := Lib.hid (SK.out _ (Below.refl _ _).drew)
  obtain ⟨c0, c1, c2, c3, c4⟩ := SK.out _ (Below.refl _ _)
  have xl := HX.out.lt
  clear HX
  go_wp2_with (first
    | (go_at_call 31; refine (HNM.out _).mono ?_; rintro en w4 ⟨rfl, hb⟩; (have HB4 := Lib.hid hb); clear hb)
    | (go_at_call 74; refine (drop_nil v n _).mono ?_; rintro en w5 ⟨rfl, hb⟩; (have HB5 : Hid (Below w1.heap.size w1 w5) := HB4.out.trans (hb.mono HB4.out.size)); clear hb))
  go_ret
  exact ⟨rfl, HB0.out.trans (HB5.out.mono hw1)⟩
set_option maxHeartbeats 4000000 in
theorem does_nil2 (v n : Int) (sz b : Nat) (hsz : sz < 65536) (w : World) :
    Calls Tryz.prog 20 #[.pointer none, .agg (actC 2 v n sz b)] w fun e w' => e = .returned (.int .i64 6) ∧ Below w.heap.size w w' := by
  have HX := Lib.hid (Blk.new w 55 (actC 2 v n sz b))
  have HB0 : Hid (Below w.heap.size w (w.alloc (.cells (actC 2 v n sz b) 55))) := (Below.refl _ _).alloc (Nat.le_refl _) _
  have HBY := Lib.hid (fun wy => actBytes_any 2 v n sz b hsz wy)
  have HNM := Lib.hid (fun wy => actName_any v n wy)
  go_enter Tryz.func20, Tryz.ntmps20
  go_upto_region 1 with fail
  generalize w.alloc (.cells (actC 2 v n sz b) 55) = w1 at *
  have hw1 := HB0.out.size
  have SK := Lib.hid (show ∀ wy, Below w1.heap.size w1 wy → wy.cell? ⟨w.heap.size, 0, none⟩ = some (.int .i64 2) ∧ wy.cell? ⟨w.heap.size, 1, none⟩ = some (.int .i64 v) ∧ wy.cell? ⟨w.heap.size, 2, none⟩ = some (.int .i64 n) ∧ wy.cell? ⟨w.heap.size, 3, none⟩ = some (.int .u16 sz) ∧ wy.cell? ⟨w.heap.size, 4, none⟩ = some (.int .u8 b) from fun wy hy => by
    have hx := HX.out.below hy HX.out.lt
    exact ⟨hx.cell 0, hx.cell 1, hx.cell 2, hx.cell 3, hx.cell 4⟩)
  have S0 := Lib.hid (SK.out _ (Below.refl _ _).drew)
  obtain ⟨c0, c1, c2, c3, c4⟩ := SK.out _ (Below.refl _ _)
  have xl := HX.out.lt
  clear HX
  go_upto_region 7 with fail
  clear c0 c1 c2 c3 c4
  obtain ⟨f0, f1, f2, f3, f4⟩ := S0.out
  go_region_law (first
      | (go_at_call 38; refine (HBY.out _).mono ?_; rintro en w3 ⟨A, c, rfl, hy, _, hb⟩; (have HB3 : Hid (Below w1.heap.size w1 w3) := (Below.refl _ _).drew.trans hb); (have hcv := strOfAny_run w3 A c _ hy); (obtain ⟨d0, d1, d2, d3, d4⟩ := SK.out _ HB3.out); clear hb hy)
      | (go_simp; go_at_call 38; refine (HBY.out _).mono ?_; rintro en w3 ⟨A, c, rfl, hy, _, hb⟩; (have HB3 : Hid (Below w1.heap.size w1 w3) := (Below.refl _ _).drew.trans hb); (have hcv := strOfAny_run w3 A c _ hy); (obtain ⟨d0, d1, d2, d3, d4⟩ := SK.out _ HB3.out); clear hb hy)
      | (go_at_call 75; refine (note_nil v _ _).mono ?_; rintro en w5 ⟨rfl, hb⟩; (have HB5 : Hid (Below w1.heap.size w1 w5) := HB3.out.trans (hb.mono HB3.out.size)); clear hb)
      | (go_simp; go_at_call 75; refine (note_nil v _ _).mono ?_; rintro en w5 ⟨rfl, hb⟩; (have HB5 : Hid (Below w1.heap.size w1 w5) := HB3.out.trans (hb.mono HB3.out.size)); clear hb))
  all_goals
    go_wp2_with fail
    go_ret
    exact ⟨rfl, HB0.out.trans (HB5.out.mono hw1)⟩
set_option maxHeartbeats 4000000 in
theorem does_nil3 (v n : Int) (sz b : Nat) (hsz : sz < 65536) (w : World) :
    Calls Tryz.prog 20 #[.pointer none, .agg (actC 3 v n sz b)] w fun e w' => e = .returned (.int .i64 6) ∧ Below w.heap.size w w' := by
  have HX := Lib.hid (Blk.new w 55 (actC 3 v n sz b))
  have HB0 : Hid (Below w.heap.size w (w.alloc (.cells (actC 3 v n sz b) 55))) := (Below.refl _ _).alloc (Nat.le_refl _) _
  have HBY := Lib.hid (fun wy => actBytes_any 3 v n sz b hsz wy)
  have HNM := Lib.hid (fun wy => actName_any v n wy)
  go_enter Tryz.func20, Tryz.ntmps20
  go_upto_region 1 with fail
  generalize w.alloc (.cells (actC 3 v n sz b) 55) = w1 at *
  have hw1 := HB0.out.size
  have SK := Lib.hid (show ∀ wy, Below w1.heap.size w1 wy → wy.cell? ⟨w.heap.size, 0, none⟩ = some (.int .i64 3) ∧ wy.cell? ⟨w.heap.size, 1, none⟩ = some (.int .i64 v) ∧ wy.cell? ⟨w.heap.size, 2, none⟩ = some (.int .i64 n) ∧ wy.cell? ⟨w.heap.size, 3, none⟩ = some (.int .u16 sz) ∧ wy.cell? ⟨w.heap.size, 4, none⟩ = some (.int .u8 b) from fun wy hy => by
    have hx := HX.out.below hy HX.out.lt
    exact ⟨hx.cell 0, hx.cell 1, hx.cell 2, hx.cell 3, hx.cell 4⟩)
  have S0 := Lib.hid (SK.out _ (Below.refl _ _).drew)
  obtain ⟨c0, c1, c2, c3, c4⟩ := SK.out _ (Below.refl _ _)
  have xl := HX.out.lt
  clear HX
  go_wp2_with (first
    | (go_at_call 38; refine (HBY.out _).mono ?_; rintro en w3 ⟨A, c, rfl, hy, _, hb⟩; (have HB4 := Lib.hid hb); (have hcv := strOfAny_run w3 A c _ hy); clear hb hy)
    | (go_at_call 18; refine (mark_nil _ _).mono ?_; rintro en w5 ⟨rfl, hb⟩; (have HB5 : Hid (Below w1.heap.size w1 w5) := HB4.out.trans (hb.mono HB4.out.size)); clear hb))
  go_ret
  exact ⟨rfl, HB0.out.trans (HB5.out.mono hw1)⟩
set_option maxHeartbeats 4000000 in
theorem does_nil4 (v n : Int) (sz b : Nat) (hsz : sz < 65536) (w : World) :
    Calls Tryz.prog 20 #[.pointer none, .agg (actC 4 v n sz b)] w fun e w' => e = .returned (.int .i64 6) ∧ Below w.heap.size w w' := by
  have HX := Lib.hid (Blk.new w 55 (actC 4 v n sz b))
  have HB0 : Hid (Below w.heap.size w (w.alloc (.cells (actC 4 v n sz b) 55))) := (Below.refl _ _).alloc (Nat.le_refl _) _
  have HBY := Lib.hid (fun wy => actBytes_any 4 v n sz b hsz wy)
  have HNM := Lib.hid (fun wy => actName_any v n wy)
  go_enter Tryz.func20, Tryz.ntmps20
  go_upto_region 1 with fail
  generalize w.alloc (.cells (actC 4 v n sz b) 55) = w1 at *
  have hw1 := HB0.out.size
  have SK := Lib.hid (show ∀ wy, Below w1.heap.size w1 wy → wy.cell? ⟨w.heap.size, 0, none⟩ = some (.int .i64 4) ∧ wy.cell? ⟨w.heap.size, 1, none⟩ = some (.int .i64 v) ∧ wy.cell? ⟨w.heap.size, 2, none⟩ = some (.int .i64 n) ∧ wy.cell? ⟨w.heap.size, 3, none⟩ = some (.int .u16 sz) ∧ wy.cell? ⟨w.heap.size, 4, none⟩ = some (.int .u8 b) from fun wy hy => by
    have hx := HX.out.below hy HX.out.lt
    exact ⟨hx.cell 0, hx.cell 1, hx.cell 2, hx.cell 3, hx.cell 4⟩)
  have S0 := Lib.hid (SK.out _ (Below.refl _ _).drew)
  obtain ⟨c0, c1, c2, c3, c4⟩ := SK.out _ (Below.refl _ _)
  have xl := HX.out.lt
  clear HX
  go_wp2_with (go_at_call 76; refine (forget_nil v _).mono ?_; rintro en w5 ⟨rfl, hb⟩; (have HB5 := Lib.hid hb); clear hb)
  go_ret
  exact ⟨rfl, HB0.out.trans (HB5.out.mono hw1)⟩
set_option maxHeartbeats 4000000 in
theorem does_nil5 (v n : Int) (sz b : Nat) (hsz : sz < 65536) (w : World) :
    Calls Tryz.prog 20 #[.pointer none, .agg (actC 5 v n sz b)] w fun e w' => e = .returned (.int .i64 6) ∧ Below w.heap.size w w' := by
  have HX := Lib.hid (Blk.new w 55 (actC 5 v n sz b))
  have HB0 : Hid (Below w.heap.size w (w.alloc (.cells (actC 5 v n sz b) 55))) := (Below.refl _ _).alloc (Nat.le_refl _) _
  have HBY := Lib.hid (fun wy => actBytes_any 5 v n sz b hsz wy)
  have HNM := Lib.hid (fun wy => actName_any v n wy)
  go_enter Tryz.func20, Tryz.ntmps20
  go_upto_region 1 with fail
  generalize w.alloc (.cells (actC 5 v n sz b) 55) = w1 at *
  have hw1 := HB0.out.size
  have SK := Lib.hid (show ∀ wy, Below w1.heap.size w1 wy → wy.cell? ⟨w.heap.size, 0, none⟩ = some (.int .i64 5) ∧ wy.cell? ⟨w.heap.size, 1, none⟩ = some (.int .i64 v) ∧ wy.cell? ⟨w.heap.size, 2, none⟩ = some (.int .i64 n) ∧ wy.cell? ⟨w.heap.size, 3, none⟩ = some (.int .u16 sz) ∧ wy.cell? ⟨w.heap.size, 4, none⟩ = some (.int .u8 b) from fun wy hy => by
    have hx := HX.out.below hy HX.out.lt
    exact ⟨hx.cell 0, hx.cell 1, hx.cell 2, hx.cell 3, hx.cell 4⟩)
  have S0 := Lib.hid (SK.out _ (Below.refl _ _).drew)
  obtain ⟨c0, c1, c2, c3, c4⟩ := SK.out _ (Below.refl _ _)
  have xl := HX.out.lt
  clear HX
  go_wp2_with (go_at_call 77; refine (trim_nil _ _).mono ?_; rintro en w5 ⟨rfl, hb⟩; (have HB5 := Lib.hid hb); clear hb)
  go_ret
  exact ⟨rfl, HB0.out.trans (HB5.out.mono hw1)⟩
set_option maxHeartbeats 4000000 in
theorem does_nil6 (v n : Int) (sz b : Nat) (hsz : sz < 65536) (w : World) :
    Calls Tryz.prog 20 #[.pointer none, .agg (actC 6 v n sz b)] w fun e w' => e = .returned (.int .i64 6) ∧ Below w.heap.size w w' := by
  have HX := Lib.hid (Blk.new w 55 (actC 6 v n sz b))
  have HB0 : Hid (Below w.heap.size w (w.alloc (.cells (actC 6 v n sz b) 55))) := (Below.refl _ _).alloc (Nat.le_refl _) _
  have HBY := Lib.hid (fun wy => actBytes_any 6 v n sz b hsz wy)
  have HNM := Lib.hid (fun wy => actName_any v n wy)
  go_enter Tryz.func20, Tryz.ntmps20
  go_upto_region 1 with fail
  generalize w.alloc (.cells (actC 6 v n sz b) 55) = w1 at *
  have hw1 := HB0.out.size
  have SK := Lib.hid (show ∀ wy, Below w1.heap.size w1 wy → wy.cell? ⟨w.heap.size, 0, none⟩ = some (.int .i64 6) ∧ wy.cell? ⟨w.heap.size, 1, none⟩ = some (.int .i64 v) ∧ wy.cell? ⟨w.heap.size, 2, none⟩ = some (.int .i64 n) ∧ wy.cell? ⟨w.heap.size, 3, none⟩ = some (.int .u16 sz) ∧ wy.cell? ⟨w.heap.size, 4, none⟩ = some (.int .u8 b) from fun wy hy => by
    have hx := HX.out.below hy HX.out.lt
    exact ⟨hx.cell 0, hx.cell 1, hx.cell 2, hx.cell 3, hx.cell 4⟩)
  have S0 := Lib.hid (SK.out _ (Below.refl _ _).drew)
  obtain ⟨c0, c1, c2, c3, c4⟩ := SK.out _ (Below.refl _ _)
  have xl := HX.out.lt
  clear HX
  go_wp2_with (go_at_call 54; refine (sync_nil _).mono ?_; rintro en w5 ⟨rfl, rfl⟩)
  go_ret
  exact ⟨rfl, HB0.out⟩
end Go.Proofs.YtmgmfnimaafkdaaGreatDoor
