/- What no table tells. No condition. -/
import Derived.Test.YtoaiamgcegnjjaaGreatDoorO
namespace Go.Proofs.YtoaiamgcegnjjaaGreatDoor
open Go.RowKit Go.Maps Go.WideMaps Go.Sort
set_option maxRecDepth 100000

theorem land_nil (obj : ByteArray) (rs : Array Value) (ti mo ge : Int) (w : World) :
    Calls Tryz.prog 29 #[.pointer none, .string obj, .agg rs, .agg #[.int .i64 ti, .int .i64 mo, .int .i64 ge]] w fun e w' => e = .returned (.tuple #[.int .i64 0, .bool false]) ∧ Below w.heap.size w w' := by
  go_enter Tryz.func29, Tryz.ntmps29
  go_wp2
  go_ret2
  exact ⟨rfl, ((Below.refl _ _).alloc (Nat.le_refl _) _).alloc (by simp) _⟩

theorem asked_any (ti mo ge : Int) (w : World) :
    Calls Tryz.prog 21 #[.agg #[.int .i64 ti, .int .i64 mo, .int .i64 ge]] w fun e w' => e = .returned (.agg #[.int .i64 ti, .int .i64 mo, .int .i64 ge]) ∧ Below w.heap.size w w' := by
  go_enter Tryz.func21, Tryz.ntmps21
  go_wp2
  refine bodyPost_ret (v := .agg #[.int .i64 ti, .int .i64 mo, .int .i64 ge]) (by simp [results, Tryz.results21, go_sem]) rfl ⟨rfl, ?_⟩
  exact ((Below.refl _ _).alloc (Nat.le_refl _) _).alloc (by simp) _

theorem last_nil (s : ByteArray) (w : World) : Calls Tryz.prog 27 #[.pointer none, .string s] w fun e w' => e = .returned (.tuple #[.int .i64 0, .bool false]) ∧ w = w' := by
  go_enter Tryz.func27, Tryz.ntmps27
  go_wp2
  go_ret2
  exact ⟨rfl, rfl⟩

theorem find_nil (id : Int) (w : World) : Calls Tryz.prog 68 #[.pointer none, .int .i64 id] w fun e w' => e = .returned (.pointer none) ∧ w = w' := by
  go_enter Tryz.func68, Tryz.ntmps68
  go_wp2
  go_ret
  exact ⟨rfl, rfl⟩

theorem confirm_nil (id ti mo ge : Int) (w : World) : Calls Tryz.prog 30 #[.pointer none, .int .i64 id, .agg #[.int .i64 ti, .int .i64 mo, .int .i64 ge]] w fun e w' => e = .returned (.int .i64 1) ∧ Below w.heap.size w w' := by
  go_enter Tryz.func30, Tryz.ntmps30
  go_wp2
  go_ret
  exact ⟨rfl, (Below.refl _ _).alloc (Nat.le_refl _) _⟩

theorem gone_nil (s : ByteArray) (ti mo ge : Int) (w : World) : Calls Tryz.prog 31 #[.pointer none, .string s, .agg #[.int .i64 ti, .int .i64 mo, .int .i64 ge]] w fun e w' => e = .returned (.slice none 0 0) ∧ Below w.heap.size w w' := by
  go_enter Tryz.func31, Tryz.ntmps31
  go_wp2
  go_ret
  exact ⟨rfl, (Below.refl _ _).alloc (Nat.le_refl _) _⟩

theorem bytes_nil (id f t : Int) (w : World) : Calls Tryz.prog 90 #[.pointer none, .int .i64 id, .agg #[.int .i64 f, .int .i64 t]] w fun e w' => e = .returned (.tuple #[.pointer none, .int .i64 1]) ∧ Below w.heap.size w w' := by
  go_enter Tryz.func90, Tryz.ntmps90
  go_wp2
  go_ret2
  exact ⟨rfl, (Below.refl _ _).alloc (Nat.le_refl _) _⟩

theorem fill_nil (id f t : Int) (w : World) : Calls Tryz.prog 32 #[.pointer none, .int .i64 id, .agg #[.int .i64 f, .int .i64 t]] w fun e w' => e = .returned (.int .i64 1) ∧ Below w.heap.size w w' := by
  go_enter Tryz.func32, Tryz.ntmps32
  go_wp2_with fail
  refine (bytes_nil _ _ _ _).mono ?_
  rintro en w1 ⟨rfl, hb⟩
  have HB := Lib.hid hb
  clear hb
  go_wp2_with fail
  go_ret
  exact ⟨rfl, ((Below.refl _ _).alloc (Nat.le_refl _) _).trans (HB.out.mono (by simp))⟩

theorem lose_nil (id f t : Int) (w : World) : Calls Tryz.prog 33 #[.pointer none, .int .i64 id, .agg #[.int .i64 f, .int .i64 t]] w fun e w' => e = .returned (.int .i64 1) ∧ Below w.heap.size w w' := by
  go_enter Tryz.func33, Tryz.ntmps33
  go_wp2_with fail
  refine (bytes_nil _ _ _ _).mono ?_
  rintro en w1 ⟨rfl, hb⟩
  have HB := Lib.hid hb
  clear hb
  go_wp2_with fail
  go_ret
  exact ⟨rfl, ((Below.refl _ _).alloc (Nat.le_refl _) _).trans (HB.out.mono (by simp))⟩

theorem learn_nil (id a b : Int) (w : World) : Calls Tryz.prog 34 #[.pointer none, .int .i64 id, .int .i64 a, .int .i64 b] w fun e w' => e = .returned (.int .i64 1) ∧ Below w.heap.size w w' := by
  go_enter Tryz.func34, Tryz.ntmps34
  go_wp2
  go_ret
  exact ⟨rfl, Below.refl _ _⟩

theorem drop_nil (id : Int) (w : World) : Calls Tryz.prog 35 #[.pointer none, .int .i64 id] w fun e w' => e = .returned (.bool false) ∧ Below w.heap.size w w' := by
  go_enter Tryz.func35, Tryz.ntmps35
  go_wp2
  go_ret
  first | exact ⟨rfl, Below.refl _ _⟩ | exact ⟨rfl, (Below.refl _ _).alloc (Nat.le_refl _) _⟩

theorem all_nil (w : World) : Calls Tryz.prog 26 #[.pointer none] w fun e w' => e = .returned (.slice none 0 0) ∧ Below w.heap.size w w' := by
  go_enter Tryz.func26, Tryz.ntmps26
  go_wp2
  go_ret
  exact ⟨rfl, Below.refl _ _⟩

theorem get_nil (id : Int) (w : World) : Calls Tryz.prog 22 #[.pointer none, .int .i64 id] w fun e w' => e = .returned (.tuple #[.agg zeroE, .bool false]) ∧ Below w.heap.size w w' := by
  go_enter Tryz.func22, Tryz.ntmps22
  go_wp2_with fail
  refine (find_nil _ _).mono ?_
  rintro en w1 ⟨rfl, rfl⟩
  go_wp2_with fail
  refine bodyPost_ret (v := .tuple #[.agg zeroE, .bool false]) ?_ rfl ⟨rfl, ?_⟩
  · simp [results, Tryz.results22, go_sem]
    rfl
  · exact (Below.refl _ _).alloc (Nat.le_refl _) _

theorem has_nil (id : Int) (w : World) : Calls Tryz.prog 36 #[.pointer none, .int .i64 id] w fun e w' => e = .returned (.agg #[.slice none 0 0]) ∧ Below w.heap.size w w' := by
  go_enter Tryz.func36, Tryz.ntmps36
  go_wp2
  refine bodyPost_ret (v := .agg #[.slice none 0 0]) (by simp [results, Tryz.results36, go_sem]) rfl ⟨rfl, ?_⟩
  exact (Below.refl _ _).alloc (Nat.le_refl _) _

theorem len_nil (w : World) : Calls Tryz.prog 37 #[.agg #[.slice none 0 0]] w fun e w' => e = .returned (.int .i64 0) ∧ Below w.heap.size w w' := by
  go_enter Tryz.func37, Tryz.ntmps37
  go_wp2
  go_loop [3, 9] (fun s i => s = .int .i64 0 ∧ i = .int .i64 0) (fun _ _ => 0)
  case atStart => exact ⟨rfl, rfl⟩
  case round =>
    obtain ⟨rfl, rfl⟩ := hrel
    go_wp2
    go_ret
    exact ⟨rfl, (Below.refl _ _).alloc (Nat.le_refl _) _⟩

theorem use_nil (s : ByteArray) (ti mo ge : Int) (lb : Nat) (w : World) : Calls Tryz.prog 20 #[.pointer none, .string s, .agg #[.int .i64 ti, .int .i64 mo, .int .i64 ge], .pointer (some ⟨lb, 0, none⟩)] w fun e w' => e = .returned (.tuple #[.int .i64 0, .int .i64 4]) ∧ Below w.heap.size w w' := by
  go_enter Tryz.func20, Tryz.ntmps20
  go_wp2_with fail
  go_ret2
  exact ⟨rfl, (Below.refl _ _).alloc (Nat.le_refl _) _⟩

theorem purgeLoad_nil (w : World) : Calls Tryz.prog 64 #[.slice none 0 0, .int .i64 0] w fun e w' => ∃ lb, e = .returned (.tuple #[.pointer (some ⟨lb, 0, none⟩), .int .i64 0]) ∧ Below w.heap.size w w' := by
  go_enter Tryz.func64, Tryz.ntmps64
  go_wp2_with fail
  go_loop [20] (fun i => i = .int .i64 0) (fun _ => 0)
  case atStart => rfl
  case round =>
    subst hrel
    go_wp2_with fail
    go_ret2
    first | exact ⟨_, rfl, (Below.refl _ _).alloc (Nat.le_refl _) _⟩ | exact ⟨⟨_, rfl⟩, (Below.refl _ _).alloc (Nat.le_refl _) _⟩ | exact (Below.refl _ _).alloc (Nat.le_refl _) _

theorem log_nil (w : World) : Calls Tryz.prog 18 #[.agg #[.int .i64 0, .slice none 0 0]] w fun e w' => ∃ lb, e = .returned (.tuple #[.pointer (some ⟨lb, 0, none⟩), .agg #[.slice none 0 0, .int .i64 0], .bool true]) ∧ Below w.heap.size w w' := by
  go_enter Tryz.func18, Tryz.ntmps18
  go_wp2_with fail
  go_loop [6, 35] (fun l i => l = .slice none 0 0 ∧ i = .int .i64 0) (fun _ _ => 0)
  case atStart => exact ⟨rfl, rfl⟩
  case round =>
    obtain ⟨rfl, rfl⟩ := hrel
    go_wp2_with fail
    refine (purgeLoad_nil _).mono ?_
    rintro en w1 ⟨lb, rfl, hb⟩
    have hs : w.heap.size + 1 + 1 + 1 ≤ w1.heap.size := by simpa using hb.size
    have b3 : Blk w1 (w.heap.size + 1) 67 #[.slice none 0 0, .int .i64 0] := Blk.below ((new2 w _ 67 _).alloc _) hb (by simp)
    have b5 : Blk w1 (w.heap.size + 1 + 1) 67 #[.slice none 0 0, .int .i64 0] := by
      refine Blk.below ?_ hb (by simp)
      have := new2 (w.alloc (.cells #[.int .i64 0, .slice none 0 0] 61)) (.cells #[.slice none 0 0, .int .i64 0] 67) 67 #[.slice none 0 0, .int .i64 0]
      simpa using this
    have c30 : w1.cell? ⟨w.heap.size + 1, 0, none⟩ = some (.slice none 0 0) := (b3.cell 0).trans rfl
    have c31 : w1.cell? ⟨w.heap.size + 1, 1, none⟩ = some (.int .i64 0) := (b3.cell 1).trans rfl
    have c50 : w1.cell? ⟨w.heap.size + 1 + 1, 0, none⟩ = some (.slice none 0 0) := (b5.cell 0).trans rfl
    have c51 : w1.cell? ⟨w.heap.size + 1 + 1, 1, none⟩ = some (.int .i64 0) := (b5.cell 1).trans rfl
    have f3 := b3.free'
    have HB := Lib.hid ((((Below.refl w.heap.size w).alloc (Nat.le_refl _) _).alloc (by simp) _).alloc (by simp; omega) _ |>.trans (hb.mono (by simp; omega)))
    clear hb b3 b5
    go_wp2_with fail
    go_region
    all_goals
      go_wp2_with fail
      refine bodyPost_ret (v := .tuple #[.pointer (some ⟨lb, 0, none⟩), .agg #[.slice none 0 0, .int .i64 0], .bool true]) ?_ rfl ⟨lb, rfl, ?_⟩
      · simp [results, Tryz.results18, go_sem, c30, c31]
      · exact below_set (below_set HB.out.drew (by omega) _) (by omega) _

end Go.Proofs.YtoaiamgcegnjjaaGreatDoor
