/- The contracts of ticks, of Asked.right, of known.say and object.take. No condition but that the cells are there. -/
import Derived.Test.YtoaiamgcegnjjaaGreatDoorE
import Derived.Deep.QuietTactic
import Derived.BigQuiet
namespace Go.Proofs.YtoaiamgcegnjjaaGreatDoor
open Go.RowKit
set_option maxRecDepth 100000

/-- a number as a tick -/
def tickOf (n : Int) : Int := min (max n 0) 1099511627776
theorem tickOf_bd (n : Int) : 0 ≤ tickOf n ∧ tickOf n ≤ 1099511627776 := by unfold tickOf; omega
def saidOf (now age : Int) : Int := max (tickOf now - tickOf age) 0
def ageOf (said now : Int) : Int := max (tickOf now - tickOf said) 0

theorem tick_any (n : Int) (w : World) : Calls Tryz.prog 72 #[.int .i64 n] w fun e w' => e = .returned (.int .i64 (tickOf n)) ∧ w = w' := by
  go_enter Tryz.func72, Tryz.ntmps72
  go_wp2
  all_goals (go_ret; exact ⟨ret_int (by unfold tickOf; omega), rfl⟩)

theorem said_any (now age : Int) (w : World) : Calls Tryz.prog 83 #[.int .i64 now, .int .i64 age] w fun e w' => e = .returned (.int .i64 (saidOf now age)) ∧ w = w' := by
  have b1 := tickOf_bd now
  have b2 := tickOf_bd age
  go_enter Tryz.func83, Tryz.ntmps83
  go_wp2_with fail
  refine (tick_any _ _).mono ?_
  rintro e w' ⟨rfl, rfl⟩
  go_wp2_with fail
  refine (tick_any _ _).mono ?_
  rintro e w' ⟨rfl, rfl⟩
  go_wp2
  all_goals (go_ret; exact ⟨ret_int (by unfold saidOf; omega), rfl⟩)

theorem age_any (said now : Int) (w : World) : Calls Tryz.prog 130 #[.int .i64 said, .int .i64 now] w fun e w' => e = .returned (.int .i64 (ageOf said now)) ∧ w = w' := by
  have b1 := tickOf_bd now
  have b2 := tickOf_bd said
  go_enter Tryz.func130, Tryz.ntmps130
  go_wp2_with fail
  refine (tick_any _ _).mono ?_
  rintro e w' ⟨rfl, rfl⟩
  go_wp2_with fail
  refine (tick_any _ _).mono ?_
  rintro e w' ⟨rfl, rfl⟩
  go_wp2
  all_goals (go_ret; exact ⟨ret_int (by unfold ageOf; omega), rfl⟩)

def askOK (ti mo ge : Int) : Bool := tick0 ti && tick0 mo && tick0 ge
theorem askRight_any (ti mo ge : Int) (w : World) : Calls Tryz.prog 82 #[.agg #[.int .i64 ti, .int .i64 mo, .int .i64 ge]] w fun e w' => e = .returned (.bool (askOK ti mo ge)) ∧ Below w.heap.size w w' := by
  have hb0 : Below w.heap.size w (w.alloc (.cells #[.int .i64 ti, .int .i64 mo, .int .i64 ge] 74)) := (Below.refl _ _).alloc (Nat.le_refl _) _
  have HB := Lib.hid hb0
  clear hb0
  go_enter Tryz.func82, Tryz.ntmps82
  go_wp2_with (go_at_call 81; refine (number0 _ _).mono ?_; rintro e w' ⟨rfl, rfl⟩)
  all_goals (go_ret; refine ⟨ret_bool ?_, HB.out⟩; simp_all [askOK])

theorem Blk.drewN {w : World} {g : Nat} {t : TypeId} {cs : Array Value} (h : Blk w g t cs) (n : Nat) : Blk (w.drewN n) g t cs := h
theorem Blk.drew {w : World} {g : Nat} {t : TypeId} {cs : Array Value} (h : Blk w g t cs) : Blk w.drew g t cs := h
theorem Blk.set {w : World} {g : Nat} {t : TypeId} {cs : Array Value} (h : Blk w g t cs) (i : Nat) (u : Value) : Blk (w.setCell ⟨g, i, none⟩ u) g t (cs.setIfInBounds i u) := by
  unfold Blk at h ⊢
  simp [World.setCell, Array.getElem?_modify, h]
theorem Blk.far {w : World} {g : Nat} {t : TypeId} {cs : Array Value} (h : Blk w g t cs) {b o : Nat} (hp : g ≠ b) (u : Value) : Blk (w.setCell ⟨b, o, none⟩ u) g t cs := (Below.heap_setCell w ⟨b, o, none⟩ u g hp).trans h
theorem gby_refl (w : World) (row : Option Nat) : w.grownBy w row := ⟨rfl, rfl, rfl, Nat.le_refl _, fun _ _ _ => rfl⟩
theorem gby_set {a w : World} {g : Nat} (h : a.grownBy w (some g)) (i : Nat) (u : Value) : a.grownBy (w.setCell ⟨g, i, none⟩ u) (some g) :=
  ⟨h.os, h.tape, h.output, by simpa [World.setCell] using h.size, fun k hk hne => (Below.heap_setCell w ⟨g, i, none⟩ u k (fun e => hne (by rw [e]))).trans (h.block k hk hne)⟩
theorem gby_alloc {a w : World} {row : Option Nat} (h : a.grownBy w row) (o : Obj) : a.grownBy (w.alloc o) row :=
  ⟨h.os, h.tape, h.output, by have := h.size; simp; omega, fun k hk hne => (Below.heap_alloc w o k (by have := h.size; omega)).trans (h.block k hk hne)⟩
theorem gby_drewN {a w : World} {row : Option Nat} (h : a.grownBy w row) (n : Nat) : a.grownBy (w.drewN n) row := ⟨h.os, h.tape, h.output, h.size, h.block⟩
theorem gby_drew {a w : World} {row : Option Nat} (h : a.grownBy w row) : a.grownBy w.drew row := ⟨h.os, h.tape, h.output, h.size, h.block⟩

theorem known_say (g : Nat) (cs : Array Value) (s0 m0 g0 ti mo ge tick : Int) (w : World) (hB : Blk w g 125 cs) (h : m0 ≤ mo)
    (h13 : cs[13]? = some (.int .i64 s0)) (h14 : cs[14]? = some (.int .i64 m0)) (h15 : cs[15]? = some (.int .i64 g0)) :
    Calls Tryz.prog 88 #[.pointer (some ⟨g, 0, none⟩), .agg #[.int .i64 ti, .int .i64 mo, .int .i64 ge], .int .i64 tick] w fun e w' => e = .returned (.tuple #[]) ∧ Blk w' g 125 (((cs.setIfInBounds 13 (.int .i64 tick)).setIfInBounds 14 (.int .i64 mo)).setIfInBounds 15 (.int .i64 ge)) ∧ w.grownBy w' (some g) := by
  have hlt := hB.lt
  have e13 := (hB.cell 13).trans h13
  have e14 := (hB.cell 14).trans h14
  have e15 := (hB.cell 15).trans h15
  have f := hB.free'
  have HB := Lib.hid hB
  clear hB h13 h14 h15
  go_enter Tryz.func88, Tryz.ntmps88
  go_wp2_with fail
  go_quiet (fail)
  go_wp2_with fail
  go_region
  all_goals (go_end0; exact ⟨rfl, (((((HB.out.alloc _).drewN _).set _ _).set _ _).set _ _), gby_set (gby_set (gby_set (gby_drewN (gby_alloc (gby_refl _ _) _) _) _ _) _ _) _ _⟩)

theorem known_say_no (g : Nat) (cs : Array Value) (m0 ti mo ge tick : Int) (w : World) (hB : Blk w g 125 cs) (h : mo < m0)
    (h14 : cs[14]? = some (.int .i64 m0)) :
    Calls Tryz.prog 88 #[.pointer (some ⟨g, 0, none⟩), .agg #[.int .i64 ti, .int .i64 mo, .int .i64 ge], .int .i64 tick] w fun e w' => e = .returned (.tuple #[]) ∧ Blk w' g 125 cs ∧ w.grownBy w' (some g) := by
  have hlt := hB.lt
  have e14 := (hB.cell 14).trans h14
  have HB := Lib.hid hB
  clear hB h14
  go_enter Tryz.func88, Tryz.ntmps88
  go_wp2_with fail
  go_quiet (fail)
  go_wp2_with fail
  go_end0
  exact ⟨rfl, ((HB.out.alloc _).drewN _), gby_drewN (gby_alloc (gby_refl _ _) _) _⟩

theorem obj_take (g : Nat) (cs : Array Value) (m0 t0 mo id : Int) (w : World) (hB : Blk w g 121 cs) (h : m0 ≤ mo) (h0 : cs[0]? = some (.int .i64 m0)) (h1 : cs[1]? = some (.int .i64 t0)) :
    Calls Tryz.prog 89 #[.pointer (some ⟨g, 0, none⟩), .int .i64 mo, .int .i64 id] w fun e w' => e = .returned (.tuple #[]) ∧ Blk w' g 121 ((cs.setIfInBounds 0 (.int .i64 mo)).setIfInBounds 1 (.int .i64 id)) ∧ w.grownBy w' (some g) := by
  have e0 := (hB.cell 0).trans h0
  have e1 := (hB.cell 1).trans h1
  have f := hB.free'
  have HB := Lib.hid hB
  clear hB h0 h1
  go_enter Tryz.func89, Tryz.ntmps89
  go_wp2
  go_end0
  exact ⟨rfl, (HB.out.set _ _).set _ _, gby_set (gby_set (gby_refl _ _) _ _) _ _⟩

theorem obj_take_no (g : Nat) (cs : Array Value) (m0 mo id : Int) (w : World) (hB : Blk w g 121 cs) (h : mo < m0) (h0 : cs[0]? = some (.int .i64 m0)) :
    Calls Tryz.prog 89 #[.pointer (some ⟨g, 0, none⟩), .int .i64 mo, .int .i64 id] w fun e w' => e = .returned (.tuple #[]) ∧ Blk w' g 121 cs ∧ w.grownBy w' (some g) := by
  have e0 := (hB.cell 0).trans h0
  have HB := Lib.hid hB
  clear hB h0
  go_enter Tryz.func89, Tryz.ntmps89
  go_wp2
  go_end0
  exact ⟨rfl, HB.out, gby_refl _ _⟩

end Go.Proofs.YtoaiamgcegnjjaaGreatDoor
