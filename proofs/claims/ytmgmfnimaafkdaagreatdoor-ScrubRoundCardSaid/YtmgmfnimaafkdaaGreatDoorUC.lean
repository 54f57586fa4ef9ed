/- A mark is kept. -/
import Derived.Test.YtmgmfnimaafkdaaGreatDoorVV
import Derived.StillTailTactics
namespace Go.Proofs.YtmgmfnimaafkdaaGreatDoor
section
open Go.RowKit Go.Maps Go.Shelf Go.Sort
set_option maxRecDepth 100000

theorem KeepS.cell {w : World} {base Sb : Nat} {m : StM} {cs : Array Value} (hb : Blk w Sb 129 cs) (hl : base ≤ Sb) (o : Nat) (u : Value) (A : Option Addr) (c : Nat) (hA : ∀ a, A = some a → ∃ b, m.A = some b ∧ a.block = b.block) : KeepS base m { m with A := A, c := c } w (w.setCell ⟨Sb, o, none⟩ u) :=
 ⟨below_set bR0 hl _, fun k ty hk hn' _ _ _ => Below.heap_setCell w ⟨Sb, o, none⟩ u k (fun e => by
  subst e
  have := hb.ty.symm.trans hk
  injection this with this
  exact hn' (by rw [← this]; simp)), rfl, rfl, rfl, rfl, rfl, fun a ha => .inl (hA a ha)⟩
end
section
open Go.RowKit Go.Maps Go.Shelf Go.Sort
set_option maxRecDepth 100000

theorem KeepS.blk {w w' : World} {base Sb g : Nat} {s : StV} {m m' : StM} {t : TypeId} {cs : Array Value} (k : KeepS base m m' w w') (h : StR w base Sb s m) (hb : Blk w g t cs) (ht : t ∉ ([121, 165, 167, 216, 137, 220, 129] : List TypeId)) (h9 : (9 : TypeId) ≠ t) : Blk w' g t cs :=
 (k.old g t hb.ty ht (fun e => h.nmap.no_blk hb e.symm) (fun e => h.pmap.no_blk hb e.symm) (fun a ha e => own_ne h.mks hb h9 (by rw [ha]; simp [Value.ownBlock, e]))).trans hb
theorem KeepS.of_below {w w' : World} {base : Nat} {m : StM} (h : Below w.heap.size w w') (hb : base ≤ w.heap.size) : KeepS base m m w w' := KeepS.of (ts := []) (Keeps.of_below h hb) (by simp)
def ActOut (w w' : World) (base Sb : Nat) (m : StM) (r : Nat × StV) (e : Ending) : Prop := e = .returned (.int .i64 r.1) ∧ ∃ m', StR w' base Sb r.2 m' ∧ KeepS base m m' w w'
theorem loggedS_ok {s was : StV} {r : RecL} {d : DskV} {l : LogV} (h : addTurn s r = (0, d, l)) : loggedS s was r = (0, { s with d := d, log := l }) := by rw [loggedS_eq, h]; rfl
theorem loggedS_no {s was : StV} {r : RecL} {e : Nat} {d : DskV} {l : LogV} (h : addTurn s r = (e, d, l)) (he : e ≠ 0) : loggedS s was r = (e, { was with d := d, log := l }) := by
 rw [loggedS_eq, h]
 cases e with
 | zero => exact absurd rfl he
 | succ e => rfl
theorem loggedS_fst {s was : StV} {r : RecL} : (loggedS s was r).1 = (addTurn s r).1 := by
 rw [loggedS_eq]
 rcases addTurn s r with ⟨e, d, l⟩
 cases e <;> rfl
end
end Go.Proofs.YtmgmfnimaafkdaaGreatDoor
