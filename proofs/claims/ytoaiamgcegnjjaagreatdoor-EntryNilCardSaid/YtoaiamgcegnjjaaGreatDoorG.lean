/- Maps from numbers and from texts to blocks. No condition. -/
import Derived.Test.YtoaiamgcegnjjaaGreatDoorF
import Derived.Maps.OwnSet
import Derived.Maps.OwnOps
import Derived.Maps.Ext
namespace Go.Proofs.YtoaiamgcegnjjaaGreatDoor
open Go.RowKit Go.Maps Go.WideMaps
set_option maxRecDepth 100000

/-- a pointer to a block's head, or nil, read as the block's number -/
def ptrElem : Value → Option (DataW Unit × List MemPlace)
  | .pointer none => some (.nil, [])
  | .pointer (some ⟨g, 0, none⟩) => some (.lit (.int .i64 g), [])
  | _ => none
def encP : Option Nat → DataW Unit
  | none => .nil
  | some g => .lit (.int .i64 g)
def ptrV : Option Nat → Value
  | none => .pointer none
  | some g => .pointer (some ⟨g, 0, none⟩)
theorem ptrElem_ptrV (o : Option Nat) : ptrElem (ptrV o) = some (encP o, []) := by cases o <;> rfl
theorem ptrElem_inv {v : Value} {o : Option Nat} {ps : List MemPlace} (h : ptrElem v = some (encP o, ps)) : v = ptrV o := by
  unfold ptrElem at h
  split at h
  · cases o
    · rfl
    · simp [encP] at h
  · rename_i g
    cases o
    · simp [encP] at h
    · rename_i g'
      simp [encP] at h
      have : g = g' := by omega
      subst this
      rfl
  · cases h

theorem keyed2 : Keyed Tryz.prog 2 := int_keyed Tryz.underlying2
theorem keyed9 : Keyed Tryz.prog 9 := string_keyed Tryz.underlying9
theorem zero115 (w : World) : (zeroValue 115).run Tryz.prog w = .ok (.pointer none) w := by kernel_rfl
theorem zero118 (w : World) : (zeroValue 118).run Tryz.prog w = .ok (.pointer none) w := by kernel_rfl

/-- Block b is a map of at most n entries from numbers to blocks. -/
def IMap (w : World) (b n : Nat) (f : Int → Option Nat) : Prop :=
  ∃ D, w.ownsMap Tryz.prog 2 ptrElem b n D ∧ ∀ x, (Lit.int .i64 x).wf = true → D.atKey (.int .i64 x) .nil = encP (f x) ∧ has D (.int .i64 x) = (f x).isSome
/-- .. from texts to blocks. -/
def SMap (w : World) (b n : Nat) (f : ByteArray → Option Nat) : Prop :=
  ∃ D, w.ownsMap Tryz.prog 9 ptrElem b n D ∧ ∀ s : ByteArray, s.size ≤ maxLen → D.atKey (.string s.data.toList) .nil = encP (f s) ∧ has D (.string s.data.toList) = (f s).isSome

theorem IMap.made (w : World) : IMap (w.alloc (.map #[] 0)) w.heap.size 0 (fun _ => none) :=
  ⟨.map [], World.ownsMap_made w _ _ _, fun _ _ => ⟨rfl, rfl⟩⟩
theorem SMap.made (w : World) : SMap (w.alloc (.map #[] 0)) w.heap.size 0 (fun _ => none) :=
  ⟨.map [], World.ownsMap_made w _ _ _, fun _ _ => ⟨rfl, rfl⟩⟩
theorem IMap.lt {w : World} {b n : Nat} {f : Int → Option Nat} (h : IMap w b n f) : b < w.heap.size := let ⟨_, h, _⟩ := h; h.lt
theorem SMap.lt {w : World} {b n : Nat} {f : ByteArray → Option Nat} (h : SMap w b n f) : b < w.heap.size := let ⟨_, h, _⟩ := h; h.lt
theorem IMap.kept {w w' : World} {b n : Nat} {f : Int → Option Nat} {row : Option Nat} (h : IMap w b n f) (hg : w.grownBy w' row) (hne : some b ≠ row) : IMap w' b n f :=
  let ⟨D, h, hf⟩ := h; ⟨D, h.kept hg hne, hf⟩
theorem SMap.kept {w w' : World} {b n : Nat} {f : ByteArray → Option Nat} {row : Option Nat} (h : SMap w b n f) (hg : w.grownBy w' row) (hne : some b ≠ row) : SMap w' b n f :=
  let ⟨D, h, hf⟩ := h; ⟨D, h.kept hg hne, hf⟩
theorem IMap.mono {w : World} {b n n' : Nat} {f : Int → Option Nat} (h : IMap w b n f) (hn : n ≤ n') : IMap w b n' f := let ⟨D, h, hf⟩ := h; ⟨D, h.mono hn, hf⟩
theorem SMap.mono {w : World} {b n n' : Nat} {f : ByteArray → Option Nat} (h : SMap w b n f) (hn : n ≤ n') : SMap w b n' f := let ⟨D, h, hf⟩ := h; ⟨D, h.mono hn, hf⟩
theorem IMap.no_blk {w : World} {b n g : Nat} {f : Int → Option Nat} {t : TypeId} {cs : Array Value} (h : IMap w b n f) (hb : Blk w g t cs) : b ≠ g := by
  rintro rfl
  obtain ⟨D, ⟨es, cl, hm, _⟩, _⟩ := h
  unfold Blk at hb
  rw [hm] at hb
  cases hb
theorem SMap.no_blk {w : World} {b n g : Nat} {f : ByteArray → Option Nat} {t : TypeId} {cs : Array Value} (h : SMap w b n f) (hb : Blk w g t cs) : b ≠ g := by
  rintro rfl
  obtain ⟨D, ⟨es, cl, hm, _⟩, _⟩ := h
  unfold Blk at hb
  rw [hm] at hb
  cases hb

theorem IMap.look {w : World} {b n : Nat} {f : Int → Option Nat} (h : IMap w b n f) {x : Int} (hx : (Lit.int .i64 x).wf = true) :
    (Instr.lookup 111 (.map (some b)) (.int .i64 x) false).run Tryz.prog w = .ok (ptrV (f x)) w := by
  obtain ⟨D, h, hf⟩ := h
  obtain ⟨v, ps, hrun, hv⟩ := h.lookup keyed2 Tryz.underlying111 (zero115 w) (show ptrElem (.pointer none) = some (.nil, []) from rfl) (keyOf_int_mk Tryz.underlying2 hx)
  rw [(hf x hx).1] at hv
  rw [hrun, ptrElem_inv hv]
theorem SMap.look {w : World} {b n : Nat} {f : ByteArray → Option Nat} (h : SMap w b n f) {s : ByteArray} (hs : s.size ≤ maxLen) :
    (Instr.lookup 112 (.map (some b)) (.string s) false).run Tryz.prog w = .ok (ptrV (f s)) w := by
  obtain ⟨D, h, hf⟩ := h
  obtain ⟨v, ps, hrun, hv⟩ := h.lookup keyed9 Tryz.underlying112 (zero118 w) (show ptrElem (.pointer none) = some (.nil, []) from rfl) (keyOf_string_mk Tryz.underlying9 hs)
  rw [(hf s hs).1] at hv
  rw [hrun, ptrElem_inv hv]

theorem IMap.put {w : World} {b n : Nat} {f : Int → Option Nat} (h : IMap w b n f) (hn : n < maxLen) {x : Int} (hx : (Lit.int .i64 x).wf = true) (g : Nat) :
    ∃ w', (Instr.mapUpdate 111 (.map (some b)) (.int .i64 x) (.pointer (some ⟨g, 0, none⟩))).run Tryz.prog w = .ok () w' ∧ IMap w' b (n + 1) (fun y => if y = x then some g else f y) ∧ w.grownBy w' (some b) := by
  obtain ⟨D, h, hf⟩ := h
  obtain ⟨w', hrun, h', hg⟩ := h.update keyed2 Tryz.underlying111 hn (keyOf_int_mk Tryz.underlying2 hx) (show ptrElem (.pointer (some ⟨g, 0, none⟩)) = some (.lit (.int .i64 g), []) from rfl)
  have hm := h.isMap
  refine ⟨w', hrun, ⟨_, h', fun y hy => ?_⟩, hg⟩
  by_cases e : y = x
  · subst e
    simp only [if_pos]
    rw [ atKey_put_same hm (by trivial), has_put_same hm (by trivial)]
    exact ⟨rfl, rfl⟩
  · have hne : Lit.int IntKind.i64 y ≠ Lit.int IntKind.i64 x := fun he => e (by injection he)
    simp only [if_neg e]
    rw [atKey_put_other hne, has_put_other hne]
    exact hf y hy
theorem SMap.put {w : World} {b n : Nat} {f : ByteArray → Option Nat} (h : SMap w b n f) (hn : n < maxLen) {s : ByteArray} (hs : s.size ≤ maxLen) (g : Nat) :
    ∃ w', (Instr.mapUpdate 112 (.map (some b)) (.string s) (.pointer (some ⟨g, 0, none⟩))).run Tryz.prog w = .ok () w' ∧ SMap w' b (n + 1) (fun y => if y = s then some g else f y) ∧ w.grownBy w' (some b) := by
  obtain ⟨D, h, hf⟩ := h
  obtain ⟨w', hrun, h', hg⟩ := h.update keyed9 Tryz.underlying112 hn (keyOf_string_mk Tryz.underlying9 hs) (show ptrElem (.pointer (some ⟨g, 0, none⟩)) = some (.lit (.int .i64 g), []) from rfl)
  have hm := h.isMap
  refine ⟨w', hrun, ⟨_, h', fun y hy => ?_⟩, hg⟩
  by_cases e : y = s
  · subst e
    simp only [if_pos]
    rw [ atKey_put_same hm (by trivial), has_put_same hm (by trivial)]
    exact ⟨rfl, rfl⟩
  · have hne : Lit.string y.data.toList ≠ Lit.string s.data.toList := fun he => e (by injection he with he; cases y; cases s; simp at he; simp [he])
    simp only [if_neg e]
    rw [atKey_put_other hne, has_put_other hne]
    exact hf y hy

end Go.Proofs.YtoaiamgcegnjjaaGreatDoor
