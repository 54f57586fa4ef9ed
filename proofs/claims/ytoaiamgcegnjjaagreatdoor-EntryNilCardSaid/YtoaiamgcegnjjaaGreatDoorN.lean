/- Table.Get and Load of no entries. No condition. -/
import Derived.Test.YtoaiamgcegnjjaaGreatDoorM
import Derived.Maps.Range
namespace Go.Proofs.YtoaiamgcegnjjaaGreatDoor
open Go.RowKit Go.Maps Go.WideMaps Go.Sort
set_option maxRecDepth 100000

theorem results_cell_tmp {P : Program} {fn : Func} {p q : Tmp} {ty : TypeId} (h : fn.results = #[.cell p ty, .tmp q]) (tmps : Array Value) (w : World) (g : Nat) (t : TypeId) (cs : Array Value) (fr : Nat × Nat) (d : TypeDesc)
    (hp : tmps.getD p undef = .pointer (some ⟨g, 0, none⟩)) (hg : w.heap[g]? = some (.cells cs t fr))
    (hu : P.underlying ty = some d) (hd : (match d with | .struct _ | .array _ _ => true | _ => false) = true) (hi : (P.info? ty).map (·.size) = some cs.size) :
    (results fn tmps).run P w = .ok (.tuple #[.agg cs, tmps.getD q undef]) w := by
  have hp' : tmps[p]?.getD undef = .pointer (some ⟨g, 0, none⟩) := by simpa using hp
  simp [results, h, hp', asAddr, run_loadVar_row w g t ty cs fr d hg hu hd hi]

section
variable {w : World} {base tb m : Nat} {T : TabS} {be bo : Nat} {kf : Int → Option Nat} {of_ rf : ByteArray → Option Nat}

theorem get_some (h : TabR w base tb m T be bo kf of_ rf) {e : Ent} {g : Nat} (hid : (Lit.int .i64 e.id).wf = true) (hg : kf e.id = some g) (he : T.ents e.id = some e) :
    Calls Tryz.prog 22 #[.pointer (some ⟨tb, 0, none⟩), .int .i64 e.id] w fun en w' => (∃ A' n c', en = .returned (.tuple #[.agg (entC e A' n c' (turnedS T e)), .bool true]) ∧ n ≤ c' ∧ w'.ownsRow w.heap.size 9 1 (.slice A' n c') n (e.ks.map Value.string)) ∧ Below w.heap.size w w' := by
  have hb0 : Below w.heap.size w (w.alloc (.cells zeroE 57)) := (Below.refl _ _).alloc (Nat.le_refl _) _
  have HT := Lib.hid (h.grow hb0)
  have HG := Lib.hid hg
  have HE := Lib.hid he
  have HB0 := Lib.hid hb0
  have HBK := Lib.hid (Blk.new w 57 zeroE)
  clear h hg he hb0
  go_enter Tryz.func22, Tryz.ntmps22
  go_wp2_with fail
  refine (find_any HT.out hid).mono ?_
  rintro en w1 ⟨rfl, rfl⟩
  rw [HG.out]
  unfold ptrV
  go_wp2_with fail
  refine (entry_any HT.out HG.out HE.out).mono ?_
  rintro en w1 ⟨⟨A', n, c', rfl, hnc, hown⟩, hb1⟩
  have HBK1 := Lib.hid (HBK.out.below hb1 (by simp))
  have HBW := Lib.hid (HB0.out.trans (hb1.mono (by simp)))
  have HOW := Lib.hid (own_base hown (show w.heap.size ≤ _ by simp))
  have HI : Hid ((Tryz.prog.info? 57).map (·.size) = some (entC e A' n c' (turnedS T e)).size) := size57
  have HS : Hid (zeroE.size = (entC e A' n c' (turnedS T e)).size) := by show zeroE.size = _; rfl
  have H1 : Hid ((entC e A' n c' (turnedS T e)).all (·.oneCell') = true) := by
    show (entC e A' n c' (turnedS T e)).all (·.oneCell') = true
    simp [Value.oneCell']
  clear hb1 hown HBK HB0
  go_wp2_with (refine wpList_store_row rfl 57 _ _ rfl w.heap.size (entC e A' n c' (turnedS T e)) rfl rfl 57 zeroE HBK1.out HI.out HS.out H1.out ?_)
  refine bodyPost_ret (v := .tuple #[.agg (entC e A' n c' (turnedS T e)), .bool true]) (results_cell_tmp Tryz.results22 _ _ w.heap.size 57 _ (0, 0) _ rfl (setRow_blk HBK1.out _) Tryz.underlying57 rfl HI.out) rfl ⟨⟨A', n, c', rfl, hnc, ?_⟩, ?_⟩
  · refine own_kept HOW.out (setRow_gby _ _ _) (fun k hk hr => ?_)
    injection hr with hr
    subst hr
    have := own_ty HOW.out hk
    rw [HBK1.out.ty] at this
    simp at this
  · exact HBW.out.trans (grown_below (setRow_gby _ _ _) (by have := HBK1.out.lt; omega) (fun k hk => by injection hk with hk; omega))
end

def emptyT (n : Int) : TabS := { next := n, ents := fun _ => none, objs := fun _ => none }

theorem load_nil (w : World) : Calls Tryz.prog 13 #[.slice none 0 0, .int .i64 1] w fun e w' => ∃ tb, e = .returned (.tuple #[.pointer (some ⟨tb, 0, none⟩), .int .i64 0]) ∧ Tab w' w.heap.size tb 0 (emptyT 1) ∧ Below w.heap.size w w' := by
  have hmm := @run_makeMap Tryz.prog
  have hb0 : Below w.heap.size w (((w.alloc (.map #[] 0)).alloc (.map #[] 0)).alloc (.cells #[.int .i64 1, .map (some w.heap.size), .map (some (w.heap.size + 1))] 114)) := (((Below.refl _ _).alloc (Nat.le_refl _) _).alloc (by simp) _).alloc (by simp; omega) _
  have hi : IMap (((w.alloc (.map #[] 0)).alloc (.map #[] 0)).alloc (.cells #[.int .i64 1, .map (some w.heap.size), .map (some (w.heap.size + 1))] 114)) w.heap.size 0 (fun _ => none) :=
    (IMap.made w).kept (gby_alloc (gby_alloc (gby_refl _ none) _) _) (by simp)
  have hs : SMap (((w.alloc (.map #[] 0)).alloc (.map #[] 0)).alloc (.cells #[.int .i64 1, .map (some w.heap.size), .map (some (w.heap.size + 1))] 114)) (w.heap.size + 1) 0 (fun _ => none) := by
    have := (SMap.made (w.alloc (.map #[] 0))).kept (gby_alloc (gby_refl _ none) (.cells #[.int .i64 1, .map (some w.heap.size), .map (some (w.heap.size + 1))] 114)) (by simp)
    simpa using this
  have hb : Blk (((w.alloc (.map #[] 0)).alloc (.map #[] 0)).alloc (.cells #[.int .i64 1, .map (some w.heap.size), .map (some (w.heap.size + 1))] 114)) (w.heap.size + 1 + 1) 114 #[.int .i64 1, .map (some w.heap.size), .map (some (w.heap.size + 1))] := by
    have := new2 (w.alloc (.map #[] 0)) (.map #[] 0) 114 #[.int .i64 1, .map (some w.heap.size), .map (some (w.heap.size + 1))]
    simpa using this
  have hown : (((w.alloc (.map #[] 0)).alloc (.map #[] 0)).alloc (.cells #[.int .i64 1, .map (some w.heap.size), .map (some (w.heap.size + 1))] 114)).ownsMap Tryz.prog 9 ptrElem (w.heap.size + 1) 0 (.map []) := by
    have := (World.ownsMap_made (w.alloc (.map #[] 0)) Tryz.prog 9 ptrElem).kept (gby_alloc (gby_refl _ none) (.cells #[.int .i64 1, .map (some w.heap.size), .map (some (w.heap.size + 1))] 114)) (by simp)
    simpa using this
  have hT : TabR (((w.alloc (.map #[] 0)).alloc (.map #[] 0)).alloc (.cells #[.int .i64 1, .map (some w.heap.size), .map (some (w.heap.size + 1))] 114)) w.heap.size (w.heap.size + 1 + 1) 0 (emptyT 1) w.heap.size (w.heap.size + 1) (fun _ => none) (fun _ => none) (fun _ => none) :=
    { blk := hb, low := ⟨by omega, by omega, by omega⟩, ne := by omega, imap := hi, smap := hs, ents := (fun _ _ h => by cases h), noent := (fun _ _ => rfl), objs := (fun _ _ h => by cases h), noobj := (fun _ _ => rfl), kinj := (fun _ _ _ h => by cases h), oinj := (fun _ _ _ h => by cases h), rinj := (fun _ _ _ h => by cases h), ids := (fun _ _ h => by cases h), eobj := (fun _ _ h => by cases h), told := (fun _ _ h => by cases h), idlt := (fun _ _ h => by cases h), next := ⟨by simp [emptyT], by simp [emptyT]⟩ }
  obtain ⟨w4, hrun, hrg, hgr, hsz⟩ := hown.range keyed9 Tryz.underlying112
  have hb4 : Below (((w.alloc (.map #[] 0)).alloc (.map #[] 0)).alloc (.cells #[.int .i64 1, .map (some w.heap.size), .map (some (w.heap.size + 1))] 114)).heap.size (((w.alloc (.map #[] 0)).alloc (.map #[] 0)).alloc (.cells #[.int .i64 1, .map (some w.heap.size), .map (some (w.heap.size + 1))] 114)) w4 := ⟨hgr.os, hgr.tape, hgr.output, hgr.size, fun k hk => hgr.block k hk (by simp)⟩
  have hT4 := hT.grow hb4
  have HB := Lib.hid (hb0.trans (hb4.mono (by simp; omega)))
  have HT := Lib.hid hT4
  have hrun' : (Instr.range 112 (.map (some (w.heap.size + 1)))).run Tryz.prog (((w.alloc (.map #[] 0)).alloc (.map #[] 0)).alloc (.cells #[.int .i64 1, .map (some w.heap.size), .map (some (w.heap.size + 1))] 114)) = .ok (.pointer (some ⟨w.heap.size + 1 + 1 + 1, 0, none⟩)) w4 := by
    rw [hrun]
    simp
  have hnext : ∀ ty, (Instr.next (.pointer (some ⟨w.heap.size + 1 + 1 + 1, 0, none⟩)) false ty).run Tryz.prog w4 = .ok (.tuple #[.bool false]) w4 := fun ty => by
    have hrg' := hrg
    simp only [World.size_alloc] at hrg'
    rcases hrg'.next keyed9 ty with ⟨_, _, h⟩ | ⟨_, _, _, _, _, cnt', _, _, _, _, _, _, hlt, _⟩
    · exact h
    · simp [Maps.size] at hlt
  clear hb0 hi hs hb hown hT hb4 hT4 hrun hrg hgr hsz
  go_enter Tryz.func13, Tryz.ntmps13
  go_wp2_with fail
  go_loop [30] (fun i => i = .int .i64 0) (fun _ => 0)
  case atStart => rfl
  case round =>
    subst hrel
    go_wp2_with fail
    go_loop [72, 73] (fun _ _ => True) (fun _ _ => 0)
    case atStart => trivial
    case round =>
      go_wp2_with fail
      go_ret2
      exact ⟨w.heap.size + 1 + 1, rfl, ⟨_, _, _, _, _, HT.out⟩, HB.out⟩

end Go.Proofs.YtoaiamgcegnjjaaGreatDoor
