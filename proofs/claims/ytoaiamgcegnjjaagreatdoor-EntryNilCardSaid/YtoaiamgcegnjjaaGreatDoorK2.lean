/- say and take, seen from the table. No condition. -/
import Derived.Test.YtoaiamgcegnjjaaGreatDoorK
namespace Go.Proofs.YtoaiamgcegnjjaaGreatDoor
open Go.RowKit Go.Maps Go.WideMaps
set_option maxRecDepth 100000

def Ent.say (e : Ent) (mo ge tick : Int) : Ent := if e.mom ≤ mo then { e with said := tick, mom := mo, gen := ge } else e
theorem Ent.say_id (e : Ent) (mo ge tick : Int) : (e.say mo ge tick).id = e.id := by unfold Ent.say; split <;> rfl
theorem Ent.say_obj (e : Ent) (mo ge tick : Int) : (e.say mo ge tick).obj = e.obj := by unfold Ent.say; split <;> rfl
def ObjS.take (o : ObjS) (mo id : Int) : ObjS := if o.mom ≤ mo then { mom := mo, told := id, ids := o.ids } else o

theorem known_say_any {w : World} {base g : Nat} {e : Ent} (h : Known w base g e) (ti mo ge tick : Int) :
    Calls Tryz.prog 88 #[.pointer (some ⟨g, 0, none⟩), .agg #[.int .i64 ti, .int .i64 mo, .int .i64 ge], .int .i64 tick] w fun en w' => en = .returned (.tuple #[]) ∧ Known w' base g (e.say mo ge tick) ∧ w.grownBy w' (some g) := by
  obtain ⟨A, n, c, hA, hn, hc, hb, x1, x2, x3, x4⟩ := h.cells
  have own : ∀ w', w.grownBy w' (some g) → ∀ e', e' = 9 ∨ e' = 41 → ∀ {size n : Nat} {v : Value} {xs : List Value}, w.ownsRow base e' size v n xs → w'.ownsRow base e' size v n xs := fun w' hw e' he size n v xs hx =>
    own_kept hx hw (fun k hk hr => by
      injection hr with hr
      subst hr
      have := own_ty hx hk
      rw [hb.ty] at this
      injection this with this
      rcases he with rfl | rfl <;> simp at this)
  by_cases hm : e.mom ≤ mo
  · refine (known_say g _ e.said e.mom e.gen ti mo ge tick w hb hm rfl rfl rfl).mono fun en w' ⟨he, hb', hw⟩ => ⟨he, ?_, hw⟩
    unfold Ent.say
    rw [if_pos hm]
    exact ⟨h.low, h.keys, h.name, A, n, c, hA, hn, hc, hb', x1, own w' hw 9 (.inl rfl) x2, x3, own w' hw 41 (.inr rfl) x4⟩
  · refine (known_say_no g _ e.mom ti mo ge tick w hb (by omega) rfl).mono fun en w' ⟨he, hb', hw⟩ => ⟨he, ?_, hw⟩
    unfold Ent.say
    rw [if_neg hm]
    exact ⟨h.low, h.keys, h.name, A, n, c, hA, hn, hc, hb', x1, own w' hw 9 (.inl rfl) x2, x3, own w' hw 41 (.inr rfl) x4⟩

section
variable {w : World} {base tb m : Nat} {T : TabS} {be bo : Nat} {kf : Int → Option Nat} {of_ rf : ByteArray → Option Nat}

theorem say_tab (h : TabR w base tb m T be bo kf of_ rf) {e : Ent} {g : Nat} (hg : kf e.id = some g) (he : T.ents e.id = some e) (ti mo ge tick : Int) :
    Calls Tryz.prog 88 #[.pointer (some ⟨g, 0, none⟩), .agg #[.int .i64 ti, .int .i64 mo, .int .i64 ge], .int .i64 tick] w fun en w' => en = .returned (.tuple #[]) ∧ Keeps base w w' ∧ TabR w' base tb m (T.setEnt (e.say mo ge tick)) be bo kf of_ rf := by
  obtain ⟨e', he', _, hK⟩ := h.ents e.id g hg
  obtain rfl : e' = e := Option.some.inj (he'.symm.trans he)
  obtain ⟨_, _, _, _, _, _, hb, _⟩ := hK.cells
  refine (known_say_any hK ti mo ge tick).mono fun en w' ⟨hen, hk, hw⟩ => ⟨hen, ?_, ?_⟩
  · exact Keeps.of_grown hw h.lows hK.low (fun t ht => by rw [hb.ty] at ht; injection ht with ht; exact .inr (.inl ht.symm))
  · exact h.updEnt (by rw [Ent.say_id]; exact hg) (fun e0 h0 => by rw [Ent.say_id] at h0; rw [Ent.say_obj, Option.some.inj (h0.symm.trans he)]) hw hk

theorem take_tab (h : TabR w base tb m T be bo kf of_ rf) {s : ByteArray} {g : Nat} {o : ObjS} (hg : of_ s = some g) (ho : T.objs s = some o) (mo id : Int) (hid : (Lit.int .i64 id).wf = true) :
    Calls Tryz.prog 89 #[.pointer (some ⟨g, 0, none⟩), .int .i64 mo, .int .i64 id] w fun en w' => en = .returned (.tuple #[]) ∧ Keeps base w w' ∧ TabR w' base tb m (T.setObj s (o.take mo id)) be bo kf of_ rf := by
  obtain ⟨o', ho', hO⟩ := h.objs s g hg
  obtain rfl : o' = o := Option.some.inj (ho'.symm.trans ho)
  obtain ⟨A, n, c, hb, x1, x2, x3⟩ := hO.cells
  have kp : ∀ w', w.grownBy w' (some g) → Keeps base w w' := fun w' hw => Keeps.of_grown hw h.lows hO.low (fun t ht => by rw [hb.ty] at ht; injection ht with ht; exact .inr (.inr (.inl ht.symm)))
  by_cases hm : o'.mom ≤ mo
  · refine (obj_take g _ o'.mom o'.told mo id w hb hm rfl rfl).mono fun en w' ⟨hen, hb', hw⟩ => ⟨hen, kp w' hw, ?_⟩
    have : o'.take mo id = { mom := mo, told := id, ids := o'.ids } := by unfold ObjS.take; rw [if_pos hm]
    rw [this]
    refine h.updObj hg ho hw hid (fun A2 n2 c2 hb2 => ?_)
    have : #[Value.int .i64 o'.mom, .int .i64 o'.told, .slice A2 n2 c2] = #[Value.int .i64 o'.mom, .int .i64 o'.told, .slice A n c] := by
      unfold Blk at hb hb2
      rw [hb] at hb2
      injection hb2 with hb2
      injection hb2 with hb2
      exact hb2.symm
    simp only [Array.mk.injEq, List.cons.injEq] at this
    rw [this.2.2.1]
    exact hb'
  · refine (obj_take_no g _ o'.mom mo id w hb (by omega) rfl).mono fun en w' ⟨hen, hb', hw⟩ => ⟨hen, kp w' hw, ?_⟩
    have : o'.take mo id = { mom := o'.mom, told := o'.told, ids := o'.ids } := by unfold ObjS.take; rw [if_neg hm]
    rw [this]
    refine h.updObj hg ho hw (h.told s o' ho) (fun A2 n2 c2 hb2 => ?_)
    have : #[Value.int .i64 o'.mom, .int .i64 o'.told, .slice A2 n2 c2] = #[Value.int .i64 o'.mom, .int .i64 o'.told, .slice A n c] := by
      unfold Blk at hb hb2
      rw [hb] at hb2
      injection hb2 with hb2
      injection hb2 with hb2
      exact hb2.symm
    simp only [Array.mk.injEq, List.cons.injEq] at this
    rw [this.2.2.1]
    exact hb'
end

/-- two ways of asking, each with its answer -/
theorem joins_no (t : ByteArray) (wk : Bool) (mo le ha fr wh er : Int) (A : Option Addr) (n c : Nat) (ten : ByteArray) (kp : Bool) (w : World) (h : (tagOK t && !wk) = false) :
    Calls Tryz.prog 85 #[.agg (metaC t wk mo le ha fr wh er A n c ten kp)] w fun e w' => e = .returned (.bool false) ∧ Below w.heap.size w w' := by
  have := metaJoins_any t wk mo le ha fr wh er A n c ten kp w
  rw [h] at this
  exact this
theorem joins_yes (t : ByteArray) (wk : Bool) (mo le ha fr wh er : Int) (A : Option Addr) (n c : Nat) (ten : ByteArray) (kp : Bool) (w : World) (h : (tagOK t && !wk) = true) :
    Calls Tryz.prog 85 #[.agg (metaC t wk mo le ha fr wh er A n c ten kp)] w fun e w' => e = .returned (.bool true) ∧ Below w.heap.size w w' := by
  have := metaJoins_any t wk mo le ha fr wh er A n c ten kp w
  rw [h] at this
  exact this

theorem known_cells {w : World} {g : Nat} {ty : TypeId} {e : Ent} {A : Option Addr} {n c : Nat} {hv : Value} (h : Blk w g ty (kCells e A n c hv)) :
    w.cell? ⟨g, 0, none⟩ = some (.int .i64 e.id) ∧ w.cell? ⟨g, 1, none⟩ = some (.string e.obj) ∧ w.cell? ⟨g, 2, none⟩ = some (.string e.t) ∧ w.cell? ⟨g, 3, none⟩ = some (.bool e.wk) ∧ w.cell? ⟨g, 4, none⟩ = some (.int .i64 e.mo) ∧ w.cell? ⟨g, 5, none⟩ = some (.int .i64 e.le) ∧
    w.cell? ⟨g, 6, none⟩ = some (.int .i64 e.ha) ∧ w.cell? ⟨g, 7, none⟩ = some (.int .i64 e.fr) ∧ w.cell? ⟨g, 8, none⟩ = some (.int .i64 e.wh) ∧ w.cell? ⟨g, 9, none⟩ = some (.int .i64 e.er) ∧ w.cell? ⟨g, 10, none⟩ = some (.slice A n c) ∧ w.cell? ⟨g, 11, none⟩ = some (.string e.ten) ∧
    w.cell? ⟨g, 12, none⟩ = some (.bool e.kp) ∧ w.cell? ⟨g, 13, none⟩ = some (.int .i64 e.said) ∧ w.cell? ⟨g, 14, none⟩ = some (.int .i64 e.mom) ∧ w.cell? ⟨g, 15, none⟩ = some (.int .i64 e.gen) ∧ w.cell? ⟨g, 16, none⟩ = some (.bool false) ∧ w.cell? ⟨g, 17, none⟩ = some hv := by
  refine ⟨?_, ?_, ?_, ?_, ?_, ?_, ?_, ?_, ?_, ?_, ?_, ?_, ?_, ?_, ?_, ?_, ?_, ?_⟩ <;> rw [h.cell] <;> rfl

end Go.Proofs.YtoaiamgcegnjjaaGreatDoor
