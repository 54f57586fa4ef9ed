/- entry.keys, dead and state. No condition. -/
import Derived.Test.YtoaiamgcegnjjaaGreatDoorUA
import Derived.Test.YtoaiamgcegnjjaaGreatDoorYA
import Derived.Test.YtoaiamgcegnjjaaGreatDoorMO
namespace Go.Proofs.YtoaiamgcegnjjaaGreatDoor
open Go.RowKit Go.Maps Go.WideMaps Go.Sort
set_option maxRecDepth 100000

def slashB : ByteArray := ⟨#[47]⟩
def keysOf (e : Ent) : List ByteArray := e.ks ++ [slashB, e.obj]

theorem entCells {w : World} {g : Nat} {e : Ent} {A : Option Addr} {n c : Nat} {tu : Bool} (h : Blk w g 57 (entC e A n c tu)) :
    w.cell? ⟨g, 0, none⟩ = some (.int .i64 e.id) ∧ w.cell? ⟨g, 1, none⟩ = some (.string e.obj) ∧ w.cell? ⟨g, 2, none⟩ = some (.string e.t) ∧ w.cell? ⟨g, 3, none⟩ = some (.bool e.wk) ∧ w.cell? ⟨g, 4, none⟩ = some (.int .i64 e.mo) ∧ w.cell? ⟨g, 5, none⟩ = some (.int .i64 e.le) ∧ w.cell? ⟨g, 6, none⟩ = some (.int .i64 e.ha) ∧ w.cell? ⟨g, 7, none⟩ = some (.int .i64 e.fr) ∧ w.cell? ⟨g, 8, none⟩ = some (.int .i64 e.wh) ∧ w.cell? ⟨g, 9, none⟩ = some (.int .i64 e.er) ∧ w.cell? ⟨g, 10, none⟩ = some (.slice A n c) ∧ w.cell? ⟨g, 11, none⟩ = some (.string e.ten) ∧ w.cell? ⟨g, 12, none⟩ = some (.bool e.kp) ∧ w.cell? ⟨g, 13, none⟩ = some (.int .i64 e.said) ∧ w.cell? ⟨g, 14, none⟩ = some (.int .i64 e.mom) ∧ w.cell? ⟨g, 15, none⟩ = some (.int .i64 e.gen) :=
  ⟨(h.cell 0).trans rfl, (h.cell 1).trans rfl, (h.cell 2).trans rfl, (h.cell 3).trans rfl, (h.cell 4).trans rfl, (h.cell 5).trans rfl, (h.cell 6).trans rfl, (h.cell 7).trans rfl, (h.cell 8).trans rfl, (h.cell 9).trans rfl, (h.cell 10).trans rfl, (h.cell 11).trans rfl, (h.cell 12).trans rfl, (h.cell 13).trans rfl, (h.cell 14).trans rfl, (h.cell 15).trans rfl⟩

def ld39 (p : Value) : Sem Value := Instr.loadAt 39 p
theorem ld39_fold (p : Value) : Instr.loadAt 39 p = ld39 p := rfl
attribute [local go_sem ↓] ld39_fold ld57_fold
theorem run_ld39e {w : World} {g : Nat} {e : Ent} {A : Option Addr} {n c : Nat} {tu : Bool} (h : Blk w g 57 (entC e A n c tu)) : (ld39 (.pointer (some ⟨g, 2, none⟩))).run Tryz.prog w = .ok (.agg (metaC e.t e.wk e.mo e.le e.ha e.fr e.wh e.er A n c e.ten e.kp)) w := by
  refine run_loadAt_mid w g 2 39 (metaC e.t e.wk e.mo e.le e.ha e.fr e.wh e.er A n c e.ten e.kp).toList _ (fun j v hj => ?_) Tryz.underlying39 rfl size39
  have : ∀ k, w.cell? ⟨g, k, none⟩ = (entC e A n c tu)[k]? := h.cell
  rw [this]
  match j, hj with
  | 0, hj | 1, hj | 2, hj | 3, hj | 4, hj | 5, hj | 6, hj | 7, hj | 8, hj | 9, hj | 10, hj => exact hj

theorem fld39_7 (t : ByteArray) (wk : Bool) (mo le ha fr wh er : Int) (A : Option Addr) (n c : Nat) (ten : ByteArray) (kp : Bool) (w : World) :
    Sem.run Tryz.prog (Instr.field 39 (Value.agg (metaC t wk mo le ha fr wh er A n c ten kp)) 7) w = Result.ok (.slice A n c) w := by
  first | rfl | kernel_rfl

set_option maxHeartbeats 1000000 in
theorem keys_any (e : Ent) (A : Option Addr) (n c : Nat) (tu : Bool) (w : World) (hk : Strs w w.heap.size A n e.ks) (hn : n ≤ 1000) :
    Calls Tryz.prog 129 #[.agg (entC e A n c tu)] w fun en w' => (∃ A' c', en = .returned (.slice A' (n + 2) c') ∧ Strs w' w'.heap.size A' (n + 2) (keysOf e)) ∧ Below w.heap.size w w' := by
  obtain ⟨i0, hi, hz0, hz1, hz2⟩ := info_parts info9
  have hb0 : Below w.heap.size w (w.alloc (.cells (entC e A n c tu) 57)) := (Below.refl _ _).alloc (Nat.le_refl _) _
  have hkb : Blk (w.alloc (.cells (entC e A n c tu) 57)) w.heap.size 57 (entC e A n c tu) := Blk.new _ _ _
  go_enter Tryz.func129, Tryz.ntmps129
  go_upto_region 1 with fail
  generalize w.alloc (.cells (entC e A n c tu) 57) = w1 at *
  have HB0 := Lib.hid hb0
  have HKB := Lib.hid hkb
  have hlt := hkb.lt
  have hs0 := hb0.size
  have HK := Lib.hid (hk.below hb0 hs0)
  have sk : ∀ wy, Below w1.heap.size w1 wy → (ld39 (.pointer (some ⟨w.heap.size, 2, none⟩))).run Tryz.prog wy = .ok (.agg (metaC e.t e.wk e.mo e.le e.ha e.fr e.wh e.er A n c e.ten e.kp)) wy ∧ wy.cell? ⟨w.heap.size, 1, none⟩ = some (.string e.obj) := fun wy hb => by
    have h := HKB.out.below hb HKB.out.lt
    exact ⟨run_ld39e h, (h.cell 1).trans rfl⟩
  have SK := Lib.hid sk
  have cp : ∀ wy, Below w1.heap.size w1 wy → Calls Tryz.prog 45 #[.agg (metaC e.t e.wk e.mo e.le e.ha e.fr e.wh e.er A n c e.ten e.kp)] wy fun en w' => (∃ A' c', en = .returned (.agg (metaC e.t e.wk e.mo e.le e.ha e.fr e.wh e.er A' n c' e.ten e.kp)) ∧ w'.ownsRow wy.heap.size 9 1 (.slice A' n c') n (e.ks.map Value.string) ∧ n ≤ c') ∧ Below wy.heap.size wy w' := fun wy hb =>
    copied_any e.t e.wk e.mo e.le e.ha e.fr e.wh e.er A n c e.ten e.kp e.ks wy (HK.out.below hb hb.size) hn
  have CP := Lib.hid cp
  have fin : ∀ (w5 : World) (A5 : Option Addr) (c5 b5 : Nat), w5.ownsRow b5 9 1 (.slice A5 (n + 2) c5) (n + 2) (e.ks.map Value.string ++ [.string ⟨#[47]⟩, .string e.obj]) → Below w1.heap.size w1 w5 → (∃ A' c', Ending.returned (.slice A5 (n + 2) c5) = .returned (.slice A' (n + 2) c') ∧ Strs w5 w5.heap.size A' (n + 2) (keysOf e)) ∧ Below w.heap.size w w5 := fun w5 A5 c5 b5 ho hb => by
    refine ⟨⟨A5, c5, rfl, ?_⟩, HB0.out.trans (hb.mono HB0.out.size)⟩
    have := own_rd ho
    unfold Strs keysOf
    rw [List.map_append]
    exact this
  have FIN := Lib.hid fin
  clear hb0 hkb hk sk cp fin
  have S0 := Lib.hid (SK.out _ (Below.refl _ _).drew)
  have S1 := Lib.hid (SK.out _ ((Below.refl w1.heap.size w1).alloc (Nat.le_refl _) (.cells #[.string ⟨#[47]⟩, .string e.obj] 9)).drew)
  have C0 := Lib.hid (CP.out _ (Below.refl _ _).drew)
  have C1 := Lib.hid (CP.out _ ((Below.refl w1.heap.size w1).alloc (Nat.le_refl _) (.cells #[.string ⟨#[47]⟩, .string e.obj] 9)).drew)
  have ZQ : Hid (∀ u ∈ ([.string ⟨#[47]⟩, .string e.obj] : List Value), u.oneCell' = true) := by
    show ∀ u ∈ ([.string ⟨#[47]⟩, .string e.obj] : List Value), u.oneCell' = true
    simp [Value.oneCell']
  have rdq : ∀ (wy : World) (g : Nat), Blk wy g 9 #[.string ⟨#[47]⟩, .string e.obj] → Rd wy wy.heap.size 1 (some ⟨g, 0, none⟩) 2 [.string ⟨#[47]⟩, .string e.obj] := fun wy g h => by
    refine ⟨rfl, fun _ => ⟨g, 0, rfl, h.lt, fun j hj => ?_⟩⟩
    have := h.cell (0 + j)
    rw [this]
    match j, hj with
    | 0, _ | 1, _ => rfl
  have RDQ := Lib.hid rdq
  clear rdq
  have hfld := fld39_7 e.t e.wk e.mo e.le e.ha e.fr e.wh e.er
  go_region_held3 (fun wy => (ld39 (.pointer (some ⟨w.heap.size, 2, none⟩))).run Tryz.prog wy = .ok (.agg (metaC e.t e.wk e.mo e.le e.ha e.fr e.wh e.er A n c e.ten e.kp)) wy ∧ wy.cell? ⟨w.heap.size, 1, none⟩ = some (.string e.obj))
    (first
      | exact SK.out _ HB5.out
      | exact SK.out _ (HB4.out.alloc HB4.out.size _)
      | exact SK.out _ HB4.out
      | exact S0.out
      | exact S1.out)
    (first
      | (go_at_call 45; refine C0.out.mono ?_; rintro en w4 ⟨⟨A4, c4, rfl, ho4, hc4⟩, hb4⟩; (have HB4 : Hid (Below w1.heap.size w1 w4) := (Below.refl _ _).drew.trans hb4); (have HO4 : Hid (w4.ownsRow w1.heap.size 9 1 (.slice A4 n c4) n (e.ks.map Value.string)) := ho4); clear ho4 hb4)
      | (go_at_call 45; refine C1.out.mono ?_; rintro en w4 ⟨⟨A4, c4, rfl, ho4, hc4⟩, hb4⟩; (have HB4 : Hid (Below w1.heap.size w1 w4) := ((Below.refl _ _).alloc (Nat.le_refl _) _).drew.trans (hb4.mono (by simp))); (have HO4 := Lib.hid (own_base ho4 (show w1.heap.size ≤ _ by simp))); (have KE : Hid (Blk w4 w1.heap.size 9 #[.string ⟨#[47]⟩, .string e.obj]) := (Blk.new w1 9 _).drew.below hb4 (by simp)); clear ho4 hb4)
      | ((fail_if_success (have hZ := KE)); (refine step_append_rd _ (by rfl) _ _ _ (by rfl) w1.heap.size 9 i0 (.string ByteArray.empty) 1 16 Tryz.underlying37 hi hz0 hz1 hz2 rfl (by decide) (.slice A4 n c4) n (e.ks.map Value.string) (by rfl) (HO4.out.alloc _) (some ⟨w4.heap.size, 0, none⟩) 2 2 _ [.string ⟨#[47]⟩, .string e.obj] (by rfl) (RDQ.out _ _ (Blk.new w4 9 _)) ZQ.out (by unfold maxLen; omega) (by omega) (HB4.out.alloc HB4.out.size (.cells #[.string ⟨#[47]⟩, .string e.obj] 9)).size ?_; intro A5 c5 w5 hown5 hgrow5 hnc5; have HB5 : Hid (Below w1.heap.size w1 w5) := (HB4.out.alloc HB4.out.size (.cells #[.string ⟨#[47]⟩, .string e.obj] 9)).trans (grown_below hgrow5 (HB4.out.alloc HB4.out.size (.cells #[.string ⟨#[47]⟩, .string e.obj] 9)).size (fun k hk => (HO4.out.lt k hk).1)); have HF5 := Lib.hid (FIN.out w5 A5 c5 _ hown5 HB5.out); clear hown5 hgrow5))
      | ((refine step_append_rd _ (by rfl) _ _ _ (by rfl) w1.heap.size 9 i0 (.string ByteArray.empty) 1 16 Tryz.underlying37 hi hz0 hz1 hz2 rfl (by decide) (.slice A4 n c4) n (e.ks.map Value.string) (by rfl) HO4.out (some ⟨w1.heap.size, 0, none⟩) 2 2 _ [.string ⟨#[47]⟩, .string e.obj] (by rfl) (RDQ.out _ _ KE.out) ZQ.out (by unfold maxLen; omega) (by omega) HB4.out.size ?_; intro A5 c5 w5 hown5 hgrow5 hnc5; have HB5 : Hid (Below w1.heap.size w1 w5) := HB4.out.trans (grown_below hgrow5 HB4.out.size (fun k hk => (HO4.out.lt k hk).1)); have HF5 := Lib.hid (FIN.out w5 A5 c5 _ hown5 HB5.out); clear hown5 hgrow5)))
  all_goals
    go_wp2_with fail
    go_ret
    exact HF5.out

abbrev askC (ti mo ge : Int) : Array Value := #[.int .i64 ti, .int .i64 mo, .int .i64 ge]

set_option maxHeartbeats 1000000 in
theorem dead_any (q : EM) (ti mo ge : Int) (lb B : Nat) (fl : Int) (ms : List LineM) (w : World) (hk : Strs w w.heap.size q.A q.n q.e.ks) (hn : q.n ≤ 1000) (hL : LogAt w B lb fl ms) (hB : B ≤ w.heap.size) :
    Calls Tryz.prog 66 #[.agg (entC q.e q.A q.n q.c q.tu), .agg (askC ti mo ge), .pointer (some ⟨lb, 0, none⟩)] w fun en w' => en = .returned (.bool (decide (0 < lastP fl (ms.map (·.l)) (keysOf q.e) q.e.gen ge true))) ∧ Below w.heap.size w w' := by
  have hb0 : Below w.heap.size w ((w.alloc (.cells (entC q.e q.A q.n q.c q.tu) 57)).alloc (.cells (askC ti mo ge) 74)) := ((Below.refl _ _).alloc (Nat.le_refl _) _).alloc (by simp) _
  have k0 : Blk ((w.alloc (.cells (entC q.e q.A q.n q.c q.tu) 57)).alloc (.cells (askC ti mo ge) 74)) w.heap.size 57 (entC q.e q.A q.n q.c q.tu) := (Blk.new w 57 _).alloc _
  have k1 : Blk ((w.alloc (.cells (entC q.e q.A q.n q.c q.tu) 57)).alloc (.cells (askC ti mo ge) 74)) (w.heap.size + 1) 74 (askC ti mo ge) := new2 w _ 74 _
  go_enter Tryz.func66, Tryz.ntmps66
  go_upto_region 1 with fail
  generalize (w.alloc (.cells (entC q.e q.A q.n q.c q.tu) 57)).alloc (.cells (askC ti mo ge) 74) = w1 at *
  have HB0 := Lib.hid hb0
  have K0 := Lib.hid k0
  have K1 := Lib.hid k1
  have hs0 := hb0.size
  have HK := Lib.hid (hk.below hb0 hs0)
  have HLG := Lib.hid (hL.below (hb0.mono hB))
  have sk : ∀ wy, Below w1.heap.size w1 wy → (ld57 (.pointer (some ⟨w.heap.size, 0, none⟩))).run Tryz.prog wy = .ok (.agg (entC q.e q.A q.n q.c q.tu)) wy ∧ wy.cell? ⟨w.heap.size, 15, none⟩ = some (.int .i64 q.e.gen) ∧ wy.cell? ⟨w.heap.size + 1, 2, none⟩ = some (.int .i64 ge) := fun wy hb => by
    have h := K0.out.below hb K0.out.lt
    exact ⟨run_ld57b h, (h.cell 15).trans rfl, ((K1.out.below hb K1.out.lt).cell 2).trans rfl⟩
  have SK := Lib.hid sk
  have S0 := Lib.hid (SK.out _ (Below.refl _ _).drew)
  have C0 := Lib.hid (keys_any q.e q.A q.n q.c q.tu w1.drew (HK.out.below (Below.refl _ _).drew (Nat.le_refl _)) hn)
  have cl : ∀ (wy : World) (A' : Option Addr) (c' : Nat), Below w1.heap.size w1 wy → Strs wy wy.heap.size A' (q.n + 2) (keysOf q.e) → Calls Tryz.prog 128 #[.pointer (some ⟨lb, 0, none⟩), .slice A' (q.n + 2) c', .int .i64 q.e.gen, .int .i64 ge, .bool true] wy fun e w' => e = .returned (.int .i64 (lastP fl (ms.map (·.l)) (keysOf q.e) q.e.gen ge true)) ∧ Below wy.heap.size wy w' := fun wy A' c' hb hs =>
    logLast_any lb fl ms q.e.gen ge true A' (q.n + 2) c' (keysOf q.e) B wy.heap.size wy (HLG.out.below (hb.mono (by omega))) hs (by omega) (by have := hb.size; omega) (Nat.le_refl _)
  have CL := Lib.hid cl
  clear hb0 k0 k1 hk hL sk cl
  go_region_held3 (fun wy => (ld57 (.pointer (some ⟨w.heap.size, 0, none⟩))).run Tryz.prog wy = .ok (.agg (entC q.e q.A q.n q.c q.tu)) wy ∧ wy.cell? ⟨w.heap.size, 15, none⟩ = some (.int .i64 q.e.gen) ∧ wy.cell? ⟨w.heap.size + 1, 2, none⟩ = some (.int .i64 ge))
    (first
      | exact SK.out _ HB3.out
      | exact SK.out _ HB2.out
      | exact S0.out)
    (first
      | (go_at_call 129; refine C0.out.mono ?_; rintro en w2 ⟨⟨A2, c2, rfl, hs2⟩, hb2⟩; (have HB2 : Hid (Below w1.heap.size w1 w2) := (Below.refl _ _).drew.trans hb2); (have HS2 := Lib.hid hs2); clear hs2 hb2)
      | (go_at_call 128; refine (CL.out w2 A2 c2 HB2.out HS2.out).mono ?_; rintro en w3 ⟨rfl, hb3⟩; (have HB3 := Lib.hid (HB2.out.trans (hb3.mono HB2.out.size))); clear hb3))
  all_goals
    go_wp2_with fail
    go_ret
    exact ⟨rfl, HB0.out.trans (HB3.out.mono HB0.out.size)⟩

set_option maxHeartbeats 1000000 in
theorem stateE_any (q : EM) (ti mo ge : Int) (lb B : Nat) (fl : Int) (ms : List LineM) (w : World) (hk : Strs w w.heap.size q.A q.n q.e.ks) (hn : q.n ≤ 1000) (hL : LogAt w B lb fl ms) (hB : B ≤ w.heap.size) (h0 : lastP fl (ms.map (·.l)) (keysOf q.e) q.e.gen ge false = 0) :
    Calls Tryz.prog 67 #[.agg (entC q.e q.A q.n q.c q.tu), .agg (askC ti mo ge), .pointer (some ⟨lb, 0, none⟩)] w fun en w' => en = .returned (.int .i64 (stateOf q.e.fr q.e.wh q.e.er q.e.said ti)) ∧ Below w.heap.size w w' := by
  have hb0 : Below w.heap.size w ((w.alloc (.cells (entC q.e q.A q.n q.c q.tu) 57)).alloc (.cells (askC ti mo ge) 74)) := ((Below.refl _ _).alloc (Nat.le_refl _) _).alloc (by simp) _
  have k0 : Blk ((w.alloc (.cells (entC q.e q.A q.n q.c q.tu) 57)).alloc (.cells (askC ti mo ge) 74)) w.heap.size 57 (entC q.e q.A q.n q.c q.tu) := (Blk.new w 57 _).alloc _
  have k1 : Blk ((w.alloc (.cells (entC q.e q.A q.n q.c q.tu) 57)).alloc (.cells (askC ti mo ge) 74)) (w.heap.size + 1) 74 (askC ti mo ge) := new2 w _ 74 _
  go_enter Tryz.func67, Tryz.ntmps67
  go_upto_region 1 with fail
  generalize (w.alloc (.cells (entC q.e q.A q.n q.c q.tu) 57)).alloc (.cells (askC ti mo ge) 74) = w1 at *
  have HB0 := Lib.hid hb0
  have K0 := Lib.hid k0
  have K1 := Lib.hid k1
  have hs0 := hb0.size
  have HK := Lib.hid (hk.below hb0 hs0)
  have HLG := Lib.hid (hL.below (hb0.mono hB))
  have sk : ∀ wy, Below w1.heap.size w1 wy → (ld57 (.pointer (some ⟨w.heap.size, 0, none⟩))).run Tryz.prog wy = .ok (.agg (entC q.e q.A q.n q.c q.tu)) wy ∧ wy.cell? ⟨w.heap.size, 15, none⟩ = some (.int .i64 q.e.gen) ∧ wy.cell? ⟨w.heap.size + 1, 2, none⟩ = some (.int .i64 ge) := fun wy hb => by
    have h := K0.out.below hb K0.out.lt
    exact ⟨run_ld57b h, (h.cell 15).trans rfl, ((K1.out.below hb K1.out.lt).cell 2).trans rfl⟩
  have SK := Lib.hid sk
  have S0 := Lib.hid (SK.out _ (Below.refl _ _).drew)
  have C0 := Lib.hid (keys_any q.e q.A q.n q.c q.tu w1.drew (HK.out.below (Below.refl _ _).drew (Nat.le_refl _)) hn)
  have cl : ∀ (wy : World) (A' : Option Addr) (c' : Nat), Below w1.heap.size w1 wy → Strs wy wy.heap.size A' (q.n + 2) (keysOf q.e) → Calls Tryz.prog 128 #[.pointer (some ⟨lb, 0, none⟩), .slice A' (q.n + 2) c', .int .i64 q.e.gen, .int .i64 ge, .bool false] wy fun e w' => e = .returned (.int .i64 0) ∧ Below wy.heap.size wy w' := fun wy A' c' hb hs => by
    have := logLast_any lb fl ms q.e.gen ge false A' (q.n + 2) c' (keysOf q.e) B wy.heap.size wy (HLG.out.below (hb.mono (by omega))) hs (by omega) (by have := hb.size; omega) (Nat.le_refl _)
    rw [h0] at this
    exact this
  have CL := Lib.hid cl
  clear hb0 k0 k1 hk hL sk cl h0
  go_cut [17] (fun a wy => a = .bool true ∧ Below w1.heap.size w1 wy)
  case first =>
    go_region_held3 (fun wy => (ld57 (.pointer (some ⟨w.heap.size, 0, none⟩))).run Tryz.prog wy = .ok (.agg (entC q.e q.A q.n q.c q.tu)) wy ∧ wy.cell? ⟨w.heap.size, 15, none⟩ = some (.int .i64 q.e.gen) ∧ wy.cell? ⟨w.heap.size + 1, 2, none⟩ = some (.int .i64 ge))
      (first
        | exact SK.out _ HB3.out
        | exact SK.out _ HB2.out
        | exact S0.out)
      (first
        | (go_at_call 129; refine C0.out.mono ?_; rintro en w2 ⟨⟨A2, c2, rfl, hs2⟩, hb2⟩; (have HB2 : Hid (Below w1.heap.size w1 w2) := (Below.refl _ _).drew.trans hb2); (have HS2 := Lib.hid hs2); clear hs2 hb2)
        | (go_at_call 128; refine (CL.out w2 A2 c2 HB2.out HS2.out).mono ?_; rintro en w3 ⟨rfl, hb3⟩; (have HB3 := Lib.hid (HB2.out.trans (hb3.mono HB2.out.size))); clear hb3))
    all_goals
      go_wp2_with fail
      go_meet
    all_goals exact ⟨by first | rfl | simp, HB3.out⟩
  case rest =>
    obtain ⟨rfl, hb3⟩ := hcut
    have HB3 := Lib.hid hb3
    have kc := K0.out.below hb3 K0.out.lt
    have l3 := run_ld39e kc
    have c13 : wc.cell? ⟨w.heap.size, 13, none⟩ = some (.int .i64 q.e.said) := (kc.cell 13).trans rfl
    have d0 : wc.cell? ⟨w.heap.size + 1, 0, none⟩ = some (.int .i64 ti) := ((K1.out.below hb3 K1.out.lt).cell 0).trans rfl
    have CS := Lib.hid (state_any q.e.t q.e.wk q.e.mo q.e.le q.e.ha q.e.fr q.e.wh q.e.er q.A q.n q.c q.e.ten q.e.kp q.e.said ti wc)
    clear hb3 kc
    go_wp2_with (go_at_call 73; refine CS.out.mono ?_; rintro en w4 ⟨rfl, hb4⟩; (have HB4 := Lib.hid (HB3.out.trans (hb4.mono HB3.out.size))); clear hb4)
    go_ret
    exact ⟨rfl, HB0.out.trans (HB4.out.mono HB0.out.size)⟩
end Go.Proofs.YtoaiamgcegnjjaaGreatDoor
