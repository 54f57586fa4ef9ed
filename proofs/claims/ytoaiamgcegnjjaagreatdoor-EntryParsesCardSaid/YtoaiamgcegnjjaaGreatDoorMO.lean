/- The law's back; what the program tells of an entry is what the reference has. No condition. The law's 'same': of one table and its reference it says yes. No condition. -/
import Derived.Test.YtoaiamgcegnjjaaGreatDoorXB
import Derived.Test.YtoaiamgcegnjjaaGreatDoorMN
import Derived.Test.YtoaiamgcegnjjaaGreatDoorML
import Derived.Test.YtoaiamgcegnjjaaGreatDoorLB
import Derived.Deep.WholeRow
namespace Go.Proofs.YtoaiamgcegnjjaaGreatDoor
open Go.RowKit Go.Maps Go.WideMaps Go.Sort
set_option maxRecDepth 100000

def backM (q : EM) : RM := { e := { id := q.e.id, obj := q.e.obj, M := q.e.meta_, said := q.e.said, mom := q.e.mom, gen := q.e.gen, last := !q.tu, has := [] }, kA := q.A, kn := q.n, kc := q.c, hA := none, hn := 0, hc := 0 }

theorem sim_turned {k : Nat} {T : TabS} {x : RTab} (h : Sim k T x) {e : RE} (he : e ∈ x.L) : (!turnedS T e.ent) = e.last := by
  unfold turnedS
  rw [Bool.not_not]
  obtain ⟨o, ho⟩ := h.obj_of he
  have hl := h.last _ (key_mem he)
  show (lastS T e.obj == some e.id) = e.last
  unfold lastS
  rw [ho]
  dsimp only
  by_cases ht : o.told = e.id
  · rw [ht, h.ent_of he]
    have : e.last = true := hl.2 ⟨o, ho, ht⟩
    rw [this]
    simp
  · have : e.last = false := by
      cases hb : e.last with
      | false => rfl
      | true =>
        obtain ⟨o', ho', ht'⟩ := hl.1 hb
        rw [show T.objs e.key.2.1 = some o from ho] at ho'
        injection ho' with ho'
        subst ho'
        exact absurd ht' ht
    rw [this]
    split
    · simp; exact ht
    · rfl

theorem back_told {k : Nat} {T : TabS} {x : RTab} (h : Sim k T x) {e : RE} (he : e ∈ x.L) (q : EM) (hq : T.ents e.id = some q.e) (ht : q.tu = turnedS T q.e) : (backM q).e.told e := by
  have hqe : q.e = e.ent := by
    rw [h.ent_of he] at hq
    injection hq with hq
    exact hq.symm
  unfold backM
  rw [hqe] at ht
  rw [hqe, ht]
  refine ⟨rfl, rfl, rfl, rfl, rfl, rfl, ?_⟩
  exact sim_turned h he

set_option maxHeartbeats 1000000 in
theorem back_any (q : EM) (w : World) :
    Calls Tryz.prog 24 #[.agg (entC q.e q.A q.n q.c q.tu)] w fun en w' => en = .returned (.agg (backM q).row) ∧ Below w.heap.size w w' := by
  have hb0 : Below w.heap.size w ((w.alloc (.cells (entC q.e q.A q.n q.c q.tu) 57)).alloc (.cells zero54 54)) := ((Below.refl _ _).alloc (Nat.le_refl _) _).alloc (by simp) _
  have k0 : Blk ((w.alloc (.cells (entC q.e q.A q.n q.c q.tu) 57)).alloc (.cells zero54 54)) w.heap.size 57 (entC q.e q.A q.n q.c q.tu) := (Blk.new w 57 _).alloc _
  have k1 : Blk ((w.alloc (.cells (entC q.e q.A q.n q.c q.tu) 57)).alloc (.cells zero54 54)) (w.heap.size + 1) 54 zero54 := new2 w _ 54 _
  go_enter Tryz.func24, Tryz.ntmps24
  go_upto_region 1 with fail
  generalize (w.alloc (.cells (entC q.e q.A q.n q.c q.tu) 57)).alloc (.cells zero54 54) = w1 at *
  have x0 : w1.cell? ⟨w.heap.size, 0, none⟩ = some (.int .i64 q.e.id) := (k0.cell 0).trans rfl
  have x1 : w1.cell? ⟨w.heap.size, 1, none⟩ = some (.string q.e.obj) := (k0.cell 1).trans rfl
  have x13 : w1.cell? ⟨w.heap.size, 13, none⟩ = some (.int .i64 q.e.said) := (k0.cell 13).trans rfl
  have x14 : w1.cell? ⟨w.heap.size, 14, none⟩ = some (.int .i64 q.e.mom) := (k0.cell 14).trans rfl
  have x15 : w1.cell? ⟨w.heap.size, 15, none⟩ = some (.int .i64 q.e.gen) := (k0.cell 15).trans rfl
  have x16 : w1.cell? ⟨w.heap.size, 16, none⟩ = some (.bool q.tu) := (k0.cell 16).trans rfl
  have hra : w1.rangeAt w.heap.size 2 (metaC q.e.t q.e.wk q.e.mo q.e.le q.e.ha q.e.fr q.e.wh q.e.er q.A q.n q.c q.e.ten q.e.kp).toList := k0.range 2 _ (fun j v hj => by
    have hlt : j < 11 := (List.getElem?_eq_some_iff.1 hj).1
    match j, hlt with
    | 0, _ => exact hj
    | 1, _ => exact hj
    | 2, _ => exact hj
    | 3, _ => exact hj
    | 4, _ => exact hj
    | 5, _ => exact hj
    | 6, _ => exact hj
    | 7, _ => exact hj
    | 8, _ => exact hj
    | 9, _ => exact hj
    | 10, _ => exact hj)
  have HRA := Lib.hid hra
  have HB0 := Lib.hid hb0
  have K1 := Lib.hid k1
  have hs1 := k1.lt
  have HS : Hid (zero54.size = (backM q).row.size) := rfl
  clear hra hb0 k0 k1
  go_wp2_with (first
    | (refine wpList_load_mid rfl 39 _ rfl w.heap.size 2 rfl (metaC q.e.t q.e.wk q.e.mo q.e.le q.e.ha q.e.fr q.e.wh q.e.er q.A q.n q.c q.e.ten q.e.kp).toList _ HRA.out Tryz.underlying39 rfl size39 ?_; rw [show (metaC q.e.t q.e.wk q.e.mo q.e.le q.e.ha q.e.fr q.e.wh q.e.er q.A q.n q.c q.e.ten q.e.kp).toList.toArray = metaC q.e.t q.e.wk q.e.mo q.e.le q.e.ha q.e.fr q.e.wh q.e.er q.A q.n q.c q.e.ten q.e.kp from rfl])
    | (refine wpList_store_row rfl 54 _ _ rfl (w.heap.size + 1) (backM q).row rfl rfl 54 _ K1.out size54 HS.out (backM q).one ?_))
  refine bodyPost_ret (v := .agg (backM q).row) (results_cell_row Tryz.results24 _ _ (w.heap.size + 1) 54 _ (0, 0) _ rfl (setRow_blk K1.out _) Tryz.underlying54 rfl size54) rfl ⟨rfl, ?_⟩
  exact HB0.out.trans (grown_below (setRow_gby _ _ _) (by omega) (fun k hk => by injection hk with hk; omega))
end Go.Proofs.YtoaiamgcegnjjaaGreatDoor
namespace Go.Proofs.YtoaiamgcegnjjaaGreatDoor
open Go.RowKit Go.Maps Go.WideMaps Go.Sort
set_option maxRecDepth 100000
def ld57 (p : Value) : Sem Value := Instr.loadAt 57 p
theorem ld57_fold (p : Value) : Instr.loadAt 57 p = ld57 p := rfl
def st57 (p v : Value) : Sem Unit := Instr.storeAt 57 p v
theorem st57_fold (p v : Value) : Instr.storeAt 57 p v = st57 p v := rfl
attribute [local go_sem ↓] ld54_fold ld57_fold st57_fold
abbrev zero57 : Array Value := #[.int .i64 0, .string ⟨#[]⟩, .string ⟨#[]⟩, .bool false, .int .i64 0, .int .i64 0, .int .i64 0, .int .i64 0, .int .i64 0, .int .i64 0, .slice none 0 0, .string ⟨#[]⟩, .bool false, .int .i64 0, .int .i64 0, .int .i64 0, .bool false]
theorem run_st57 (w : World) (q : EM) : (st57 (.pointer (some ⟨w.heap.size, 0, none⟩)) (.agg (entC q.e q.A q.n q.c q.tu))).run Tryz.prog (w.alloc (.cells zero57 57)) = .ok () (w.alloc (.cells (entC q.e q.A q.n q.c q.tu) 57)) := by
  have := run_storeVar_row (P := Tryz.prog) (w.alloc (.cells zero57 57)) w.heap.size 57 57 zero57 (entC q.e q.A q.n q.c q.tu) (Blk.new w 57 zero57) size57 rfl (by simp [Value.oneCell'])
  rw [World.setRow_alloc_new] at this
  simp only [st57, Instr.storeAt, Instr.sureAddr, Sem.run_bind, Sem.run_pure, Result.andThen_ok, this]

theorem run_ld57 {w : World} {b o : Nat} {q : EM} (h : w.rangeAt b o q.cells) : (ld57 (.pointer (some ⟨b, o, none⟩))).run Tryz.prog w = .ok (.agg (entC q.e q.A q.n q.c q.tu)) w := run_loadAt_mid w b o 57 q.cells _ h Tryz.underlying57 rfl size57
theorem run_ld57b {w : World} {g : Nat} {q : EM} (hk : Blk w g 57 (entC q.e q.A q.n q.c q.tu)) : (ld57 (.pointer (some ⟨g, 0, none⟩))).run Tryz.prog w = .ok (.agg (entC q.e q.A q.n q.c q.tu)) w := by
  refine run_ld57 (fun j v hj => ?_)
  rw [Nat.zero_add, hk.cell]
  simpa [EM.cells] using hj

theorem tab_get {w : World} {base tb m : Nat} {T : TabS} (h : Tab w base tb m T) (hm : m ≤ 10000) {e : Ent} (he : T.ents e.id = some e) :
    Calls Tryz.prog 22 #[.pointer (some ⟨tb, 0, none⟩), .int .i64 e.id] w fun en w' => (∃ A' n c', en = .returned (.tuple #[.agg (entC e A' n c' (turnedS T e)), .bool true]) ∧ n ≤ c' ∧ w'.ownsRow w.heap.size 9 1 (.slice A' n c') n (e.ks.map Value.string)) ∧ Below w.heap.size w w' := by
  obtain ⟨be, bo, kf, of_, rf, h⟩ := h
  obtain ⟨g, hg⟩ := h.kf_some (id := e.id) (by rw [he]; rfl)
  have h1 := h.idlt _ _ he
  have h2 := h.next
  exact get_some h (wf_i64 (by omega) (by omega)) hg he
theorem tab_has {w : World} {base tb m : Nat} {T : TabS} (h : Tab w base tb m T) (hm : m ≤ 10000) {e : Ent} (he : T.ents e.id = some e) :
    Calls Tryz.prog 36 #[.pointer (some ⟨tb, 0, none⟩), .int .i64 e.id] w fun en w' => (∃ A n c, en = .returned (.agg #[.slice A n c]) ∧ n ≤ c ∧ w'.ownsRow base 41 2 (.slice A n c) n (spanCells e.has)) ∧ Below w.heap.size w w' := by
  obtain ⟨be, bo, kf, of_, rf, h⟩ := h
  obtain ⟨g, hg⟩ := h.kf_some (id := e.id) (by rw [he]; rfl)
  have h1 := h.idlt _ _ he
  have h2 := h.next
  exact has_some h (wf_i64 (by omega) (by omega)) hg he
theorem tab_last {w : World} {base tb m : Nat} {T : TabS} (h : Tab w base tb m T) {e : Ent} (he : T.ents e.id = some e) :
    Calls Tryz.prog 27 #[.pointer (some ⟨tb, 0, none⟩), .string e.obj] w fun en w' => en = .returned (lastV (lastS T e.obj)) ∧ Below w.heap.size w w' := by
  obtain ⟨be, bo, kf, of_, rf, h⟩ := h
  obtain ⟨g, hg⟩ := h.kf_some (id := e.id) (by rw [he]; rfl)
  obtain ⟨e', he', _, hK⟩ := h.ents _ g hg
  obtain rfl : e' = e := Option.some.inj (he'.symm.trans he)
  exact last_any h hK.name

section
variable {w : World} {base tb m k : Nat} {T : TabS} {v : Array Value} {x : RTab} {LA NA : Option Addr} {ln lc nn nc : Nat} {rs : List RM}
set_option maxHeartbeats 4000000 in
theorem same_any (hT : Tab w base tb m T) (hR : RT w base m v x LA ln lc NA nn nc rs) (hS : Sim k T x) (hB : base ≤ w.heap.size) (hm : m ≤ 9000) (hk : k ≤ 900) :
    Calls Tryz.prog 16 #[.pointer (some ⟨tb, 0, none⟩), .agg v] w fun e w' => e = .returned (.bool true) ∧ Below w.heap.size w w' := by
  have HT := Lib.hid hT
  have HR := Lib.hid hR
  have HS := Lib.hid hS
  have HLN := Lib.hid hR.len
  have hlf := hR.lfew
  have hval := hR.val
  subst hval
  have hb0 : Below w.heap.size w (w.alloc (.cells #[.slice LA ln lc, .slice NA nn nc, .int .i64 x.next] 32)) := (Below.refl _ _).alloc (Nat.le_refl _) _
  have k0 : Blk (w.alloc (.cells #[.slice LA ln lc, .slice NA nn nc, .int .i64 x.next] 32)) w.heap.size 32 #[.slice LA ln lc, .slice NA nn nc, .int .i64 x.next] := Blk.new _ _ _
  have hI : (x.L.map (·.id)).Pairwise (· < ·) := by
    have := hS.rise
    rw [List.pairwise_map] at this ⊢
    exact this
  have hmem : ∀ i, i ∈ x.L.map (·.id) ↔ (T.ents i).isSome := fun i => by
    rw [List.mem_map]
    constructor
    · rintro ⟨e, he, rfl⟩
      rw [hS.ent_of he]
      rfl
    · intro h
      obtain ⟨e', he'⟩ := Option.isSome_iff_exists.1 h
      obtain ⟨e, he, h1, _⟩ := (hS.ents _ _).1 he'
      exact ⟨e, he, h1⟩
  have CA := Lib.hid (all_any (hT.keepsBox hb0) (by omega) (x.L.map (·.id)) hI hmem)
  have HB0 := Lib.hid hb0
  have K0 := Lib.hid k0
  clear hT hR hS hb0 k0 hI hmem
  go_enter Tryz.func16, Tryz.ntmps16
  go_upto_region 1 with fail
  generalize w.alloc (.cells #[.slice LA ln lc, .slice NA nn nc, .int .i64 x.next] 32) = w0 at *
  go_wp2_with fail
  refine CA.out.mono ?_
  rintro en w1 ⟨⟨A5, c5, out, rfl, hol, hout, hrd, hkeys⟩, hb1⟩
  have hIl : (x.L.map (·.id)).length = ln := by have := HLN.out; simp; omega
  rw [hIl] at hrd hol ⊢
  have HOL := Lib.hid hol
  have HOUT := Lib.hid hout
  have HRD := Lib.hid hrd
  have HKE := Lib.hid hkeys
  have HB1 := Lib.hid hb1
  have hbw1 := HB0.out.trans (hb1.mono HB0.out.size)
  have HBW1 := Lib.hid hbw1
  have K1 := Lib.hid (K0.out.below hb1 K0.out.lt)
  have hs1 := (K0.out.below hb1 K0.out.lt).lt
  have c0 : w1.cell? ⟨w.heap.size, 0, none⟩ = some (.slice LA ln lc) := (K1.out.cell 0).trans rfl
  clear hol hout hrd hkeys hb1 hbw1 CA hIl
  go_wp2_with fail
  go_loopw [24] (fun i wr => ∃ j : Nat, j ≤ ln ∧ i = .int .i64 j ∧ Below w1.heap.size w1 wr) (fun i _ => ln - (intOf i).toNat)
  case atStart => exact ⟨0, Nat.zero_le _, rfl, Below.refl _ _⟩
  case round =>
    obtain ⟨j, hj, rfl, hbr⟩ := hrel
    have HBR := Lib.hid hbr
    have HBWr := Lib.hid (HBW1.out.trans (hbr.mono HBW1.out.size))
    have hsr := hbr.size
    clear hbr c0
    by_cases hlt : j < ln
    · have hjo : j < out.length := by have := HOL.out; omega
      have hjx : j < x.L.length := by have := HLN.out; omega
      have hjI : j < (x.L.map (·.id)).length := by simpa using hjx
      obtain ⟨hte, hei, htu⟩ := HOUT.out j hjI hjo
      rw [List.getElem_map] at hte hei
      obtain ⟨-, hrow⟩ := (show PR w1 w1.heap.size 17 A5 ln (out.flatMap EM.cells) from PR.of_old HRD.out (Nat.le_refl _)).row EM.cells_len (by decide)
      obtain ⟨b5, o5, rfl, hb5, hr5⟩ := hrow j hjo
      have hq5 : wr.rangeAt b5 (o5 + j * 17) out[j].cells := fun i v hv => (HBR.out.cell (p := ⟨b5, o5 + j * 17 + i, none⟩) hb5).trans (hr5 i v hv)
      obtain ⟨hqc, hqo⟩ := HKE.out out[j] (List.getElem_mem hjo)
      obtain ⟨b, o, rfl, hbl, h1, h2, he, er, hok⟩ := (HR.out.below HBWr.out hB).at_ hlt
      have hmx : x.L[j] ∈ x.L := List.getElem_mem hjx
      have htold := back_told HS.out hmx out[j] hte htu
      have hte' : T.ents out[j].e.id = some out[j].e := by rw [hei]; exact hte
      have hid2 : rs[j].e.id = out[j].e.id := by rw [he, hei]
      have hhas : rs[j].e.has = out[j].e.has ∧ out[j].e.has.length ≤ 1000 := by
        rw [HS.out.ent_of hmx] at hte
        injection hte with hte
        rw [he, ← hte]
        exact ⟨rfl, by have := (HS.out.has _ hmx).2; show x.L[j].has.length ≤ 1000; omega⟩
      have hobj : rs[j].e.obj = out[j].e.obj := by
        rw [HS.out.ent_of hmx] at hte
        injection hte with hte
        rw [he, ← hte]
        rfl
      rw [← he] at htold
      have hlast : lastS T out[j].e.obj = lastR x.L out[j].e.obj := sim_last HS.out _
      have hqk : out[j].n ≤ 10000 := by
        have h1 := hqo.1
        have h3 := hok.few
        have h4 : out[j].e.ks = rs[j].e.M.ks := by
          have h5 : (backM out[j]).e.M = rs[j].e.M := htold.2.2.1
          rw [← h5]
          rfl
        rw [← h4] at h3
        simp at h1
        omega
      generalize hqq : out[j] = q at *
      generalize hrr : rs[j] = r at *
      have HQ5 := Lib.hid hq5
      have HQO := Lib.hid hqo
      have HER := Lib.hid er
      have HOK := Lib.hid hok
      have HTO := Lib.hid htold
      have HTE := Lib.hid hte'
      have HHAS := Lib.hid hhas
      have HLAST := Lib.hid hlast
      have HID2 := Lib.hid hid2
      have HTU := Lib.hid htu
      have l6 : (ld57 (.pointer (some ⟨b5, o5 + j * 17, none⟩))).run Tryz.prog wr = .ok (.agg (entC q.e q.A q.n q.c q.tu)) wr := run_ld57 hq5
      have s6 := run_st57 wr q
      clear hqq hrr hq5 hqo er hok htold hte' hhas hlast hte hei htu he hid2 hrow hr5 hmx
      have i1 : (0 : Int) ≤ (j : Int) := by omega
      have i2 : (j : Int) < (ln : Int) := by omega
      go_upto_region 7 with fail
      have hb6 : Below wr.heap.size wr (wr.alloc (.cells (entC q.e q.A q.n q.c q.tu) 57)) := (Below.refl _ _).alloc (Nat.le_refl _) _
      have k6 : Blk (wr.alloc (.cells (entC q.e q.A q.n q.c q.tu) 57)) wr.heap.size 57 (entC q.e q.A q.n q.c q.tu) := Blk.new _ _ _
      generalize wr.alloc (.cells (entC q.e q.A q.n q.c q.tu) 57) = w6 at *
      have HB6 := Lib.hid hb6
      have HBW6 := Lib.hid (HBWr.out.trans (hb6.mono HBWr.out.size))
      have K6 := Lib.hid k6
      have hs6 := k6.lt
      have d0 : w6.cell? ⟨w.heap.size, 0, none⟩ = some (.slice (some ⟨b, o, none⟩) ln lc) := (((K1.out.below HBR.out K1.out.lt).below hb6 (by have := hs1; omega)).cell 0).trans rfl
      have dr : w6.cell? ⟨b, o + j * 18, none⟩ = some (.int .i64 q.e.id) := by
        rw [← HID2.out]
        exact (hb6.cell (p := ⟨b, o + j * 18, none⟩) hbl).trans (HER.out 0 _ rfl)
      clear hb6 k6 l6 s6
      go_upto_region 8 with (go_at_call 22; refine (tab_get (HT.out.keepsBox HBW6.out) (by omega) HTE.out).mono ?_; rintro en w7 ⟨⟨A7, n7, c7, rfl, hnc7, ho7⟩, hb7⟩; (have HO7 := Lib.hid ho7); (have HB7 := Lib.hid hb7); (have s7 := run_st57 w7 ⟨q.e, A7, n7, c7, turnedS T q.e⟩); clear ho7 hb7)
      generalize hq2 : (⟨q.e, A7, n7, c7, turnedS T q.e⟩ : EM) = q2 at s7
      have HQ2 := Lib.hid hq2
      have e2 : entC q.e A7 n7 c7 (turnedS T q.e) = entC q2.e q2.A q2.n q2.c q2.tu := by rw [← hq2]
      rw [e2]
      have hb8 : Below w7.heap.size w7 (w7.alloc (.cells (entC q2.e q2.A q2.n q2.c q2.tu) 57)) := (Below.refl _ _).alloc (Nat.le_refl _) _
      have k8 : Blk (w7.alloc (.cells (entC q2.e q2.A q2.n q2.c q2.tu) 57)) w7.heap.size 57 (entC q2.e q2.A q2.n q2.c q2.tu) := Blk.new _ _ _
      generalize w7.alloc (.cells (entC q2.e q2.A q2.n q2.c q2.tu) 57) = w8 at *
      have HB78 := Lib.hid hb8
      have HB68 := Lib.hid (HB7.out.trans (hb8.mono HB7.out.size))
      have HBr8 := Lib.hid (HB6.out.trans (HB68.out.mono HB6.out.size))
      have HB18 := Lib.hid (HBR.out.trans (HBr8.out.mono hsr))
      have HBW8 := Lib.hid (HBW1.out.trans (HB18.out.mono HBW1.out.size))
      have K8 := Lib.hid k8
      have hs7 := HB7.out.size
      have hs8 := hb8.size
      clear hb8 k8 s7 hq2 e2 d0 dr
      have sk : ∀ wy, Below w8.heap.size w8 wy → (ld57 (.pointer (some ⟨wr.heap.size, 0, none⟩))).run Tryz.prog wy = .ok (.agg (entC q.e q.A q.n q.c q.tu)) wy ∧ (ld57 (.pointer (some ⟨w7.heap.size, 0, none⟩))).run Tryz.prog wy = .ok (.agg (entC q2.e q2.A q2.n q2.c q2.tu)) wy ∧ wy.cell? ⟨w.heap.size, 0, none⟩ = some (.slice (some ⟨b, o, none⟩) ln lc) ∧ (ld54 (.pointer (some ⟨b, o + j * 18, none⟩))).run Tryz.prog wy = .ok (.agg r.row) wy ∧ wy.cell? ⟨wr.heap.size, 0, none⟩ = some (.int .i64 q.e.id) ∧ wy.cell? ⟨b, o + j * 18 + 17, none⟩ = some (.slice r.hA r.hn r.hc) := fun wy hb => by
        have h6 := (K6.out.below HB68.out K6.out.lt).below hb (by omega)
        have h8 := K8.out.below hb K8.out.lt
        have h1 := (K1.out.below HB18.out K1.out.lt).below hb (by have := HB18.out.size; omega)
        have hbr := HBr8.out.trans (hb.mono (by have := HBr8.out.size; omega))
        have hr : wy.rangeAt b (o + j * 18) r.cells := fun i v hv => (hbr.cell (p := ⟨b, o + j * 18 + i, none⟩) hbl).trans (HER.out i v hv)
        exact ⟨run_ld57b h6, run_ld57b h8, (h1.cell 0).trans rfl, run_ld54 hr, (h6.cell 0).trans rfl, hr 17 _ rfl⟩
      have SK := Lib.hid sk
      clear sk
      have CS : Hid (∀ wy, Below w8.heap.size w8 wy → Calls Tryz.prog 41 #[.agg (backM q).row, .agg r.row] wy fun e w' => e = .returned (.bool true) ∧ Below wy.heap.size wy w') := by
        show ∀ wy, Below w8.heap.size w8 wy → _
        intro wy hb
        have hb1 := HB18.out.trans (hb.mono HB18.out.size)
        have hbr := HBr8.out.trans (hb.mono HBr8.out.size)
        exact rsame_any (backM q) r wy HTO.out ((own_rd HQO.out).below hb1 (by have := hb1.size; omega)) (HOK.out.keys.rd.below hbr hbr.size) hqk
      have CS2 : Hid (∀ wy, Below w8.heap.size w8 wy → Calls Tryz.prog 41 #[.agg (backM q2).row, .agg r.row] wy fun e w' => e = .returned (.bool true) ∧ Below wy.heap.size wy w') := by
        show ∀ wy, Below w8.heap.size w8 wy → _
        intro wy hb
        have hbr := HBr8.out.trans (hb.mono HBr8.out.size)
        have hb7 := HB78.out.trans (hb.mono HB78.out.size)
        have he2 : (backM q2).e = (backM q).e := by
          rw [← HQ2.out]
          unfold backM
          simp only [HTU.out]
        have hrd := (own_rd HO7.out).below hb7 hb7.size
        have hl2 : q2.n = q.n := by
          have h1 := HO7.out.1
          have h2 := HQO.out.1
          rw [← HQ2.out]
          show n7 = q.n
          omega
        refine rsame_any (backM q2) r wy (by rw [he2]; exact HTO.out) ?_ (HOK.out.keys.rd.below hbr hbr.size) (by show q2.n ≤ 10000; omega)
        rw [← HQ2.out]
        exact hrd
      have CH : Hid (∀ wy, Below w8.heap.size w8 wy → Calls Tryz.prog 36 #[.pointer (some ⟨tb, 0, none⟩), .int .i64 q.e.id] wy fun en w' => (∃ A c, en = .returned (.agg #[.slice A r.hn c]) ∧ Rd w' w'.heap.size 2 A r.hn (spanCells q.e.has)) ∧ Below wy.heap.size wy w') := by
        show ∀ wy, Below w8.heap.size w8 wy → _
        intro wy hb
        refine (tab_has (HT.out.keepsBox (HBW8.out.trans (hb.mono HBW8.out.size))) (by omega) HTE.out).mono ?_
        rintro en w' ⟨⟨A, n, c, rfl, hnc, ho⟩, hb'⟩
        have h1 := ho.1
        have h2 := HOK.out.has.1
        rw [spanCells_len] at h1 h2
        rw [HHAS.out.1] at h2
        obtain rfl : n = r.hn := by omega
        exact ⟨⟨A, c, rfl, own_rd ho⟩, hb'⟩
      have hhn : r.hn ≤ 1000 := by
        have h2 := HOK.out.has.1
        have h3 := HHAS.out.2
        rw [spanCells_len, HHAS.out.1] at h2
        omega
      have HRH : Hid (∀ wy, Below w8.heap.size w8 wy → Rd wy wy.heap.size 2 r.hA r.hn (spanCells q.e.has)) := by
        show ∀ wy, Below w8.heap.size w8 wy → _
        intro wy hb
        have hbr := HBr8.out.trans (hb.mono HBr8.out.size)
        rw [← HHAS.out.1]
        exact HOK.out.has.rd.below hbr hbr.size
      go_cut [78] (fun z wy => z = .bool false ∧ Below w8.heap.size w8 wy)
      case first =>
        go_region_held3 (fun wy => (ld57 (.pointer (some ⟨wr.heap.size, 0, none⟩))).run Tryz.prog wy = .ok (.agg (entC q.e q.A q.n q.c q.tu)) wy ∧ (ld57 (.pointer (some ⟨w7.heap.size, 0, none⟩))).run Tryz.prog wy = .ok (.agg (entC q2.e q2.A q2.n q2.c q2.tu)) wy ∧ wy.cell? ⟨w.heap.size, 0, none⟩ = some (.slice (some ⟨b, o, none⟩) ln lc) ∧ (ld54 (.pointer (some ⟨b, o + j * 18, none⟩))).run Tryz.prog wy = .ok (.agg r.row) wy ∧ wy.cell? ⟨wr.heap.size, 0, none⟩ = some (.int .i64 q.e.id) ∧ wy.cell? ⟨b, o + j * 18 + 17, none⟩ = some (.slice r.hA r.hn r.hc))
          (first
            | exact SK.out _ HB15.out
            | exact SK.out _ HB14.out
            | exact SK.out _ HB13.out
            | exact SK.out _ HB12.out
            | exact SK.out _ HB11.out
            | exact SK.out _ HB10.out
            | exact SK.out _ HB9.out
            | exact SK.out _ (Below.refl _ _)
            | exact SK.out _ (Below.refl _ _).drew)
          (first
            | (go_at_call 24; (have hz := HB10); clear hz; refine (back_any q2 _).mono ?_; rintro en w11 ⟨rfl, hb11⟩; (have HB11 : Hid (Below w8.heap.size w8 w11) := HB10.out.trans (hb11.mono HB10.out.size)); clear hb11)
            | (go_at_call 24; refine (back_any q _).mono ?_; rintro en w9 ⟨rfl, hb9⟩; (have HB9 : Hid (Below w8.heap.size w8 w9) := (Below.refl w8.heap.size w8).drew.trans hb9); clear hb9)
            | (go_at_call 41; (have hz := HB11); clear hz; refine (CS2.out _ HB11.out).mono ?_; rintro en w12 ⟨rfl, hb12⟩; (have HB12 : Hid (Below w8.heap.size w8 w12) := HB11.out.trans (hb12.mono HB11.out.size)); clear hb12)
            | (go_at_call 41; refine (CS.out _ HB9.out).mono ?_; rintro en w10 ⟨rfl, hb10⟩; (have HB10 : Hid (Below w8.heap.size w8 w10) := HB9.out.trans (hb10.mono HB9.out.size)); clear hb10)
            | (go_at_call 36; refine (CH.out _ HB12.out).mono ?_; rintro en w13 ⟨⟨A13, c13, rfl, hrd13⟩, hb13⟩; (have HB13 : Hid (Below w8.heap.size w8 w13) := HB12.out.trans (hb13.mono HB12.out.size)); (have HRD13 := Lib.hid hrd13); clear hb13 hrd13)
            | (go_at_call 62; refine (spans_any A13 r.hn c13 q.e.has w13 HRD13.out (by omega)).mono ?_; rintro en w14 ⟨⟨A14, c14, rfl, ho14⟩, hb14⟩; (have HB14 : Hid (Below w8.heap.size w8 w14) := HB13.out.trans (hb14.mono HB13.out.size)); (have HO14 := Lib.hid ho14); clear hb14 ho14)
            | (go_at_call 61; refine (rlist_same A14 r.hA r.hn c14 r.hc q.e.has w14 (own_rd HO14.out) (HRH.out _ HB14.out) (by omega)).mono ?_; rintro en w15 ⟨rfl, hb15⟩; (have HB15 : Hid (Below w8.heap.size w8 w15) := HB14.out.trans (hb15.mono HB14.out.size)); clear hb15))
        all_goals
          go_wp2_with fail
          go_meet
        all_goals exact ⟨by first | rfl | simp, HB15.out⟩
      case rest =>
        obtain ⟨rfl, hb9⟩ := hcut
        have HB9 := Lib.hid hb9
        have HB69 := Lib.hid (HB68.out.trans (hb9.mono HB68.out.size))
        have HBW9 := Lib.hid (HBW8.out.trans (hb9.mono HBW8.out.size))
        have K69 := Lib.hid (K6.out.below HB69.out K6.out.lt)
        have hs9 := hb9.size
        have t1 : wc.cell? ⟨wr.heap.size, 1, none⟩ = some (.string q.e.obj) := (K69.out.cell 1).trans rfl
        have CL := Lib.hid (tab_last (HT.out.keepsBox HBW9.out) HTE.out)
        clear hb9 CS CS2 CH HRH SK
        go_wp2_with fail
        refine CL.out.mono ?_
        rintro en w10 ⟨rfl, hb10⟩
        rw [HLAST.out]
        have HB910 := Lib.hid hb10
        have HBW10 := Lib.hid (HBW9.out.trans (hb10.mono HBW9.out.size))
        have hs10 := hb10.size
        have K10 := Lib.hid (((K1.out.below HB18.out K1.out.lt).below HB9.out (by have := HB18.out.size; omega)).below hb10 (by have := HB18.out.size; omega))
        have t2 : w10.cell? ⟨wr.heap.size, 1, none⟩ = some (.string q.e.obj) := ((K69.out.below hb10 (by omega)).cell 1).trans rfl
        clear hb10 t1 CL
        generalize hla : lastR x.L q.e.obj = la at *
        have HLA := Lib.hid hla
        clear hla
        go_wp2_with (refine wpList_load_row rfl 32 _ rfl w.heap.size rfl 32 #[.slice (some ⟨b, o, none⟩) ln lc, .slice NA nn nc, .int .i64 x.next] (0, 0) _ K10.out Tryz.underlying32 rfl size32 ?_)
        refine (rlast_any (HR.out.below HBW10.out hB) (by omega) q.e.obj).mono ?_
        rintro en w11 ⟨rfl, hb11⟩
        rw [HLA.out]
        have HB1z := Lib.hid ((HB18.out.trans (HB9.out.mono HB18.out.size)).trans (HB910.out.mono (by have := HB18.out.size; omega)))
        have HB111 := Lib.hid (HB1z.out.trans (hb11.mono HB1z.out.size))
        clear hb11
        go_wp2_with fail
        go_roundw
        case rel => exact ⟨j + 1, by omega, by go_num, HB111.out⟩
        case measure => simp [intOf]; omega
    · obtain rfl : j = ln := by omega
      go_wp2_with fail
      go_ret
      exact ⟨rfl, HBWr.out⟩
end
end Go.Proofs.YtoaiamgcegnjjaaGreatDoor
