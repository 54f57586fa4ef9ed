/- EntryLoads returns true, whatever the entries, the next number and the acts; what came in reads as it did: the tied card. No condition beyond the card's own. -/
import Derived.Test.YtoaiamgcegnjjaaGreatDoorNM
import Derived.Test.YtoaiamgcegnjjaaGreatDoorUR
import Derived.Test.YtoaiamgcegnjjaaGreatDoorNQ
import Derived.Test.YtoaiamgcegnjjaaGreatDoorCards
import Derived.Test.YtoaiamgcegnjjaaGreatDoorTie
import Derived.SevenTiedAt
import Derived.LaidSub
namespace Go.Proofs.YtoaiamgcegnjjaaGreatDoor
open Go.ChangeShapes Go.WideShapes Go.ChangeAt Go.WideMaps Go.WideElems Go.RowKit Go.Deep
set_option maxRecDepth 100000

theorem Tryz.cells54 : Tryz.prog.cellsOf 54 = 18 := by kernel_rfl
theorem Tryz.cells52 : Tryz.prog.cellsOf 52 = 1 := by kernel_rfl
/-- the table of powers, out of what is laid -/
theorem tb_of_laid {W : World} (h : laidMetH Tryz.prog laid3 W) : Tb W := by
  have h2 : laidMet Tryz.prog [("internal/strconv.uint64pow10", Lib.tabData .u64 Lib.pow10Tab)] W := h.filter (fun x => x.1 == "internal/strconv.uint64pow10")
  exact Lib.tabIs_of_head (g := 0) (t := 281) (e := 235) (n := 20) (by kernel_rfl) (by kernel_rfl) (by kernel_rfl) (by kernel_rfl) (by kernel_rfl) (by kernel_rfl) h2
section
variable {H : Type} {enc : TypeId × Value → H} {w : World} {base : Nat} {spare : Nat → Bool} {held : Bool}
theorem read_rm {fuel : Nat} {cs : List Value} {x : DataW H × List MemPlace} (h : DataW.trod enc Tryz.prog w base spare held fuel 54 cs = some x) : ∃ r : RM, cs = r.cells ∧ Strs w w.heap.size r.kA r.kn r.e.M.ks ∧ r.kn ≤ r.kc ∧ r.e.M.Sz := by
  have hl : cs.length = 18 := (fld_len Tryz.underlying54 h).trans Tryz.cells54
  match cs, hl with
  | [c0, c1, c2, c3, c4, c5, c6, c7, c8, c9, c10, c11, c12, c13, c14, c15, c16, c17], _ =>
    obtain ⟨_, _, h0⟩ := fld Tryz.underlying54 h 0 2 0 _ rfl Tryz.cells2
    obtain ⟨_, _, h1⟩ := fld Tryz.underlying54 h 1 9 1 _ rfl Tryz.cells9
    obtain ⟨_, _, h2⟩ := fld Tryz.underlying54 h 2 39 2 _ rfl Tryz.cells39
    obtain ⟨_, _, h3⟩ := fld Tryz.underlying54 h 3 2 13 _ rfl Tryz.cells2
    obtain ⟨_, _, h4⟩ := fld Tryz.underlying54 h 4 2 14 _ rfl Tryz.cells2
    obtain ⟨_, _, h5⟩ := fld Tryz.underlying54 h 5 2 15 _ rfl Tryz.cells2
    obtain ⟨_, _, h6⟩ := fld Tryz.underlying54 h 6 4 16 _ rfl Tryz.cells4
    obtain ⟨_, _, h7⟩ := fld Tryz.underlying54 h 7 52 17 _ rfl Tryz.cells52
    clear h
    simp only [List.drop_zero, List.drop_succ_cons, List.take_succ_cons, List.take_zero] at h0 h1 h2 h3 h4 h5 h6 h7
    obtain ⟨id, rfl, _⟩ := read_int2 h0
    obtain ⟨obj, rfl, _⟩ := read_str9 h1
    obtain ⟨M, A, n, c, e1, hnc, hcm, hst, hM⟩ := read_meta h2
    simp only [List.cons.injEq, and_true] at e1
    obtain ⟨rfl, rfl, rfl, rfl, rfl, rfl, rfl, rfl, rfl, rfl, rfl⟩ := e1
    obtain ⟨said, rfl, _⟩ := read_int2 h3
    obtain ⟨mom, rfl, _⟩ := read_int2 h4
    obtain ⟨gen, rfl, _⟩ := read_int2 h5
    obtain ⟨last, rfl⟩ := read_bool4 h6
    have hsz : M.Sz := ⟨by have := hM.t; unfold maxLen at this; omega, by have := hM.ten; unfold maxLen at this; omega, fun s hs => by have := hM.ks s hs; unfold maxLen at this; omega⟩
    rcases open_slice Tryz.underlying52 h7 with ⟨hc, _⟩ | ⟨a, len, cap, m, n', D, Pl, hc, _⟩
    · injection hc with hc
      exact ⟨⟨⟨id, obj, M, said, mom, gen, last, []⟩, A, n, c, none, 0, 0⟩, by rw [hc]; rfl, hst, hnc, hsz⟩
    · injection hc with hc
      exact ⟨⟨⟨id, obj, M, said, mom, gen, last, []⟩, A, n, c, some a, len, cap⟩, by rw [hc]; rfl, hst, hnc, hsz⟩
theorem read_rms {fuel : Nat} {v : Value} {x : DataW H × List MemPlace} (h : DataW.trod enc Tryz.prog w base spare held fuel 29 [v] = some x) :
    ∃ A n c, ∃ l : List RM, v = .slice A n c ∧ n ≤ maxLen ∧ Rd w w.heap.size 18 A n (l.flatMap RM.cells) ∧ ∀ r ∈ l, Strs w w.heap.size r.kA r.kn r.e.M.ks ∧ r.kn ≤ r.kc ∧ r.e.M.Sz := by
  rcases open_slice Tryz.underlying29 h with ⟨hc, _⟩ | ⟨a, len, cap, m, n, D, Pl, hc, _, hl, hm, hmm, _, hi⟩
  · injection hc with hc
    exact ⟨none, 0, 0, [], hc, Nat.zero_le _, ⟨rfl, fun h => absurd h (by omega)⟩, fun a ha => by cases ha⟩
  · injection hc with hc
    have hle : len ≤ m := by rw [hmm]; split <;> omega
    rw [Tryz.cells54] at hi
    have hall : ∀ i, i < len → ∃ q : RM, (∀ j, j < 18 → w.cell? (a.add (i * 18 + j)) = q.cells[j]?) ∧ (Strs w w.heap.size q.kA q.kn q.e.M.ks ∧ q.kn ≤ q.kc ∧ q.e.M.Sz) := fun i him => by
      obtain ⟨cs', hcs, ht⟩ := hi i (by omega)
      obtain ⟨_, hcl, hat⟩ := World.cells?_some hcs
      obtain ⟨q, hcs', hq⟩ := read_rm ht
      refine ⟨q, fun j hj => ?_, hq⟩
      have := hat j hj
      rw [hcs'] at this
      refine Eq.trans ?_ this
      rw [addr_add_add]
    obtain ⟨l, hll, hlp⟩ := list_of len hall
    refine ⟨some a, len, cap, l, hc, by omega, ⟨by rw [flat_len RM.cells 18 RM.cells_len, hll], fun hn => ?_⟩, fun q hq => ?_⟩
    · have h0 := (hlp 0 (by omega)).1 0 (by omega)
      have hsome : (l[0]'(by omega)).cells[0]? = some (.int .i64 (l[0]'(by omega)).e.id) := rfl
      rw [hsome] at h0
      obtain ⟨b, off, spot⟩ := a
      have hspot : spot = none := by simpa [Addr.add] using World.cell?_spot h0
      subst hspot
      refine ⟨b, off, rfl, ?_, fun j hj => ?_⟩
      · simpa [Addr.add] using cell_lt h0
      · rw [flat_len RM.cells 18 RM.cells_len, hll] at hj
        have hq : j / 18 < l.length := by omega
        have hg := flat_get RM.cells 18 RM.cells_len l (j / 18) (j % 18) hq (by omega)
        have hjj : j / 18 * 18 + j % 18 = j := by omega
        rw [hjj] at hg
        have hc2 := (hlp (j / 18) hq).1 (j % 18) (by omega)
        rw [hjj, addr_add, ← hg] at hc2
        rw [hc2]
        exact List.getElem?_eq_getElem _
    · obtain ⟨i, hi', rfl⟩ := List.mem_iff_getElem.1 hq
      exact (hlp i hi').2
end
theorem readable29 : Tryz.prog.readableRec 29 = true := by kernel_rfl
theorem row29 : 29 < Tryz.prog.types.size := of_decide_eq_true (by kernel_rfl)
theorem readable2 : Tryz.prog.readableRec 2 = true := by kernel_rfl
theorem row2 : 2 < Tryz.prog.types.size := of_decide_eq_true (by kernel_rfl)

theorem entryLoads_lifted (os : Os) (started : os.Started) (H : Type) (enc : TypeId × Value → H) :
    ReturnsInHanded {} Tryz.checked os 4 .any (fun w args => (Rows.entryLoadsSpec.pre enc Tryz.prog Tryz.f4 [] false w args ∧ laidMetH Tryz.prog laid3 w) ∧ sizedMet enc Tryz.prog Tryz.f4 (OpenSpec.ofChange Rows.entryLoadsSpec) false w args)
      (Rows.entryLoadsSpec.post enc Tryz.prog Tryz.f4 false true false false) := by
  refine returnsInHanded_of_change_and (C := Tryz.checked) (X := fun w _ => laidMetH Tryz.prog laid3 w) (fun _ _ _ hh h => h.of_heap hh) Tryz.own started (by kernel_rfl) Tryz.func4
    (ChangeSpec.witness_shaped (enc := enc) (C := Tryz.checked) (os := os) (X := fun w _ => laidMetH Tryz.prog laid3 w) false (World.doorLaid Tryz.prog 72 os) #[.slice none 0 0, .int .i64 0, .slice none 0 0] 4 rfl (door_shaped os _) (by kernel_rfl) (by kernel_rfl) (by kernel_rfl) (door_met os _)) ?_
  intro W base args ds gs before hval0 hW _ _ hL _
  have hval : ∀ (j : Nat) t v, Tryz.f4.params[j]? = some t → args[j]? = some v → Value.okWide Tryz.prog W .any base t v := hval0
  have hW' := hW
  obtain ⟨p, q, hA0, hV, rfl, hfz, hnd⟩ := hW
  have hA : DataW.TrodAll enc Tryz.prog W 0 (fun _ => true) true Tryz.f4.params.toList args.toList ds p := hA0
  rw [Tryz.params4] at hA hval
  obtain ⟨v0, v1, v2, d0, d1, d2, p0, p1, p2, rfl, rfl, rfl, h0, h1, h2⟩ := trodAll_three hA
  obtain ⟨rfl, rfl⟩ := trodVars_none hV
  obtain ⟨A, n, c, rfl⟩ := okWide_slice Tryz.underlying29 (hval 0 29 v0 rfl rfl)
  obtain ⟨nx, rfl⟩ : ∃ nx, v1 = .int .i64 nx := okWide_int Tryz.underlying2 (hval 1 2 v1 rfl rfl)
  obtain ⟨A2, n2, c2, rfl⟩ := okWide_slice Tryz.underlying22 (hval 2 22 v2 rfl rfl)
  obtain ⟨fuel, hf⟩ := h0
  obtain ⟨A', n', c', rs, hv, hn, hrd, hin⟩ := read_rms hf
  injection hv with hA' hn' hc'
  subst hA' hn' hc'
  obtain ⟨fuel1, hf1⟩ := h1
  obtain ⟨fuel2, hf2⟩ := h2
  obtain ⟨A2', n2', c2', l, hv2, hn2, hrd2, hok⟩ := read_acts hf2
  injection hv2 with hA2' hn2' hc2'
  subst hA2' hn2' hc2'
  clear hA0 hval0
  simp only [List.append_nil] at hW'
  have hlt : ∀ x ∈ p0 ++ p1 ++ p2, x.block < W.heap.size := fun x hx => hW'.lt x (by simpa using hx)
  refine (entryLoads_any A n c rs nx A2 n2 c2 l W hrd hin (by unfold maxLen at hn; omega) hrd2 hok (by unfold maxLen at hn2; omega) (tb_of_laid hL)).mono fun e W' ⟨he, hb⟩ => ?_
  subst he
  refine ⟨_, rfl, post_of_below (pa := p0 ++ p1 ++ p2) (pv := []) hW' (fun _ _ _ => trodAll_mk1 (shut_bool Tryz.underlying4 _)) (fun sp hsp => ?_) (fun _ _ => rfl) (by simp) hb (ok_one (by kernel_rfl) rfl (okWide_bool_mk Tryz.underlying4 _))⟩
  have t0 := Trod_stays (sp' := sp) Tryz.laidOut readable29 row29 ⟨fuel, hf⟩ (fun x hx => hb.same (hlt x (by simp [hx]))) (fun x hx => hsp x (by simp [hx]))
  have t1 := Trod_stays (sp' := sp) Tryz.laidOut readable2 row2 ⟨fuel1, hf1⟩ (fun x hx => hb.same (hlt x (by simp [hx]))) (fun x hx => hsp x (by simp [hx]))
  have t2 := Trod_stays (sp' := sp) Tryz.laidOut readable22 row22 ⟨fuel2, hf2⟩ (fun x hx => hb.same (hlt x (by simp [hx]))) (fun x hx => hsp x (by simp [hx]))
  rw [Tryz.params4]
  rw [List.append_assoc]
  exact trodAll_mk3 t0 t1 t2

theorem entryLoads_holds : Rows.EntryLoadsSaid :=
  OpenClaim.holds_of_wide 4 Tryz.f4 rfl rfl rfl rfl rfl rfl rfl ⟨rfl, rfl, rfl, rfl, rfl⟩ rfl rfl rfl rfl rfl (by kernel_rfl) Tryz.func4 entryLoads_closed
    (of_decide_eq_true (by kernel_rfl)) (by unfold Func.isWrapper; first | (rw [if_pos (by decide +kernel)]; kernel_rfl) | (rw [if_neg (by decide +kernel)]; exact ⟨rfl, rfl⟩))
    (fun os started H enc _ => entryLoads_lifted os started H enc)

theorem entryLoads_card : Rows.EntryLoadsCardSaid :=
  Claim7.holds_tied_plain_at .later [] [.data, .data, .data] true (true, "5b0aef3aa69949918db60e91b18e6b7676cc05876b04350682325e20c0d092c1") true
    entryLoads_holds (fun _ h => by cases h) (by kernel_rfl) (fun _ h => by cases h) entryLoads_row_tie rfl ⟨rfl, rfl⟩ (by kernel_rfl) rfl
    (fun f fn hf hfn => by
      obtain rfl : f = 4 := Option.some.inj ((show Tryz.prog.funcNamed "mandoline/mandolinelaw42.EntryLoads" = some 4 by kernel_rfl).symm.trans hf) |>.symm
      obtain rfl : fn = Tryz.f4 := (Option.some.inj (Tryz.func4.symm.trans hfn)).symm
      exact ⟨by kernel_rfl, fun j t ht => by
        rw [Tryz.params4] at ht
        have hm : t ∈ [29, 2, 22] := by simpa using Array.mem_of_getElem? ht
        have hall : ([29, 2, 22].all fun u => !Tryz.prog.wantsStandIn u) = true := by kernel_rfl
        exact (show Tryz.prog.wantsStandIn t = false by simpa using List.all_eq_true.1 hall t hm)⟩)
    (by kernel_rfl)
#print axioms entryLoads_card
end Go.Proofs.YtoaiamgcegnjjaaGreatDoor
