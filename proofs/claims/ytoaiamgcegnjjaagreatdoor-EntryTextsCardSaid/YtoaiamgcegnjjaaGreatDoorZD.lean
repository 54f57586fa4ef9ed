/- EntryTexts returns true, whatever the entry; what came in reads as it did: the tied card. No condition beyond the card's own. -/
import Derived.Test.YtoaiamgcegnjjaaGreatDoorZA
import Derived.Test.YtoaiamgcegnjjaaGreatDoorZC
import Derived.Test.YtoaiamgcegnjjaaGreatDoorUR
namespace Go.Proofs.YtoaiamgcegnjjaaGreatDoor
open Go.ChangeShapes Go.WideShapes Go.ChangeAt Go.WideMaps Go.WideElems Go.RowKit Go.Deep
set_option maxRecDepth 100000

theorem Tryz.cells54z : Tryz.prog.cellsOf 54 = 18 := by kernel_rfl
theorem Tryz.cells52z : Tryz.prog.cellsOf 52 = 1 := by kernel_rfl
section
variable {H : Type} {enc : TypeId × Value → H} {w : World} {base : Nat} {spare : Nat → Bool} {held : Bool}
theorem read_rm2 {fuel : Nat} {cs : List Value} {x : DataW H × List MemPlace} (h : DataW.trod enc Tryz.prog w base spare held fuel 54 cs = some x) : ∃ r : RM, cs = r.cells ∧ Strs w w.heap.size r.kA r.kn r.e.M.ks ∧ r.kn ≤ r.kc ∧ r.e.M.Sz := by
  have hl : cs.length = 18 := (fld_len Tryz.underlying54 h).trans Tryz.cells54z
  match cs, hl with
  | [c0, c1, c2, c3, c4, c5, c6, c7, c8, c9, c10, c11, c12, c13, c14, c15, c16, c17], _ =>
    obtain ⟨_, _, h0⟩ := fld Tryz.underlying54 h 0 2 0 _ rfl Tryz.cells2
    obtain ⟨_, _, h1⟩ := fld Tryz.underlying54 h 1 9 1 _ rfl Tryz.cells9
    obtain ⟨_, _, h2⟩ := fld Tryz.underlying54 h 2 39 2 _ rfl Tryz.cells39
    obtain ⟨_, _, h3⟩ := fld Tryz.underlying54 h 3 2 13 _ rfl Tryz.cells2
    obtain ⟨_, _, h4⟩ := fld Tryz.underlying54 h 4 2 14 _ rfl Tryz.cells2
    obtain ⟨_, _, h5⟩ := fld Tryz.underlying54 h 5 2 15 _ rfl Tryz.cells2
    obtain ⟨_, _, h6⟩ := fld Tryz.underlying54 h 6 4 16 _ rfl Tryz.cells4
    obtain ⟨_, _, h7⟩ := fld Tryz.underlying54 h 7 52 17 _ rfl Tryz.cells52z
    clear h
    simp only [List.drop_zero, List.drop_succ_cons, List.take_succ_cons, List.take_zero] at h0 h1 h2 h3 h4 h5 h6 h7
    obtain ⟨id, rfl, _⟩ := read_int2 h0
    obtain ⟨obj, rfl, _⟩ := read_str9 h1
    obtain ⟨M, A, n, c, e1, hnc, hcm, hst, hM⟩ := read_meta h2
    simp only [List.cons.injEq, and_true] at e1
    obtain ⟨rfl, rfl, rfl, rfl, rfl, rfl, rfl, rfl, rfl, rfl, rfl⟩ := e1
    obtain ⟨said, rfl, _⟩ := read_int2 h3
    obtain ⟨mom, rfl, _⟩ := read_int2 h4
    obtain ⟨gen, rfl, _⟩ := read_int2 h5
    obtain ⟨last, rfl⟩ := read_bool4 h6
    have hsz : M.Sz := ⟨by have := hM.t; unfold maxLen at this; omega, by have := hM.ten; unfold maxLen at this; omega, fun s hs => by have := hM.ks s hs; unfold maxLen at this; omega⟩
    rcases open_slice Tryz.underlying52 h7 with ⟨hc, _⟩ | ⟨a, len, cap, m, n', D, Pl, hc, _⟩
    · injection hc with hc
      exact ⟨⟨⟨id, obj, M, said, mom, gen, last, []⟩, A, n, c, none, 0, 0⟩, by rw [hc]; rfl, hst, hnc, hsz⟩
    · injection hc with hc
      exact ⟨⟨⟨id, obj, M, said, mom, gen, last, []⟩, A, n, c, some a, len, cap⟩, by rw [hc]; rfl, hst, hnc, hsz⟩
end

theorem readable54z : Tryz.prog.readableRec 54 = true := by kernel_rfl
theorem row54z : 54 < Tryz.prog.types.size := of_decide_eq_true (by kernel_rfl)

theorem entryTexts_lifted (os : Os) (started : os.Started) (H : Type) (enc : TypeId × Value → H) :
    ReturnsInHanded {} Tryz.checked os 9 .any (fun w args => (Rows.entryTextsSpec.pre enc Tryz.prog Tryz.f9 [] false w args ∧ laidMetH Tryz.prog laid7 w) ∧ sizedMet enc Tryz.prog Tryz.f9 (OpenSpec.ofChange Rows.entryTextsSpec) false w args)
      (Rows.entryTextsSpec.post enc Tryz.prog Tryz.f9 false true false false) := by
  refine handed_and_shaped (C := Tryz.checked) (X := fun w _ => laidMetH Tryz.prog laid7 w) (fun _ _ _ hh h => h.of_heap hh) Tryz.own started (by kernel_rfl) Tryz.func9
    (ChangeSpec.witness_shaped (enc := enc) (C := Tryz.checked) (os := os) (X := fun w _ => laidMetH Tryz.prog laid7 w) false (World.laidAll Tryz.prog os laid7) #[.agg zero54] 8 (World.laidAll_os _ _ _)
      (World.shaped_of_ZipB (by kernel_rfl) (by kernel_rfl)) (by kernel_rfl) (by kernel_rfl) (by kernel_rfl)
      (by rw [MakeChecks.laidMetH_plain _ _ _ (by kernel_rfl)]; exact laidMet_laidAll _ (by kernel_rfl) (by kernel_rfl))) ?_
  intro W base args ds gs before hval0 hW _ hsh hL
  have hval : ∀ (j : Nat) t v, Tryz.f9.params[j]? = some t → args[j]? = some v → Value.okWide Tryz.prog W .any base t v := hval0
  have hW' := hW
  obtain ⟨p, q, hA0, hV, rfl, hfz, hnd⟩ := hW
  have hA : DataW.TrodAll enc Tryz.prog W 0 (fun _ => true) true Tryz.f9.params.toList args.toList ds p := hA0
  rw [Tryz.params9] at hA hval
  obtain ⟨v0, d0, rfl, rfl, h0⟩ := trodAll_one hA
  obtain ⟨rfl, rfl⟩ := trodVars_none hV
  obtain ⟨cs, rfl, hcz⟩ := okWide_struct Tryz.underlying54 (hval 0 54 v0 rfl rfl)
  obtain ⟨fuel, hf⟩ := h0
  obtain ⟨r, hcs, hst, hnc, hsz⟩ := read_rm2 hf
  have hcs' : cs = r.row := Array.toList_inj.1 (by simpa [Value.cells, RM.cells] using hcs)
  subst hcs'
  clear hA0 hval0
  simp only [List.append_nil] at hW'
  have hlt : ∀ x ∈ p, x.block < W.heap.size := fun x hx => hW'.lt x hx
  refine (entryTexts_any r W hst hnc hsz (gv_of_laid hL hsh)).mono fun e W' ⟨he, hb⟩ => ?_
  subst he
  refine ⟨_, rfl, post_of_below (pa := p) (pv := []) hW' (fun _ _ _ => trodAll_mk1 (shut_bool Tryz.underlying4 _)) (fun sp hsp => ?_) (fun _ _ => rfl) (by simp) hb (ok_one (by kernel_rfl) rfl (okWide_bool_mk Tryz.underlying4 _))⟩
  have t0 := Trod_stays (sp' := sp) Tryz.laidOut readable54z row54z ⟨fuel, hf⟩ (fun x hx => hb.same (hlt x hx)) (fun x hx => hsp x hx)
  rw [Tryz.params9]
  exact trodAll_mk1 t0

theorem entryTexts_holds : Rows.EntryTextsSaid :=
  OpenClaim.holds_of_wide 9 Tryz.f9 rfl rfl rfl rfl rfl rfl rfl ⟨rfl, rfl, rfl, rfl, rfl⟩ rfl rfl rfl rfl rfl (by kernel_rfl) Tryz.func9 entryTexts_closed
    (of_decide_eq_true (by kernel_rfl)) (by unfold Func.isWrapper; first | (rw [if_pos (by decide +kernel)]; kernel_rfl) | (rw [if_neg (by decide +kernel)]; exact ⟨rfl, rfl⟩))
    (fun os started H enc _ => entryTexts_lifted os started H enc)

theorem entryTexts_card : Rows.EntryTextsCardSaid :=
  Claim7.holds_tied_plain_at .later [] [.data, .data, .data, .data, .sentinel, .sentinel, .pinned] true (true, "5b0aef3aa69949918db60e91b18e6b7676cc05876b04350682325e20c0d092c1") true
    entryTexts_holds (fun _ h => by cases h) (by kernel_rfl) (fun _ h => by cases h) entryTexts_row_tie rfl ⟨rfl, rfl⟩ (by kernel_rfl) rfl
    (fun f fn hf hfn => by
      obtain rfl : f = 9 := Option.some.inj ((show Tryz.prog.funcNamed "mandoline/mandolinelaw42.EntryTexts" = some 9 by kernel_rfl).symm.trans hf) |>.symm
      obtain rfl : fn = Tryz.f9 := (Option.some.inj (Tryz.func9.symm.trans hfn)).symm
      exact ⟨by kernel_rfl, fun j t ht => by
        rw [Tryz.params9] at ht
        have hm : t ∈ [54] := by simpa using Array.mem_of_getElem? ht
        have hall : ([54].all fun u => !Tryz.prog.wantsStandIn u) = true := by kernel_rfl
        exact (show Tryz.prog.wantsStandIn t = false by simpa using List.all_eq_true.1 hall t hm)⟩)
    (by kernel_rfl)
#print axioms entryTexts_card
end Go.Proofs.YtoaiamgcegnjjaaGreatDoor
