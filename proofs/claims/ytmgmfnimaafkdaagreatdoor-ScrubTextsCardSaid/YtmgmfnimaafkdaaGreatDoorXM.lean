/- ScrubTexts returns true, whatever the arguments; they read as they did: the tied card. No condition beyond the card's own.  -/
import Derived.Test.YtmgmfnimaafkdaaGreatDoorXL
import Derived.Test.YtmgmfnimaafkdaaGreatDoorUA
import Derived.Test.YtmgmfnimaafkdaaGreatDoorXJ
namespace Go.Proofs.YtmgmfnimaafkdaaGreatDoor
open Go.ChangeShapes Go.WideShapes Go.ChangeAt Go.WideMaps Go.WideElems Go.RowKit
set_option maxRecDepth 100000

theorem scrubTexts_fact1 : (Rows.scrubTextsRow.inPlace == Program.inPlace Tryz.pinned.checked.prog 13) = true := by kernel_rfl
theorem scrubTexts_fact2 : (Rows.scrubTextsRow.unfollowed == Program.unfollowed Tryz.pinned.checked.prog 13) = true := by kernel_rfl
theorem scrubTexts_fact3 : (Rows.scrubTextsRow.recurses == Program.recurses Tryz.pinned.checked.prog 13) = true := by kernel_rfl
theorem scrubTexts_fact4 : (Rows.scrubTextsRow.named == Program.varsNamed Tryz.pinned.checked.prog 13) = true := by kernel_rfl
theorem scrubTexts_closed : joinedFacts Tryz.pinned.checked.prog 13 Tryz.f13 Rows.scrubTextsSpec Rows.scrubTextsRow = true := by
  unfold joinedFacts
  rw [scrubTexts_fact1, scrubTexts_fact2, scrubTexts_fact3, scrubTexts_fact4]
  kernel_rfl
theorem scrubTexts_readable96 : Tryz.prog.readableRec 96 = true := by kernel_rfl
theorem scrubTexts_row96 : 96 < Tryz.prog.types.size := of_decide_eq_true (by kernel_rfl)
theorem scrubTexts_lifted (os : Os) (started : os.Started) (H : Type) (enc : TypeId × Value → H) :
    ReturnsInHanded {} Tryz.checked os 13 .any (fun w args => (Rows.scrubTextsSpec.pre enc Tryz.prog Tryz.f13 [] false w args ∧ laidMetH Tryz.prog laid8 w) ∧ sizedMet enc Tryz.prog Tryz.f13 (OpenSpec.ofChange Rows.scrubTextsSpec) false w args)
      (Rows.scrubTextsSpec.post enc Tryz.prog Tryz.f13 false true false false) := by
  refine handed_and_sized (C := Tryz.checked) (X := fun w _ => laidMetH Tryz.prog laid8 w) (fun _ _ _ hh h => h.of_heap hh) Tryz.own started (by kernel_rfl) Tryz.func13
    (ChangeSpec.witness_shaped (enc := enc) (C := Tryz.checked) (os := os) (X := fun w _ => laidMetH Tryz.prog laid8 w) false (World.laidAll Tryz.prog os laid8) #[.agg #[.slice none 0 0, .slice none 0 0, .slice none 0 0, .slice none 0 0]] 8 (World.laidAll_os _ _ _)
      (World.shaped_of_ZipB (by kernel_rfl) (by kernel_rfl)) (by kernel_rfl) (by kernel_rfl) (by kernel_rfl)
      (by rw [MakeChecks.laidMetH_plain _ _ _ (by kernel_rfl)]; exact laidMet_laidAll _ (by kernel_rfl) (by kernel_rfl))) ?_
  intro W base args ds gs before hval0 hW hwt _ hL
  have hval : ∀ (j : Nat) t v, Tryz.f13.params[j]? = some t → args[j]? = some v → Value.okWide Tryz.prog W .any base t v := hval0
  have hW' := hW
  obtain ⟨p, q, hA0, hV, rfl, hfz, hnd⟩ := hW
  have hA : DataW.TrodAll enc Tryz.prog W 0 (fun _ => true) true Tryz.f13.params.toList args.toList ds p := hA0
  rw [Tryz.params13] at hA hval
  obtain ⟨v0, d0, rfl, rfl, h0⟩ := trodAll_one hA
  obtain ⟨rfl, rfl⟩ := trodVars_none hV
  obtain ⟨cs, rfl, hsz⟩ := okWide_struct Tryz.underlying96 (hval 0 96 v0 rfl rfl)
  obtain ⟨fuel, hf⟩ := h0
  obtain ⟨A1, c1, A2, c2, A3, c3, A4, c4, g, b, ls, bs, hcs, a1, a2, a3, a4, b1, b2, b3, b4, hz⟩ := read_report hf
  obtain ⟨z1, z2, z3, z4⟩ := hz (fun q hq => by
    have := List.all_eq_true.1 hwt q (DataW.weights_mem_each (j := 0) (t := 96) (by rw [Tryz.params13]; rfl) rfl q hq)
    simpa using this)
  have hcs' : cs = #[.slice A1 g.length c1, .slice A2 b.length c2, .slice A3 ls.length c3, .slice A4 bs.length c4] := Array.toList_inj.1 (by simpa [Value.cells] using hcs)
  subst hcs'
  clear hA0 hval0
  simp only [List.append_nil] at hW'
  have hlt : ∀ x ∈ p, x.block < W.heap.size := fun x hx => hW'.lt x hx
  unfold reachBytes at z1 z2 z3 z4
  refine (scrubTexts_any (tabs_of_laid hL).1 (tabs_of_laid hL).2 g b ls bs A1 A2 A3 A4 c1 c2 c3 c4 a1 a2 a3 a4 b1 b2 b3 b4 (by omega) (by omega) (by omega) (by omega)).mono fun e W' ⟨he, hb⟩ => ?_
  subst he
  refine ⟨_, rfl, post_of_below (pa := p) (pv := []) hW' (fun _ _ _ => trodAll_mk1 (shut_bool Tryz.underlying4 _)) (fun sp hsp => ?_) (fun _ _ => rfl) (by simp) hb (ok_one (by kernel_rfl) rfl (okWide_bool_mk Tryz.underlying4 _))⟩
  have := Trod_stays (sp' := sp) Tryz.laidOut scrubTexts_readable96 scrubTexts_row96 ⟨fuel, hf⟩ (fun x hx => hb.same (hlt x hx)) (fun x hx => hsp x hx)
  rw [Tryz.params13]
  exact trodAll_mk1 this
theorem scrubTexts_holds : Rows.ScrubTextsSaid :=
  OpenClaim.holds_of_wide 13 Tryz.f13 rfl rfl rfl rfl rfl rfl rfl ⟨rfl, rfl, rfl, rfl, rfl⟩ rfl rfl rfl rfl rfl (by as_aux_lemma => kernel_rfl) Tryz.func13 scrubTexts_closed
    (of_decide_eq_true (by as_aux_lemma => kernel_rfl)) (by unfold Func.isWrapper; first | (rw [if_pos (by decide +kernel)]; kernel_rfl) | (rw [if_neg (by decide +kernel)]; exact ⟨rfl, rfl⟩))
    (fun os started H enc _ => scrubTexts_lifted os started H enc)
theorem scrubTexts_card : Rows.ScrubTextsCardSaid :=
  Claim7.holds_tied_plain_at .later [] [.data, .data, .data, .data, .data, .sentinel, .sentinel, .pinned] true (true, "209465126921618adcba03cc87c42158259f8c7376558b035b250d64474314ce") true
    scrubTexts_holds (fun _ h => by cases h) (by as_aux_lemma => kernel_rfl) (fun _ h => by cases h) scrubTexts_row_tie rfl ⟨rfl, rfl⟩ (by as_aux_lemma => kernel_rfl) rfl
    (fun f fn hf hfn => by
      obtain rfl : f = 13 := Option.some.inj ((show Tryz.prog.funcNamed "mandoline/mandolinelaw24.ScrubTexts" = some 13 by as_aux_lemma => kernel_rfl).symm.trans hf) |>.symm
      obtain rfl : fn = Tryz.f13 := (Option.some.inj (Tryz.func13.symm.trans hfn)).symm
      exact ⟨by as_aux_lemma => kernel_rfl, fun j t ht => by
        rw [Tryz.params13] at ht
        have hm : t ∈ [96] := by simpa using Array.mem_of_getElem? ht
        have hall : ([96].all fun u => !Tryz.prog.wantsStandIn u) = true := by kernel_rfl
        exact (show Tryz.prog.wantsStandIn t = false by simpa using List.all_eq_true.1 hall t hm)⟩)
    (by as_aux_lemma => kernel_rfl)
#print axioms scrubTexts_card
end Go.Proofs.YtmgmfnimaafkdaaGreatDoor
