/- ScrubHeals returns true, whatever the arguments; they read as they did: the tied card. No condition beyond the card's own. -/
import Derived.Test.YtmgmfnimaafkdaaGreatDoorZYN
import Derived.Test.YtmgmfnimaafkdaaGreatDoorUA
import Derived.Test.YtmgmfnimaafkdaaGreatDoorXU
namespace Go.Proofs.YtmgmfnimaafkdaaGreatDoor
open Go.ChangeShapes Go.WideShapes Go.ChangeAt Go.WideMaps Go.WideElems Go.RowKit
set_option maxRecDepth 100000

theorem scrubHeals_fact1 : (Rows.scrubHealsRow.inPlace == Program.inPlace Tryz.pinned.checked.prog 12) = true := by kernel_rfl
theorem scrubHeals_fact2 : (Rows.scrubHealsRow.unfollowed == Program.unfollowed Tryz.pinned.checked.prog 12) = true := by kernel_rfl
theorem scrubHeals_fact3 : (Rows.scrubHealsRow.recurses == Program.recurses Tryz.pinned.checked.prog 12) = true := by kernel_rfl
theorem scrubHeals_fact4 : (Rows.scrubHealsRow.named == Program.varsNamed Tryz.pinned.checked.prog 12) = true := by kernel_rfl
theorem scrubHeals_closed : joinedFacts Tryz.pinned.checked.prog 12 Tryz.f12 Rows.scrubHealsSpec Rows.scrubHealsRow = true := by
 unfold joinedFacts
 rw [scrubHeals_fact1, scrubHeals_fact2, scrubHeals_fact3, scrubHeals_fact4]
 kernel_rfl
theorem scrubHeals_readable91 : Tryz.prog.readableRec 91 = true := by kernel_rfl
theorem scrubHeals_row91 : 91 < Tryz.prog.types.size := of_decide_eq_true (by kernel_rfl)
theorem scrubHeals_lifted (os : Os) (started : os.Started) (H : Type) (enc : TypeId × Value → H) :
  ReturnsInHanded {} Tryz.checked os 12 .any (fun w args => (Rows.scrubHealsSpec.pre enc Tryz.prog Tryz.f12 [] false w args ∧ laidMetH Tryz.prog laid8 w) ∧ sizedMet enc Tryz.prog Tryz.f12 (OpenSpec.ofChange Rows.scrubHealsSpec) false w args)
   (Rows.scrubHealsSpec.post enc Tryz.prog Tryz.f12 false true false false) := by
 refine handed_and_shaped (C := Tryz.checked) (X := fun w _ => laidMetH Tryz.prog laid8 w) (fun _ _ _ hh h => h.of_heap hh) Tryz.own started (by kernel_rfl) Tryz.func12
  (ChangeSpec.witness_shaped (enc := enc) (C := Tryz.checked) (os := os) (X := fun w _ => laidMetH Tryz.prog laid8 w) false (World.laidAll Tryz.prog os laid8) #[.slice none 0 0] 8 (World.laidAll_os _ _ _)
   (World.shaped_of_ZipB (by kernel_rfl) (by kernel_rfl)) (by kernel_rfl) (by kernel_rfl) (by kernel_rfl)
   (by rw [MakeChecks.laidMetH_plain _ _ _ (by kernel_rfl)]; exact laidMet_laidAll _ (by kernel_rfl) (by kernel_rfl))) ?_
 intro W base args ds gs before hval0 hW _ _ hL
 have hval : ∀ (j : Nat) t v, Tryz.f12.params[j]? = some t → args[j]? = some v → Value.okWide Tryz.prog W .any base t v := hval0
 have hW' := hW
 obtain ⟨p, q, hA0, hV, rfl, hfz, hnd⟩ := hW
 have hA : DataW.TrodAll enc Tryz.prog W 0 (fun _ => true) true Tryz.f12.params.toList args.toList ds p := hA0
 rw [Tryz.params12] at hA hval
 obtain ⟨v0, d0, rfl, rfl, h0⟩ := trodAll_one hA
 obtain ⟨rfl, rfl⟩ := trodVars_none hV
 obtain ⟨A, n, c, rfl⟩ := okWide_slice Tryz.underlying91 (hval 0 91 v0 rfl rfl)
 obtain ⟨fuel, hf⟩ := h0
 obtain ⟨A', c', l, hv, hrd, hok⟩ := read_ops Tryz.underlying91 hf
 injection hv with hA' hn' hc'
 subst hA' hn' hc'
 clear hA0 hval0
 simp only [List.append_nil] at hW'
 have hlt : ∀ x ∈ p, x.block < W.heap.size := fun x hx => hW'.lt x hx
 refine (scrubHeals_any (tabs_of_laid hL).1 (tabs_of_laid hL).2 A l.length c l hrd hok).mono fun e W' ⟨he, hb⟩ => ?_
 subst he
 refine ⟨_, rfl, post_of_below (pa := p) (pv := []) hW' (fun _ _ _ => trodAll_mk1 (shut_bool Tryz.underlying4 _)) (fun sp hsp => ?_) (fun _ _ => rfl) (by simp) hb (ok_one (by kernel_rfl) rfl (okWide_bool_mk Tryz.underlying4 _))⟩
 have := Trod_stays (sp' := sp) Tryz.laidOut scrubHeals_readable91 scrubHeals_row91 ⟨fuel, hf⟩ (fun x hx => hb.same (hlt x hx)) (fun x hx => hsp x hx)
 rw [Tryz.params12]
 exact trodAll_mk1 this
theorem scrubHeals_holds : Rows.ScrubHealsSaid :=
 OpenClaim.holds_of_wide 12 Tryz.f12 rfl rfl rfl rfl rfl rfl rfl ⟨rfl, rfl, rfl, rfl, rfl⟩ rfl rfl rfl rfl rfl (by as_aux_lemma => kernel_rfl) Tryz.func12 scrubHeals_closed
  (of_decide_eq_true (by as_aux_lemma => kernel_rfl)) (by unfold Func.isWrapper; first | (rw [if_pos (by decide +kernel)]; kernel_rfl) | (rw [if_neg (by decide +kernel)]; exact ⟨rfl, rfl⟩))
  (fun os started H enc _ => scrubHeals_lifted os started H enc)
theorem scrubHeals_card : Rows.ScrubHealsCardSaid :=
 Claim7.holds_tied_plain_at .later [] [.data, .data, .data, .data, .data, .sentinel, .sentinel, .pinned] true (true, "209465126921618adcba03cc87c42158259f8c7376558b035b250d64474314ce") true
  scrubHeals_holds (fun _ h => by cases h) (by as_aux_lemma => kernel_rfl) (fun _ h => by cases h) scrubHeals_row_tie rfl ⟨rfl, rfl⟩ (by as_aux_lemma => kernel_rfl) rfl
  (fun f fn hf hfn => by
   obtain rfl : f = 12 := Option.some.inj ((show Tryz.prog.funcNamed "mandoline/mandolinelaw24.ScrubHeals" = some 12 by as_aux_lemma => kernel_rfl).symm.trans hf) |>.symm
   obtain rfl : fn = Tryz.f12 := (Option.some.inj (Tryz.func12.symm.trans hfn)).symm
   exact ⟨by as_aux_lemma => kernel_rfl, fun j t ht => by
    rw [Tryz.params12] at ht
    have hm : t ∈ [91] := by simpa using Array.mem_of_getElem? ht
    have hall : ([91].all fun u => !Tryz.prog.wantsStandIn u) = true := by kernel_rfl
    exact (show Tryz.prog.wantsStandIn t = false by simpa using List.all_eq_true.1 hall t hm)⟩)
  (by as_aux_lemma => kernel_rfl)
#print axioms scrubHeals_card
end Go.Proofs.YtmgmfnimaafkdaaGreatDoor
