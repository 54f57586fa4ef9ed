/- ScrubRound returns true, whatever the arguments; they read as they did: the tied card. No condition beyond the card's own. -/
import Derived.Test.YtmgmfnimaafkdaaGreatDoorZYU
import Derived.Test.YtmgmfnimaafkdaaGreatDoorUA
import Derived.Test.YtmgmfnimaafkdaaGreatDoorXU
namespace Go.Proofs.YtmgmfnimaafkdaaGreatDoor
open Go.ChangeShapes Go.WideShapes Go.ChangeAt Go.WideMaps Go.WideElems Go.RowKit
set_option maxRecDepth 100000

theorem scrubRound_fact1 : (Rows.scrubRoundRow.inPlace == Program.inPlace Tryz.pinned.checked.prog 10) = true := by kernel_rfl
theorem scrubRound_fact2 : (Rows.scrubRoundRow.unfollowed == Program.unfollowed Tryz.pinned.checked.prog 10) = true := by kernel_rfl
theorem scrubRound_fact3 : (Rows.scrubRoundRow.recurses == Program.recurses Tryz.pinned.checked.prog 10) = true := by kernel_rfl
theorem scrubRound_fact4 : (Rows.scrubRoundRow.named == Program.varsNamed Tryz.pinned.checked.prog 10) = true := by kernel_rfl
theorem scrubRound_closed : joinedFacts Tryz.pinned.checked.prog 10 Tryz.f10 Rows.scrubRoundSpec Rows.scrubRoundRow = true := by
 unfold joinedFacts
 rw [scrubRound_fact1, scrubRound_fact2, scrubRound_fact3, scrubRound_fact4]
 kernel_rfl
theorem scrubRound_readable91 : Tryz.prog.readableRec 91 = true := by kernel_rfl
theorem scrubRound_row91 : 91 < Tryz.prog.types.size := of_decide_eq_true (by kernel_rfl)
theorem scrubRound_readable73 : Tryz.prog.readableRec 73 = true := by kernel_rfl
theorem scrubRound_row73 : 73 < Tryz.prog.types.size := of_decide_eq_true (by kernel_rfl)
theorem scrubRound_readable3 : Tryz.prog.readableRec 3 = true := by kernel_rfl
theorem scrubRound_row3 : 3 < Tryz.prog.types.size := of_decide_eq_true (by kernel_rfl)
theorem scrubRound_lifted (os : Os) (started : os.Started) (H : Type) (enc : TypeId × Value → H) :
  ReturnsInHanded {} Tryz.checked os 10 .any (fun w args => (Rows.scrubRoundSpec.pre enc Tryz.prog Tryz.f10 [] false w args ∧ laidMetH Tryz.prog laid8 w) ∧ sizedMet enc Tryz.prog Tryz.f10 (OpenSpec.ofChange Rows.scrubRoundSpec) false w args)
   (Rows.scrubRoundSpec.post enc Tryz.prog Tryz.f10 false true false false) := by
 refine handed_and_shaped (C := Tryz.checked) (X := fun w _ => laidMetH Tryz.prog laid8 w) (fun _ _ _ hh h => h.of_heap hh) Tryz.own started (by kernel_rfl) Tryz.func10
  (ChangeSpec.witness_shaped (enc := enc) (C := Tryz.checked) (os := os) (X := fun w _ => laidMetH Tryz.prog laid8 w) false (World.laidAll Tryz.prog os laid8) #[.slice none 0 0, .agg #[.int .i64 0, .int .i64 0], .int .i64 0] 8 (World.laidAll_os _ _ _)
   (World.shaped_of_ZipB (by kernel_rfl) (by kernel_rfl)) (by kernel_rfl) (by kernel_rfl) (by kernel_rfl)
   (by rw [MakeChecks.laidMetH_plain _ _ _ (by kernel_rfl)]; exact laidMet_laidAll _ (by kernel_rfl) (by kernel_rfl))) ?_
 intro W base args ds gs before hval0 hW _ _ hL
 have hval : ∀ (j : Nat) t v, Tryz.f10.params[j]? = some t → args[j]? = some v → Value.okWide Tryz.prog W .any base t v := hval0
 have hW' := hW
 obtain ⟨p, q, hA0, hV, rfl, hfz, hnd⟩ := hW
 have hA : DataW.TrodAll enc Tryz.prog W 0 (fun _ => true) true Tryz.f10.params.toList args.toList ds p := hA0
 rw [Tryz.params10] at hA hval
 obtain ⟨v0, v1, v2, d0, d1, d2, p0, p1, p2, rfl, rfl, rfl, h0, h1, h2⟩ := trodAll_three hA
 obtain ⟨rfl, rfl⟩ := trodVars_none hV
 obtain ⟨A, n, c, rfl⟩ := okWide_slice Tryz.underlying91 (hval 0 91 v0 rfl rfl)
 obtain ⟨cs, rfl, hsz⟩ := okWide_struct Tryz.underlying73 (hval 1 73 v1 rfl rfl)
 obtain ⟨b, rfl⟩ : ∃ b, v2 = .int .i64 b := okWide_int Tryz.underlying3 (hval 2 3 v2 rfl rfl)
 obtain ⟨fuel, hf⟩ := h0
 obtain ⟨fuel1, hf1⟩ := h1
 obtain ⟨fuel2, hf2⟩ := h2
 obtain ⟨A', c', l, hv, hrd, hok⟩ := read_ops Tryz.underlying91 hf
 injection hv with hA' hn' hc'
 subst hA' hn' hc'
 obtain ⟨⟨f1, f2⟩, hcs, _, _⟩ := read_name hf1
 have hcs' : cs = #[.int .i64 f1, .int .i64 f2] := Array.toList_inj.1 (by simpa [Value.cells, nameRow] using hcs)
 subst hcs'
 clear hA0 hval0
 simp only [List.append_nil] at hW'
 have hlt : ∀ x ∈ p0 ++ p1 ++ p2, x.block < W.heap.size := fun x hx => hW'.lt x (by simpa using hx)
 refine (scrubRound_any (tabs_of_laid hL).1 (tabs_of_laid hL).2 A l.length c l hrd hok f1 f2 b).mono fun e W' ⟨he, hb⟩ => ?_
 subst he
 refine ⟨_, rfl, post_of_below (pa := p0 ++ p1 ++ p2) (pv := []) hW' (fun _ _ _ => trodAll_mk1 (shut_bool Tryz.underlying4 _)) (fun sp hsp => ?_) (fun _ _ => rfl) (by simp) hb (ok_one (by kernel_rfl) rfl (okWide_bool_mk Tryz.underlying4 _))⟩
 have t0 := Trod_stays (sp' := sp) Tryz.laidOut scrubRound_readable91 scrubRound_row91 ⟨fuel, hf⟩ (fun x hx => hb.same (hlt x (by simp [hx]))) (fun x hx => hsp x (by simp [hx]))
 have t1 := Trod_stays (sp' := sp) Tryz.laidOut scrubRound_readable73 scrubRound_row73 ⟨fuel1, hf1⟩ (fun x hx => hb.same (hlt x (by simp [hx]))) (fun x hx => hsp x (by simp [hx]))
 have t2 := Trod_stays (sp' := sp) Tryz.laidOut scrubRound_readable3 scrubRound_row3 ⟨fuel2, hf2⟩ (fun x hx => hb.same (hlt x (by simp [hx]))) (fun x hx => hsp x (by simp [hx]))
 rw [Tryz.params10]
 rw [List.append_assoc]
 exact trodAll_mk3 t0 t1 t2
theorem scrubRound_holds : Rows.ScrubRoundSaid :=
 OpenClaim.holds_of_wide 10 Tryz.f10 rfl rfl rfl rfl rfl rfl rfl ⟨rfl, rfl, rfl, rfl, rfl⟩ rfl rfl rfl rfl rfl (by as_aux_lemma => kernel_rfl) Tryz.func10 scrubRound_closed
  (of_decide_eq_true (by as_aux_lemma => kernel_rfl)) (by unfold Func.isWrapper; first | (rw [if_pos (by decide +kernel)]; kernel_rfl) | (rw [if_neg (by decide +kernel)]; exact ⟨rfl, rfl⟩))
  (fun os started H enc _ => scrubRound_lifted os started H enc)
theorem scrubRound_card : Rows.ScrubRoundCardSaid :=
 Claim7.holds_tied_plain_at .later [] [.data, .data, .data, .data, .data, .sentinel, .sentinel, .pinned] true (true, "209465126921618adcba03cc87c42158259f8c7376558b035b250d64474314ce") true
  scrubRound_holds (fun _ h => by cases h) (by as_aux_lemma => kernel_rfl) (fun _ h => by cases h) scrubRound_row_tie rfl ⟨rfl, rfl⟩ (by as_aux_lemma => kernel_rfl) rfl
  (fun f fn hf hfn => by
   obtain rfl : f = 10 := Option.some.inj ((show Tryz.prog.funcNamed "mandoline/mandolinelaw24.ScrubRound" = some 10 by as_aux_lemma => kernel_rfl).symm.trans hf) |>.symm
   obtain rfl : fn = Tryz.f10 := (Option.some.inj (Tryz.func10.symm.trans hfn)).symm
   exact ⟨by as_aux_lemma => kernel_rfl, fun j t ht => by
    rw [Tryz.params10] at ht
    have hm : t ∈ [91, 73, 3] := by simpa using Array.mem_of_getElem? ht
    have hall : ([91, 73, 3].all fun u => !Tryz.prog.wantsStandIn u) = true := by kernel_rfl
    exact (show Tryz.prog.wantsStandIn t = false by simpa using List.all_eq_true.1 hall t hm)⟩)
  (by as_aux_lemma => kernel_rfl)
#print axioms scrubRound_card
end Go.Proofs.YtmgmfnimaafkdaaGreatDoor
