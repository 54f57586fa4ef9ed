/- StoreRots returns true, whatever the arguments; they read as they did: the tied card. No condition beyond the card's own.  -/
import Derived.Test.YtmgmfnimaafkdaaGreatDoorUN
import Derived.Test.YtmgmfnimaafkdaaGreatDoorUA
import Derived.Test.YtmgmfnimaafkdaaGreatDoorUO
namespace Go.Proofs.YtmgmfnimaafkdaaGreatDoor
open Go.ChangeShapes Go.WideShapes Go.ChangeAt Go.WideMaps Go.WideElems Go.RowKit
set_option maxRecDepth 100000

theorem storeRots_fact1 : (Rows.storeRotsRow.inPlace == Program.inPlace Tryz.pinned.checked.prog 8) = true := by kernel_rfl
theorem storeRots_fact2 : (Rows.storeRotsRow.unfollowed == Program.unfollowed Tryz.pinned.checked.prog 8) = true := by kernel_rfl
theorem storeRots_fact3 : (Rows.storeRotsRow.recurses == Program.recurses Tryz.pinned.checked.prog 8) = true := by kernel_rfl
theorem storeRots_fact4 : (Rows.storeRotsRow.named == Program.varsNamed Tryz.pinned.checked.prog 8) = true := by kernel_rfl
theorem storeRots_closed : joinedFacts Tryz.pinned.checked.prog 8 Tryz.f8 Rows.storeRotsSpec Rows.storeRotsRow = true := by
  unfold joinedFacts
  rw [storeRots_fact1, storeRots_fact2, storeRots_fact3, storeRots_fact4]
  kernel_rfl
theorem storeRots_readable45 : Tryz.prog.readableRec 45 = true := by kernel_rfl
theorem storeRots_row45 : 45 < Tryz.prog.types.size := of_decide_eq_true (by kernel_rfl)
theorem storeRots_readable22 : Tryz.prog.readableRec 22 = true := by kernel_rfl
theorem storeRots_row22 : 22 < Tryz.prog.types.size := of_decide_eq_true (by kernel_rfl)
theorem storeRots_lifted (os : Os) (started : os.Started) (H : Type) (enc : TypeId × Value → H) :
    ReturnsInHanded {} Tryz.checked os 8 .any (fun w args => (Rows.storeRotsSpec.pre enc Tryz.prog Tryz.f8 [] false w args ∧ laidMetH Tryz.prog laid8 w) ∧ sizedMet enc Tryz.prog Tryz.f8 (OpenSpec.ofChange Rows.storeRotsSpec) false w args)
      (Rows.storeRotsSpec.post enc Tryz.prog Tryz.f8 false true false false) := by
  refine handed_and_shaped (C := Tryz.checked) (X := fun w _ => laidMetH Tryz.prog laid8 w) (fun _ _ _ hh h => h.of_heap hh) Tryz.own started (by kernel_rfl) Tryz.func8
    (ChangeSpec.witness_shaped (enc := enc) (C := Tryz.checked) (os := os) (X := fun w _ => laidMetH Tryz.prog laid8 w) false (World.laidAll Tryz.prog os laid8) #[.slice none 0 0, .int .u16 0, .int .u16 0] 8 (World.laidAll_os _ _ _)
      (World.shaped_of_ZipB (by kernel_rfl) (by kernel_rfl)) (by kernel_rfl) (by kernel_rfl) (by kernel_rfl)
      (by rw [MakeChecks.laidMetH_plain _ _ _ (by kernel_rfl)]; exact laidMet_laidAll _ (by kernel_rfl) (by kernel_rfl))) ?_
  intro W base args ds gs before hval0 hW _ _ hL
  have hval : ∀ (j : Nat) t v, Tryz.f8.params[j]? = some t → args[j]? = some v → Value.okWide Tryz.prog W .any base t v := hval0
  have hW' := hW
  obtain ⟨p, q, hA0, hV, rfl, hfz, hnd⟩ := hW
  have hA : DataW.TrodAll enc Tryz.prog W 0 (fun _ => true) true Tryz.f8.params.toList args.toList ds p := hA0
  rw [Tryz.params8] at hA hval
  obtain ⟨v0, v1, v2, d0, d1, d2, p0, p1, p2, rfl, rfl, rfl, h0, h1, h2⟩ := trodAll_three hA
  obtain ⟨rfl, rfl⟩ := trodVars_none hV
  obtain ⟨A, n, c, rfl⟩ := okWide_slice Tryz.underlying45 (hval 0 45 v0 rfl rfl)
  obtain ⟨a, rfl⟩ : ∃ a, v1 = .int .u16 a := okWide_int Tryz.underlying22 (hval 1 22 v1 rfl rfl)
  obtain ⟨b, rfl⟩ : ∃ b, v2 = .int .u16 b := okWide_int Tryz.underlying22 (hval 2 22 v2 rfl rfl)
  obtain ⟨fuel, hf⟩ := h0
  obtain ⟨fuel1, hf1⟩ := h1
  obtain ⟨fuel2, hf2⟩ := h2
  obtain ⟨A', n', c', l, hv, hrd, hok⟩ := read_acts hf
  injection hv with hA' hn' hc'
  subst hA' hn' hc'
  obtain ⟨a', e1, _, w1⟩ := DataW.trod_int Tryz.underlying22 hf1
  obtain ⟨b', e2, _, w2⟩ := DataW.trod_int Tryz.underlying22 hf2
  simp [Value.cells] at e1 e2
  subst e1; subst e2
  have m1 : IntKind.u16.min = 0 := rfl
  have m2 : IntKind.u16.max = 65535 := rfl
  simp [Lit.wf, m1, m2] at w1 w2
  obtain ⟨x, rfl⟩ : ∃ x : Nat, a = x := ⟨a.toNat, by omega⟩
  obtain ⟨y, rfl⟩ : ∃ y : Nat, b = y := ⟨b.toNat, by omega⟩
  clear hA0 hval0
  simp only [List.append_nil] at hW'
  have hlt : ∀ x ∈ p0 ++ p1 ++ p2, x.block < W.heap.size := fun x hx => hW'.lt x (by simpa using hx)
  refine (storeRots_any (tabs_of_laid hL).1 (tabs_of_laid hL).2 A n c l x y hrd (fun a ha => (hok a ha).1) (by omega) (by omega)).mono fun e W' ⟨he, hb⟩ => ?_
  subst he
  refine ⟨_, rfl, post_of_below (pa := p0 ++ p1 ++ p2) (pv := []) hW' (fun _ _ _ => trodAll_mk1 (shut_bool Tryz.underlying4 _)) (fun sp hsp => ?_) (fun _ _ => rfl) (by simp) hb (ok_one (by kernel_rfl) rfl (okWide_bool_mk Tryz.underlying4 _))⟩
  have t0 := Trod_stays (sp' := sp) Tryz.laidOut storeRots_readable45 storeRots_row45 ⟨fuel, hf⟩ (fun x hx => hb.same (hlt x (by simp [hx]))) (fun x hx => hsp x (by simp [hx]))
  have t1 := Trod_stays (sp' := sp) Tryz.laidOut storeRots_readable22 storeRots_row22 ⟨fuel1, hf1⟩ (fun x hx => hb.same (hlt x (by simp [hx]))) (fun x hx => hsp x (by simp [hx]))
  have t2 := Trod_stays (sp' := sp) Tryz.laidOut storeRots_readable22 storeRots_row22 ⟨fuel2, hf2⟩ (fun x hx => hb.same (hlt x (by simp [hx]))) (fun x hx => hsp x (by simp [hx]))
  rw [Tryz.params8]
  rw [List.append_assoc]
  exact trodAll_mk3 t0 t1 t2
theorem storeRots_holds : Rows.StoreRotsSaid :=
  OpenClaim.holds_of_wide 8 Tryz.f8 rfl rfl rfl rfl rfl rfl rfl ⟨rfl, rfl, rfl, rfl, rfl⟩ rfl rfl rfl rfl rfl (by as_aux_lemma => kernel_rfl) Tryz.func8 storeRots_closed
    (of_decide_eq_true (by as_aux_lemma => kernel_rfl)) (by unfold Func.isWrapper; first | (rw [if_pos (by decide +kernel)]; kernel_rfl) | (rw [if_neg (by decide +kernel)]; exact ⟨rfl, rfl⟩))
    (fun os started H enc _ => storeRots_lifted os started H enc)
theorem storeRots_card : Rows.StoreRotsCardSaid :=
  Claim7.holds_tied_plain_at .later [] [.data, .data, .data, .data, .data, .sentinel, .sentinel, .pinned] true (true, "209465126921618adcba03cc87c42158259f8c7376558b035b250d64474314ce") true
    storeRots_holds (fun _ h => by cases h) (by as_aux_lemma => kernel_rfl) (fun _ h => by cases h) storeRots_row_tie rfl ⟨rfl, rfl⟩ (by as_aux_lemma => kernel_rfl) rfl
    (fun f fn hf hfn => by
      obtain rfl : f = 8 := Option.some.inj ((show Tryz.prog.funcNamed "mandoline/mandolinelaw23.StoreRots" = some 8 by as_aux_lemma => kernel_rfl).symm.trans hf) |>.symm
      obtain rfl : fn = Tryz.f8 := (Option.some.inj (Tryz.func8.symm.trans hfn)).symm
      exact ⟨by as_aux_lemma => kernel_rfl, fun j t ht => by
        rw [Tryz.params8] at ht
        have hm : t ∈ [45, 22, 22] := by simpa using Array.mem_of_getElem? ht
        have hall : ([45, 22, 22].all fun u => !Tryz.prog.wantsStandIn u) = true := by kernel_rfl
        exact (show Tryz.prog.wantsStandIn t = false by simpa using List.all_eq_true.1 hall t hm)⟩)
    (by as_aux_lemma => kernel_rfl)
#print axioms storeRots_card
end Go.Proofs.YtmgmfnimaafkdaaGreatDoor
