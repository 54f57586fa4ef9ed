/- EntryNil returns true, whatever the act; the act reads as it did: the tied card. No condition beyond the card's own. -/
import Derived.Test.YtoaiamgcegnjjaaGreatDoorR
import Derived.Test.YtoaiamgcegnjjaaGreatDoorS
import Derived.Test.YtoaiamgcegnjjaaGreatDoorT
import Derived.Test.YtoaiamgcegnjjaaGreatDoorCards
import Derived.Test.YtoaiamgcegnjjaaGreatDoorTie
import Derived.SevenTiedAt
namespace Go.Proofs.YtoaiamgcegnjjaaGreatDoor
open Go.ChangeShapes Go.WideShapes Go.ChangeAt Go.WideMaps Go.WideElems Go.RowKit
set_option maxRecDepth 100000

abbrev zeroAct : Array Value := #[.int .u8 0, .string ByteArray.empty, .int .i64 0, .string ByteArray.empty, .bool false, .int .i64 0, .int .i64 0, .int .i64 0, .int .i64 0, .int .i64 0, .int .i64 0, .slice none 0 0, .string ByteArray.empty, .bool false, .int .i64 0, .int .i64 0, .int .i64 0, .int .i64 0, .int .i64 0, .int .i64 0, .int .i64 0, .int .i64 0, .int .i64 0, .int .i64 0, .int .i64 0]

theorem readable47 : Tryz.prog.readableRec 47 = true := by kernel_rfl
theorem row47 : 47 < Tryz.prog.types.size := of_decide_eq_true (by kernel_rfl)

theorem entryNil_lifted (os : Os) (started : os.Started) (H : Type) (enc : TypeId × Value → H) :
    ReturnsInHanded {} Tryz.checked os 8 .any (fun w args => (Rows.entryNilSpec.pre enc Tryz.prog Tryz.f8 [] false w args ∧ laidMetH Tryz.prog laid3 w) ∧ sizedMet enc Tryz.prog Tryz.f8 (OpenSpec.ofChange Rows.entryNilSpec) false w args)
      (Rows.entryNilSpec.post enc Tryz.prog Tryz.f8 false true false false) := by
  refine returnsInHanded_of_change_and (C := Tryz.checked) (X := fun w _ => laidMetH Tryz.prog laid3 w) (fun _ _ _ hh h => h.of_heap hh) Tryz.own started (by kernel_rfl) Tryz.func8
    (ChangeSpec.witness_shaped (enc := enc) (C := Tryz.checked) (os := os) (X := fun w _ => laidMetH Tryz.prog laid3 w) false (World.doorLaid Tryz.prog 72 os) #[.agg zeroAct] 8 rfl (door_shaped os _) (by kernel_rfl) (by kernel_rfl) (by kernel_rfl) (door_met os _)) ?_
  intro W base args ds gs before hval0 hW _ _ hL _
  have hval : ∀ (j : Nat) t v, Tryz.f8.params[j]? = some t → args[j]? = some v → Value.okWide Tryz.prog W .any base t v := hval0
  have hW' := hW
  obtain ⟨p, q, hA0, hV, rfl, hfz, hnd⟩ := hW
  have hA : DataW.TrodAll enc Tryz.prog W 0 (fun _ => true) true Tryz.f8.params.toList args.toList ds p := hA0
  rw [Tryz.params8] at hA hval
  obtain ⟨v0, d0, rfl, rfl, h0⟩ := trodAll_one hA
  obtain ⟨rfl, rfl⟩ := trodVars_none hV
  obtain ⟨cs, rfl, hsz⟩ := okWide_struct Tryz.underlying47 (hval 0 47 v0 rfl rfl)
  obtain ⟨fuel, hf⟩ := h0
  obtain ⟨kd, obj, st, M, A, n, c, sf, sto, age, ti, mo, ge, id, f, t, hv, ln, hcs, hnc, hcm, hst, _⟩ := read_act hf
  have hcs' : cs = actC kd obj st M A n c sf sto age ti mo ge id f t hv ln := Array.toList_inj.1 (by simpa [Value.cells] using hcs)
  subst hcs'
  clear hA0 hval0
  simp only [List.append_nil] at hW'
  have hlt : ∀ x ∈ p, x.block < W.heap.size := fun x hx => hW'.lt x hx
  refine (entryNil_any kd obj st M A n c sf sto age ti mo ge id f t hv ln W.heap.size W hst (Nat.le_refl _)).mono fun e W' ⟨he, hb⟩ => ?_
  subst he
  refine ⟨_, rfl, post_of_below (pa := p) (pv := []) hW' (fun _ _ _ => trodAll_mk1 (shut_bool Tryz.underlying4 _)) (fun sp hsp => ?_) (fun _ _ => rfl) (by simp) hb (ok_one (by kernel_rfl) rfl (okWide_bool_mk Tryz.underlying4 _))⟩
  have := Trod_stays (sp' := sp) Tryz.laidOut readable47 row47 ⟨fuel, hf⟩ (fun x hx => hb.same (hlt x hx)) (fun x hx => hsp x hx)
  rw [Tryz.params8]
  exact trodAll_mk1 this

theorem entryNil_holds : Rows.EntryNilSaid :=
  OpenClaim.holds_of_wide 8 Tryz.f8 rfl rfl rfl rfl rfl rfl rfl ⟨rfl, rfl, rfl, rfl, rfl⟩ rfl rfl rfl rfl rfl (by kernel_rfl) Tryz.func8 (by kernel_rfl)
    (of_decide_eq_true (by kernel_rfl)) (by unfold Func.isWrapper; first | (rw [if_pos (by decide +kernel)]; kernel_rfl) | (rw [if_neg (by decide +kernel)]; exact ⟨rfl, rfl⟩))
    (fun os started H enc _ => entryNil_lifted os started H enc)

theorem entryNil_card : Rows.EntryNilCardSaid :=
  Claim7.holds_tied_plain_at .later [] [.data, .data, .data] true (true, "5b0aef3aa69949918db60e91b18e6b7676cc05876b04350682325e20c0d092c1") true
    entryNil_holds (fun _ h => by cases h) (by kernel_rfl) (fun _ h => by cases h) entryNil_row_tie rfl ⟨rfl, rfl⟩ (by kernel_rfl) rfl
    (fun f fn hf hfn => by
      obtain rfl : f = 8 := Option.some.inj ((show Tryz.prog.funcNamed "mandoline/mandolinelaw42.EntryNil" = some 8 by kernel_rfl).symm.trans hf) |>.symm
      obtain rfl : fn = Tryz.f8 := (Option.some.inj (Tryz.func8.symm.trans hfn)).symm
      exact ⟨by kernel_rfl, fun j t ht => by
        rw [Tryz.params8] at ht
        have hm : t ∈ [47] := by simpa using Array.mem_of_getElem? ht
        have hall : ([47].all fun u => !Tryz.prog.wantsStandIn u) = true := by kernel_rfl
        exact (show Tryz.prog.wantsStandIn t = false by simpa using List.all_eq_true.1 hall t hm)⟩)
    (by kernel_rfl)
#print axioms entryNil_card
end Go.Proofs.YtoaiamgcegnjjaaGreatDoor
