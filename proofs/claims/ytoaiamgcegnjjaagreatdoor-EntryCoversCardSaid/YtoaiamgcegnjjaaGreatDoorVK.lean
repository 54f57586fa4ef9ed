/- EntryCovers returns true, whatever the acts, the purges and whoever asks; what came in reads as it did: the tied card. No condition beyond the card's own. -/
import Derived.Test.YtoaiamgcegnjjaaGreatDoorVH
import Derived.Test.YtoaiamgcegnjjaaGreatDoorVR
import Derived.Test.YtoaiamgcegnjjaaGreatDoorVY
import Derived.Test.YtoaiamgcegnjjaaGreatDoorCards
import Derived.Test.YtoaiamgcegnjjaaGreatDoorTie
import Derived.SevenTiedAt
namespace Go.Proofs.YtoaiamgcegnjjaaGreatDoor
open Go.ChangeShapes Go.WideShapes Go.ChangeAt Go.WideMaps Go.WideElems Go.RowKit Go.Deep
set_option maxRecDepth 100000

theorem entryCovers_lifted (os : Os) (started : os.Started) (H : Type) (enc : TypeId × Value → H) :
    ReturnsInHanded {} Tryz.checked os 5 .any (fun w args => (Rows.entryCoversSpec.pre enc Tryz.prog Tryz.f5 [] false w args ∧ laidMetH Tryz.prog laid3 w) ∧ sizedMet enc Tryz.prog Tryz.f5 (OpenSpec.ofChange Rows.entryCoversSpec) false w args)
      (Rows.entryCoversSpec.post enc Tryz.prog Tryz.f5 false true false false) := by
  refine returnsInHanded_of_change_and (C := Tryz.checked) (X := fun w _ => laidMetH Tryz.prog laid3 w) (fun _ _ _ hh h => h.of_heap hh) Tryz.own started (by kernel_rfl) Tryz.func5
    (ChangeSpec.witness_shaped (enc := enc) (C := Tryz.checked) (os := os) (X := fun w _ => laidMetH Tryz.prog laid3 w) false (World.doorLaid Tryz.prog 72 os) #[.slice none 0 0, .agg #[.int .i64 0, .slice none 0 0], .agg #[.string ByteArray.empty, .int .i64 0, .int .i64 0, .int .i64 0]] 5 rfl (door_shaped os _) (by kernel_rfl) (by kernel_rfl) (by kernel_rfl) (door_met os _)) ?_
  intro W base args ds gs before hval0 hW _ _ hL _
  have hval : ∀ (j : Nat) t v, Tryz.f5.params[j]? = some t → args[j]? = some v → Value.okWide Tryz.prog W .any base t v := hval0
  have hW' := hW
  obtain ⟨p, q, hA0, hV, rfl, hfz, hnd⟩ := hW
  have hA : DataW.TrodAll enc Tryz.prog W 0 (fun _ => true) true Tryz.f5.params.toList args.toList ds p := hA0
  rw [Tryz.params5] at hA hval
  obtain ⟨v0, v1, v2, d0, d1, d2, p0, p1, p2, rfl, rfl, rfl, h0, h1, h2⟩ := trodAll_three hA
  obtain ⟨rfl, rfl⟩ := trodVars_none hV
  obtain ⟨A, n, c, rfl⟩ := okWide_slice Tryz.underlying22 (hval 0 22 v0 rfl rfl)
  obtain ⟨cs1, rfl, _⟩ := okWide_struct Tryz.underlying61 (hval 1 61 v1 rfl rfl)
  obtain ⟨cs2, rfl, _⟩ := okWide_struct Tryz.underlying63 (hval 2 63 v2 rfl rfl)
  obtain ⟨fuel, hf⟩ := h0
  obtain ⟨A', n', c', l, hv, hn, hrd, hok⟩ := read_acts hf
  injection hv with hA' hn' hc'
  subst hA' hn' hc'
  obtain ⟨fuel1, hf1⟩ := h1
  obtain ⟨fl, PA, pn, pc, ps, hcs1, hpn, hpr, hpk⟩ := read_purged hf1
  have hcs1' : cs1 = #[.int .i64 fl, .slice PA pn pc] := Array.toList_inj.1 (by simpa [Value.cells] using hcs1)
  subst hcs1'
  obtain ⟨fuel2, hf2⟩ := h2
  obtain ⟨obj, ti, mo, ge, hcs2, hob, _, _, _⟩ := read_ask hf2
  have hcs2' : cs2 = #[.string obj, .int .i64 ti, .int .i64 mo, .int .i64 ge] := Array.toList_inj.1 (by simpa [Value.cells] using hcs2)
  subst hcs2'
  clear hA0 hval0
  simp only [List.append_nil] at hW'
  have hlt : ∀ x ∈ p0 ++ p1 ++ p2, x.block < W.heap.size := fun x hx => hW'.lt x (by simpa using hx)
  refine (entryCovers_any A n c l PA pn pc ps fl obj ti mo ge W hrd hok (by unfold maxLen at hn; omega) hpr hpk (by unfold maxLen at hpn; omega) hob).mono fun e W' ⟨he, hb⟩ => ?_
  subst he
  refine ⟨_, rfl, post_of_below (pa := p0 ++ p1 ++ p2) (pv := []) hW' (fun _ _ _ => trodAll_mk1 (shut_bool Tryz.underlying4 _)) (fun sp hsp => ?_) (fun _ _ => rfl) (by simp) hb (ok_one (by kernel_rfl) rfl (okWide_bool_mk Tryz.underlying4 _))⟩
  have t0 := Trod_stays (sp' := sp) Tryz.laidOut readable22 row22 ⟨fuel, hf⟩ (fun x hx => hb.same (hlt x (by simp [hx]))) (fun x hx => hsp x (by simp [hx]))
  have t1 := Trod_stays (sp' := sp) Tryz.laidOut readable61 row61 ⟨fuel1, hf1⟩ (fun x hx => hb.same (hlt x (by simp [hx]))) (fun x hx => hsp x (by simp [hx]))
  have t2 := Trod_stays (sp' := sp) Tryz.laidOut readable63 row63 ⟨fuel2, hf2⟩ (fun x hx => hb.same (hlt x (by simp [hx]))) (fun x hx => hsp x (by simp [hx]))
  rw [Tryz.params5]
  rw [List.append_assoc]
  exact trodAll_mk3 t0 t1 t2

theorem entryCovers_holds : Rows.EntryCoversSaid :=
  OpenClaim.holds_of_wide 5 Tryz.f5 rfl rfl rfl rfl rfl rfl rfl ⟨rfl, rfl, rfl, rfl, rfl⟩ rfl rfl rfl rfl rfl (by kernel_rfl) Tryz.func5 entryCovers_closed
    (of_decide_eq_true (by kernel_rfl)) (by unfold Func.isWrapper; first | (rw [if_pos (by decide +kernel)]; kernel_rfl) | (rw [if_neg (by decide +kernel)]; exact ⟨rfl, rfl⟩))
    (fun os started H enc _ => entryCovers_lifted os started H enc)

theorem entryCovers_card : Rows.EntryCoversCardSaid :=
  Claim7.holds_tied_plain_at .later [] [.data, .data, .data] true (true, "5b0aef3aa69949918db60e91b18e6b7676cc05876b04350682325e20c0d092c1") true
    entryCovers_holds (fun _ h => by cases h) (by kernel_rfl) (fun _ h => by cases h) entryCovers_row_tie rfl ⟨rfl, rfl⟩ (by kernel_rfl) rfl
    (fun f fn hf hfn => by
      obtain rfl : f = 5 := Option.some.inj ((show Tryz.prog.funcNamed "mandoline/mandolinelaw42.EntryCovers" = some 5 by kernel_rfl).symm.trans hf) |>.symm
      obtain rfl : fn = Tryz.f5 := (Option.some.inj (Tryz.func5.symm.trans hfn)).symm
      exact ⟨by kernel_rfl, fun j t ht => by
        rw [Tryz.params5] at ht
        have hm : t ∈ [22, 61, 63] := by simpa using Array.mem_of_getElem? ht
        have hall : ([22, 61, 63].all fun u => !Tryz.prog.wantsStandIn u) = true := by kernel_rfl
        exact (show Tryz.prog.wantsStandIn t = false by simpa using List.all_eq_true.1 hall t hm)⟩)
    (by kernel_rfl)
#print axioms entryCovers_card
end Go.Proofs.YtoaiamgcegnjjaaGreatDoor
