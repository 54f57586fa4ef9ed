/- EntryPlays returns true, whatever the acts; they read as they did: the tied card. No condition beyond the card's own. -/
import Derived.Test.YtoaiamgcegnjjaaGreatDoorLL
import Derived.Test.YtoaiamgcegnjjaaGreatDoorLN
import Derived.Test.YtoaiamgcegnjjaaGreatDoorT
import Derived.Test.YtoaiamgcegnjjaaGreatDoorCards
import Derived.Test.YtoaiamgcegnjjaaGreatDoorTie
import Derived.SevenTiedAt
import Derived.Deep.Slices
namespace Go.Proofs.YtoaiamgcegnjjaaGreatDoor
open Go.ChangeShapes Go.WideShapes Go.ChangeAt Go.WideMaps Go.WideElems Go.RowKit Go.Deep
set_option maxRecDepth 100000

theorem list_of {α : Type} {P : Nat → α → Prop} : ∀ (n : Nat), (∀ i, i < n → ∃ x, P i x) → ∃ l : List α, l.length = n ∧ ∀ i (h : i < l.length), P i l[i]
  | 0, _ => ⟨[], rfl, fun i h => absurd h (by simp)⟩
  | n + 1, h => by
    obtain ⟨l, hl, hp⟩ := list_of n (fun i hi => h i (by omega))
    obtain ⟨x, hx⟩ := h n (by omega)
    refine ⟨l ++ [x], by simp [hl], fun i hi => ?_⟩
    by_cases hil : i < l.length
    · rw [List.getElem_append_left hil]
      exact hp i hil
    · have : i = n := by simp at hi; omega
      subst this
      rw [List.getElem_append_right (by omega)]
      simpa [hl] using hx

theorem addr_add_add (a : Addr) (i j : Nat) : a.add (i + j) = (a.add i).add j := by
  obtain ⟨b, off, spot⟩ := a
  by_cases hi : i = 0 <;> by_cases hj : j = 0 <;> simp [Addr.add, hi, hj, Nat.add_assoc]

section
variable {H : Type} {enc : TypeId × Value → H} {w : World} {base : Nat} {spare : Nat → Bool} {held : Bool}
theorem read_acts {fuel : Nat} {v : Value} {x : DataW H × List MemPlace} (h : DataW.trod enc Tryz.prog w base spare held fuel 22 [v] = some x) :
    ∃ A n c, ∃ l : List ActS, v = .slice A n c ∧ n ≤ maxLen ∧ Rd w w.heap.size 25 A n (l.flatMap ActS.cells) ∧ ∀ a ∈ l, a.Ok w w.heap.size := by
  rcases open_slice Tryz.underlying22 h with ⟨hc, _⟩ | ⟨a, len, cap, m, n, D, Pl, hc, _, hl, hm, hmm, _, hi⟩
  · injection hc with hc
    exact ⟨none, 0, 0, [], hc, Nat.zero_le _, ⟨rfl, fun h => absurd h (by omega)⟩, fun a ha => by cases ha⟩
  · injection hc with hc
    have hle : len ≤ m := by rw [hmm]; split <;> omega
    rw [Tryz.cells47] at hi
    have hall : ∀ i, i < len → ∃ q : ActS, (∀ j, j < 25 → w.cell? (a.add (i * 25 + j)) = q.cells[j]?) ∧ q.Ok w w.heap.size := fun i him => by
      obtain ⟨cs', hcs, ht⟩ := hi i (by omega)
      obtain ⟨_, hcl, hat⟩ := World.cells?_some hcs
      obtain ⟨kd, obj, st, M, A, n', c, sf, sto, age, ti, mo, ge, id, f, t, hv, ln, hcs', hnc, hcm, hst, hM, wa, wo, wkd, w1, w2, w3, w4, w5, w6, w7, w8⟩ := read_act ht
      refine ⟨⟨kd, obj, st, M, A, n', c, sf, sto, age, ti, mo, ge, id, f, t, hv, ln⟩, fun j hj => ?_, ⟨hst, hnc, hM, wo, ?_, w4⟩⟩
      · have := hat j hj
        rw [hcs'] at this
        refine Eq.trans ?_ this
        rw [addr_add_add]
      · have h2 : IntKind.u8.min ≤ kd ∧ kd ≤ IntKind.u8.max := by simpa [Lit.wf] using wkd
        exact ⟨h2.1, h2.2⟩
    obtain ⟨l, hll, hlp⟩ := list_of len hall
    refine ⟨some a, len, cap, l, hc, by omega, ⟨by rw [flat_len ActS.cells 25 ActS.cells_len, hll], fun hn => ?_⟩, fun q hq => ?_⟩
    · have h0 := (hlp 0 (by omega)).1 0 (by omega)
      have hsome : (l[0]'(by omega)).cells[0]? = some (.int .u8 (l[0]'(by omega)).kd) := rfl
      rw [hsome] at h0
      obtain ⟨b, off, spot⟩ := a
      have hspot : spot = none := by simpa [Addr.add] using World.cell?_spot h0
      subst hspot
      refine ⟨b, off, rfl, ?_, fun j hj => ?_⟩
      · simpa [Addr.add] using cell_lt h0
      · rw [flat_len ActS.cells 25 ActS.cells_len, hll] at hj
        have hq : j / 25 < l.length := by omega
        have hg := flat_get ActS.cells 25 ActS.cells_len l (j / 25) (j % 25) hq (by omega)
        have hjj : j / 25 * 25 + j % 25 = j := by omega
        rw [hjj] at hg
        have hc2 := (hlp (j / 25) hq).1 (j % 25) (by omega)
        rw [hjj, addr_add, ← hg] at hc2
        rw [hc2]
        exact List.getElem?_eq_getElem _
    · obtain ⟨i, hi', rfl⟩ := List.mem_iff_getElem.1 hq
      exact (hlp i hi').2
end

theorem readable22 : Tryz.prog.readableRec 22 = true := by kernel_rfl
theorem row22 : 22 < Tryz.prog.types.size := of_decide_eq_true (by kernel_rfl)

theorem entryPlays_lifted (os : Os) (started : os.Started) (H : Type) (enc : TypeId × Value → H) :
    ReturnsInHanded {} Tryz.checked os 3 .any (fun w args => (Rows.entryPlaysSpec.pre enc Tryz.prog Tryz.f3 [] false w args ∧ laidMetH Tryz.prog laid3 w) ∧ sizedMet enc Tryz.prog Tryz.f3 (OpenSpec.ofChange Rows.entryPlaysSpec) false w args)
      (Rows.entryPlaysSpec.post enc Tryz.prog Tryz.f3 false true false false) := by
  refine returnsInHanded_of_change_and (C := Tryz.checked) (X := fun w _ => laidMetH Tryz.prog laid3 w) (fun _ _ _ hh h => h.of_heap hh) Tryz.own started (by kernel_rfl) Tryz.func3
    (ChangeSpec.witness_shaped (enc := enc) (C := Tryz.checked) (os := os) (X := fun w _ => laidMetH Tryz.prog laid3 w) false (World.doorLaid Tryz.prog 72 os) #[.slice none 0 0] 3 rfl (door_shaped os _) (by kernel_rfl) (by kernel_rfl) (by kernel_rfl) (door_met os _)) ?_
  intro W base args ds gs before hval0 hW _ _ hL _
  have hval : ∀ (j : Nat) t v, Tryz.f3.params[j]? = some t → args[j]? = some v → Value.okWide Tryz.prog W .any base t v := hval0
  have hW' := hW
  obtain ⟨p, q, hA0, hV, rfl, hfz, hnd⟩ := hW
  have hA : DataW.TrodAll enc Tryz.prog W 0 (fun _ => true) true Tryz.f3.params.toList args.toList ds p := hA0
  rw [Tryz.params3] at hA hval
  obtain ⟨v0, d0, rfl, rfl, h0⟩ := trodAll_one hA
  obtain ⟨rfl, rfl⟩ := trodVars_none hV
  obtain ⟨A, n, c, rfl⟩ := okWide_slice Tryz.underlying22 (hval 0 22 v0 rfl rfl)
  obtain ⟨fuel, hf⟩ := h0
  obtain ⟨A', n', c', l, hv, hn, hrd, hok⟩ := read_acts hf
  injection hv with hA' hn' hc'
  subst hA' hn' hc'
  clear hA0 hval0
  simp only [List.append_nil] at hW'
  have hlt : ∀ x ∈ p, x.block < W.heap.size := fun x hx => hW'.lt x hx
  refine (entryPlays_any A n c l W hrd hok (by unfold maxLen at hn; omega)).mono fun e W' ⟨he, hb⟩ => ?_
  subst he
  refine ⟨_, rfl, post_of_below (pa := p) (pv := []) hW' (fun _ _ _ => trodAll_mk1 (shut_bool Tryz.underlying4 _)) (fun sp hsp => ?_) (fun _ _ => rfl) (by simp) hb (ok_one (by kernel_rfl) rfl (okWide_bool_mk Tryz.underlying4 _))⟩
  have := Trod_stays (sp' := sp) Tryz.laidOut readable22 row22 ⟨fuel, hf⟩ (fun x hx => hb.same (hlt x hx)) (fun x hx => hsp x hx)
  rw [Tryz.params3]
  exact trodAll_mk1 this

theorem entryPlays_holds : Rows.EntryPlaysSaid :=
  OpenClaim.holds_of_wide 3 Tryz.f3 rfl rfl rfl rfl rfl rfl rfl ⟨rfl, rfl, rfl, rfl, rfl⟩ rfl rfl rfl rfl rfl (by kernel_rfl) Tryz.func3 entryPlays_closed
    (of_decide_eq_true (by kernel_rfl)) (by unfold Func.isWrapper; first | (rw [if_pos (by decide +kernel)]; kernel_rfl) | (rw [if_neg (by decide +kernel)]; exact ⟨rfl, rfl⟩))
    (fun os started H enc _ => entryPlays_lifted os started H enc)

theorem entryPlays_card : Rows.EntryPlaysCardSaid :=
  Claim7.holds_tied_plain_at .later [] [.data, .data, .data] true (true, "5b0aef3aa69949918db60e91b18e6b7676cc05876b04350682325e20c0d092c1") true
    entryPlays_holds (fun _ h => by cases h) (by kernel_rfl) (fun _ h => by cases h) entryPlays_row_tie rfl ⟨rfl, rfl⟩ (by kernel_rfl) rfl
    (fun f fn hf hfn => by
      obtain rfl : f = 3 := Option.some.inj ((show Tryz.prog.funcNamed "mandoline/mandolinelaw42.EntryPlays" = some 3 by kernel_rfl).symm.trans hf) |>.symm
      obtain rfl : fn = Tryz.f3 := (Option.some.inj (Tryz.func3.symm.trans hfn)).symm
      exact ⟨by kernel_rfl, fun j t ht => by
        rw [Tryz.params3] at ht
        have hm : t ∈ [22] := by simpa using Array.mem_of_getElem? ht
        have hall : ([22].all fun u => !Tryz.prog.wantsStandIn u) = true := by kernel_rfl
        exact (show Tryz.prog.wantsStandIn t = false by simpa using List.all_eq_true.1 hall t hm)⟩)
    (by kernel_rfl)
#print axioms entryPlays_card
end Go.Proofs.YtoaiamgcegnjjaaGreatDoor
