/- What EntryLoads wants beside the two Loads: what is small, and that the two tables are alike. No condition. -/
import Derived.Test.YtoaiamgcegnjjaaGreatDoorNK
import Derived.Test.YtoaiamgcegnjjaaGreatDoorNH
namespace Go.Proofs.YtoaiamgcegnjjaaGreatDoor
open Go.RowKit Go.Maps Go.WideMaps Go.Sort
set_option maxRecDepth 100000

theorem small14_few (t : ByteArray) (wk : Bool) (mo le ha fr wh er : Int) (A : Option Addr) (n c : Nat) (ten : ByteArray) (kp : Bool) (ks : List ByteArray) (B : Nat) (w : World) (hk : Strs w B A n ks) (hB : B ≤ w.heap.size) :
    Calls Tryz.prog 17 #[.agg (metaC t wk mo le ha fr wh er A n c ten kp)] w fun e w' => FewBool (n ≤ 40) e ∧ Below w.heap.size w w' := by
  have hb0 : Below w.heap.size w (w.alloc (.cells (metaC t wk mo le ha fr wh er A n c ten kp) 39)) := (Below.refl _ _).alloc (Nat.le_refl _) _
  have HB := Lib.hid hb0
  have HK := Lib.hid (hk.below (hb0.mono hB) (Nat.le_refl _))
  clear hb0 hk
  by_cases h1 : 200 < t.size
  · go_enter Tryz.func17, Tryz.ntmps17
    go_wp2
    go_ret
    exact ⟨FewBool.no, HB.out⟩
  by_cases h2 : 40 < n
  · go_enter Tryz.func17, Tryz.ntmps17
    go_wp2
    go_ret
    exact ⟨FewBool.no, HB.out⟩
  by_cases h3 : 100 < ten.size
  · go_enter Tryz.func17, Tryz.ntmps17
    go_wp2
    go_ret
    exact ⟨FewBool.no, HB.out⟩
  go_enter Tryz.func17, Tryz.ntmps17
  go_wp2_with fail
  go_loop [3] (fun i => ∃ k : Nat, k ≤ n ∧ i = .int .i64 k) (fun i => n - (intOf i).toNat)
  case atStart => exact ⟨0, Nat.zero_le _, rfl⟩
  case round =>
    obtain ⟨k, hk, rfl⟩ := hrel
    by_cases hlt : k < n
    · obtain ⟨b, o, hA, _, hc⟩ := HK.out.at_ (by omega)
      have hcell := hc k (by have := HK.out.len; omega)
      clear hc
      subst hA
      go_wp2_with fail
      · go_ret
        exact ⟨FewBool.no, HB.out⟩
      · exact ⟨⟨k + 1, by omega, by go_num⟩, by simp [intOf]; omega⟩
    · go_wp2_with fail
      go_ret
      exact ⟨FewBool.mk true (fun _ => by omega), HB.out⟩

/-- an entry as the program takes it in -/
def RM.em (r : RM) : EM := ⟨r.e.ent, r.kA, r.kn, r.kc, false⟩

theorem ins_perm (e : RE) : ∀ L : List RE, (insE e L).Perm (e :: L)
  | [] => List.Perm.refl _
  | a :: L => by
    unfold insE
    split
    · exact List.Perm.refl _
    · exact ((ins_perm e L).cons a).trans (List.Perm.swap e a L)
theorem sortR_perm (es : List RE) : (sortR es).Perm (es.map RE.norm) := by
  refine list_snoc (P := fun es => (sortR es).Perm (es.map RE.norm)) (List.Perm.refl _) (fun l e ih => ?_) es
  rw [sortR_snoc, List.map_append]
  exact (ins_perm _ _).trans ((ih.cons _).trans (by
    show (e.norm :: l.map RE.norm).Perm (l.map RE.norm ++ [e.norm])
    exact (List.perm_append_singleton _ _).symm))
theorem rise_good {nx : Int} {es : List RE} (h : LoadGood nx es) : RiseR (sortR es) := by
  have hd : ∀ q, q ≤ es.length → RiseR (sortR (es.take q)) := fun q => by
    induction q with
    | zero => intro _; simp [sortR, RiseR]
    | succ q ih =>
      intro hq
      rw [List.take_succ_eq_append_getElem (by omega), sortR_snoc]
      refine ins_rise (ih (by omega)) (fun a ha => ?_)
      obtain ⟨f, hf, rfl⟩ := (sortR_mem _ _).1 ha
      obtain ⟨j, hj, rfl⟩ := List.mem_iff_getElem.1 hf
      rw [List.length_take] at hj
      rw [List.getElem_take]
      exact (h.2.2 q (by omega) (by omega)).2.2 j (by omega) (by omega)
  have := hd es.length (Nat.le_refl _)
  rw [List.take_length] at this
  exact this
theorem find_perm {L L' : List RE} (hr : RiseR L') (hp : L'.Perm L) (i : Int) : L.find? (fun e => e.id == i) = L'.find? (fun e => e.id == i) := by
  cases hf : L'.find? (fun e => e.id == i) with
  | none =>
    rw [List.find?_eq_none] at hf ⊢
    exact fun a ha => hf a (hp.mem_iff.2 ha)
  | some e =>
    have he := List.mem_of_find?_eq_some hf
    have hei := List.find?_some hf
    cases hg : L.find? (fun e => e.id == i) with
    | none =>
      rw [List.find?_eq_none] at hg
      exact absurd hei (hg e (hp.mem_iff.1 he))
    | some f =>
      have hm := hp.mem_iff.2 (List.mem_of_find?_eq_some hg)
      have hfi := List.find?_some hg
      rw [rise_uniq hr hm he (by simp at hfi hei; omega)]
theorem loadT_sort {nx : Int} {es : List RE} (h : LoadGood nx es) : loadT nx (es.map RE.norm) = loadT nx (sortR es) := by
  have hr := rise_good h
  have hp := sortR_perm es
  generalize hL : es.map RE.norm = L at *
  generalize hL' : sortR es = L' at *
  have hents : (loadT0 nx L).ents = (loadT0 nx L').ents := by
    funext i
    show (L.find? _).map RE.ent = (L'.find? _).map RE.ent
    rw [find_perm hr hp i]
  have hany : ∀ s, L.any (fun e => decide (e.obj = s)) = L'.any (fun e => decide (e.obj = s)) := fun s => by
    rw [Bool.eq_iff_iff, List.any_eq_true, List.any_eq_true]
    exact ⟨fun ⟨a, ha, hb⟩ => ⟨a, hp.mem_iff.2 ha, hb⟩, fun ⟨a, ha, hb⟩ => ⟨a, hp.mem_iff.1 ha, hb⟩⟩
  have hsort : ∀ s, sortI (idsOf (L.map RE.key) s) = sortI (idsOf (L'.map RE.key) s) := fun s => by
    have h1 := rise_ids hr s
    have hpp : (idsOf (L.map RE.key) s).Perm (idsOf (L'.map RE.key) s) := by
      rw [idsOf_eq, idsOf_eq]
      exact (hp.symm.filter _).map _
    rw [sortI_rise h1]
    exact sorted_is h1 hpp
  refine tabS_ext rfl hents (fun s => ?_)
  show ((loadT0 nx L).objs s).map (finO (loadT0 nx L).ents) = ((loadT0 nx L').objs s).map (finO (loadT0 nx L').ents)
  rw [hents]
  unfold loadT0
  simp only
  rw [hany s]
  split
  · rw [Option.map_some, Option.map_some]
    unfold finO
    simp only
    rw [hsort s]
  · rfl
theorem sim_load {nx : Int} {es : List RE} (h : LoadGood nx es) (hsz : ∀ e ∈ es, e.M.Sz) : Sim 0 (loadT nx (es.map RE.norm)) (loadX nx (sortR es)) := by
  rw [loadT_sort h]
  have hm : ∀ a ∈ sortR es, ∃ i, ∃ hi : i < es.length, a = es[i].norm := fun a ha => by
    obtain ⟨f, hf, rfl⟩ := (sortR_mem _ _).1 ha
    obtain ⟨i, hi, rfl⟩ := List.mem_iff_getElem.1 hf
    exact ⟨i, hi, rfl⟩
  refine sim_loadX (rise_good h) h.1 (fun e he => ?_) (fun e he => ?_) (fun e he => ?_)
  · obtain ⟨i, hi, rfl⟩ := hm e he
    obtain ⟨h1, h2, _⟩ := h.2.2 i hi hi
    exact ⟨(noteIs h1).id.1, h2⟩
  · obtain ⟨i, hi, rfl⟩ := hm e he
    exact ⟨rfl, rfl, rfl⟩
  · obtain ⟨i, hi, rfl⟩ := hm e he
    obtain ⟨h1, _, _⟩ := h.2.2 i hi hi
    have n := noteIs h1
    exact ⟨⟨hsz es[i] (List.getElem_mem hi), n.fr, n.wh, n.er⟩, n.gen.1⟩
end Go.Proofs.YtoaiamgcegnjjaaGreatDoor
