/- What is bad and what is lost is struck: the walk of Heal. -/
import Derived.Test.YtmgmfnimaafkdaaGreatDoorXW
import Derived.Test.YtmgmfnimaafkdaaGreatDoorXT
import Derived.Deep.WholeRow
namespace Go.Proofs.YtmgmfnimaafkdaaGreatDoor
open Go.RowKit Go.Maps
set_option maxRecDepth 100000

set_option maxHeartbeats 4000000 in
theorem indexN_any {w : World} (l : List Int) (A : Option Addr) (c : Nat) (x : Int) (h : Sl w 2 1 A l.length (numVs l)) (hl : l.length ≤ 100000) :
  Calls Tryz.prog 158 #[.slice A l.length c, .int .i64 x] w fun e w' => (∃ k : Int, e = .returned (.int .i64 k) ∧ decide (0 ≤ k) = decide (x ∈ l)) ∧ w = w' := by
 have H := hZ9 h
 clear h
 go_enter Tryz.func158, Tryz.ntmps158
 go_wp2_with fail
 go_loopw [8] (fun i wr => ∃ j : Nat, j ≤ l.length ∧ i = .int .i64 (j : Nat) ∧ x ∉ l.take j ∧ wr = w) (fun i _ => l.length - (intOf i).toNat)
 case atStart => exact ⟨0, Nat.zero_le _, rfl, by simp, rfl⟩
 case round =>
  obtain ⟨j, hj, rfl, hno, rfl⟩ := hrel
  have HNO := hZ9 hno
  clear hno
  by_cases hlt : j < l.length
  ·obtain ⟨b, o, rfl, hbl, q0⟩ := nums_rd H.out.1 j hlt rfl
   have hmem := List.getElem_mem hlt
   have htk : l.take (j + 1) = l.take j ++ [l[j]] := List.take_succ_eq_append_getElem hlt
   generalize l[j] = y at *
   have j1 : (j : Int) < (l.length : Int) := by omega
   have j2 : (0 : Int) ≤ (j : Int) := by omega
   have HTK := hZ9 htk
   have HMEM := hZ9 hmem
   clear htk hmem
   by_cases hxy : x = y
   ·have a1 : (x == y) = true := beq_iff_eq.2 hxy
    have HX := hZ9 hxy
    clear hxy
    go_wp2_with fail
    go_ret
    refine ⟨⟨(j : Int), rfl, ?_⟩, rfl⟩
    rw [decide_eq_true (show x ∈ l by rw [HX.out]; exact HMEM.out), decide_eq_true j2]
   ·have a1 : (x == y) = false := beq_eq_false_iff_ne.2 hxy
    have HX := hZ9 hxy
    clear hxy
    go_wp2_with fail
    go_roundw
    case rel => exact ⟨j + 1, by omega, by go_num, by rw [HTK.out, List.mem_append, List.mem_singleton]; rintro (h | h); (· exact HNO.out h); exact HX.out h, by first | rfl | trivial⟩
    case measure => simp [intOf]; omega
  ·obtain rfl : j = l.length := by omega
   rw [List.take_length] at HNO
   go_wp2_with fail
   go_ret
   exact ⟨⟨-1, rfl, by rw [decide_eq_false HNO.out]; rfl⟩, rfl⟩
theorem containsN_any {w : World} (l : List Int) (A : Option Addr) (c : Nat) (x : Int) (h : Sl w 2 1 A l.length (numVs l)) (hl : l.length ≤ 100000) :
  Calls Tryz.prog 103 #[.slice A l.length c, .int .i64 x] w fun e w' => e = .returned (.bool (decide (x ∈ l))) ∧ w = w' := by
 have HI := hZ9 (indexN_any l A c x h hl)
 clear h
 go_enter Tryz.func103, Tryz.ntmps103
 go_wp2_with (go_at_call 158; refine HI.out.mono ?_; rintro en w' ⟨⟨k, rfl, hk⟩, rfl⟩; (have HK := hZ9 hk); clear hk)
 go_ret
 refine ⟨?_, rfl⟩
 rw [← HK.out]
 rfl
theorem Sl.keepS {w w' : World} {base Sb e sz n : Nat} {s : StV} {m m' : StM} {A : Option Addr} {xs : List Value} (h : Sl w e sz A n xs) (k : KeepS base m m' w w') (hs : StR w base Sb s m) (h1 : e ∉ ([121, 165, 167, 216, 137, 220, 129] : List TypeId)) (h9 : e ≠ 9) (h0 : e ≠ 1000000) : Sl w' e sz A n xs := by
 have hst : ∀ a, A = some a → 0 < n → w'.heap[a.block]? = w.heap[a.block]? := fun a ha hn => by
  have hty := h.2 hn a ha
  refine k.old a.block e hty h1 (fun e1 => ?_) (fun e1 => ?_) (fun b hb e1 => ?_)
  ·have := hs.nmap.ty
   rw [← e1, hty] at this
   injection this with this
   exact h0 this
  ·have := hs.pmap.ty
   rw [← e1, hty] at this
   injection this with this
   exact h0 this
  ·have := own_ty (g := b.block) hs.mks (by rw [hb]; simp [Value.ownBlock])
   rw [← e1, hty] at this
   injection this with this
   exact h9 this
 refine ⟨⟨h.1.1, fun hn => ?_⟩, fun hn a ha => ?_⟩
 ·obtain ⟨b, o, rfl, hb, hc⟩ := h.1.2 hn
  have e := hst _ rfl hn
  exact ⟨b, o, rfl, Nat.lt_of_lt_of_le hb k.below.size, fun j hj => by rw [← hc j hj]; simp only [World.cell?, e]⟩
 ·have e2 := hst a ha hn
  have := h.2 hn a ha
  unfold tyOf at this ⊢
  rw [e2]; exact this
def FrameSl (w0 w : World) : Prop := ∀ (e sz : Nat) (A : Option Addr) (n : Nat) (xs : List Value), (e = 105 ∨ e = 2) → Sl w0 e sz A n xs → Sl w e sz A n xs
structure HealK (w0 w : World) (G R : Nat) (A1 A2 A3 A4 : Option Addr) (c1 c2 c3 c4 : Nat) (gl bl : List NameV) (ll rl : List Int) : Prop where
 g : Blk w G 96 #[.slice A1 gl.length c1, .slice A2 bl.length c2, .slice A3 ll.length c3, .slice A4 rl.length c4]
 r : Blk w R 96 #[.slice none 0 0, .slice none 0 0, .slice none 0 0, .slice none 0 0]
 s1 : Sl w 73 2 A1 gl.length (nameRows gl)
 s2 : Sl w 73 2 A2 bl.length (nameRows bl)
 s3 : Sl w 2 1 A3 ll.length (numVs ll)
 s4 : Sl w 2 1 A4 rl.length (numVs rl)
 fr : FrameSl w0 w
theorem HealK.below {w0 w w' : World} {G R : Nat} {A1 A2 A3 A4 : Option Addr} {c1 c2 c3 c4 : Nat} {gl bl : List NameV} {ll rl : List Int} (h : HealK w0 w G R A1 A2 A3 A4 c1 c2 c3 c4 gl bl ll rl) (hb : Below w.heap.size w w') : HealK w0 w' G R A1 A2 A3 A4 c1 c2 c3 c4 gl bl ll rl :=
 ⟨h.g.below hb h.g.lt, h.r.below hb h.r.lt, h.s1.below hb, h.s2.below hb, h.s3.below hb, h.s4.below hb, fun e sz A n xs he hs => (h.fr e sz A n xs he hs).below hb⟩
theorem HealK.keepS {w0 w w' : World} {base Sb : Nat} {s : StV} {m m' : StM} {G R : Nat} {A1 A2 A3 A4 : Option Addr} {c1 c2 c3 c4 : Nat} {gl bl : List NameV} {ll rl : List Int} (h : HealK w0 w G R A1 A2 A3 A4 c1 c2 c3 c4 gl bl ll rl) (k : KeepS base m m' w w') (hs : StR w base Sb s m) : HealK w0 w' G R A1 A2 A3 A4 c1 c2 c3 c4 gl bl ll rl :=
 ⟨k.blk hs h.g (by decide) (by decide), k.blk hs h.r (by decide) (by decide), h.s1.keepS k hs (by decide) (by decide) (by decide), h.s2.keepS k hs (by decide) (by decide) (by decide), h.s3.keepS k hs (by decide) (by decide) (by decide), h.s4.keepS k hs (by decide) (by decide) (by decide), fun e sz A n xs he h2 => (h.fr e sz A n xs he h2).keepS k hs (by rcases he with rfl | rfl <;> decide) (by rcases he with rfl | rfl <;> decide) (by rcases he with rfl | rfl <;> decide)⟩
theorem MadeL.str_keeps {w wr w' : World} {base Sb B K T : Nat} {m : StM} {s : StV} {ts puts : List (NameV × List UInt8)} {out : Value} (h : MadeL w wr base Sb B m K s ts puts T out) (k : Keeps base [96] wr w') : MadeL w w' base Sb B m K s ts puts T out :=
 ⟨h.bel.trans (k.below.mono h.wle), h.str.keeps k nR0 (by decide), h.inv, h.mB, own_keeps h.row k (by simp), h.wle⟩
theorem heal_drop {w wr : World} {base Sb B K T j : Nat} {m : StM} {s s1 : StV} {ts puts : List (NameV × List UInt8)} {out : Value} (h : MadeL w wr base Sb B m K s1 ts puts T out) (hK : K ≤ 59) {E0 : Nat} {ts0 : List (NameV × List UInt8)} (h0 : StAll s 32 E0 ts0)
  (hL : Less s s1 (fun n => !decide (n ∈ (badNs s).take j ∧ n.1 ∉ lostVs s)) (fun _ => true)) (hj : j < (badNs s).length) (n1 n2 : Int) (hn : (n1, n2) = (badNs s)[j]) (hm : n1 ∉ lostVs s) :
  Calls Tryz.prog 74 #[.pointer (some ⟨Sb, 0, none⟩), .agg #[.int .i64 n1, .int .i64 n2]] wr fun e w' => e = .returned (.int .i64 0) ∧ ∃ m' s' ts', MadeL w w' base Sb B m' (K + 1) s' ts' puts T out ∧ Less s s' (fun n => !decide (n ∈ (badNs s).take (j + 1) ∧ n.1 ∉ lostVs s)) (fun _ => true) ∧ KeepS base m m' wr w' := by
 have hmem : (n1, n2) ∈ badNs s := by rw [hn]; exact List.getElem_mem hj
 have hnm : (n1, n2) ∈ namesL s := (List.mem_filter.1 hmem).1
 have hnd : (badNs s).Nodup := List.Pairwise.filter _ h0.srtS.nodup
 have hnt : (n1, n2) ∉ (badNs s).take j := fun hc => by
  obtain ⟨i, hi, he⟩ := List.mem_iff_getElem.1 hc
  rw [List.getElem_take] at he
  rw [List.length_take] at hi
  have := (List.pairwise_iff_getElem.1 hnd) i j (by omega) hj (by omega)
  exact this (he.trans hn)
 obtain ⟨x, hx, hxe⟩ := List.mem_map.1 hnm
 obtain ⟨r1, r2⟩ := h0.right x hx
 rw [hxe] at r1 r2
 have hs0 : (getL s.slices (n1, n2)).isSome = true := getL_some.2 hnm
 have hs1 : (getL s1.slices (n1, n2)).isSome = true := by
  rw [hL.sl, getL_filter (fun n => !decide (n ∈ (badNs s).take j ∧ n.1 ∉ lostVs s)), if_pos (by simp [hnt])]
  exact hs0
 obtain ⟨ts', hi, hsure⟩ := h.inv.drop (by omega) (n1, n2)
 obtain ⟨he, _⟩ := hsure hs1
 have htk : (badNs s).take (j + 1) = (badNs s).take j ++ [(n1, n2)] := by rw [hn]; exact List.take_succ_eq_append_getElem hj
 refine (drop_any h.str (h.inv.ok (by omega)) (n1, n2) ⟨wfI_right r1, wfI_right r2⟩).mono fun e w' ⟨g1, m', g2, g3⟩ => ⟨by rw [g1, he]; rfl, m', _, ts', h.act g2 g3 hi, ?_, g3⟩
 refine (hL.drop h.inv.all (n1, n2) he).congr (fun n => ?_) (fun _ => rfl)
 rw [htk]
 by_cases e : n = (n1, n2)
 ·subst e
  simp [hm]
 ·simp [e]
theorem heal_forget {w wr : World} {base Sb B K T j : Nat} {m : StM} {s s1 : StV} {ts puts : List (NameV × List UInt8)} {out : Value} (h : MadeL w wr base Sb B m K s1 ts puts T out) (hK : K ≤ 59) {E0 : Nat} {ts0 : List (NameV × List UInt8)} (h0 : StAll s 32 E0 ts0)
  (hL : Less s s1 (fun n => !decide (n ∈ badNs s ∧ n.1 ∉ lostVs s) && !decide (n.1 ∈ (lostVs s).take j)) (fun v => !decide (v ∈ (lostVs s).take j))) (hj : j < (lostVs s).length) (v : Int) (hv : v = (lostVs s)[j]) :
  Calls Tryz.prog 76 #[.pointer (some ⟨Sb, 0, none⟩), .int .i64 v] wr fun e w' => e = .returned (.int .i64 0) ∧ ∃ m' s' ts', MadeL w w' base Sb B m' (K + 1) s' ts' puts T out ∧ Less s s' (fun n => !decide (n ∈ badNs s ∧ n.1 ∉ lostVs s) && !decide (n.1 ∈ (lostVs s).take (j + 1))) (fun v => !decide (v ∈ (lostVs s).take (j + 1))) ∧ KeepS base m m' wr w' := by
 have hmem : v ∈ lostVs s := by rw [hv]; exact List.getElem_mem hj
 have hvers := versL_ok (namesL s) (List.pairwise_map.2 h0.srtS)
 have hpw : (lostVs s).Pairwise (· < ·) := List.Pairwise.filter _ hvers.1
 have hnt : v ∉ (lostVs s).take j := fun hc => by
  obtain ⟨i, hi, he⟩ := List.mem_iff_getElem.1 hc
  rw [List.getElem_take] at he
  rw [List.length_take] at hi
  have := (List.pairwise_iff_getElem.1 hpw) i j (by omega) hj (by omega)
  rw [he, ← hv] at this
  omega
 obtain ⟨n, hn, hnv⟩ := (hvers.2.2 v).1 (List.mem_filter.1 hmem).1
 obtain ⟨x, hx, hxe⟩ := List.mem_map.1 hn
 obtain ⟨r1, _⟩ := h0.right x hx
 rw [hxe, hnv] at r1
 have hgone : goneL s1 v ≠ [] := by
  intro hc
  have : x ∈ goneL s1 v := by
   refine List.mem_filter.2 ⟨?_, by rw [hxe]; exact decide_eq_true hnv⟩
   rw [hL.sl]
   refine List.mem_filter.2 ⟨hx, ?_⟩
   rw [hxe, hnv]
   simp [hmem, hnt]
  rw [hc] at this
  cases this
 have htk : (lostVs s).take (j + 1) = (lostVs s).take j ++ [v] := by rw [hv]; exact List.take_succ_eq_append_getElem hj
 refine (forgetS_any h.str (h.inv.ok (by omega)) v (wfI_right r1)).mono fun e w' ⟨gone, hg, g1, m', g2, g3⟩ => ?_
 obtain ⟨ts', hi, hsure⟩ := h.inv.forget (by omega) v gone hg
 obtain ⟨he, _⟩ := hsure hgone
 refine ⟨by rw [g1, he]; rfl, m', _, ts', h.act g2 g3 hi, ?_, g3⟩
 refine (hL.forget h.inv.all v gone he).congr (fun n => ?_) (fun u => ?_)
 ·rw [htk]
  by_cases e : n.1 = v
  ·simp [e]
  ·simp [e]
 ·rw [htk]
  by_cases e : u = v
  ·simp [e]
  ·simp [e]
set_option maxHeartbeats 16000000 in
theorem heal_any {w w1 : World} {base Sb B K T : Nat} {m : StM} {s : StV} {ts puts : List (NameV × List UInt8)} {out : Value} (h : MadeL w w1 base Sb B m K s ts puts T out) (hK : K ≤ 20) :
  Calls Tryz.prog 52 #[.pointer (some ⟨Sb, 0, none⟩)] w1 fun e w' => ∃ A1 c1 A2 c2 A3 c3 A4 c4, e = .returned (.tuple #[.agg #[.slice A1 (goodL s).length c1, .slice A2 (badNs s).length c2, .slice A3 (lostVs s).length c3, .slice A4 (bareVs s).length c4], .int .i64 0]) ∧
   Sl w' 73 2 A1 (goodL s).length (nameRows (goodL s)) ∧ Sl w' 73 2 A2 (badNs s).length (nameRows (badNs s)) ∧ Sl w' 2 1 A3 (lostVs s).length (numVs (lostVs s)) ∧ Sl w' 2 1 A4 (bareVs s).length (numVs (bareVs s)) ∧
   ∃ m' K' s' ts', MadeL w w' base Sb B m' K' s' ts' puts T out ∧ K' ≤ 60 ∧ Less s s' (healP s) (healQ s) ∧ FrameSl w1 w' := by
 obtain ⟨hnum, hl1, hl2, hl3⟩ := h.look hK
 have HLK := hZ9 (fun (wy : World) (hy : Below w1.heap.size w1 wy) => look_any (h.str.below hy) h.inv.all hnum (by omega) (by omega))
 have H0 := hZ9 h.inv.all
 have HH := hZ9 h
 have hnl : (namesL s).length = s.slices.length := by simp [namesL]
 have hbl20 : (badNs s).length ≤ 20 := by have := good_bad s; omega
 have hll20 : (lostVs s).length ≤ 20 := by
  have g3 : (lostVs s).length ≤ (versL (namesL s)).length := List.length_filter_le _ _
  have g4 := versL_len (namesL s)
  omega
 have hbase := h.str.lt
 have HI : Hid ((Tryz.prog.info? 96).map (·.size) = some 4) := sizeR96
 have HI7 : Hid ((Tryz.prog.info? 73).map (·.size) = some 2) := sz73
 have HDR := hZ9 (fun (wr : World) (K j : Nat) (m : StM) (s1 : StV) (ts : List (NameV × List UInt8)) (h : MadeL w wr base Sb B m K s1 ts puts T out) hK hL hj n1 n2 hn hm => heal_drop (s := s) (j := j) h hK H0.out hL hj n1 n2 hn hm)
 have HFG := hZ9 (fun (wr : World) (K j : Nat) (m : StM) (s1 : StV) (ts : List (NameV × List UInt8)) (h : MadeL w wr base Sb B m K s1 ts puts T out) hK hL hj v hv => heal_forget (s := s) (j := j) h hK H0.out hL hj v hv)
 have HP := hZ9 (show healP s = (fun n => !decide (n ∈ badNs s ∧ n.1 ∉ lostVs s) && !decide (n.1 ∈ lostVs s)) ∧ healQ s = (fun v => !decide (v ∈ lostVs s)) from ⟨rfl, rfl⟩)
 generalize hgl : goodL s = gl at *
 generalize hbl : badNs s = bl at *
 generalize hll : lostVs s = ll at *
 generalize hrl : bareVs s = rl at *
 clear h hnum hl1 hl2 hl3 hnl hgl hbl hll hrl H0
 have HB0 : Hid (Below w1.heap.size w1 (w1.alloc (.cells #[.slice none 0 0, .slice none 0 0, .slice none 0 0, .slice none 0 0] 96))) := bR0.alloc nR0 _
 have HR0 := hZ9 (Blk.new w1 96 #[.slice none 0 0, .slice none 0 0, .slice none 0 0, .slice none 0 0])
 go_enter Tryz.func52, Tryz.ntmps52
 go_upto_region 1 with fail
 generalize w1.alloc (.cells #[.slice none 0 0, .slice none 0 0, .slice none 0 0, .slice none 0 0] 96) = w0 at *
 obtain ⟨R, hR⟩ : ∃ R, R = w1.heap.size := ⟨_, rfl⟩
 rw [← hR] at HR0 ⊢
 have hRb : base ≤ R := by omega
 have HRE := hZ9 hR
 clear hR
 go_upto_region 2 with (first
  | (go_at_call 42; refine (HLK.out _ HB0.out).mono ?_; rintro en w2 ⟨A1, c1, A2, c2, A3, c3, A4, c4, rfl, hs1, hs2, hs3, hs4, hb⟩; (have HS := hZ9 (And.intro hs1 (And.intro hs2 (And.intro hs3 hs4)))); (have HB2 := hZ9 (HB0.out.trans (hb.mono HB0.out.size))); (have HR2 := hZ9 (HR0.out.below hb HR0.out.lt)); (have HX2 := hZ9 (Blk.new w2 96 #[.slice none 0 0, .slice none 0 0, .slice none 0 0, .slice none 0 0])); clear hs1 hs2 hs3 hs4 hb)
  | (refine wpList_store_row rfl 96 _ _ rfl w2.heap.size #[.slice A1 gl.length c1, .slice A2 bl.length c2, .slice A3 ll.length c3, .slice A4 rl.length c4] rfl rfl 96 _ HX2.out HI.out rfl (by simp [Value.oneCell']) ?_))
 rw [World.setRow_alloc_new]
 have HBA : Hid (Below w2.heap.size w2 (w2.alloc (.cells #[.slice A1 gl.length c1, .slice A2 bl.length c2, .slice A3 ll.length c3, .slice A4 rl.length c4] 96))) := bR0.alloc nR0 _
 have HKA := hZ9 (show HealK w1 (w2.alloc (.cells #[.slice A1 gl.length c1, .slice A2 bl.length c2, .slice A3 ll.length c3, .slice A4 rl.length c4] 96)) w2.heap.size R A1 A2 A3 A4 c1 c2 c3 c4 gl bl ll rl from ⟨Blk.new _ _ _, HR2.out.alloc _, HS.out.1.below HBA.out, HS.out.2.1.below HBA.out, HS.out.2.2.1.below HBA.out, HS.out.2.2.2.below HBA.out, fun e sz A n xs _ hs => hs.below (HB2.out.trans (HBA.out.mono HB2.out.size))⟩)
 have HM3 := hZ9 (HH.out.below (HB2.out.trans (HBA.out.mono HB2.out.size)))
 generalize w2.alloc (.cells #[.slice A1 gl.length c1, .slice A2 bl.length c2, .slice A3 ll.length c3, .slice A4 rl.length c4] 96) = w3 at *
 generalize w2.heap.size = G at *
 clear HX2 HB2 HBA HLK HR2 HR0 HB0 HH HS
 have x1 : w3.cell? ⟨G, 1, none⟩ = some (.slice A2 bl.length c2) := HKA.out.g.cell 1
 have xl := HKA.out.g.lt
 obtain ⟨bn, hbn⟩ : ∃ bn, bn = bl.length := ⟨_, rfl⟩
 have HBN := hZ9 hbn
 go_wp2_with fail
 rw [← hbn]
 clear hbn x1 xl
 go_loopw [16] (fun i wr => ∃ (j : Nat) (m' : StM) (s' : StV) (ts' : List (NameV × List UInt8)), j ≤ bn ∧ i = .int .i64 (j : Nat) ∧ MadeL w wr base Sb B m' (K + j) s' ts' puts T out ∧ Less s s' (fun n => !decide (n ∈ bl.take j ∧ n.1 ∉ ll)) (fun _ => true) ∧ HealK w1 wr G R A1 A2 A3 A4 c1 c2 c3 c4 gl bl ll rl) (fun i _ => bn - (intOf i).toNat)
 case atStart => exact ⟨0, m, s, ts, Nat.zero_le _, rfl, HM3.out, (Less.refl s).congr (fun n => by simp) (fun _ => rfl), HKA.out⟩
 case round =>
  obtain ⟨j, m', s', ts', hj, rfl, hM, hL, hk⟩ := hrel
  have HM := hZ9 hM
  have HL := hZ9 hL
  have HK := hZ9 hk
  clear hM hL hk HM3 HKA
  by_cases hlt : j < bn
  ·have hjl : j < bl.length := by have := HBN.out; omega
   obtain ⟨b, o, rfl, hbl, q0, q1⟩ := names_rd HK.out.s2.1 j hjl rfl
   obtain ⟨nm, hnm⟩ : ∃ nm, nm = bl[j] := ⟨_, rfl⟩
   rw [← hnm] at q0 q1
   have htk : bl.take (j + 1) = bl.take j ++ [nm] := by rw [hnm]; exact List.take_succ_eq_append_getElem hjl
   have HNM := hZ9 hnm
   have HTK := hZ9 htk
   clear hnm htk
   obtain ⟨n1, n2⟩ := nm
   simp only at q0 q1
   have j1 : (j : Int) < (bn : Int) := by omega
   have j2 : (0 : Int) ≤ (j : Int) := by omega
   have hbnl : bl.length = bn := HBN.out.symm
   have hba : Below wr.heap.size wr (wr.alloc (.cells #[.int .i64 n1, .int .i64 n2] 73)) := bR0.alloc nR0 _
   have HMX := hZ9 (HM.out.below hba)
   have HKX := hZ9 (HK.out.below hba)
   have HZ := hZ9 (Blk.new wr 73 #[.int .i64 n1, .int .i64 n2])
   clear hba
   go_upto_region 5 with fail
   generalize wr.alloc (.cells #[.int .i64 n1, .int .i64 n2] 73) = wx at *
   generalize wr.heap.size = g at *
   clear q0 q1 hbl HM HK hbnl
   have z0 : wx.cell? ⟨g, 0, none⟩ = some (.int .i64 n1) := HZ.out.cell 0
   have z1 : wx.cell? ⟨g, 1, none⟩ = some (.int .i64 n2) := HZ.out.cell 1
   have x2 : wx.cell? ⟨G, 2, none⟩ = some (.slice A3 ll.length c3) := HKX.out.g.cell 2
   have xl := HKX.out.g.lt
   have zl := HZ.out.lt
   have HCT := hZ9 (containsN_any ll A3 c3 n1 HKX.out.s3 (by omega))
   by_cases hm : n1 ∈ ll
   ·rw [decide_eq_true hm] at HCT
    go_wp2_with (go_at_call 103; refine HCT.out.mono ?_; rintro en w5 ⟨rfl, rfl⟩)
    go_roundw
    case rel => exact ⟨j + 1, m', s', ts', by omega, by go_num, HMX.out.idle, HL.out.congr (fun n => by
     rw [HTK.out]
     by_cases e : n = (n1, n2)
     ·subst e; simp [hm]
     ·simp [e]) (fun _ => rfl), HKX.out⟩
    case measure => simp [intOf]; omega
   ·rw [decide_eq_false hm] at HCT
    have HD := hZ9 (HDR.out wx (K + j) j m' s' ts' HMX.out (by omega) HL.out hjl n1 n2 HNM.out hm)
    clear hm
    go_wp2_with (first
     | (go_at_call 103; refine HCT.out.mono ?_; rintro en w5 ⟨rfl, rfl⟩)
     | (go_at_call 74; refine HD.out.mono ?_; rintro en w5 ⟨rfl, m5, s5, ts5, hm5, hl5, hk5⟩; (have HM5 := hZ9 hm5); (have HL5 := hZ9 hl5); (have HK5 := hZ9 (HKX.out.keepS hk5 HMX.out.str)); clear hm5 hl5 hk5))
    go_roundw
    case rel => exact ⟨j + 1, m5, s5, ts5, by omega, by go_num, HM5.out, HL5.out, HK5.out⟩
    case measure => simp [intOf]; omega
  ·obtain rfl : j = bn := by omega
   have hta : bl.take j = bl := List.take_of_length_le (by have := HBN.out; omega)
   rw [hta] at HL
   have x2 : wr.cell? ⟨G, 2, none⟩ = some (.slice A3 ll.length c3) := HK.out.g.cell 2
   have xl := HK.out.g.lt
   obtain ⟨ln, hln⟩ : ∃ ln, ln = ll.length := ⟨_, rfl⟩
   have HLN := hZ9 hln
   clear hta HDR
   go_wp2_with fail
   rw [← hln]
   clear hln x2 xl
   go_loopw [36] (fun i wq => ∃ (p : Nat) (m5 : StM) (s5 : StV) (ts5 : List (NameV × List UInt8)), p ≤ ln ∧ i = .int .i64 (p : Nat) ∧ MadeL w wq base Sb B m5 (K + j + p) s5 ts5 puts T out ∧ Less s s5 (fun n => !decide (n ∈ bl ∧ n.1 ∉ ll) && !decide (n.1 ∈ ll.take p)) (fun v => !decide (v ∈ ll.take p)) ∧ HealK w1 wq G R A1 A2 A3 A4 c1 c2 c3 c4 gl bl ll rl) (fun i _ => ln - (intOf i).toNat)
   case atStart => exact ⟨0, m', s', ts', Nat.zero_le _, rfl, HM.out, HL.out.congr (fun n => by simp) (fun _ => by simp), HK.out⟩
   case round =>
    obtain ⟨p, m5, s5, ts5, hp, rfl, hM, hL, hk⟩ := hrel
    have HM5 := hZ9 hM
    have HL5 := hZ9 hL
    have HK5 := hZ9 hk
    clear hM hL hk HM HL HK
    by_cases hlt2 : p < ln
    ·have hpl : p < ll.length := by have := HLN.out; omega
     obtain ⟨b, o, rfl, hbl, q0⟩ := nums_rd HK5.out.s3.1 p hpl rfl
     obtain ⟨v, hv⟩ : ∃ v, v = ll[p] := ⟨_, rfl⟩
     rw [← hv] at q0
     have HFC := hZ9 (HFG.out wr (K + j + p) p m5 s5 ts5 HM5.out (by have := HBN.out; omega) HL5.out hpl v hv)
     have p1 : (p : Int) < (ln : Int) := by omega
     have p2 : (0 : Int) ≤ (p : Int) := by omega
     have hlnl : ll.length = ln := HLN.out.symm
     clear hv
     go_wp2_with (go_at_call 76; refine HFC.out.mono ?_; rintro en w7 ⟨rfl, m7, s7, ts7, hm7, hl7, hk7⟩; (have HM7 := hZ9 hm7); (have HL7 := hZ9 hl7); (have HK7 := hZ9 (HK5.out.keepS hk7 HM5.out.str)); clear hm7 hl7 hk7)
     go_roundw
     case rel => exact ⟨p + 1, m7, s7, ts7, by omega, by go_num, HM7.out, HL7.out, HK7.out⟩
     case measure => simp [intOf]; omega
    ·obtain rfl : p = ln := by omega
     have hta : ll.take p = ll := List.take_of_length_le (by have := HLN.out; omega)
     rw [hta] at HL5
     have HG5 := hZ9 HK5.out.g
     have HR5 := hZ9 HK5.out.r
     have hbr : base ≤ wr.heap.size := HM5.out.str.lt
     clear hta HFG
     go_wp2_with (first
      | (refine wpList_load_row rfl 96 _ rfl G rfl 96 #[.slice A1 gl.length c1, .slice A2 bl.length c2, .slice A3 ll.length c3, .slice A4 rl.length c4] (0, 0) _ HG5.out Tryz.underlying96 rfl HI.out ?_)
      | (refine wpList_store_row rfl 96 _ _ rfl R #[.slice A1 gl.length c1, .slice A2 bl.length c2, .slice A3 ll.length c3, .slice A4 rl.length c4] rfl rfl 96 _ HR5.out HI.out rfl (by simp [Value.oneCell']) ?_))
     refine bodyPost_ret (v := .tuple #[.agg #[.slice A1 gl.length c1, .slice A2 bl.length c2, .slice A3 ll.length c3, .slice A4 rl.length c4], .int .i64 0]) (results_cell_tmp Tryz.results52 _ _ R 96 #[.slice A1 gl.length c1, .slice A2 bl.length c2, .slice A3 ll.length c3, .slice A4 rl.length c4] (0, 0) _ rfl (setRow_blk HR5.out _) Tryz.underlying96 rfl HI.out) rfl ?_
     have kf : Keeps base [96] wr (wr.setRow R #[.slice A1 gl.length c1, .slice A2 bl.length c2, .slice A3 ll.length c3, .slice A4 rl.length c4]) :=
      Keeps.of_grown (setRow_gby _ _ _) hbr (fun g e => by
       injection e with e
       subst e
       refine ⟨hRb, fun t ht => ?_⟩
       have := HR5.out.ty
       rw [this] at ht
       injection ht with ht
       simp [← ht])
     refine ⟨A1, c1, A2, c2, A3, c3, A4, c4, rfl, HK5.out.s1.keeps kf (by decide), HK5.out.s2.keeps kf (by decide), HK5.out.s3.keeps kf (by decide), HK5.out.s4.keeps kf (by decide), m5, _, s5, ts5, HM5.out.str_keeps kf, ?_, ?_, fun e sz A n xs he h2 => (HK5.out.fr e sz A n xs he h2).keeps kf (by rcases he with rfl | rfl <;> decide)⟩
     ·have := HBN.out
      have := HLN.out
      omega
     ·rw [HP.out.1, HP.out.2]
      exact HL5.out
end Go.Proofs.YtmgmfnimaafkdaaGreatDoor
