/- The records of what is there. -/
import Derived.Test.YtmgmfnimaafkdaaGreatDoorVR
import Derived.Test.YtmgmfnimaafkdaaGreatDoorVQ
namespace Go.Proofs.YtmgmfnimaafkdaaGreatDoor
section
open Go.RowKit Go.Maps Go.Shelf Go.Sort
set_option maxRecDepth 100000

theorem sortsN (m : Nat) : AnyZI.SortsIn Tryz.prog Tryz.sortedN_ren Fence.wide m :=
 ⟨fun blk off cap ss W hH hblk hsz => callsIn_wide.2 (AnyM.slices_Sort_int Tryz.sortN blk off cap ss W hH hblk hsz),
  fun p cap W => callsIn_wide.2 (AnyM.slices_Sort_int_none Tryz.sortN p cap W)⟩
theorem noteKeys_call (mb : Option Nat) (W : World) : Calls Tryz.prog 91 #[.map mb] W fun e w' => e = .returned (.func (.func 152) #[] #[.pointer (some ⟨W.heap.size, 0, none⟩)]) ∧ w' = W.alloc (.cells #[.map mb] 124) :=
 (callsIn_wide (n := 5)).1 (AnyZI.keys_in Tryz.keysN Fence.wide 5 trivial rfl mb W)
theorem intSort_is {α : Type} {l : List (Int × α)} (hs : SrtN l) {ss : List Int} (hp : ss.Perm (l.map (·.1))) : ss.mergeSort (fun x y => decide (x ≤ y)) = l.map (·.1) := by
 have tr : ∀ a b c : Int, decide (a ≤ b) = true → decide (b ≤ c) = true → decide (a ≤ c) = true := fun a b c h1 h2 => by simp only [decide_eq_true_eq] at *; omega
 have ttl : ∀ a b : Int, (decide (a ≤ b) || decide (b ≤ a)) = true := fun a b => by simp only [Bool.or_eq_true, decide_eq_true_eq]; exact Int.le_total a b
 refine List.Perm.eq_of_pairwise (le := fun a b => decide (a ≤ b) = true) (fun a b _ _ h1 h2 => ?_) (List.pairwise_mergeSort tr ttl ss) (List.pairwise_map.2 (hs.imp fun h => by simp only [decide_eq_true_eq]; omega)) ((List.mergeSort_perm ss _).trans hp)
 simp only [decide_eq_true_eq] at h1 h2
 omega
theorem noteKeys_perm {D : DataW Unit} {w : World} {b n : Nat} {f : Int → Option (List UInt8)} (hown : w.ownsMap Tryz.prog 2 NK.R b n D) (hf : NK.Says D f) {I : List Int} (hk : NK.Keys f I) : I.Perm (intKeys D) := by
 have hw := intKeys_wf hown Tryz.underlying2
 have hmem : ∀ x, x ∈ intKeys D ↔ wfI x ∧ has D (.int .i64 x) = true := by
  intro x
  obtain ⟨es, hD, hko⟩ := hown.keysOf
  subst hD
  constructor
  ·intro hx
   refine ⟨hw x hx, ?_⟩
   obtain ⟨p, hp, rfl⟩ := List.mem_map.1 hx
   obtain ⟨v, hv⟩ := hko p hp
   obtain ⟨y, _, hy, hl⟩ := Maps.keyOf_i64 Tryz.underlying2 hv
   rw [has_eq, List.any_eq_true]
   refine ⟨p, hp, ?_⟩
   rw [hy]
   exact WideAt.sameKey_self (keyed2.key (keyOf_int_mk Tryz.underlying2 hl))
  ·rintro ⟨hx, hh⟩
   rw [has_eq, List.any_eq_true] at hh
   obtain ⟨p, hp, he⟩ := hh
   have := WideAt.sameKey_eq he
   exact List.mem_map.2 ⟨p, hp, by rw [this]; rfl⟩
 have hnd : (intKeys D).Nodup := by
  obtain ⟨es, hD, hpw, _⟩ := hown.entries keyed2
  subst hD
  obtain ⟨es', hD', hko⟩ := hown.keysOf
  injection hD' with hD'
  subst hD'
  refine List.pairwise_map.2 ((List.Pairwise.and_mem.1 hpw).imp ?_)
  rintro p q ⟨hp, hq, hne⟩ he
  obtain ⟨v, hv⟩ := hko p hp
  obtain ⟨u, hu⟩ := hko q hq
  obtain ⟨y, _, hy, _⟩ := Maps.keyOf_i64 Tryz.underlying2 hv
  obtain ⟨z, _, hz, _⟩ := Maps.keyOf_i64 Tryz.underlying2 hu
  rw [hy, hz] at hne he
  exact hne (by rw [show y = z from he])
 refine (List.perm_ext_iff_of_nodup hk.1 hnd).2 fun x => ?_
 rw [hmem]
 constructor
 ·intro hx
  have hx' := hk.2.1 x hx
  exact ⟨hx', by show has D (NK.lk x) = true; rw [(hf x hx').1]; exact (hk.2.2 x hx').1 hx⟩
 ·rintro ⟨hx', hh⟩
  exact (hk.2.2 x hx').2 (by rw [← (hf x hx').1]; exact hh)
theorem notes_any {w : World} {base Sb : Nat} {s : StV} {m : StM} (h : StR w base Sb s m) (hs : SrtN s.notes) (hr : ∀ x ∈ s.notes, rightB x.1 = true ∧ x.2.length ≤ 3000) (hl : s.notes.length ≤ 1000000) :
  Calls Tryz.prog 36 #[.pointer (some ⟨Sb, 0, none⟩)] w fun e w' => ∃ A c, e = .returned (.slice A s.notes.length c) ∧ w'.ownsRow w.heap.size 2 1 (.slice A s.notes.length c) s.notes.length (numVs (s.notes.map (·.1))) ∧ Below w.heap.size w w' := by
 have hk := keys_of_notes hs hr
 obtain ⟨D, hown, hf⟩ := h.nmap
 have hp := noteKeys_perm hown hf hk
 have hsz : Maps.size D ≤ 1000000 := by rw [KV.size hown hf hk, List.length_map]; exact hl
 have hbl := hown.lt
 have hseq : SeqGives Fence.wide 2 Tryz.prog 152 #[.pointer (some ⟨w.heap.size, 0, none⟩)] encZ (fun ss => ss.Perm (intKeys D)) (Maps.size D) (w.alloc (.cells #[.map (some m.Nb)] 124)) :=
  AnyZI.keys_gives (ρ := Tryz.keysN_ren) { Tryz.keysN with } Fence.wide _ trivial rfl (by omega) w.heap.size m.Nb _ D _ (by simp) (by simp) (by
   obtain ⟨es, clock, hb, Ft, hs, hD⟩ := hown
   exact ⟨es, clock, (Below.heap_alloc _ _ m.Nb hbl).trans hb, Ft, hs, hD⟩)
 have cS := AnyZI.sorted_in Tryz.sortedN Fence.wide 5 trivial trivial trivial trivial rfl (by omega) (sortsN _) (enters_of Tryz.func151 (by kernel_rfl) rfl) 152 #[.pointer (some ⟨w.heap.size, 0, none⟩)] trivial (enters_of Tryz.func152 (by kernel_rfl) rfl) _ _ (by unfold maxLen; omega) (by omega) _ hseq
 change CallsIn _ _ Tryz.prog 90 _ _ _ at cS
 have HS : Hid (Calls Tryz.prog 90 #[.func (.func 152) #[] #[.pointer (some ⟨w.heap.size, 0, none⟩)]] (w.alloc (.cells #[.map (some m.Nb)] 124)) fun e w' => ∃ A c, e = .returned (.slice A s.notes.length c) ∧ w'.ownsRow w.heap.size 2 1 (.slice A s.notes.length c) s.notes.length (numVs (s.notes.map (·.1))) ∧ Below w.heap.size w w') := by
  refine ((callsIn_wide (n := 5)).1 cS).mono ?_
  rintro e w' ⟨v, ss, rfl, hS, hrow, hnil, hb⟩
  have hp2 := hS.trans hp.symm
  have hlen : ss.length = s.notes.length := by rw [hp2.length_eq, List.length_map]
  rw [intSort_is hs hp2, hlen] at hrow
  obtain ⟨A, c, rfl, _⟩ := own_form hrow
  exact ⟨A, c, rfl, own_base hrow (by simp), ((Below.refl _ w).alloc nR0 _).trans (hb.mono (by simp))⟩
 have HK := hZ9 (noteKeys_call (some m.Nb) w)
 have c4 : w.cell? ⟨Sb, 4, none⟩ = some (.map (some m.Nb)) := h.blk.cell 4
 have hlt := h.blk.lt
 clear h hs hr hk hown hf hp hsz hbl hseq cS
 go_enter Tryz.func36, Tryz.ntmps36
 go_wp2_with (first
  | (go_at_call 91; refine HK.out.mono ?_; rintro e w' ⟨rfl, rfl⟩)
  | (go_at_call 90; refine HS.out.mono ?_; rintro e w2 ⟨A, c, rfl, ho, hb⟩; (have HO := hZ9 ho); (have HB := hZ9 hb); clear ho hb))
 go_ret
 exact ⟨A, c, rfl, HO.out, HB.out⟩
theorem right_any (n : Int) (w : World) : Calls Tryz.prog 104 #[.int .i64 n] w fun e w' => e = .returned (.bool (rightB n)) ∧ w = w' := by
 by_cases h0 : 0 ≤ n
 ·go_enter Tryz.func104, Tryz.ntmps104
  go_wp2_with fail
  go_ret
  exact ⟨ret_bool (by unfold rightB; simp [h0]), rfl⟩
 ·go_enter Tryz.func104, Tryz.ntmps104
  go_wp2_with fail
  go_ret
  exact ⟨ret_bool (by unfold rightB; simp [show ¬ 0 ≤ n by omega]), rfl⟩
end
section
open Go.RowKit Go.Maps Go.Shelf
set_option maxRecDepth 100000

def noteRec (n : Int × List UInt8) : RecL := (78, wordsS [n.1] ++ 32 :: n.2)
theorem records_eq (s : StV) : recordsS s = s.notes.map noteRec ++ s.slices.map (fun n => slotRec n.1 n.2) ++ s.marks.map (fun m => (77, m)) := rfl
structure StL (s : StV) : Prop where
 srtS : SrtS s.slices
 num : ∀ x ∈ s.slices, NumOK x ∧ x.2.len ≤ 1048576
 srtN : SrtN s.notes
 txt : ∀ x ∈ s.notes, rightB x.1 = true ∧ x.2.length ≤ 3000
 mks : ∀ x ∈ s.marks, x.length ≤ 3000
 nS : s.slices.length ≤ 100001
 nN : s.notes.length ≤ 100001
 nM : s.marks.length ≤ 100001
theorem StOK.l {s : StV} (h : StOK s) : StL s := ⟨h.srtS, h.num, h.srtN, h.txt, h.mks, by have := h.nS; omega, by have := h.nN; omega, by have := h.nM; omega⟩
theorem StL.logged {s : StV} (h : StL s) (d : DskV) (l : LogV) : StL { s with d := d, log := l } := ⟨h.srtS, h.num, h.srtN, h.txt, h.mks, h.nS, h.nN, h.nM⟩
structure RecsW (w wr : World) (rs : List RecL) (j : Nat) (L : List RecM) (out : Value) : Prop where
 rcs : L.map (·.1) = rs.take j
 len : L.length = j
 own : wr.ownsRow w.heap.size 137 2 out j (recRows L)
 bod : Bods wr L
 below : Below w.heap.size w wr
theorem RecsW.start (w : World) (rs : List RecL) : RecsW w w rs 0 [] (.slice none 0 0) := ⟨rfl, rfl, World.ownsRow_nil _ _ _ _, (fun x hx => by cases hx), bR0⟩
theorem RecsW.keep {w wr w' : World} {rs : List RecL} {j : Nat} {L : List RecM} {out : Value} (h : RecsW w wr rs j L out) (hb : Below wr.heap.size wr w') : RecsW w w' rs j L out :=
 ⟨h.rcs, h.len, own_keeps h.own (ts := []) (Keeps.of_below (base := 0) hb (Nat.zero_le _)) (by simp), h.bod.below hb, h.below.trans (hb.mono h.below.size)⟩
theorem RecsW.push {w wr w3 w4 : World} {rs : List RecL} {j : Nat} {L : List RecM} {out : Value} {kd : Nat} {bs : List UInt8} {A A2 : Option Addr} {c c2 : Nat} (h : RecsW w wr rs j L out) (hj : rs[j]? = some (kd, bs)) (hb : Below wr.heap.size wr w3) (hby : Byt w3 A bs) (hc : bs.length ≤ c) (hk : kd < 256) (hbl : bs.length < 1099511627776)
  (hown : w4.ownsRow w.heap.size 137 2 (.slice A2 (j + 1) c2) (j + 1) (recRows L ++ [.int .u8 kd, .slice A bs.length c])) (hgr : w3.grownBy w4 out.ownBlock) : RecsW w w4 rs (j + 1) (L ++ [((kd, bs), A, c)]) (.slice A2 (j + 1) c2) := by
 have h3 := h.keep hb
 have hk4 : Keeps w.heap.size [137] w3 w4 := keeps_own_grown h3.own hgr (by have := h3.below.size; omega)
 obtain ⟨hlt, hge⟩ := List.getElem?_eq_some_iff.1 hj
 refine ⟨?_, by rw [List.length_append, h.len]; rfl, ?_, ?_, h3.below.trans hk4.below⟩
 ·rw [List.map_append, h.rcs, List.take_succ_eq_append_getElem hlt, hge]; rfl
 ·rw [recRows_append]; exact hown
 ·intro z hz
  rcases List.mem_append.1 hz with hz | hz
  ·exact (h3.bod.keeps hk4 (by decide)) z hz
  ·rw [List.mem_singleton] at hz
   subst hz
   exact ⟨hby.keeps hk4 (by decide), hc, hk, hbl⟩
theorem getL_in {κ α : Type} [DecidableEq κ] {x : κ} {v : α} : ∀ {l : List (κ × α)}, (l.map (·.1)).Nodup → (x, v) ∈ l → getL l x = some v
 | [], _, h => by cases h
 | (a, u) :: l, hn, h => by
  rw [getL_cons]
  rw [List.map_cons, List.nodup_cons] at hn
  rcases List.mem_cons.1 h with h | h
  ·injection h with h1 h2
   subst h1; subst h2; simp
  ·rw [if_neg (fun e => hn.1 (by rw [← e]; exact List.mem_map.2 ⟨_, h, rfl⟩))]
   exact getL_in hn.2 h
theorem names_at {w : World} {A : Option Addr} {n : Nat} {l : List NameV} (h : Sl w 73 2 A n (nameRows l)) (i : Nat) (hi : i < l.length) (hn : n = l.length) : ∃ b o, A = some ⟨b, o, none⟩ ∧ b < w.heap.size ∧ w.cell? ⟨b, o + i * 2, none⟩ = some (.int .i64 l[i].1) ∧ w.cell? ⟨b, o + i * 2 + 1, none⟩ = some (.int .i64 l[i].2) := by
 obtain ⟨b, o, rfl, hb, hc⟩ := h.1.2 (by omega)
 have hp := pair_cells (fun x : NameV => Value.int .i64 x.1) (fun x => .int .i64 x.2) l i hi
 obtain ⟨p1, p2⟩ := hp
 have l1 : i * 2 < (nameRows l).length := by rw [nameRows_len]; omega
 have l2 : i * 2 + 1 < (nameRows l).length := by rw [nameRows_len]; omega
 refine ⟨b, o, rfl, hb, ?_, ?_⟩
 ·rw [hc _ l1, ← p1]; exact (List.getElem?_eq_getElem l1).symm
 ·rw [Nat.add_assoc, hc _ l2, ← p2]; exact (List.getElem?_eq_getElem l2).symm
set_option maxHeartbeats 8000000 in
theorem records_any {w : World} {base Sb : Nat} {s : StV} {m : StM} (h : StR w base Sb s m) (ok : StL s) :
  Calls Tryz.prog 64 #[.pointer (some ⟨Sb, 0, none⟩)] w fun e w' => ∃ L A c, e = .returned (.slice A (recordsS s).length c) ∧ RecsW w w' (recordsS s) (recordsS s).length L (.slice A (recordsS s).length c) := by
 have HH := hZ9 h
 have HK := hZ9 ok
 obtain ⟨i0, hi0, hz0, hz1, hz2⟩ := info_parts info137
 obtain ⟨rs, hrs⟩ : ∃ rs, rs = recordsS s := ⟨_, rfl⟩
 have hrn : rs = s.notes.map noteRec ++ s.slices.map (fun n => slotRec n.1 n.2) ++ s.marks.map (fun m => (77, m)) := by rw [hrs, records_eq]
 have HRS := hZ9 hrn
 rw [← hrs]
 obtain ⟨nN, hnN⟩ : ∃ nN, nN = s.notes.length := ⟨_, rfl⟩
 have hlN : nN ≤ 100001 := by rw [hnN]; exact ok.nN
 have HNO := hZ9 (show Calls Tryz.prog 36 #[.pointer (some ⟨Sb, 0, none⟩)] w fun e w' => ∃ A c, e = .returned (.slice A nN c) ∧ w'.ownsRow w.heap.size 2 1 (.slice A nN c) nN (numVs (s.notes.map (·.1))) ∧ Below w.heap.size w w' from by rw [hnN]; exact notes_any h ok.srtN ok.txt (by have := ok.nN; omega))
 have HNN := hZ9 hnN
 clear h ok hrs hrn hnN
 go_enter Tryz.func64, Tryz.ntmps64
 go_wp2_with (go_at_call 36; refine HNO.out.mono ?_; rintro e w1 ⟨A1, c1, rfl, ho1, hb1⟩; (have HO1 := hZ9 ho1); (have HB1 := hZ9 hb1); clear ho1 hb1)
 go_loopw [3, 13] (fun out i wr => ∃ (k : Nat) (L : List RecM), k ≤ nN ∧ i = .int .i64 (k : Nat) ∧ RecsW w wr rs k L out ∧ Keeps w.heap.size [137] w1 wr) (fun _ i _ => nN - (intOf i).toNat)
 case atStart => exact ⟨0, [], Nat.zero_le _, rfl, (RecsW.start w rs).keep HB1.out, Keeps.refl _ _ _⟩
 case round =>
  obtain ⟨k, L, hk, rfl, hR, hb1r⟩ := hrel
  have HR := hZ9 hR
  have HBR := hZ9 hb1r
  have hwr := hR.below.size
  clear hR hb1r
  by_cases hkl : k < nN
  ·have hkl' : (k : Int) < nN := by omega
   have hkn : k < s.notes.length := by rw [← HNN.out]; exact hkl
   obtain ⟨b, o, hA, hbl, hc⟩ := ((Sl.of_own HO1.out).keeps HBR.out (by decide)).1.2 (by omega)
   have hck : wr.cell? ⟨b, o + k, none⟩ = some (.int .i64 s.notes[k].1) := by
    have := hc k (by unfold numVs; simpa using hkn)
    rw [this]
    simp [numVs]
   have hgl : getL s.notes s.notes[k].1 = some s.notes[k].2 := getL_in HK.out.srtN.nodup (List.getElem_mem hkn)
   have htx := HK.out.txt _ (List.getElem_mem hkn)
   have hrk : rs[k]? = some (noteRec s.notes[k]) := by
    rw [HRS.out, List.append_assoc, List.getElem?_append_left (by simpa using hkn)]
    simp [hkn]
   subst hA
   generalize s.notes[k] = x at *
   obtain ⟨v, t⟩ := x
   simp only at hck hgl htx hrk
   unfold noteRec at hrk
   simp only at hrk
   have hvb : -9223372036854775808 ≤ v ∧ v ≤ 9223372036854775807 := by
    have := htx.1
    unfold rightB at this
    simp only [Bool.and_eq_true, decide_eq_true_eq] at this
    omega
   have hwl := words_len [v] (by simpa using hvb)
   -- the strings, named
   obtain ⟨z0, q0⟩ : ∃ z0 : ByteArray, strV (wordsS [v]) = .string z0 := ⟨_, rfl⟩
   obtain ⟨tb, qt⟩ : ∃ tb : ByteArray, strV t = .string tb := ⟨_, rfl⟩
   obtain ⟨z1, q1⟩ : ∃ z1 : ByteArray, z0 ++ ⟨#[32]⟩ = z1 := ⟨_, rfl⟩
   obtain ⟨z2, q2⟩ : ∃ z2 : ByteArray, z1 ++ tb = z2 := ⟨_, rfl⟩
   have hz0e : z0 = ⟨(wordsS [v]).toArray⟩ := by unfold strV at q0; injection q0 with q0; exact q0.symm
   have htbe : tb = ⟨t.toArray⟩ := by unfold strV at qt; injection qt with qt; exact qt.symm
   have hz2e : Value.string z2 = strV (wordsS [v] ++ 32 :: t) := by
    rw [← q2, ← q1, hz0e, htbe]; unfold strV; congr 1; apply ByteArray.ext; simp
   have s0 : z0.size ≤ 22 := by rw [hz0e]; simpa [ByteArray.size] using hwl
   have st : tb.size ≤ 3000 := by rw [htbe]; simpa [ByteArray.size] using htx.2
   have s1 : z1.size = z0.size + 1 := by rw [← q1, ByteArray.size_append]; rfl
   have b1 : ¬ (9223372036854775807 < z0.size + 1) := by omega
   have b2 : ¬ (9223372036854775807 < z1.size + tb.size) := by omega
   have SK := hZ9 (show ∀ wy, Keeps w.heap.size [137] wr wy → wy.cell? ⟨Sb, 4, none⟩ = some (.map (some m.Nb)) ∧ (Instr.lookup 124 (.map (some m.Nb)) (.int .i64 v) false).run Tryz.prog wy = .ok (.string tb) wy from fun wy hy => by
    have hh := HH.out.below (HR.out.below.trans hy.below)
    refine ⟨hh.blk.cell 4, ?_⟩
    have := hh.nmap.look (x := v) (wfI_of hvb)
    rw [hgl] at this
    rw [← qt]
    exact this)
   have S0 := hZ9 (SK.out _ (Keeps.of_below bR0.drew hwr))
   have HWD := hZ9 (show ∀ wy, Below wr.heap.size wr wy → Calls Tryz.prog 123 #[.slice (some ⟨wy.heap.size, 0, none⟩) 1 1] (wy.alloc (.cells #[.int .i64 v] 2)) fun e w' => e = .returned (.string z0) ∧ Below wy.heap.size wy w' from fun wy hy => by
    have h1 : Below wy.heap.size wy (wy.alloc (.cells #[.int .i64 v] 2)) := bR0.alloc nR0 _
    have := words_any (w := wy.alloc (.cells #[.int .i64 v] 2)) [v] (some ⟨wy.heap.size, 0, none⟩) 1 (Sl.of_blk (Blk.new wy 2 _) rfl).1 (by simp) (by simpa using hvb) ((HH.out.below (HR.out.below.trans (hy.mono hwr))).tab.tb.below h1)
    rw [q0] at this
    exact this.mono fun e w' ⟨he, hb⟩ => ⟨he, h1.trans (hb.mono h1.size)⟩)
   have HRE := hZ9 (show ∀ wy, Calls Tryz.prog 71 #[.int .u8 78, .string z2] wy fun e w' => RecOut wy w' (78, wordsS [v] ++ 32 :: t) e from fun wy => by
    have := record_any (w := wy) 78 (wordsS [v] ++ 32 :: t)
    rw [← hz2e] at this
    exact this)
   have HRK := hZ9 hrk
   have HLB : Hid ((wordsS [v] ++ 32 :: t).length < 1099511627776) := by
    show (wordsS [v] ++ 32 :: t).length < 1099511627776
    have := htx.2
    simp only [List.length_append, List.length_cons, List.length_nil] at hwl ⊢
    omega
   clear hgl hrk hz0e htbe hz2e q0 qt htx hwl hc s0 st s1
   generalize wordsS [v] ++ 32 :: t = bs at *
   obtain ⟨O, cO, rfl, hnc⟩ := own_form HR.out.own
   go_upto_region 5 with fail
   go_region_held3 (fun wy => wy.cell? ⟨Sb, 4, none⟩ = some (.map (some m.Nb)) ∧ (Instr.lookup 124 (.map (some m.Nb)) (.int .i64 v) false).run Tryz.prog wy = .ok (.string tb) wy)
    (first | exact SK.out _ HK4.out | exact SK.out _ (Keeps.of_below (HB3.out.alloc HB3.out.size _) hwr) | exact SK.out _ (Keeps.of_below HB3.out hwr) | exact SK.out _ (Keeps.of_below HB2.out hwr) | exact SK.out _ (Keeps.of_below (bR0.drew.alloc nR0 _) hwr) | exact S0.out)
    (first
     | (go_at_call 123; refine (HWD.out _ bR0.drew).mono ?_; rintro en w2 ⟨rfl, hb2⟩; (have HB2 : Hid (Below wr.heap.size wr w2) := bR0.drew.trans hb2); clear hb2)
     | (go_at_call 71; refine (HRE.out _).mono ?_; rintro en w3 ⟨⟨A3, c3, rfl, hy3, hc3⟩, hb3⟩; (have HY3 := hZ9 hy3); (have HC3 := hZ9 hc3); (have HB3 : Hid (Below wr.heap.size wr w3) := HB2.out.trans (hb3.mono HB2.out.size)); (have hs3 : w.heap.size ≤ w3.heap.size := Nat.le_trans hwr HB3.out.size); (have HOW := hZ9 (own_keep_alloc ((HR.out.keep HB3.out).own) (.cells #[.int .u8 78, .slice A3 bs.length c3] 137))); (have HRD := hZ9 (sl_rd (Sl.of_blk (sz := 2) (n := 1) (Blk.new w3 137 [.int .u8 78, .slice A3 bs.length c3].toArray) rfl))); (have H1C := hZ9 (show ∀ u ∈ ([.int .u8 78, .slice A3 bs.length c3] : List Value), u.oneCell' = true from by simp [Value.oneCell'])); clear hy3 hb3 hc3)
     | (refine step_append_rd _ (by rfl) _ _ _ (by rfl) w.heap.size 137 i0 _ 2 32 under134 hi0 hz0 hz1 hz2 rfl (by decide) (.slice O k cO) k (recRows L) (by rfl) HOW.out (some ⟨w3.heap.size, 0, none⟩) 1 1 _ [.int .u8 78, .slice A3 bs.length c3] (by rfl) HRD.out H1C.out (by unfold maxLen; omega) (by omega) (by simp; omega) ?_; intro A4 c4 w4 hown4 hgr4 hnc4; (have HOWN4 := hZ9 hown4); (have HGR4 := hZ9 hgr4); (have HK4 : Hid (Keeps w.heap.size [137] wr w4) := (Keeps.of_below (HB3.out.alloc HB3.out.size _) hwr).trans (keeps_own_grown HOW.out hgr4 (by simp; omega))); clear hown4 hgr4))
   all_goals
    go_wp2_with fail
    go_roundw
    case rel => exact ⟨k + 1, _, by omega, by simp, HR.out.push HRK.out (HB3.out.alloc HB3.out.size _) (HY3.out.below (bR0.alloc nR0 _)) HC3.out (by decide) HLB.out HOWN4.out HGR4.out, HBR.out.trans HK4.out⟩
    case measure => simp [intOf]; omega
  ·have hke : k = nN := by omega
   subst hke
   have hkl' : ¬ (k : Int) < k := by omega
   obtain ⟨nS, hnS⟩ : ∃ nS, nS = s.slices.length := ⟨_, rfl⟩
   have hlS : nS ≤ 100001 := by rw [hnS]; exact HK.out.nS
   have HNS := hZ9 (show Calls Tryz.prog 35 #[.pointer (some ⟨Sb, 0, none⟩)] wr fun e w' => ∃ A c, e = .returned (.slice A nS c) ∧ w'.ownsRow wr.heap.size 73 2 (.slice A nS c) nS (nameRows (s.slices.map (·.1))) ∧ Below wr.heap.size wr w' from by rw [hnS]; exact names_any (HH.out.below HR.out.below) HK.out.srtS HK.out.num (by have := HK.out.nS; omega))
   have HNSE := hZ9 hnS
   clear hnS
   obtain ⟨O, cO, rfl, hnc⟩ := own_form HR.out.own
   go_wp2_with (go_at_call 35; refine HNS.out.mono ?_; rintro e w2 ⟨A2, c2, rfl, ho2, hb2⟩; (have HO2 := hZ9 ho2); (have HB2 := hZ9 hb2); clear ho2 hb2)
   have hw2 : w.heap.size ≤ w2.heap.size := Nat.le_trans hwr HB2.out.size
   go_loopw [3, 36] (fun out i w5 => ∃ (j : Nat) (L2 : List RecM), j ≤ nS ∧ i = .int .i64 (j : Nat) ∧ RecsW w w5 rs (k + j) L2 out ∧ Keeps w.heap.size [137] w2 w5) (fun _ i _ => nS - (intOf i).toNat)
   case atStart => exact ⟨0, L, Nat.zero_le _, rfl, HR.out.keep HB2.out, Keeps.refl _ _ _⟩
   case round =>
    clear HR HBR hwr hnc
    obtain ⟨j, L2, hj, rfl, hR, hb2r⟩ := hrel
    have HR := hZ9 hR
    have HBR := hZ9 hb2r
    have hwr := hR.below.size
    clear hR hb2r
    by_cases hjl : j < nS
    ·have hjl' : (j : Int) < nS := by omega
     have hjn : j < s.slices.length := by rw [← HNSE.out]; exact hjl
     obtain ⟨b, o, hA, hbl, hc1, hc2⟩ := names_at ((Sl.of_own HO2.out).keeps HBR.out (by decide)) j (by rw [List.length_map]; exact hjn) (by rw [List.length_map]; exact HNSE.out)
     have hgl : getL s.slices s.slices[j].1 = some s.slices[j].2 := getL_in HK.out.srtS.nodup (List.getElem_mem hjn)
     have hnum := HK.out.num _ (List.getElem_mem hjn)
     have hrj : rs[k + j]? = some (slotRec s.slices[j].1 s.slices[j].2) := by
      have hk9 : (s.notes.map noteRec).length = k := by rw [List.length_map]; exact HNN.out.symm
      rw [HRS.out, List.append_assoc, List.getElem?_append_right (by omega), hk9, Nat.add_sub_cancel_left, List.getElem?_append_left (by simpa using hjn)]
      simp [hjn]
     have e1 : (s.slices.map (·.1))[j]'(by rw [List.length_map]; exact hjn) = s.slices[j].1 := by simp
     rw [e1] at hc1 hc2
     subst hA
     clear e1
     generalize s.slices[j] = y at *
     obtain ⟨⟨n1, n2⟩, x⟩ := y
     simp only at hc1 hc2 hgl hnum hrj
     have hnb : ∀ y ∈ [n1, n2, x.at', (x.bytes : Int), x.mark], -9223372036854775808 ≤ y ∧ y ≤ 9223372036854775807 := by
      obtain ⟨⟨a1, a2, a3, a4, a5, a6⟩, _⟩ := hnum
      unfold rightB at a1 a2
      simp only [Bool.and_eq_true, decide_eq_true_eq] at a1 a2 a3 a4 a5 a6
      intro y hy
      simp only [List.mem_cons, List.not_mem_nil, or_false] at hy
      rcases hy with rfl | rfl | rfl | rfl | rfl <;> omega
     have hwl := words_len _ hnb
     have hwn : wfN (n1, n2) := ⟨wfI_right hnum.1.1, wfI_right hnum.1.2.1⟩
     have HSR := hZ9 (show ∀ wy, Below w.heap.size w wy → Calls Tryz.prog 109 #[slotV x, .agg #[.int .i64 n1, .int .i64 n2]] wy fun e w' => RecOut wy w' (83, wordsS [n1, n2, x.at', (x.bytes : Int), x.mark]) e from fun wy hy => slotRec_any x (n1, n2) (HH.out.below hy).tab.tb hnb)
     have HRJ : Hid (rs[k + j]? = some (83, wordsS [n1, n2, x.at', (x.bytes : Int), x.mark])) := hrj
     have HLB : Hid ((wordsS [n1, n2, x.at', (x.bytes : Int), x.mark]).length < 1099511627776) := by
      show (wordsS [n1, n2, x.at', (x.bytes : Int), x.mark]).length < 1099511627776
      simp only [List.length_cons, List.length_nil] at hwl
      omega
     have SK := hZ9 (show ∀ wy, Keeps w.heap.size [137] (wr.alloc (.cells #[.int .i64 n1, .int .i64 n2] 73)) wy → wy.cell? ⟨Sb, 5, none⟩ = some (.map (some m.Pb)) ∧ (wy.cell? ⟨wr.heap.size, 0, none⟩ = some (.int .i64 n1) ∧ wy.cell? ⟨wr.heap.size, 1, none⟩ = some (.int .i64 n2)) ∧ (Instr.lookup 125 (.map (some m.Pb)) (.agg #[.int .i64 n1, .int .i64 n2]) false).run Tryz.prog wy = .ok (slotV x) wy from fun wy hy => by
      have hh := HH.out.below ((HR.out.below.alloc hwr _).trans hy.below)
      have hx := (Blk.new wr 73 #[.int .i64 n1, .int .i64 n2]).keeps hy (by decide)
      refine ⟨hh.blk.cell 5, ⟨hx.cell 0, hx.cell 1⟩, ?_⟩
      have := hh.pmap.look (x := (n1, n2)) hwn
      rw [hgl] at this
      exact this)
     have hws : (wr.alloc (.cells #[.int .i64 n1, .int .i64 n2] 73)).heap.size = wr.heap.size + 1 := by simp
     have HR3 := hZ9 (HR.out.keep (bR0.alloc nR0 (.cells #[.int .i64 n1, .int .i64 n2] 73)))
     have HBR3 := hZ9 (HBR.out.trans (Keeps.of_below (base := w.heap.size) (ts := [137]) (bR0.alloc nR0 (.cells #[.int .i64 n1, .int .i64 n2] 73)) hwr))
     have hgg : wr.heap.size < (wr.alloc (.cells #[.int .i64 n1, .int .i64 n2] 73)).heap.size := by omega
     clear hgl hrj hnum hwl hnb hwn hws
     generalize wordsS [n1, n2, x.at', (x.bytes : Int), x.mark] = bs at *
     obtain ⟨O2, cO2, rfl, hnc⟩ := own_form HR.out.own
     go_upto_region 10 with fail
     obtain ⟨gb, hgb⟩ : ∃ gb, gb = wr.heap.size := ⟨_, rfl⟩
     rw [← hgb] at SK ⊢ hgg
     clear HR HBR hc1 hc2 hbl
     generalize wr.alloc (.cells #[.int .i64 n1, .int .i64 n2] 73) = w5 at *
     clear hgb hwr
     have hwr := HR3.out.below.size
     have S0 := hZ9 (SK.out _ (Keeps.of_below bR0.drew hwr))
     have HX := hZ9 (slotV_inj (a := x) (b := x) rfl)
     go_region_held3 (fun wy => wy.cell? ⟨Sb, 5, none⟩ = some (.map (some m.Pb)) ∧ (wy.cell? ⟨gb, 0, none⟩ = some (.int .i64 n1) ∧ wy.cell? ⟨gb, 1, none⟩ = some (.int .i64 n2)) ∧ (Instr.lookup 125 (.map (some m.Pb)) (.agg #[.int .i64 n1, .int .i64 n2]) false).run Tryz.prog wy = .ok (slotV x) wy)
      (first | exact SK.out _ HK4.out | exact SK.out _ (Keeps.of_below (HB3.out.alloc HB3.out.size _) hwr) | exact SK.out _ (Keeps.of_below HB3.out hwr) | exact S0.out)
      (first
       | (go_at_call 109; refine (HSR.out _ (HR3.out.below.trans (bR0.drew.mono hwr))).mono ?_; rintro en w3 ⟨⟨A3, c3, rfl, hy3, hc3⟩, hb3⟩; (have HY3 := hZ9 hy3); (have HC3 := hZ9 hc3); (have HB3 : Hid (Below w5.heap.size w5 w3) := bR0.drew.trans hb3); (have hs3 : w.heap.size ≤ w3.heap.size := Nat.le_trans hwr HB3.out.size); (have HOW := hZ9 (own_keep_alloc ((HR3.out.keep HB3.out).own) (.cells #[.int .u8 83, .slice A3 bs.length c3] 137))); (have HRD := hZ9 (sl_rd (Sl.of_blk (sz := 2) (n := 1) (Blk.new w3 137 [.int .u8 83, .slice A3 bs.length c3].toArray) rfl))); (have H1C := hZ9 (show ∀ u ∈ ([.int .u8 83, .slice A3 bs.length c3] : List Value), u.oneCell' = true from by simp [Value.oneCell'])); clear hy3 hb3 hc3)
       | (refine step_append_rd _ (by rfl) _ _ _ (by rfl) w.heap.size 137 i0 _ 2 32 under134 hi0 hz0 hz1 hz2 rfl (by decide) (.slice O2 (k + j) cO2) (k + j) (recRows L2) (by rfl) HOW.out (some ⟨w3.heap.size, 0, none⟩) 1 1 _ [.int .u8 83, .slice A3 bs.length c3] (by rfl) HRD.out H1C.out (by unfold maxLen; omega) (by omega) (by simp; omega) ?_; intro A4 c4 w4 hown4 hgr4 hnc4; (have HOWN4 := hZ9 hown4); (have HGR4 := hZ9 hgr4); (have HK4 : Hid (Keeps w.heap.size [137] w5 w4) := (Keeps.of_below (HB3.out.alloc HB3.out.size _) hwr).trans (keeps_own_grown HOW.out hgr4 (by simp; omega))); clear hown4 hgr4))
     all_goals
      go_wp2_with fail
      go_roundw
      case rel => exact ⟨j + 1, _, by omega, by simp, HR3.out.push HRJ.out (HB3.out.alloc HB3.out.size _) (HY3.out.below (bR0.alloc nR0 _)) HC3.out (by decide) HLB.out HOWN4.out HGR4.out, HBR3.out.trans HK4.out⟩
      case measure => simp [intOf]; omega
    ·have hje : j = nS := by omega
     subst hje
     have hjl' : ¬ (j : Int) < j := by omega
     have hh := HH.out.below HR.out.below
     have c6 : wr.cell? ⟨Sb, 6, none⟩ = some (.slice m.A s.marks.length m.c) := hh.blk.cell 6
     have hlt := hh.blk.lt
     have hlM := HK.out.nM
     have HMK := hZ9 (own_rd HH.out.mks)
     have hrl : rs.length = k + j + s.marks.length := by
      rw [HRS.out, List.length_append, List.length_append, List.length_map, List.length_map, List.length_map, HNN.out, HNSE.out]
     have HRL := hZ9 hrl
     have HMX := hZ9 HK.out.mks
     obtain ⟨O2, cO2, rfl, hnc⟩ := own_form HR.out.own
     clear hh hrl
     go_wp2_with fail
     go_loopw [3, 57] (fun out i w6 => ∃ (i3 : Nat) (L3 : List RecM), i3 ≤ s.marks.length ∧ i = .int .i64 (i3 : Nat) ∧ RecsW w w6 rs (k + j + i3) L3 out) (fun _ i _ => s.marks.length - (intOf i).toNat)
     case atStart => exact ⟨0, L2, Nat.zero_le _, rfl, HR.out⟩
     case round =>
      clear HR HBR hwr hnc c6 hlt
      obtain ⟨i3, L3, hi3, rfl, hR⟩ := hrel
      have HR := hZ9 hR
      have hwr := hR.below.size
      clear hR
      obtain ⟨O3, cO3, rfl, hnc⟩ := own_form HR.out.own
      by_cases hil : i3 < s.marks.length
      ·have hil' : (i3 : Int) < s.marks.length := by omega
       obtain ⟨b, o, hA, hbl, hc⟩ := HMK.out.2 (by omega)
       have hci : wr.cell? ⟨b, o + i3, none⟩ = some (strV s.marks[i3]) := by
        have := hc i3 (by simpa using hil)
        rw [HR.out.below.cell (p := ⟨b, o + i3, none⟩) hbl, this]
        simp
       have hmx := HMX.out _ (List.getElem_mem hil)
       have hri : rs[k + j + i3]? = some (77, s.marks[i3]) := by
        have hk9 : (s.notes.map noteRec ++ s.slices.map (fun n => slotRec n.1 n.2)).length = k + j := by rw [List.length_append, List.length_map, List.length_map, HNN.out, HNSE.out]
        rw [HRS.out, List.getElem?_append_right (by omega), hk9, Nat.add_sub_cancel_left]
        simp [hil]
       rw [hA]
       generalize s.marks[i3] = t at *
       have HRI := hZ9 hri
       have HRE := hZ9 (show ∀ wy, Calls Tryz.prog 71 #[.int .u8 77, strV t] wy fun e w' => RecOut wy w' (77, t) e from fun wy => record_any (w := wy) 77 t)
       clear hri hc
       go_wp2_with (first
        | (go_at_call 71; refine (HRE.out _).mono ?_; rintro en w3 ⟨⟨A3, c3, rfl, hy3, hc3⟩, hb3⟩; (have HY3 := hZ9 hy3); (have HC3 := hZ9 hc3); (have HB3 := hZ9 hb3); (have hs3 : w.heap.size ≤ w3.heap.size := Nat.le_trans hwr HB3.out.size); (have HOW := hZ9 (own_keep_alloc ((HR.out.keep HB3.out).own) (.cells #[.int .u8 77, .slice A3 t.length c3] 137))); (have HRD := hZ9 (sl_rd (Sl.of_blk (sz := 2) (n := 1) (Blk.new w3 137 [.int .u8 77, .slice A3 t.length c3].toArray) rfl))); (have H1C := hZ9 (show ∀ u ∈ ([.int .u8 77, .slice A3 t.length c3] : List Value), u.oneCell' = true from by simp [Value.oneCell'])); clear hy3 hb3 hc3)
        | (at_builtin; refine wpList_append_rd _ rfl _ _ 134 rfl w.heap.size 137 i0 _ 2 32 under134 hi0 hz0 hz1 hz2 rfl (by decide) (.slice O3 (k + j + i3) cO3) (k + j + i3) (recRows L3) rfl HOW.out (some ⟨w3.heap.size, 0, none⟩) 1 1 _ [.int .u8 77, .slice A3 t.length c3] rfl HRD.out H1C.out (by unfold maxLen; omega) (by omega) (by simp; omega) ?_; intro A4 c4 w4 hown4 hgr4 hnc4 _; (have HOWN4 := hZ9 hown4); (have HGR4 := hZ9 hgr4); clear hown4 hgr4))
       go_roundw
       case rel => exact ⟨i3 + 1, _, by omega, by simp, HR.out.push HRI.out (HB3.out.alloc HB3.out.size _) (HY3.out.below (bR0.alloc nR0 _)) HC3.out (by decide) (by omega) HOWN4.out HGR4.out⟩
       case measure => simp [intOf]; omega
      ·have hie : i3 = s.marks.length := by omega
       subst hie
       have hil' : ¬ (s.marks.length : Int) < s.marks.length := by omega
       go_wp2_with fail
       go_ret
       rw [HRL.out]
       exact ⟨L3, O3, cO3, rfl, HR.out⟩
end
end Go.Proofs.YtmgmfnimaafkdaaGreatDoor
