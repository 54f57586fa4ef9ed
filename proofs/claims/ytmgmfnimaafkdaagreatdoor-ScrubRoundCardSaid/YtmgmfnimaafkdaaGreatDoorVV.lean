/- A put, seen from what holds of a store; puts, and one bit turned behind them. No program in sight. -/
import Derived.Test.YtmgmfnimaafkdaaGreatDoorVU
import Derived.Test.YtmgmfnimaafkdaaGreatDoorVO
import Derived.Test.YtmgmfnimaafkdaaGreatDoorVS
import Derived.Test.YtmgmfnimaafkdaaGreatDoorVB
import Derived.Test.YtmgmfnimaafkdaaGreatDoorVK
import Derived.Test.YtmgmfnimaafkdaaGreatDoorVC
namespace Go.Proofs.YtmgmfnimaafkdaaGreatDoor
open Go.RowKit Go.Maps Go.Shelf Go.Sort
set_option maxRecDepth 100000

def TellsOut (w w' : World) (r : Nat × List UInt8) (e : Ending) : Prop :=
 ((r.1 = 0 ∧ ∃ A c, e = .returned (.tuple #[.slice A r.2.length c, .int .i64 0]) ∧ w'.ownsRow w.heap.size 5 1 (.slice A r.2.length c) r.2.length (r.2.map u8v)) ∨ (r.1 ≠ 0 ∧ e = .returned (.tuple #[.slice none 0 0, .int .i64 r.1]))) ∧ Below w.heap.size w w'
theorem tellsS_eq {d : DskV} {x : SlotV} {a : Nat} (ha : x.at' = a) {er : Nat} {r : RecV} (hg : getP d a = (er, r)) : tellsS d x = if er = 10 then (10, []) else if er ≠ 0 then (8, []) else if r.kind ≠ 83 ∨ (r.mark : Int) ≠ x.mark ∨ r.bytes.length ≠ x.bytes then (8, []) else (0, r.bytes) := by
 unfold tellsS
 rw [ha, if_neg (by omega), Int.toNat_natCast, hg]
 by_cases h10 : er = 10
 ·subst h10; rfl
 ·rw [if_neg h10]
  by_cases h0 : er = 0
  ·subst h0; rfl
  ·rw [if_pos h0]
   split
   ·rename_i h; injection h with h; exact absurd h h10
   ·rename_i h; injection h with h; exact absurd h h0
   ·rfl
theorem GetOut.ok63 {w' : World} {base : Nat} {r : RecV} {e : Ending} (h : GetOut w' base (0, r) e) (hm : r.mark < 2 ^ 63) : ∃ A c, e = .returned (.tuple #[.int .u8 r.kind, .int .i64 r.mark, .slice A r.bytes.length c, .int .i64 r.many, .int .i64 0]) ∧ w'.ownsRow base 5 1 (.slice A r.bytes.length c) r.bytes.length (r.bytes.map u8v) ∧ r.bytes.length ≤ c := by
 rcases h with ⟨_, v, rfl, ho⟩ | ⟨h, _⟩
 ·obtain ⟨A, c, rfl, hc⟩ := own_form ho
  refine ⟨A, c, ?_, ho, hc⟩
  have : IntKind.i64.wrap (r.mark : Int) = (r.mark : Int) := by rw [IntKind.wrap_i64]; omega
  simp only [this]
 ·exact absurd rfl h
set_option maxHeartbeats 8000000 in
theorem tellsM_any {w : World} {base Sb : Nat} {s : StV} {m : StM} (h : StR w base Sb s m) (x : SlotV) (a : Nat) (hF : ∀ r, getP s.d a = (0, r) → r.mark < 2 ^ 63) (ha : x.at' = a) (ha2 : a ≤ 65536) :
  Calls Tryz.prog 61 #[.pointer (some ⟨Sb, 0, none⟩), slotV x] w fun e w' => TellsOut w w' (tellsS s.d x) e := by
 have HH := hZ9 h
 have hlt := h.lt
 have hsl := h.blk.lt
 obtain ⟨er, r, hg⟩ : ∃ er r, getP s.d a = (er, r) := ⟨_, _, rfl⟩
 obtain ⟨q, hq⟩ : ∃ q, q = tellsS s.d x := ⟨_, rfl⟩
 rw [← hq]
 rw [tellsS_eq ha hg] at hq
 have HQ := hZ9 hq
 obtain ⟨at', len, by', mk⟩ := x
 simp only at ha
 subst ha
 have hb0 : Below w.heap.size w (w.alloc (.cells #[.int .i64 a, .int .i64 len, .int .i64 by', .int .i64 mk] 142)) := bR0.alloc nR0 _
 have HB0 := hZ9 hb0
 have HX0 := hZ9 (Blk.new w 142 #[.int .i64 a, .int .i64 len, .int .i64 by', .int .i64 mk])
 have HGET := hZ9 (show ∀ wy, Below w.heap.size w wy → Calls Tryz.prog 118 #[.pointer (some ⟨m.B, 0, none⟩), .int .i64 (a : Nat)] wy fun e w' => GetOut w' wy.heap.size (er, r) e ∧ Below wy.heap.size wy w' from fun wy hy => by
  have hh := HH.out.below hy
  have := recGet_any hh.dsk hh.tab.steps a (by omega)
  rw [hg] at this
  exact this)
 have HGE := hZ9 hg
 have HFI := hZ9 hF
 clear h hq hg hb0 hF
 unfold slotV
 simp only
 go_enter Tryz.func61, Tryz.ntmps61
 go_upto_region 1 with fail
 generalize w.alloc (.cells #[.int .i64 a, .int .i64 len, .int .i64 by', .int .i64 mk] 142) = w1 at *
 have hw1 := HB0.out.size
 have SK := hZ9 (show ∀ wy, Below w1.heap.size w1 wy → wy.cell? ⟨Sb, 0, none⟩ = some (.pointer (some ⟨m.B, 0, none⟩)) ∧ wy.cell? ⟨w.heap.size, 0, none⟩ = some (.int .i64 a) ∧ wy.cell? ⟨w.heap.size, 2, none⟩ = some (.int .i64 by') ∧ wy.cell? ⟨w.heap.size, 3, none⟩ = some (.int .i64 mk) from fun wy hy => by
  have hs := (HH.out.below (HB0.out.trans (hy.mono hw1))).blk
  have hx := HX0.out.below hy HX0.out.lt
  exact ⟨hs.cell 0, hx.cell 0, hx.cell 2, hx.cell 3⟩)
 have S0 := hZ9 (SK.out _ bR0.drew)
 by_cases he0 : er = 0
 ·subst he0
  have hmk := HFI.out _ HGE.out
  have hrl := getP_len HGE.out
  go_region_held3 (fun wy => wy.cell? ⟨Sb, 0, none⟩ = some (.pointer (some ⟨m.B, 0, none⟩)) ∧ wy.cell? ⟨w.heap.size, 0, none⟩ = some (.int .i64 a) ∧ wy.cell? ⟨w.heap.size, 2, none⟩ = some (.int .i64 by') ∧ wy.cell? ⟨w.heap.size, 3, none⟩ = some (.int .i64 mk))
   (first | exact SK.out _ HB3.out | exact S0.out)
   (first
    | (go_at_call 118; refine (HGET.out _ (HB0.out.trans (bR0.drew.mono hw1))).mono ?_; rintro en w4 ⟨hg3, hb3⟩; (obtain ⟨A3, c3, rfl, ho3, hc3⟩ := hg3.ok63 hmk); (have HB3 : Hid (Below w1.heap.size w1 w4) := bR0.drew.trans hb3); (have HO3 := hZ9 ho3); clear hb3 hg3 ho3))
  all_goals
   obtain ⟨_, _, d2, d3⟩ := SK.out _ HB3.out
   have hx4 := (HX0.out.below HB3.out HX0.out.lt).lt
   have HW4 := hZ9 (HB0.out.trans (HB3.out.mono hw1))
   by_cases hk : r.kind = 83
   ·by_cases hm : (r.mark : Int) = mk
    ·by_cases hl : r.bytes.length = by'
     ·have hq9 : q = (0, r.bytes) := by rw [HQ.out, if_neg (by decide), if_neg (by decide), if_neg (by simp [hk, hm, hl])]
      have hk' : ((r.kind : Int) != 83) = false := by simp [hk]
      have hm' : ((r.mark : Int) != mk) = false := by simp [hm]
      have hl' : ((r.bytes.length : Int) != (by' : Int)) = false := by simp [hl]
      have HQ9 := hZ9 hq9
      clear hk hm hl hq9
      go_wp2_with fail
      go_ret2
      rw [HQ9.out]
      exact ⟨.inl ⟨rfl, A3, c3, rfl, own_base HO3.out (by have := hw1; simp; omega)⟩, HW4.out⟩
     ·have hq9 : q = (8, []) := by rw [HQ.out, if_neg (by decide), if_neg (by decide), if_pos (.inr (.inr hl))]
      have hk' : ((r.kind : Int) != 83) = false := by simp [hk]
      have hm' : ((r.mark : Int) != mk) = false := by simp [hm]
      have hl' : ((r.bytes.length : Int) != (by' : Int)) = true := by simp; omega
      have HQ9 := hZ9 hq9
      clear hk hm hl hq9
      go_wp2_with fail
      go_ret2
      rw [HQ9.out]
      exact ⟨.inr ⟨by decide, rfl⟩, HW4.out⟩
    ·have hq9 : q = (8, []) := by rw [HQ.out, if_neg (by decide), if_neg (by decide), if_pos (.inr (.inl hm))]
     have hk' : ((r.kind : Int) != 83) = false := by simp [hk]
     have hm' : ((r.mark : Int) != mk) = true := by simp [hm]
     have HQ9 := hZ9 hq9
     clear hk hm hq9
     go_wp2_with fail
     go_ret2
     rw [HQ9.out]
     exact ⟨.inr ⟨by decide, rfl⟩, HW4.out⟩
   ·have hq9 : q = (8, []) := by rw [HQ.out, if_neg (by decide), if_neg (by decide), if_pos (.inl hk)]
    have hk' : ((r.kind : Int) != 83) = true := by simp; omega
    have HQ9 := hZ9 hq9
    clear hk hq9
    go_wp2_with fail
    go_ret2
    rw [HQ9.out]
    exact ⟨.inr ⟨by decide, rfl⟩, HW4.out⟩
 ·go_region_held3 (fun wy => wy.cell? ⟨Sb, 0, none⟩ = some (.pointer (some ⟨m.B, 0, none⟩)) ∧ wy.cell? ⟨w.heap.size, 0, none⟩ = some (.int .i64 a) ∧ wy.cell? ⟨w.heap.size, 2, none⟩ = some (.int .i64 by') ∧ wy.cell? ⟨w.heap.size, 3, none⟩ = some (.int .i64 mk))
   (first | exact SK.out _ HB3.out | exact S0.out)
   (first
    | (go_at_call 118; refine (HGET.out _ (HB0.out.trans (bR0.drew.mono hw1))).mono ?_; rintro en w4 ⟨hg3, hb3⟩; (obtain rfl := hg3.no he0); (have HB3 : Hid (Below w1.heap.size w1 w4) := bR0.drew.trans hb3); clear hb3 hg3))
  all_goals
   by_cases he1 : er = 10
   ·subst he1
    have hq9 : q = (10, []) := by rw [HQ.out, if_pos rfl]
    subst hq9
    go_wp2_with fail
    go_ret2
    exact ⟨.inr ⟨by decide, rfl⟩, HB0.out.trans (HB3.out.mono hw1)⟩
   ·have h1' : ((er : Int) == 10) = false := by simp; omega
    have h0' : ((er : Int) != 0) = true := by simp; omega
    have hq9 : q = (8, []) := by rw [HQ.out, if_neg he1, if_pos he0]
    subst hq9
    go_wp2_with fail
    go_ret2
    exact ⟨.inr ⟨by decide, rfl⟩, HB0.out.trans (HB3.out.mono hw1)⟩
theorem tells_any {w : World} {base Sb : Nat} {s : StV} {m : StM} {E : Nat} (h : StR w base Sb s m) (hF : Fine s.d E) (x : SlotV) (a : Nat) (ha : x.at' = a) (ha2 : a ≤ 65536) :
  Calls Tryz.prog 61 #[.pointer (some ⟨Sb, 0, none⟩), slotV x] w fun e w' => TellsOut w w' (tellsS s.d x) e :=
 tellsM_any h x a (fun r hr => Nat.lt_trans (getP_mark hF hr).1 (by decide)) ha ha2
theorem slot_any {w : World} {base Sb : Nat} {s : StV} {m : StM} (h : StR w base Sb s m) (a mk : Int) (b : Nat) (hb : b < 1099511627776) :
  Calls Tryz.prog 170 #[.pointer (some ⟨Sb, 0, none⟩), .int .i64 a, .int .i64 b, .int .i64 mk] w fun e w' => e = .returned (slotV ⟨a, needP s.d.size b, b, mk⟩) ∧ Below w.heap.size w w' := by
 have hsl := h.blk.lt
 have hd : s.d.size ≤ 4096 := by obtain ⟨m', hm⟩ := h.dsk; exact hm.sz.2
 have c1 : w.cell? ⟨Sb, 1, none⟩ = some (.int .i64 s.d.size) := h.blk.cell 1
 have HN := hZ9 (show ∀ wy, Calls Tryz.prog 56 #[.int .i64 s.d.size, .int .i64 b] wy fun e w' => e = .returned (.int .i64 (needP s.d.size b : Nat)) ∧ wy = w' from fun wy => pageNeed_any s.d.size b (by omega) (by omega) wy)
 have hb0 : Below w.heap.size w (w.alloc (.cells #[.int .i64 0, .int .i64 0, .int .i64 0, .int .i64 0] 142)) := bR0.alloc nR0 _
 have HB0 := hZ9 hb0
 have HX0 := hZ9 (Blk.new w 142 #[.int .i64 0, .int .i64 0, .int .i64 0, .int .i64 0])
 have e1 : (w.alloc (.cells #[.int .i64 0, .int .i64 0, .int .i64 0, .int .i64 0] 142)).cell? ⟨Sb, 1, none⟩ = some (.int .i64 s.d.size) := (hb0.cell hsl).trans c1
 have hl1 : Sb < (w.alloc (.cells #[.int .i64 0, .int .i64 0, .int .i64 0, .int .i64 0] 142)).heap.size := by simp; omega
 clear h hb0
 generalize needP s.d.size b = nd at *
 go_enter Tryz.func170, Tryz.ntmps170
 go_upto_region 1 with fail
 generalize w.alloc (.cells #[.int .i64 0, .int .i64 0, .int .i64 0, .int .i64 0] 142) = w1 at *
 have HI2 : Hid ((Tryz.prog.info? 142).map (·.size) = some (#[.int .i64 a, .int .i64 nd, .int .i64 b, .int .i64 mk] : Array Value).size) := show (Tryz.prog.info? 142).map (·.size) = some 4 from by kernel_rfl
 have H1 : Hid ((#[.int .i64 a, .int .i64 nd, .int .i64 b, .int .i64 mk] : Array Value).all (·.oneCell') = true) := hZ9 (by simp [Value.oneCell'])
 go_wp2_with (first
  | (go_at_call 56; refine (HN.out _).mono ?_; rintro en w' ⟨rfl, rfl⟩)
  | (refine wpList_store_row rfl 142 _ _ rfl w.heap.size #[.int .i64 a, .int .i64 nd, .int .i64 b, .int .i64 mk] rfl rfl 142 #[.int .i64 0, .int .i64 0, .int .i64 0, .int .i64 0] HX0.out HI2.out rfl H1.out ?_))
 refine bodyPost_ret (v := .agg #[.int .i64 a, .int .i64 nd, .int .i64 b, .int .i64 mk]) (results_cell_row Tryz.results170 _ _ w.heap.size 142 _ (0, 0) _ rfl (setRow_blk HX0.out _) Tryz.underlying142 rfl HI2.out) rfl ?_
 exact ⟨rfl, HB0.out.trans (grown_below (setRow_gby _ _ _) HB0.out.size (fun k hk => by injection hk with hk; omega))⟩
end Go.Proofs.YtmgmfnimaafkdaaGreatDoor
namespace Go.Proofs.YtmgmfnimaafkdaaGreatDoor
open Go.RowKit Go.Maps Go.Shelf Go.Sort
set_option maxRecDepth 100000

theorem turned_cell {w w' : World} {b : Nat} (ht : w.mapTurned w' b) {p : Addr} {v : Value} (h : w.cell? p = some v) : w'.cell? p = some v := by
 have hg := ht.grown
 obtain ⟨es, cl, es', cl', hm, _⟩ := ht
 by_cases e : p.block = b
 ·subst e
  simp [World.cell?, hm] at h
 ·have hl : p.block < w.heap.size := by
   by_cases hlt : p.block < w.heap.size
   ·exact hlt
   ·have : w.heap[p.block]? = none := Array.getElem?_eq_none (by omega)
    simp [World.cell?, this] at h
  have := hg.block p.block hl (by intro h; injection h with h; exact e h)
  rw [← h]
  simp only [World.cell?, this]
theorem strOf_run (w : World) (A : Option Addr) (c : Nat) (t : List UInt8) (h : Byt w A t) (ht : 0 < t.length) : (convert 43 9 (.slice A t.length c)).run Tryz.prog w = .ok (strV t) w := by
 obtain ⟨b, o, rfl, _, _, hc⟩ := h.at ht
 exact run_convert_bytes_back (P := Tryz.prog) w 43 9 5 ⟨b, o, none⟩ c t under43 Tryz.underlying5 Tryz.underlying9 (fun j hj => by
  rw [addr_add]
  exact hc j hj)
theorem StR.slicing {w : World} {base Sb : Nat} {s : StV} {m : StM} (h : StR w base Sb s m) (hs : SrtS s.slices) (hr : ∀ x ∈ s.slices, NumOK x ∧ x.2.len ≤ 1048576) (hl : s.slices.length ≤ 1000000) (n : NameV) (x : SlotV) (hn : NumOK (n, x) ∧ x.len ≤ 1048576) :
  ∃ w', (Instr.mapUpdate 125 (.map (some m.Pb)) (nameV n) (slotV x)).run Tryz.prog w = .ok () w' ∧ StR w' base Sb { s with slices := putS n x s.slices } m ∧ KeepS base m m w w' ∧ Keeps base [1000000] w w' ∧ w.mapTurned w' m.Pb := by
 have hwn : wfN n := ⟨wfI_right hn.1.1, wfI_right hn.1.2.1⟩
 obtain ⟨w', hrun, hin, htu⟩ := h.pmap.put (by unfold maxLen; omega) hwn x
 obtain ⟨h1, h2⟩ := h.sliced htu (hin.congr fun y _ => getL_putS n x y s.slices) (putS_srt hs) (fun y hy => by
  rcases mem_putS hy with e | hy
  ·subst e; exact hn
  ·exact hr y hy)
 exact ⟨w', hrun, h1, h2, KV.turned htu h.plow h.lt, htu⟩
set_option maxHeartbeats 8000000 in
theorem heedSlice_any {w : World} {base Sb : Nat} {s : StV} {m : StM} (h : StR w base Sb s m) (hs : SrtS s.slices) (hr : ∀ x ∈ s.slices, NumOK x ∧ x.2.len ≤ 1048576) (hl : s.slices.length ≤ 1000000)
  (v n a mk : Int) (b : Nat) (hv : rightB v = true) (hn : rightB n = true) (hb : 1 ≤ b ∧ b ≤ 1048576) (ha : 0 ≤ a ∧ a ≤ 65536) (hm : 0 ≤ mk ∧ mk < 9223372036854775808) :
  Calls Tryz.prog 116 #[.pointer (some ⟨Sb, 0, none⟩), strV (wordsS [v, n, a, (b : Int), mk])] w fun e w' => e = .returned (.tuple #[]) ∧ StR w' base Sb { s with slices := putS (v, n) ⟨a, needP s.d.size b, b, mk⟩ s.slices } m ∧ Keeps base [1000000] w w' := by
 have HH := hZ9 h
 have hlt := h.lt
 have hsl := h.blk.lt
 have hvb : 0 ≤ v ∧ v ≤ 1099511627776 := by unfold rightB at hv; simpa using hv
 have hnb : 0 ≤ n ∧ n ≤ 1099511627776 := by unfold rightB at hn; simpa using hn
 have HN : Hid (Calls Tryz.prog 115 #[strV (wordsS [v, n, a, (b : Int), mk]), .int .i64 5] w fun e w' => ∃ A c, e = .returned (.tuple #[.slice A 5 c, .bool true]) ∧ Rd w' w'.heap.size 1 A 5 (numVs [v, n, a, (b : Int), mk]) ∧ Below w.heap.size w w') :=
  numbers_any [v, n, a, (b : Int), mk] (by simp) (by simp) (fun x hx => by
   simp only [List.mem_cons, List.not_mem_nil, or_false] at hx
   rcases hx with rfl | rfl | rfl | rfl | rfl <;> omega) h.tab.tb
 have R1 := hZ9 (fun wy => show Calls Tryz.prog 104 #[.int .i64 v] wy fun e w' => e = .returned (.bool true) ∧ wy = w' from by have := right_any v wy; rw [hv] at this; exact this)
 have R2 := hZ9 (fun wy => show Calls Tryz.prog 104 #[.int .i64 n] wy fun e w' => e = .returned (.bool true) ∧ wy = w' from by have := right_any n wy; rw [hn] at this; exact this)
 have hnl := needP_le (size := s.d.size) hb.1
 have HNUM := hZ9 (show NumOK ((v, n), (⟨a, needP s.d.size b, b, mk⟩ : SlotV)) ∧ (⟨a, needP s.d.size b, b, mk⟩ : SlotV).len ≤ 1048576 from ⟨⟨hv, hn, ha, hb.2, hm.1, hm.2⟩, by show needP s.d.size b ≤ 1048576; omega⟩)
 have HSLT := hZ9 (fun (wy : World) (hy : Below w.heap.size w wy) => slot_any (HH.out.below hy) a mk b (by omega))
 have HPUT := hZ9 (fun (wy : World) (hy : Below w.heap.size w wy) => (HH.out.below hy).slicing hs hr hl (v, n) ⟨a, needP s.d.size b, b, mk⟩ HNUM.out)
 have hb1 : ¬ ((b : Int) < 1) := by omega
 have hb2 : ¬ ((b : Int) > 1048576) := by omega
 clear h hs hr hv hn hvb hnb hnl HNUM
 generalize needP s.d.size b = nd at *
 generalize wordsS [v, n, a, (b : Int), mk] = tx at *
 go_enter Tryz.func116, Tryz.ntmps116
 go_upto_region 1 with (go_at_call 115; refine HN.out.mono ?_; rintro en w1 ⟨A, c, rfl, hrd, hb1'⟩; (have HRD := hZ9 hrd); (have HB1 := hZ9 hb1'); clear hrd hb1')
 obtain ⟨g, o, hA, hgl, hc⟩ := HRD.out.2 (by omega)
 subst hA
 have c0 : w1.cell? ⟨g, o, none⟩ = some (.int .i64 v) := hc 0 (by simp [numVs])
 have c1 : w1.cell? ⟨g, o + 1, none⟩ = some (.int .i64 n) := hc 1 (by simp [numVs])
 have c2 : w1.cell? ⟨g, o + 2, none⟩ = some (.int .i64 a) := hc 2 (by simp [numVs])
 have c3 : w1.cell? ⟨g, o + 3, none⟩ = some (.int .i64 b) := hc 3 (by simp [numVs])
 have c4 : w1.cell? ⟨g, o + 4, none⟩ = some (.int .i64 mk) := hc 4 (by simp [numVs])
 clear hc
 go_upto_region 2 with (first
  | ((fail_if_success (have := RR)); go_at_call 104; refine (R1.out _).mono ?_; rintro en w' ⟨rfl, rfl⟩; (have RR := hZ9 (show True from trivial)))
  | (go_at_call 104; refine (R2.out _).mono ?_; rintro en w' ⟨rfl, rfl⟩))
 clear RR R1 R2 hb1 hb2 HN HRD
 have hw1 := HB1.out.size
 have SK0 := hZ9 (show ∀ wy, Below w1.heap.size w1 wy → wy.cell? ⟨Sb, 5, none⟩ = some (.map (some m.Pb)) ∧ wy.cell? ⟨g, o, none⟩ = some (.int .i64 v) ∧ wy.cell? ⟨g, o + 1, none⟩ = some (.int .i64 n) ∧ wy.cell? ⟨g, o + 2, none⟩ = some (.int .i64 a) ∧ wy.cell? ⟨g, o + 3, none⟩ = some (.int .i64 b) ∧ wy.cell? ⟨g, o + 4, none⟩ = some (.int .i64 mk) from fun wy hy => by
  have hh := HH.out.below (HB1.out.trans (hy.mono hw1))
  exact ⟨hh.blk.cell 5, (hy.cell hgl).trans c0, (hy.cell hgl).trans c1, (hy.cell hgl).trans c2, (hy.cell hgl).trans c3, (hy.cell hgl).trans c4⟩)
 have S0 := hZ9 (SK0.out _ bR0.drew)
 have HP2 := hZ9 (show ∀ wy, Below w1.heap.size w1 wy → ∃ w4, (Instr.mapUpdate 125 (.map (some m.Pb)) (.agg #[.int .i64 v, .int .i64 n]) (slotV ⟨a, nd, b, mk⟩)).run Tryz.prog wy = .ok () w4 ∧ (StR w4 base Sb { s with slices := putS (v, n) ⟨a, nd, b, mk⟩ s.slices } m ∧ Keeps base [1000000] w w4) ∧ wy.cell? ⟨Sb, 5, none⟩ = some (.map (some m.Pb)) ∧ (w4.cell? ⟨Sb, 5, none⟩ = some (.map (some m.Pb)) ∧ w4.cell? ⟨g, o, none⟩ = some (.int .i64 v) ∧ w4.cell? ⟨g, o + 1, none⟩ = some (.int .i64 n) ∧ w4.cell? ⟨g, o + 2, none⟩ = some (.int .i64 a) ∧ w4.cell? ⟨g, o + 3, none⟩ = some (.int .i64 b) ∧ w4.cell? ⟨g, o + 4, none⟩ = some (.int .i64 mk)) from fun wy hy => by
  have hb' := HB1.out.trans (hy.mono hw1)
  obtain ⟨w4, h1, h2, h3, h4, h5⟩ := HPUT.out wy hb'
  obtain ⟨d0, d1, d2, d3, d4, d5⟩ := SK0.out wy hy
  exact ⟨w4, h1, ⟨h2, (Keeps.of_below hb' hlt).trans h4⟩, d0, turned_cell h5 d0, turned_cell h5 d1, turned_cell h5 d2, turned_cell h5 d3, turned_cell h5 d4, turned_cell h5 d5⟩)
 clear c0 c1 c2 c3 c4 HPUT
 go_region_held3 (fun wy => wy.cell? ⟨Sb, 5, none⟩ = some (.map (some m.Pb)) ∧ wy.cell? ⟨g, o, none⟩ = some (.int .i64 v) ∧ wy.cell? ⟨g, o + 1, none⟩ = some (.int .i64 n) ∧ wy.cell? ⟨g, o + 2, none⟩ = some (.int .i64 a) ∧ wy.cell? ⟨g, o + 3, none⟩ = some (.int .i64 b) ∧ wy.cell? ⟨g, o + 4, none⟩ = some (.int .i64 mk))
  (first | exact S4.out | exact SK0.out _ HB3.out | exact S0.out)
  (first
   | (go_at_call 170; refine (HSLT.out _ (HB1.out.trans (bR0.drew.mono hw1))).mono ?_; rintro en w3 ⟨rfl, hb3⟩; (have HB3 : Hid (Below w1.heap.size w1 w3) := bR0.drew.trans hb3); (obtain ⟨w4, hrun, h4, _, hs4⟩ := HP2.out _ HB3.out); (have H4 := hZ9 h4); (have S4 := hZ9 hs4); clear hb3 h4 hs4))
 all_goals
  go_wp2_with fail
  go_end0
  exact ⟨rfl, H4.out⟩
set_option maxHeartbeats 8000000 in
theorem heed_any {w : World} {base Sb : Nat} {s : StV} {m : StM} (h : StR w base Sb s m) (hs : SrtS s.slices) (hr : ∀ x ∈ s.slices, NumOK x ∧ x.2.len ≤ 1048576) (hl : s.slices.length ≤ 1000000)
  (r : RecL) (x : NameV × Int × Nat × Int) (hx : sliceOf r = some x) (A : Option Addr) (c : Nat) (hby : Byt w A r.2) :
  Calls Tryz.prog 60 #[.pointer (some ⟨Sb, 0, none⟩), .agg #[.int .u8 r.1, .slice A r.2.length c]] w fun e w' => e = .returned (.tuple #[]) ∧ StR w' base Sb (heedS s r) m ∧ Keeps base [1000000] w w' := by
 obtain ⟨nm, a, b, mk⟩ := x
 have hE := heed_slice (s := s) hx
 rw [hE]
 obtain ⟨kd, t⟩ := r
 unfold sliceOf at hx
 simp only at hx hby ⊢
 split at hx
 ·rename_i hk
  split at hx
  ·rename_i v n a' b' m' hn
   split at hx
   ·rename_i hc
    injection hx with hx
    injection hx with h1 hx
    injection hx with h2 hx
    injection hx with h3 h4
    subst h1; subst h2; subst h3; subst h4
    simp only [Bool.and_eq_true, decide_eq_true_eq] at hc
    obtain ⟨⟨⟨⟨c1, c2⟩, c3⟩, c4⟩, c5⟩ := hc
    obtain ⟨n1, _, _, _⟩ := numbers_some hn
    obtain ⟨b, rfl⟩ : ∃ b : Nat, b' = b := ⟨b'.toNat, by omega⟩
    simp only [Int.toNat_natCast]
    have hlt := h.lt
    have hsl := h.blk.lt
    subst hk
    have ht0 : 0 < t.length := by
     rcases Nat.eq_zero_or_pos t.length with h0 | h0
     ·have : t = [] := List.eq_nil_of_length_eq_zero h0
      subst this
      exfalso
      have h1 := congrArg List.length n1
      simp [wordsS, Lib.join] at h1
     ·exact h0
    have HS := hZ9 (show ∀ wy, Below w.heap.size w wy → Calls Tryz.prog 116 #[.pointer (some ⟨Sb, 0, none⟩), strV t] wy fun e w' => e = .returned (.tuple #[]) ∧ StR w' base Sb { s with slices := putS (v, n) ⟨a', needP s.d.size b, b, m'⟩ s.slices } m ∧ Keeps base [1000000] wy w' from fun wy hy => by
     have := heedSlice_any (h.below hy) hs hr hl v n a' m' b c1 c2 (by omega) c4 c5
     rw [n1] at this
     exact this)
    have HX := hZ9 (Blk.new w 137 #[.int .u8 83, .slice A t.length c])
    have HB0 : Hid (Below w.heap.size w (w.alloc (.cells #[.int .u8 83, .slice A t.length c] 137))) := bR0.alloc nR0 _
    have HCV := hZ9 (show ∀ wy, Below w.heap.size w wy → (convert 43 9 (.slice A t.length c)).run Tryz.prog wy = .ok (strV t) wy from fun wy hy => strOf_run wy A c t (hby.below hy) ht0)
    clear h hs hr hby hE n1 hn
    go_enter Tryz.func60, Tryz.ntmps60
    go_upto_region 1 with fail
    generalize w.alloc (.cells #[.int .u8 83, .slice A t.length c] 137) = w1 at *
    have x0 : w1.cell? ⟨w.heap.size, 0, none⟩ = some (.int .u8 83) := HX.out.cell 0
    have x1 : w1.cell? ⟨w.heap.size, 1, none⟩ = some (.slice A t.length c) := HX.out.cell 1
    have xl := HX.out.lt
    have hcv := HCV.out _ HB0.out
    go_wp2_with (go_at_call 116; refine (HS.out _ HB0.out).mono ?_; rintro en w2 ⟨rfl, h2, k2⟩; (have H2 := hZ9 h2); (have K2 := hZ9 k2); clear h2 k2)
    go_end0
    exact ⟨rfl, H2.out, (Keeps.of_below HB0.out hlt).trans K2.out⟩
   ·cases hx
  ·cases hx
 ·cases hx
end Go.Proofs.YtmgmfnimaafkdaaGreatDoor
namespace Go.Proofs.YtmgmfnimaafkdaaGreatDoor
open Go.RowKit Go.Maps Go.Shelf Go.Sort
set_option maxRecDepth 100000

def stSlot (p v : Value) : Sem Unit := Instr.storeAt 142 p v
theorem stSlot_fold (p v : Value) : Instr.storeAt 142 p v = stSlot p v := rfl
theorem sizeSlot : (Tryz.prog.info? 142).map (·.size) = some 4 := by kernel_rfl
theorem run_stSlot {w : World} {g : Nat} {cs v : Array Value} (hk : Blk w g 142 cs) (hs : cs.size = 4) (hv : v.size = 4) (h1 : v.all (·.oneCell') = true) : (stSlot (.pointer (some ⟨g, 0, none⟩)) (.agg v)).run Tryz.prog w = .ok () (w.setRow g v) := by
 have := run_storeVar_row (P := Tryz.prog) w g 142 142 cs v hk (by rw [hv]; exact sizeSlot) (by omega) h1
 simp only [stSlot, Instr.storeAt, Instr.sureAddr, Sem.run_bind, Sem.run_pure, Result.andThen_ok, this]
theorem storeSync_any {w : World} {base Sb : Nat} {s : StV} {m : StM} (h : StR w base Sb s m) :
  Calls Tryz.prog 54 #[.pointer (some ⟨Sb, 0, none⟩)] w fun e w' => e = .returned (.int .i64 (syncS s).1) ∧ StR w' base Sb (syncS s).2 m ∧ Keeps base [121, 165, 167] w w' := by
 have HH := hZ9 h
 have c2 : w.cell? ⟨Sb, 2, none⟩ = some (.pointer (some ⟨m.Lb, 0, none⟩)) := h.blk.cell 2
 have hlt := h.blk.lt
 have HS := hZ9 (syncW_any h.log h.dsk)
 have e1 : syncS s = ((flushD s.d).1, { s with d := (flushD s.d).2 }) := rfl
 have hz := flushD_size s.d
 rw [e1]
 clear h e1
 go_enter Tryz.func54, Tryz.ntmps54
 go_wp2_with (go_at_call 73; refine HS.out.mono ?_; rintro en w2 ⟨rfl, hd, hk⟩; (have HD := hZ9 hd); (have HK := hZ9 hk); clear hd hk)
 go_ret
 have k5 := HK.out.mono nR0 (ts' := [121, 165, 167, 216, 137]) (by simp)
 exact ⟨rfl, HH.out.logged k5 HD.out (HH.out.log.keeps HK.out (by decide) (by decide) (by decide)) hz, HK.out⟩
theorem TellsOut.shape {w w' : World} {r : Nat × List UInt8} {e : Ending} (h : TellsOut w w' r e) : ∃ A n c, e = .returned (.tuple #[.slice A n c, .int .i64 r.1]) ∧ TellsOut w w' r e := by
 rcases h.1 with ⟨h0, A, c, h2, _⟩ | ⟨_, h2⟩
 ·exact ⟨A, _, c, by rw [h2, h0]; rfl, h⟩
 ·exact ⟨none, 0, 0, h2, h⟩
section
attribute [local go_sem ↓] stSlot_fold
set_option maxHeartbeats 8000000 in
theorem getM_any {w : World} {base Sb : Nat} {s : StV} {m : StM} (h : StR w base Sb s m) (n : NameV) (hn : wfN n) (x : SlotV) (hg : getL s.slices n = some x) (a : Nat) (hF : ∀ r, getP s.d a = (0, r) → r.mark < 2 ^ 63) (ha : x.at' = a) (ha2 : a ≤ 65536) :
  Calls Tryz.prog 30 #[.pointer (some ⟨Sb, 0, none⟩), nameV n] w fun e w' => TellsOut w w' (tellsS s.d x) e := by
 have HH := hZ9 h
 have HT := hZ9 (show ∀ wy, Below w.heap.size w wy → Calls Tryz.prog 61 #[.pointer (some ⟨Sb, 0, none⟩), slotV x] wy fun e w' => TellsOut w w' (tellsS s.d x) e from fun wy hy => (tellsM_any (h.below hy) x a hF ha ha2).mono fun e w' ⟨h1, h2⟩ => by
  refine ⟨?_, hy.trans (h2.mono hy.size)⟩
  rcases h1 with ⟨h1, A, c, h3, h4⟩ | h1
  ·exact .inl ⟨h1, A, c, h3, own_base h4 hy.size⟩
  ·exact .inr h1)
 have hlt := h.blk.lt
 have HL := hZ9 (show ∀ wy, Below w.heap.size w wy → (Instr.lookup 125 (.map (some m.Pb)) (nameV n) true).run Tryz.prog wy = .ok (.tuple #[slotV x, .bool true]) wy from fun wy hy => by
  have := (h.below hy).pmap.look_ok (x := n) hn
  rw [hg] at this
  exact this)
 obtain ⟨n1, n2⟩ := n
 obtain ⟨at', len, by', mk⟩ := x
 unfold nameV slotV at *
 simp only at HT HL ⊢
 have HB0 : Hid (Below w.heap.size w (w.alloc (.cells #[.int .i64 n1, .int .i64 n2] 73))) := bR0.alloc nR0 _
 have HX0 := hZ9 (Blk.new w 73 #[.int .i64 n1, .int .i64 n2])
 clear h hF hg hn ha
 generalize tellsS s.d ⟨at', len, by', mk⟩ = q at *
 go_enter Tryz.func30, Tryz.ntmps30
 go_upto_region 3 with fail
 generalize w.alloc (.cells #[.int .i64 n1, .int .i64 n2] 73) = w1 at *
 have hw1 := HB0.out.size
 have SK := hZ9 (show ∀ wy, Below w1.heap.size w1 wy → wy.cell? ⟨Sb, 5, none⟩ = some (.map (some m.Pb)) ∧ (wy.cell? ⟨w.heap.size, 0, none⟩ = some (.int .i64 n1) ∧ wy.cell? ⟨w.heap.size, 1, none⟩ = some (.int .i64 n2)) ∧ (Instr.lookup 125 (.map (some m.Pb)) (.agg #[.int .i64 n1, .int .i64 n2]) true).run Tryz.prog wy = .ok (.tuple #[.agg #[.int .i64 at', .int .i64 len, .int .i64 by', .int .i64 mk], .bool true]) wy from fun wy hy => by
  have hb := HB0.out.trans (hy.mono hw1)
  have hx := HX0.out.below hy HX0.out.lt
  exact ⟨(HH.out.below hb).blk.cell 5, ⟨hx.cell 0, hx.cell 1⟩, HL.out _ hb⟩)
 have S0 := hZ9 (SK.out _ bR0.drew)
 have HBZ : Hid (Below w1.heap.size w1 ((w1.alloc (.cells #[.int .i64 0, .int .i64 0, .int .i64 0, .int .i64 0] 142)).drew.setRow w1.heap.size #[.int .i64 at', .int .i64 len, .int .i64 by', .int .i64 mk])) :=
  (bR0.alloc nR0 _).drew.trans (grown_below (setRow_gby _ _ _) (by simp) (fun k hk => by injection hk with hk; omega))
 have HXZ : Hid (Blk ((w1.alloc (.cells #[.int .i64 0, .int .i64 0, .int .i64 0, .int .i64 0] 142)).drew.setRow w1.heap.size #[.int .i64 at', .int .i64 len, .int .i64 by', .int .i64 mk]) w1.heap.size 142 #[.int .i64 at', .int .i64 len, .int .i64 by', .int .i64 mk]) := setRow_blk (Blk.new w1 142 _).drew _
 have zs : (stSlot (.pointer (some ⟨w1.heap.size, 0, none⟩)) (.agg #[.int .i64 at', .int .i64 len, .int .i64 by', .int .i64 mk])).run Tryz.prog (w1.alloc (.cells #[.int .i64 0, .int .i64 0, .int .i64 0, .int .i64 0] 142)).drew = .ok () ((w1.alloc (.cells #[.int .i64 0, .int .i64 0, .int .i64 0, .int .i64 0] 142)).drew.setRow w1.heap.size #[.int .i64 at', .int .i64 len, .int .i64 by', .int .i64 mk]) := run_stSlot (Blk.new w1 142 _).drew rfl rfl (by simp [Value.oneCell'])
 have S3 := hZ9 (SK.out _ HBZ.out)
 go_cut [6, 7] (fun v6 v7 wx => v6 = .pointer (some ⟨w1.heap.size, 0, none⟩) ∧ v7 = .bool true ∧ Below w1.heap.size w1 wx ∧ Blk wx w1.heap.size 142 #[.int .i64 at', .int .i64 len, .int .i64 by', .int .i64 mk])
 case first =>
  go_region_held3 (fun wy => wy.cell? ⟨Sb, 5, none⟩ = some (.map (some m.Pb)) ∧ (wy.cell? ⟨w.heap.size, 0, none⟩ = some (.int .i64 n1) ∧ wy.cell? ⟨w.heap.size, 1, none⟩ = some (.int .i64 n2)) ∧ (Instr.lookup 125 (.map (some m.Pb)) (.agg #[.int .i64 n1, .int .i64 n2]) true).run Tryz.prog wy = .ok (.tuple #[.agg #[.int .i64 at', .int .i64 len, .int .i64 by', .int .i64 mk], .bool true]) wy)
   (first | exact S0.out | exact S3.out | exact SK.out _ (bR0.drew.alloc nR0 _) | exact SK.out _ ((bR0.alloc nR0 _).drew))
   (fail)
  all_goals
   go_wp2_with fail
   go_meet
   exact ⟨rfl, rfl, HBZ.out, HXZ.out⟩
 case rest =>
  obtain ⟨rfl, rfl, hb3, hx3⟩ := hcut
  have HC := hZ9 ((HT.out _ (HB0.out.trans (hb3.mono hw1))).mono fun _ _ => TellsOut.shape)
  have x0 := hx3.cell 0
  have x1 := hx3.cell 1
  have x2 := hx3.cell 2
  have x3 := hx3.cell 3
  have xl := hx3.lt
  clear zs hb3 hx3
  go_wp2_with (go_at_call 61; refine HC.out.mono ?_; rintro en w4 ⟨A4, n4, c4, rfl, h4⟩; (have H4 := hZ9 h4); clear h4)
  go_ret2
  exact H4.out
end
end Go.Proofs.YtmgmfnimaafkdaaGreatDoor
namespace Go.Proofs.YtmgmfnimaafkdaaGreatDoor
set_option maxRecDepth 100000

structure PutGo (s : StV) (n : NameV) (b : List UInt8) (a l : Nat) (m1 : MapV) (mark : Nat) (s1 : StV) (nn : Nat) (d1 d2 : DskV) (l2 : LogV) : Prop where
 r1 : rightB n.1 = true
 r2 : rightB n.2 = true
 b1 : 1 ≤ b.length
 b2 : b.length ≤ 1048576
 new : getL s.slices n = none
 take : takeM s.map (needP s.d.size b.length) = (0, (a, l), m1)
 next : nextS { s with map := m1 } = (0, (mark : Int), s1)
 put : putP s1.d a 83 mark b = (nn, 0, d1)
 log : addTurn { s1 with d := d1, slices := putS n ⟨a, l, b.length, mark⟩ s1.slices } (slotRec n ⟨a, l, b.length, mark⟩) = (0, d2, l2)
 sl : s1.slices = s.slices
 la : a ≤ 65536
 ll : l ≤ 1048576
 lm : mark < 2 ^ 63
 w0 : s.d.waits.length ≤ 824633720832
 w1 : s1.d.waits.length ≤ 824633720832
 e0 : s.log.epoch + 4 < 549755813888
 e1 : s1.log.epoch + 2 < 549755813888
 a1 : s1.log.at' ≤ s1.log.begin s1.log.use + s1.log.half
 z1 : s1.log.size = s1.d.size
 n1 : s1.notes = s.notes
 m1' : s1.marks = s.marks
 se : s.epoch < 549755813888
 sp : s.puts ≤ 1048576
def putEnd (s1 : StV) (n : NameV) (b : List UInt8) (a l mark : Nat) (d2 : DskV) (l2 : LogV) : StV := { s1 with d := d2, log := l2, slices := putS n ⟨a, l, b.length, mark⟩ s1.slices }

theorem PutGo.is {s : StV} {n : NameV} {b : List UInt8} {a l : Nat} {m1 : MapV} {mark : Nat} {s1 : StV} {nn : Nat} {d1 d2 : DskV} {l2 : LogV} (h : PutGo s n b a l m1 mark s1 nn d1 d2 l2) : putStore s n b = (0, putEnd s1 n b a l mark d2 l2) := by
 unfold putStore
 have h3 := h.b1
 have h4 := h.b2
 rw [if_neg (by
  rintro (e | e | e | e)
  ·rw [h.r1] at e; cases e
  ·rw [h.r2] at e; cases e
  ·omega
  ·omega), getS_eq, h.new, if_neg (by simp), h.take]
 simp only
 rw [h.next]
 simp only [Int.toNat_natCast]
 rw [h.put]
 simp only
 rw [loggedS_eq, h.log]
 rfl
end Go.Proofs.YtmgmfnimaafkdaaGreatDoor
namespace Go.Proofs.YtmgmfnimaafkdaaGreatDoor
end Go.Proofs.YtmgmfnimaafkdaaGreatDoor
namespace Go.Proofs.YtmgmfnimaafkdaaGreatDoor
open Go.RowKit Go.Maps Go.Shelf Go.Sort
set_option maxRecDepth 100000

def st140 (p v : Value) : Sem Unit := Instr.storeAt 140 p v
theorem st140_fold (p v : Value) : Instr.storeAt 140 p v = st140 p v := rfl
theorem run_st140 {w : World} {g : Nat} {cs v : Array Value} (hk : Blk w g 140 cs) (hs : cs.size = 2) (hv : v.size = 2) (h1 : v.all (·.oneCell') = true) : (st140 (.pointer (some ⟨g, 0, none⟩)) (.agg v)).run Tryz.prog w = .ok () (w.setRow g v) := by
 have := run_storeVar_row (P := Tryz.prog) w g 140 140 cs v hk (by rw [hv]; exact size140) (by omega) h1
 simp only [st140, Instr.storeAt, Instr.sureAddr, Sem.run_bind, Sem.run_pure, Result.andThen_ok, this]
theorem needP_bound (size bytes : Nat) : needP size bytes < 1099511627776 := by
 unfold needP
 split
 ·omega
 ·rename_i h
  have : (bytes + (size - 18) - 1) / (size - 18) ≤ bytes + (size - 18) - 1 := Nat.div_le_self _ _
  omega
end Go.Proofs.YtmgmfnimaafkdaaGreatDoor
namespace Go.Proofs.YtmgmfnimaafkdaaGreatDoor
set_option maxRecDepth 100000

structure PutL (s : StV) (n : NameV) (b : List UInt8) (a l : Nat) (m1 : MapV) (mark : Nat) (s1 : StV) (nn : Nat) (d1 : DskV) : Prop where
 r1 : rightB n.1 = true
 r2 : rightB n.2 = true
 b1 : 1 ≤ b.length
 b2 : b.length ≤ 1048576
 new : getL s.slices n = none
 take : takeM s.map (needP s.d.size b.length) = (0, (a, l), m1)
 next : nextS { s with map := m1 } = (0, (mark : Int), s1)
 put : putP s1.d a 83 mark b = (nn, 0, d1)
 sl : s1.slices = s.slices
 la : a ≤ 65536
 ll : l ≤ 1048576
 lm : mark < 2 ^ 63
 w0 : s.d.waits.length ≤ 824633720832
 w1 : s1.d.waits.length ≤ 824633720832
 e0 : s.log.epoch + 4 < 549755813888
 e1 : s1.log.epoch + 2 < 549755813888
 a1 : s1.log.at' ≤ s1.log.begin s1.log.use + s1.log.half
 z1 : s1.log.size = s1.d.size
 n1 : s1.notes = s.notes
 m1' : s1.marks = s.marks
 se : s.epoch < 549755813888
 sp : s.puts ≤ 1048576
 pu : s1.puts ≤ s.puts + 1
def putLS (s1 : StV) (n : NameV) (b : List UInt8) (a l mark : Nat) (d1 : DskV) : Nat × StV :=
 loggedS { s1 with d := d1, slices := putS n ⟨a, l, b.length, mark⟩ s1.slices } { s1 with d := d1, map := (giveM s1.map a l).2 } (slotRec n ⟨a, l, b.length, mark⟩)
theorem PutL.is {s : StV} {n : NameV} {b : List UInt8} {a l : Nat} {m1 : MapV} {mark : Nat} {s1 : StV} {nn : Nat} {d1 : DskV} (h : PutL s n b a l m1 mark s1 nn d1) : putStore s n b = putLS s1 n b a l mark d1 := by
 unfold putStore
 have h3 := h.b1
 have h4 := h.b2
 rw [if_neg (by
  rintro (e | e | e | e)
  ·rw [h.r1] at e; cases e
  ·rw [h.r2] at e; cases e
  ·omega
  ·omega), getS_eq, h.new, if_neg (by simp), h.take]
 simp only
 rw [h.next]
 simp only [Int.toNat_natCast]
 rw [h.put]
 rfl
theorem putStore_arg {s : StV} {n : NameV} {b : List UInt8} (h : rightB n.1 = false ∨ rightB n.2 = false ∨ b.length < 1 ∨ 1048576 < b.length) : putStore s n b = (1, s) := by
 unfold putStore
 rw [if_pos h]
theorem args_no {n : NameV} {b : List UInt8} (r1 : rightB n.1 = true) (r2 : rightB n.2 = true) (b1 : 1 ≤ b.length) (b2 : b.length ≤ 1048576) : ¬ (rightB n.1 = false ∨ rightB n.2 = false ∨ b.length < 1 ∨ 1048576 < b.length) := by
 rintro (e | e | e | e)
 ·rw [r1] at e; cases e
 ·rw [r2] at e; cases e
 ·omega
 ·omega
theorem putStore_twice {s : StV} {n : NameV} {b : List UInt8} {x : SlotV} (r1 : rightB n.1 = true) (r2 : rightB n.2 = true) (b1 : 1 ≤ b.length) (b2 : b.length ≤ 1048576) (hx : getL s.slices n = some x) : putStore s n b = (7, s) := by
 unfold putStore
 rw [if_neg (args_no r1 r2 b1 b2), getS_eq, hx]
 rfl
theorem putStore_full {s : StV} {n : NameV} {b : List UInt8} {e : Nat} (r1 : rightB n.1 = true) (r2 : rightB n.2 = true) (b1 : 1 ≤ b.length) (b2 : b.length ≤ 1048576) (hx : getL s.slices n = none) (ht : takeM s.map (needP s.d.size b.length) = (e, (0, 0), s.map)) (he : e ≠ 0) : putStore s n b = (e, s) := by
 unfold putStore
 rw [if_neg (args_no r1 r2 b1 b2), getS_eq, hx, if_neg (by simp), ht]
 cases e with
 | zero => exact absurd rfl he
 | succ e => rfl
theorem next_plain {s : StV} (hp : s.puts < 1048575) : ∃ p mark : Nat, nextS s = (0, ((mark : Nat) : Int), { s with epoch := s.log.epoch, puts := p }) ∧ p < 1048576 ∧ p ≤ s.puts + 1 ∧ mark = s.log.epoch * 1048576 + p := by
 unfold nextS
 simp only
 rw [if_neg (by omega)]
 by_cases hq : s.epoch = s.log.epoch
 ·refine ⟨s.puts + 1, s.log.epoch * 1048576 + (s.puts + 1), ?_, by omega, nR0, rfl⟩
  rw [if_neg (by simpa using hq)]
  simp only [Prod.mk.injEq, true_and]
  refine ⟨by omega, ?_⟩
  rw [← hq]
 ·refine ⟨1, s.log.epoch * 1048576 + 1, ?_, by omega, by omega, rfl⟩
  rw [if_pos hq]
  simp only [Prod.mk.injEq, true_and]
  refine ⟨by omega, ?_⟩
  first
   | trivial
   | rfl
theorem put_split {s : StV} {lo E : Nat} {ts : List (NameV × List UInt8)} (h : StAll s lo E ts) (hE : E + 4 < 549755813888) (hK : s.d.waits.length ≤ 824633720832) (hp : s.puts < 1048575) {n : NameV} {b : List UInt8}
  (r1 : rightB n.1 = true) (r2 : rightB n.2 = true) (b1 : 1 ≤ b.length) (b2 : b.length ≤ 1048576) (hnew : getL s.slices n = none) :
  (∃ e, takeM s.map (needP s.d.size b.length) = (e, (0, 0), s.map) ∧ e ≠ 0) ∨ ∃ a l m1 mark s1 nn d1, PutL s n b a l m1 mark s1 nn d1 ∧ MapInv s1.map lo s.d.lasts.length := by
 have hep := h.ep
 have hepo := h.epoch
 have hfew := h.few
 rcases takeM_ok (c := needP s.d.size b.length) h.map with ⟨e, he, hne⟩ | ⟨a, m', he, hc1, hm', ha1, ha2, _, _⟩
 ·exact .inl ⟨e, he, hne⟩
 ·obtain ⟨p, mark, e1, p1, p2, hmk⟩ := next_plain (s := { s with map := m' }) hp
  simp only at hmk p2 e1
  obtain ⟨d2, hp2, _⟩ := putP_ok (d := s.d) (at' := a) (kind := 83) (mark := mark) (b := b) h.log.s1 (by decide) h.log.on hc1 ha2
  exact .inr ⟨a, _, m', mark, _, _, d2, ⟨r1, r2, b1, b2, hnew, he, e1, hp2, rfl, by omega, by omega, by omega, hK, hK, by omega, by show s.log.epoch + 2 < _; omega, h.log.at2, h.log.sz, rfl, rfl, by omega, by omega, p2⟩, hm'⟩
theorem PutL.frame {s : StV} {n : NameV} {b : List UInt8} {a l : Nat} {m1 : MapV} {mark : Nat} {s1 : StV} {nn : Nat} {d1 : DskV} (h : PutL s n b a l m1 mark s1 nn d1) : (putStore s n b).2.notes = s.notes ∧ (putStore s n b).2.marks = s.marks ∧ (putStore s n b).2.puts ≤ s.puts + 1 := by
 rw [h.is]
 unfold putLS
 rw [loggedS_eq]
 split
 ·exact ⟨h.n1, h.m1', h.pu⟩
 ·exact ⟨h.n1, h.m1', h.pu⟩
theorem put_frame {s : StV} {lo E : Nat} {ts : List (NameV × List UInt8)} (h : StAll s lo E ts) (hE : E + 4 < 549755813888) (hK : s.d.waits.length ≤ 824633720832) (hp : s.puts < 1048575) (n : NameV) (b : List UInt8) :
  (putStore s n b).2.notes = s.notes ∧ (putStore s n b).2.marks = s.marks ∧ (putStore s n b).2.puts ≤ s.puts + 1 := by
 by_cases hn : rightB n.1 = false ∨ rightB n.2 = false ∨ b.length < 1 ∨ 1048576 < b.length
 ·rw [putStore_arg hn]; exact ⟨rfl, rfl, Nat.le_succ _⟩
 ·have r1 : rightB n.1 = true := by cases hh : rightB n.1 <;> simp_all
  have r2 : rightB n.2 = true := by cases hh : rightB n.2 <;> simp_all
  have b1 : 1 ≤ b.length := by omega
  have b2 : b.length ≤ 1048576 := by omega
  cases hg : getL s.slices n with
  | some x => rw [putStore_twice r1 r2 b1 b2 hg]; exact ⟨rfl, rfl, Nat.le_succ _⟩
  | none =>
   rcases put_split h hE hK hp r1 r2 b1 b2 hg with ⟨e, he, hne⟩ | ⟨a, l, m1, mark, s1, nn, d1, hq, _⟩
   ·rw [putStore_full r1 r2 b1 b2 hg he hne]; exact ⟨rfl, rfl, Nat.le_succ _⟩
   ·exact hq.frame
structure RotsI (s : StV) (K : Nat) (ts : List (NameV × List UInt8)) : Prop where
 all : StAll s 30 (2 + 2 * K) ts
 pu : s.puts ≤ K
 nt : s.notes = []
 mrk : s.marks = []
 few : ts.length ≤ K
 runs : RunsB (SecOK (2 + 2 * K)) (8589934592 + K * 12884967424) (newD 120 64) s.d
theorem RotsI.waits {s : StV} {K : Nat} {ts : List (NameV × List UInt8)} (h : RotsI s K ts) (hK : K ≤ 30) : s.d.waits.length ≤ 824633720832 := by
 have := h.runs.like.2
 have h0 : (newD 120 64).waits.length = 0 := rfl
 rw [h0] at this
 omega
theorem RotsI.ok {s : StV} {K : Nat} {ts : List (NameV × List UInt8)} (h : RotsI s K ts) (hK : K ≤ 30) : StOK s :=
 h.all.ok (by omega) (h.waits hK) (by rw [h.all.side.len]; have := h.few; omega) (by rw [h.nt]; simp) (by rw [h.mrk]; simp)
theorem RotsI.put {s : StV} {K : Nat} {ts : List (NameV × List UInt8)} (h : RotsI s K ts) (hK : K ≤ 30) (n : NameV) (b : List UInt8) : RotsI (putStore s n b).2 (K + 1) (if (putStore s n b).1 = 0 then putS n b ts else ts) := by
 obtain ⟨f1, f2, f3⟩ := put_frame h.all (by omega) (h.waits hK) (by have := h.pu; omega) n b
 obtain ⟨e, s', hq, hr, hres⟩ := putStore_all h.all (by omega) n b
 rw [hq] at f1 f2 f3 ⊢
 simp only at f1 f2 f3 ⊢
 have hpu := h.pu
 have hfew := h.few
 have e2 : 2 + 2 * (K + 1) = 2 + 2 * K + 2 := by omega
 have hrun : RunsB (SecOK (2 + 2 * (K + 1))) (8589934592 + (K + 1) * 12884967424) (newD 120 64) s'.d := (h.runs.mono fun b hb => hb.le (by omega)).trans (hr.mono fun b hb => hb.le (by omega)) (by omega)
 rcases hres with ⟨he, ha⟩ | ⟨rfl, _, ha⟩
 ·rw [if_neg he]
  exact ⟨by rw [e2]; exact ha, by omega, f1.trans h.nt, f2.trans h.mrk, by omega, hrun⟩
 ·rw [if_pos rfl]
  have := putS_len (k := n) (v := b) ts
  exact ⟨by rw [e2]; exact ha, by omega, f1.trans h.nt, f2.trans h.mrk, by omega, hrun⟩
theorem RotsI.le {s : StV} {K K' : Nat} {ts : List (NameV × List UInt8)} (h : RotsI s K ts) (hK : K ≤ K') : RotsI s K' ts :=
 ⟨h.all.le (by omega), by have := h.pu; omega, h.nt, h.mrk, by have := h.few; omega, (h.runs.mono fun b hb => hb.le (by omega)).le (by omega)⟩
theorem turnedL_fresh (n k : Nat) : turnedL (newD n k) = [] := by
 cases h : turnedL (newD n k) with
 | nil => rfl
 | cons a l =>
  obtain ⟨_, b, hb⟩ := turnedL_mem.1 (show a ∈ turnedL (newD n k) by rw [h]; simp)
  rw [told_fresh] at hb
  cases hb
theorem RotsI.rot {s : StV} {K n bit : Nat} {ts : List (NameV × List UInt8)} (h : RotsI s K ts) (hn : n < 120) (hb : bit < 512) : ∃ d', rotD s.d n bit = (0, d') ∧ StAll { s with d := d' } 30 (2 + 2 * K) ts ∧ (badL { s with d := d' }).length ≤ 1 := by
 have hlk := h.runs.like.1
 have hl0 : (newD 120 64).lasts.length = 120 := rfl
 have hz0 : (newD 120 64).size = 64 := rfl
 have hl : s.d.lasts.length = 120 := by rw [hlk.2.1, hl0]
 have hz : s.d.size = 64 := by rw [hlk.1, hz0]
 have ht := h.runs.told (m := n) (by rw [hl0]; exact hn)
 rw [told_fresh] at ht
 obtain ⟨d', hd⟩ := rot_ok (d := s.d) (n := n) (bit := bit) (by rw [hl]; exact hn) (by rw [hz]; omega) h.all.log.on (by
  rcases ht with e | ⟨x, _, e⟩ <;> rw [e] <;> intro h <;> cases h) (by
  intro b
  rcases ht with e | ⟨x, _, e⟩ <;> rw [e] <;> intro h <;> cases h)
 have ha := rotStore_all h.all hd (by rw [hz]; omega)
 have h1 := turned_rot hd
 have h2 := turned_runs h.runs
 rw [turnedL_fresh] at h2
 have h3 := bad_le ha
 simp only [List.length_nil] at h2
 simp only at h3
 exact ⟨d', hd, ha, by omega⟩
theorem Stood.mark {d : DskV} {lo : Nat} {x : SlotV} {t : List UInt8} (h : Stood d lo x t) (hs : 19 ≤ d.size) (hs2 : d.size ≤ 4096) (ho : d.off = false) : ∃ a : Nat, x.at' = a ∧ a ≤ d.lasts.length ∧ ∀ r, getP d a = (0, r) → r.mark < 2 ^ 63 := by
 obtain ⟨⟨a, mark, h1, h2, h3, h4, h5⟩, h6, h7⟩ := h
 refine ⟨a, by rw [h1], by omega, fun r hr => ?_⟩
 by_cases hT : ∃ i, i < needP d.size t.length ∧ TurnedAt d (a + i)
 ·exfalso
  obtain ⟨i0, hi0⟩ := hT
  obtain ⟨j, _, ⟨hj, hjt⟩, hmin⟩ := least (p := fun i => i < needP d.size t.length ∧ TurnedAt d (a + i)) i0 hi0
  have hbefore : ∀ i, i < j → d.told (a + i) = .data (secP d.size 83 mark (t.drop (i * (d.size - 18))) (i == 0)) false := by
   intro i hi
   rcases h2 i (by omega) with g | ⟨bit, _, g⟩
   ·exact g
   ·exact absurd ⟨by omega, _, g⟩ (hmin i hi)
  obtain ⟨bit, hbit, hflip⟩ : ∃ bit, bit < 8 * d.size ∧ d.told (a + j) = .data (flipB (secP d.size 83 mark (t.drop (j * (d.size - 18))) (j == 0)) bit) true := by
   rcases h2 j hj with g | g
   ·obtain ⟨b, hb⟩ := hjt
    rw [g] at hb
    injection hb with _ hb
    cases hb
   ·exact g
  have hsl := secP_len (size := d.size) (kind := 83) (mark := mark) (b := t.drop (j * (d.size - 18))) (first := j == 0) (by omega)
  obtain ⟨p, c, r', c', e1, e2, hne⟩ := flipB_ne (b := secP d.size 83 mark (t.drop (j * (d.size - 18))) (j == 0)) (bit := bit) (by rw [hsl]; omega)
  obtain ⟨n1, n2⟩ := need_enough hs hs2 (bytes := t.length) (by omega)
  have n2 := n2 h6
  have hlt : j * (d.size - 18) < t.length := by
   have : j * (d.size - 18) ≤ (needP d.size t.length - 1) * (d.size - 18) := Nat.mul_le_mul_right _ (by omega)
   omega
  have hsec := secOf_secP (size := d.size) (kind := 83) (mark := mark) (b := t.drop (j * (d.size - 18))) (first := j == 0) hs (by omega) (by omega) (by omega) (by rw [List.length_drop]; omega) (.inr (fun e => by have := congrArg List.length e; rw [List.length_drop] at this; simp at this; omega))
  rw [e1] at hsec
  have hnone := secOf_turned hne hsec
  rw [← e2] at hnone
  have hg := getP_spoilt (d := d) (at' := a) (kind := 83) (mark := mark) (j := j) (t := t) hbefore hj ⟨true, hflip⟩ hnone hs hs2 (by omega) (by omega) (by omega) (by omega) h6 ho h5
  rw [hr] at hg
  simp at hg
 ·have hH : Holds d a 83 mark t := by
   intro i hi
   rcases h2 i hi with g | ⟨bit, _, g⟩
   ·exact g
   ·exact absurd ⟨i, hi, _, g⟩ hT
  have ht := tells_holds hH h1 hs hs2 (by omega) (by omega) h6 ho h5
  rw [tellsS_eq (x := x) (a := a) (by rw [h1]) hr] at ht
  simp only [ne_eq, not_true_eq_false, if_false] at ht
  split at ht
  ·rename_i h0; exact absurd h0 (by decide)
  ·split at ht
   ·injection ht with ht _; exact absurd ht (by decide)
   ·rename_i hc
    rw [h1] at hc
    simp only at hc
    omega
theorem StAll.gets {s : StV} {lo E : Nat} {ts : List (NameV × List UInt8)} (h : StAll s lo E ts) {n : NameV} {t : List UInt8} (hg : getL ts n = some t) :
  ∃ (x : SlotV) (a : Nat), getL s.slices n = some x ∧ x.at' = a ∧ a ≤ 65536 ∧ (∀ r, getP s.d a = (0, r) → r.mark < 2 ^ 63) ∧ (tellsS s.d x = (0, t) ∨ tellsS s.d x = (8, [])) ∧ rightB n.1 = true ∧ rightB n.2 = true := by
 obtain ⟨y, hy, hye, hS⟩ := h.side.mem' _ (getL_mem hg)
 simp only at hye hS
 obtain ⟨a, h1, h2, h3⟩ := hS.mark h.log.s1 h.log.s2 h.log.on
 obtain ⟨r1, r2⟩ := h.right y hy
 have := h.few
 refine ⟨y.2, a, ?_, h1, by omega, h3, ?_, by rw [← hye]; exact r1, by rw [← hye]; exact r2⟩
 ·rw [← hye]; exact getL_in h.srtS.nodup hy
 ·rcases hS.tells h.log.s1 h.log.s2 h.log.on with ⟨g, _⟩ | ⟨g, _⟩
  ·exact .inl g
  ·exact .inr g
def lostL (s : StV) (ss : List NameV) : List NameV := ss.filter fun n => decide ((tellsS s.d ((getL s.slices n).getD ⟨0, 0, 0, 0⟩)).1 ≠ 0)
theorem lost_le {s : StV} {ss : List NameV} (hn : ss.Nodup) (hs : ∀ n ∈ ss, (getL s.slices n).isSome = true) : (lostL s ss).length ≤ (badL s).length := by
 have := nodup_le (l := lostL s ss) (m := (badL s).map (·.1)) (List.Pairwise.filter _ hn) fun n hm => by
  unfold lostL at hm
  rw [List.mem_filter] at hm
  obtain ⟨h1, h2⟩ := hm
  obtain ⟨x, hx⟩ := Option.isSome_iff_exists.1 (hs n h1)
  rw [hx] at h2
  refine List.mem_map.2 ⟨(n, x), ?_, rfl⟩
  unfold badL
  rw [List.mem_filter]
  exact ⟨getL_mem hx, h2⟩
 rw [List.length_map] at this
 exact this
end Go.Proofs.YtmgmfnimaafkdaaGreatDoor
