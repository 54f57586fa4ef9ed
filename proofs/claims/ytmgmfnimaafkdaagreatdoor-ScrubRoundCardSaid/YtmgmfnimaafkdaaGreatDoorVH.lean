/- A sector read. -/
import Derived.Test.YtmgmfnimaafkdaaGreatDoorVG
import Derived.BigQuiet
import Derived.Deep.RegionHeld3
namespace Go.Proofs.YtmgmfnimaafkdaaGreatDoor
open Go.RowKit Go.Maps
set_option maxRecDepth 100000

theorem setRow_blk {w : World} {g : Nat} {t : TypeId} {old : Array Value} (h : Blk w g t old) (cs : Array Value) : Blk (w.setRow g cs) g t cs := setRow_heap w g old cs t (0, 0) h
theorem setRow_gby (w : World) (g : Nat) (cs : Array Value) : w.grownBy (w.setRow g cs) (some g) := ⟨rfl, rfl, rfl, by simp, fun k _ hk => setRow_other w g k _ (fun e => hk (by rw [e]))⟩
theorem results_cell_tmp {P : Program} {fn : Func} {p q : Tmp} {ty : TypeId} (h : fn.results = #[.cell p ty, .tmp q]) (tmps : Array Value) (w : World) (g : Nat) (t : TypeId) (cs : Array Value) (fr : Nat × Nat) (d : TypeDesc)
  (hp : tmps.getD p undef = .pointer (some ⟨g, 0, none⟩)) (hg : w.heap[g]? = some (.cells cs t fr))
  (hu : P.underlying ty = some d) (hd : (match d with | .struct _ | .array _ _ => true | _ => false) = true) (hi : (P.info? ty).map (·.size) = some cs.size) :
  (results fn tmps).run P w = .ok (.tuple #[.agg cs, tmps.getD q undef]) w := by
 have hp' : tmps[p]?.getD undef = .pointer (some ⟨g, 0, none⟩) := by simpa using hp
 simp [results, h, hp', asAddr, run_loadVar_row w g t ty cs fr d hg hu hd hi]
theorem quiet_left {P : Program} {f : FuncId} {args : Array Value} {w : World} {n : Nat} {v : Value}
  (h : Calls P f args (w.drewN n) fun e w' => e = .returned v ∧ w.drewN n = w') : Calls P f args (w.drewN n) fun e w'' => e = .returned v ∧ ∃ m, w'' = w.drewN m :=
 h.mono fun _ _ ⟨he, hm⟩ => ⟨he, n, hm.symm⟩

theorem bl_drewN {B : Nat} {a w : World} (h : Below B a w) (n : Nat) : Below B a (w.drewN n) := h.trans (below_drewN B w n)
theorem Steps.below {w w' : World} (h : Steps w) (hb : Below w.heap.size w w') : Steps w' := fun i hi => by
 have e := h i hi
 have hlt : 2 < w.heap.size := by
  apply Decidable.byContradiction
  intro hc
  have : w.heap[2]? = none := Array.getElem?_eq_none (by omega)
  simp [World.cell?, this] at e
 rw [hb.cell (p := ⟨2, i, none⟩) hlt]; exact e
theorem size275 : (Tryz.prog.info? 275).map (·.size) = some 5 := by kernel_rfl
def zero5 : Array Value := #[.int .u8 0, .int .i64 0, .int .u64 0, .bool false, .slice none 0 0]
def secC (x : Sec) (A : Option Addr) (c : Nat) : Array Value := #[.int .u8 x.kind, .int .i64 (IntKind.i64.wrap x.mark), .int .u64 x.left, .bool x.first, .slice A x.bytes.length c]
def SecOut (g : Nat) (r : Option Sec) (e : Ending) : Prop := match r with
 | none => e = .returned (.tuple #[.agg zero5, .bool false])
 | some x => ∃ c, e = .returned (.tuple #[.agg (secC x (some ⟨g, 14, none⟩) c), .bool true]) ∧ x.bytes.length ≤ c
set_option maxHeartbeats 2000000 in
theorem read_any {w : World} (hs : Steps w) (s : List UInt8) (g c : Nat) (hb : Byt w (some ⟨g, 0, none⟩) s) (h16 : 16 ≤ s.length) (hn : s.length ≤ 4096) (hc : s.length ≤ c) :
  Calls Tryz.prog 173 #[.slice (some ⟨g, 0, none⟩) s.length c] w fun e w' => SecOut g (secOf s) e ∧ Below w.heap.size w w' := by
 have hb0 : Below w.heap.size w (w.alloc (.cells zero5 275)) := bR0.alloc nR0 _
 have hbl := Blk.new w 275 zero5
 have HB0 := hZ9 hb0
 have HBL := hZ9 hbl
 clear hb0 hbl
 obtain ⟨r, hr⟩ : ∃ r, r = secOf s := ⟨_, rfl⟩
 rw [← hr]
 have HI : Hid ((Tryz.prog.info? 275).map (·.size) = some zero5.size) := size275
 by_cases h19 : s.length < 19
 ·have hr' : r = none := by rw [hr]; unfold secOf; rw [if_pos h19]
  subst hr'
  clear hr
  go_enter Tryz.func173, Tryz.ntmps173
  go_wp2_with fail
  exact bodyPost_ret (v := .tuple #[.agg zero5, .bool false]) (results_cell_tmp Tryz.results173 _ _ w.heap.size 275 zero5 (0, 0) _ rfl HBL.out Tryz.underlying275 rfl HI.out) rfl ⟨rfl, HB0.out⟩
 ·obtain ⟨n4, hn4⟩ : ∃ n4, n4 = s.length - 4 := ⟨_, rfl⟩
  have q1 : IntKind.i64.wrap ((s.length : Int) - 4) = (n4 : Int) := by rw [IntKind.wrap_i64]; omega
  have q2 : n4 ≤ s.length := by omega
  have q3 : s.length - n4 = 4 := by omega
  have q4 : (n4 : Int) ≤ c := by omega
  have hrd := hb.1
  obtain ⟨crc, hcrc⟩ : ∃ crc, crc = crcOf (s.take n4) := ⟨_, rfl⟩
  obtain ⟨got, hgot⟩ : ∃ got, got = num (s.drop n4) := ⟨_, rfl⟩
  have HNUM := hZ9 (show ∀ m k, Calls Tryz.prog 195 #[.slice (some ⟨g, n4, none⟩) 4 k] ((w.alloc (.cells zero5 275)).drewN m) fun e w' => e = .returned (.int .u64 (got : Nat)) ∧ ((w.alloc (.cells zero5 275)).drewN m) = w' from fun m k => by
   have h := (hb.below HB0.out).sub (i := n4) (k := 4) (by omega)
   rw [Nat.zero_add] at h
   have hl : ((s.drop n4).take 4).length = 4 := by rw [List.length_take, List.length_drop]; omega
   have e : (s.drop n4).take 4 = s.drop n4 := List.take_of_length_le (by rw [List.length_drop]; omega)
   have := number_any _ _ k _ ((w.alloc (.cells zero5 275)).drewN m) (by rw [hl]; omega) h.rd
   rw [hl, e, ← hgot] at this
   exact this)
  have HSUM := hZ9 (show ∀ m k, Calls Tryz.prog 162 #[.slice (some ⟨g, 0, none⟩) n4 k] ((w.alloc (.cells zero5 275)).drewN m) fun e w' => e = .returned (.int .u32 (crc : Nat)) ∧ ((w.alloc (.cells zero5 275)).drewN m) = w' from fun m k => by
   have h := (hb.below HB0.out).sub (i := 0) (k := n4) (by omega)
   rw [Nat.add_zero, List.drop_zero] at h
   have hl : (s.take n4).length = n4 := by rw [List.length_take]; omega
   have := sumOf_any (s.take n4) (some ⟨g, 0, none⟩) k ((w.alloc (.cells zero5 275)).drewN m) (show Steps (w.alloc (.cells zero5 275)) from hs.below HB0.out) (by rw [hl]; omega) (fun h0 => by obtain ⟨b1, o1, h1, h2, _, h4⟩ := h.at h0; exact ⟨b1, o1, h1, h2, h4⟩)
   rw [hl, ← hcrc] at this
   exact this)
  have hc32 : crc < 2 ^ 32 := by rw [hcrc]; exact crcOf_lt _
  have q6 : ¬ c = n4 := by omega
  have q7 : ¬ s.length = n4 := by omega
  have HN4 := hZ9 hn4
  have HCRC := hZ9 hcrc
  have HGOT := hZ9 hgot
  clear hn4 hcrc hgot hrd
  have q5 : IntKind.u64.wrap (crc : Int) = (crc : Int) := by rw [IntKind.wrap_u64]; omega
  go_enter Tryz.func173, Tryz.ntmps173
  go_upto_region 4 with fail
  go_quiet ((first
   | (go_at_call 195; exact quiet_left (HNUM.out _ _))
   | (go_at_call 162; exact quiet_left (HSUM.out _ _))))
  have hb1 : Below w.heap.size w ((w.alloc (.cells zero5 275)).drewN nq) := bl_drewN HB0.out nq
  have hbl1 : Blk ((w.alloc (.cells zero5 275)).drewN nq) w.heap.size 275 zero5 := HBL.out.drewN nq
  change Exit.then _ _ _ _ ((w.alloc (.cells zero5 275)).drewN nq)
  generalize (w.alloc (.cells zero5 275)).drewN nq = w1 at hb1 hbl1 ⊢
  clear HNUM HSUM HB0 HBL
  by_cases hgc : got = crc
  ·subst hgc
   have heq : ((got : Int) != (got : Int)) = false := by simp
   obtain ⟨kn, hkn⟩ : ∃ kn : Nat, kn = (s[0]'(by omega)).toNat := ⟨_, rfl⟩
   obtain ⟨f, hf⟩ : ∃ f : Nat, f = (s[13]'(by omega)).toNat := ⟨_, rfl⟩
   obtain ⟨tf, hmk, hlf⟩ : ∃ tf : Nat → Nat, tf 1 = num ((s.drop 1).take 8) ∧ tf 9 = num ((s.drop 9).take 4) := ⟨fun o => if o = 1 then num ((s.drop 1).take 8) else num ((s.drop 9).take 4), rfl, rfl⟩
   have hB1 := hZ9 hb1
   have HBL1 := hZ9 hbl1
   have hmem : ∀ wy, Below w.heap.size w wy → wy.cell? ⟨g, 0, none⟩ = some (.int .u8 kn) ∧ wy.cell? ⟨g, 13, none⟩ = some (.int .u8 f) := fun wy hy => by
    obtain ⟨b0, o0, h1, _, _, h4⟩ := (hb.below hy).at (by omega)
    injection h1 with h1; injection h1 with h1 h2; subst h1; subst h2
    rw [hkn, hf]
    exact ⟨by simpa using h4 0 (by omega), by simpa using h4 13 (by omega)⟩
   have HRN := hZ9 (show ∀ wy o n k, Below w.heap.size w wy → (o = 1 ∧ n = 8) ∨ (o = 9 ∧ n = 4) → Calls Tryz.prog 195 #[.slice (some ⟨g, o, none⟩) n k] wy fun e w' => e = .returned (.int .u64 (tf o : Nat)) ∧ wy = w' from fun wy o n k hy ho => by
    rcases ho with ⟨rfl, rfl⟩ | ⟨rfl, rfl⟩
    ·have h := (hb.below hy).sub (i := 1) (k := 8) (by omega)
     have hl : ((s.drop 1).take 8).length = 8 := by rw [List.length_take, List.length_drop]; omega
     have := number_any _ _ k _ wy (by rw [hl]; omega) h.rd
     rw [hl, ← hmk] at this
     exact this
    ·have h := (hb.below hy).sub (i := 9) (k := 4) (by omega)
     have hl : ((s.drop 9).take 4).length = 4 := by rw [List.length_take, List.length_drop]; omega
     have := number_any _ _ k _ wy (by rw [hl]; omega) h.rd
     rw [hl, ← hlf] at this
     exact this)
   have HMEM := hZ9 hmem
   have HKN := hZ9 hkn
   have HF := hZ9 hf
   have HMKE := hZ9 hmk
   have HLFE := hZ9 hlf
   have hkl : kn < 256 := by rw [hkn]; exact UInt8.toNat_lt _
   have hfl : f < 256 := by rw [hf]; exact UInt8.toNat_lt _
   have hml : tf 1 < 18446744073709551616 := by
    rw [hmk]
    have := num_lt ((s.drop 1).take 8)
    have hl : ((s.drop 1).take 8).length = 8 := by rw [List.length_take, List.length_drop]; omega
    rw [hl] at this; omega
   have hll : tf 9 < 4294967296 := by
    rw [hlf]
    have := num_lt ((s.drop 9).take 4)
    have hl : ((s.drop 9).take 4).length = 4 := by rw [List.length_take, List.length_drop]; omega
    rw [hl] at this; omega
   have S0 := hZ9 (hmem _ hb1.drew)
   have S1 := hZ9 (show ∀ row, (w1.alloc (.cells row 275)).drew.cell? ⟨g, 0, none⟩ = some (.int .u8 kn) ∧ (w1.alloc (.cells row 275)).drew.cell? ⟨g, 13, none⟩ = some (.int .u8 f) from fun row => hmem _ (hb1.alloc (by have := hb1.size; omega) (.cells row 275)).drew)
   have hgl : g < w.heap.size := by
    obtain ⟨b0, o0, h1, h2, _⟩ := hb.at (by omega)
    injection h1 with h1; injection h1 with h1; subst h1; exact h2
   have z0 : 0 < s.length := by omega
   have z00 : (13 : Int) < s.length := by omega
   have z1 : (1 : Int) ≤ c := by omega
   have z9 : (9 : Int) ≤ c := by omega
   have z13 : (13 : Int) ≤ c := by omega
   have y1 : ¬ c = 1 := by omega
   have y9 : ¬ c = 9 := by omega
   clear hkn hf hmk hlf hmem
   clear hb1 hbl1
   go_upto_region 6 with fail
   go_cut [5, 25, 26, 27, 28, 29, 30, 31, 32, 33, 34, 35, 36, 37, 38, 39] (fun p _ _ _ _ _ _ _ _ _ _ _ _ _ _ _ wx => p = .pointer (some ⟨w1.heap.size, 0, none⟩) ∧ Blk wx w1.heap.size 275 #[.int .u8 kn, .int .i64 (IntKind.i64.wrap (tf 1 : Nat)), .int .u64 (tf 9 : Nat), .bool ((f : Int) == 1), .slice none 0 0] ∧ Below w.heap.size w wx ∧ Blk wx w.heap.size 275 zero5)
   case first =>
    go_region_held3 (fun wy => wy.cell? ⟨g, 0, none⟩ = some (.int .u8 kn) ∧ wy.cell? ⟨g, 13, none⟩ = some (.int .u8 f))
     (first | exact S0.out | exact S1.out _)
     (first
     | (go_at_call 195; refine (HRN.out _ _ _ _ (by first | exact hB1.out.drew | exact (hB1.out.alloc (by have := hB1.out.size; omega) (.cells zero5 275)).drew) (by decide)).mono ?_; rintro e w' ⟨rfl, rfl⟩))
    all_goals
     go_wp2_with fail
     go_meet
     exact ⟨rfl, Blk.new_eq rfl, (hB1.out.alloc (by have := hB1.out.size; omega) _).drew, (HBL1.out.alloc _).drew⟩
   case rest =>
    obtain ⟨rfl, hbx, hbw, hb0⟩ := hcut
    obtain ⟨gx, hgx⟩ : ∃ gx, gx = w1.heap.size := ⟨_, rfl⟩
    have hgl2 : w.heap.size < gx := by have := HBL1.out.lt; omega
    rw [← hgx] at hbx ⊢
    clear S0 S1 hB1 HBL1 hgx
    generalize w1 = w1' at *
    clear w1'
    have c0 : wc.cell? ⟨gx, 0, none⟩ = some (.int .u8 kn) := hbx.cell 0
    have c2 : wc.cell? ⟨gx, 2, none⟩ = some (.int .u64 (tf 9 : Nat)) := hbx.cell 2
    have c3 : wc.cell? ⟨gx, 3, none⟩ = some (.bool ((f : Int) == 1)) := hbx.cell 3
    have c4 : wc.cell? ⟨gx, 4, none⟩ = some (.slice none 0 0) := hbx.cell 4
    have f4 := hbx.free 4
    have hgxl := hbx.lt
    have m13 := (HMEM.out wc hbw).2
    obtain ⟨many, hmany⟩ : ∃ many, many = min (tf 9) (n4 - 14) := ⟨_, rfl⟩
    have hn414 : 14 ≤ n4 := by have := HN4.out; omega
    have hmin : (if (n4 : Int) - 14 < (tf 9 : Int) then (n4 : Int) - 14 else (tf 9 : Int)) = (many : Int) := by
     rw [hmany]; split <;> omega
    have hm1 : many ≤ n4 - 14 := by omega
    have hm2 : (14 : Int) + many ≤ n4 := by omega
    have HMANY := hZ9 hmany
    have w1m : IntKind.i64.wrap (14 + (many : Int)) = ((14 + many : Nat) : Int) := by rw [IntKind.wrap_i64]; omega
    obtain ⟨p, hp⟩ : ∃ p, p = plainB ((s.drop (14 + many)).take (n4 - (14 + many))) := ⟨_, rfl⟩
    have HPL := hZ9 (show ∀ k, Calls Tryz.prog 172 #[.slice (some ⟨g, 14 + many, none⟩) (n4 - (14 + many)) k] wc fun e w' => e = .returned (.bool p) ∧ wc = w' from fun k => by
     have h := (hb.below hbw).sub (i := 14 + many) (k := n4 - (14 + many)) (by omega)
     rw [Nat.zero_add] at h
     have hl : ((s.drop (14 + many)).take (n4 - (14 + many))).length = n4 - (14 + many) := by rw [List.length_take, List.length_drop]; omega
     have := plain_any _ _ k _ wc (by rw [hl]; omega) h.rd
     rw [hl, ← hp] at this
     exact this)
    have HP := hZ9 hp
    have v1 : ((14 + many : Nat) : Int) ≤ n4 := by omega
    have v2 : (n4 : Int) ≤ c := by omega
    have v3 : ¬ c = 14 + many := by omega
    clear hmany hp hm1 hm2
    obtain ⟨bb, hbb⟩ : ∃ bb : Bool, bb = (decide (kn = 0) || (decide (1 < f) || (decide (2 ^ 30 < tf 9) || ((decide (f ≠ 1) && decide (tf 9 = 0)) || !p)))) := ⟨_, rfl⟩
    have HBB := hZ9 hbb
    clear hbb
    go_upto_region 8 with fail
    go_cut [79] (fun v wx => wx = wc ∧ v = .bool bb)
    case first =>
     go_wp2_with (go_at_call 172; refine (HPL.out _).mono ?_; rintro e w' ⟨rfl, rfl⟩)
     all_goals
      go_meet
      refine ⟨rfl, congrArg Value.bool ?_⟩
      rw [HBB.out]
      cases p <;> (rw [Bool.eq_iff_iff]; simp; try omega)
    case rest =>
     obtain ⟨rfl, rfl⟩ := hcut
     have hsec : r = if bb then none else some ⟨kn, tf 1, tf 9, f == 1, (s.drop 14).take many⟩ := by
      have e1 : num (s.take 1) = kn := by
       have : s.take 1 = [s[0]'(by omega)] := by rw [List.take_succ_eq_append_getElem (by omega)]; rfl
       rw [this, num_one, HKN.out]
      have e13 : num ((s.drop 13).take 1) = f := by
       have : (s.drop 13).take 1 = [s[13]'(by omega)] := by rw [List.drop_eq_getElem_cons (by omega)]; rfl
       rw [this, num_one, HF.out]
      rw [hr]
      unfold secOf
      rw [if_neg h19, if_neg (by rw [← HN4.out, ← HGOT.out, ← HCRC.out]; simp)]
      simp only [e1, e13, ← HMKE.out, ← HLFE.out]
      have e4 : s.length - 18 = n4 - 14 := by rw [HN4.out]; omega
      rw [e4, ← HMANY.out, ← HN4.out, ← HP.out]
      cases hb2 : bb with
      | true =>
       rw [if_pos]; rfl
       have := HBB.out
       rw [hb2] at this
       simp at this
       cases p <;> simp_all <;> omega
      | false =>
       rw [if_neg]; rfl
       have := HBB.out
       rw [hb2] at this
       simp at this
       cases p <;> simp_all <;> omega
     have HBW := hZ9 hbw
     have HB0 := hZ9 hb0
     have H1 : Hid (zero5.all (·.oneCell') = true) := by show zero5.all (·.oneCell') = true; simp [zero5, Value.oneCell']
     by_cases hbt : bb = true
     ·rw [if_pos hbt] at hsec
      subst hsec
      subst hbt
      clear hbw hb0 hr
      go_wp2_with (first
       | (refine wpList_store_row rfl 275 _ _ rfl w.heap.size zero5 rfl rfl 275 zero5 HB0.out HI.out rfl H1.out ?_))
      exact bodyPost_ret (v := .tuple #[.agg zero5, .bool false]) (results_cell_tmp Tryz.results173 _ _ w.heap.size 275 zero5 (0, 0) _ rfl (setRow_blk HB0.out _) Tryz.underlying275 rfl HI.out) rfl ⟨rfl, HBW.out.trans (grown_below (setRow_gby _ _ _) (by have := HB0.out.lt; omega) (fun k hk => by injection hk with hk; omega))⟩
     ·have hbf : bb = false := by simpa using hbt
      rw [if_neg hbt] at hsec
      subst hbf
      have hml' : ((s.drop 14).take many).length = many := by rw [List.length_take, List.length_drop]; have := HMANY.out; have := HN4.out; omega
      have ef : ((f : Int) == 1) = (f == 1) := by rw [Bool.eq_iff_iff]; simp; omega
      have hrow : secC ⟨kn, tf 1, tf 9, f == 1, (s.drop 14).take many⟩ (some ⟨g, 14, none⟩) (c - 14) = #[.int .u8 kn, .int .i64 (IntKind.i64.wrap (tf 1 : Nat)), .int .u64 (tf 9 : Nat), .bool ((f : Int) == 1), .slice (some ⟨g, 14, none⟩) many (c - 14)] := by
       unfold secC; simp only [hml', ef]
      have HROW := hZ9 hrow
      obtain ⟨row, hrw⟩ : ∃ row : Array Value, row = #[.int .u8 kn, .int .i64 (IntKind.i64.wrap (tf 1 : Nat)), .int .u64 (tf 9 : Nat), .bool ((f : Int) == 1), .slice (some ⟨g, 14, none⟩) many (c - 14)] := ⟨_, rfl⟩
      have hbx2 := hbx.set 4 (.slice (some ⟨g, 14, none⟩) many (c - 14))
      have hbx3 : Blk (wc.setCell ⟨gx, 4, none⟩ (.slice (some ⟨g, 14, none⟩) many (c - 14))) gx 275 row := by rw [hrw]; exact hbx2
      have HBX := hZ9 hbx3
      have HB2 := hZ9 (hb0.far (o := 4) (show w.heap.size ≠ gx by omega) (.slice (some ⟨g, 14, none⟩) many (c - 14)))
      have HBW2 := hZ9 (below_set hbw (o := 4) (show w.heap.size ≤ gx by omega) (.slice (some ⟨g, 14, none⟩) many (c - 14)))
      have HI2 : Hid ((Tryz.prog.info? 275).map (·.size) = some row.size) := by
       show _ = some row.size
       rw [hrw]; exact size275
      have HS2 : Hid (zero5.size = row.size) := by
       show zero5.size = row.size
       rw [hrw]; rfl
      have H12 : Hid (row.all (·.oneCell') = true) := by show row.all (·.oneCell') = true; rw [hrw]; simp [Value.oneCell']
      have HRW := hZ9 hrw
      have v4 : (14 : Int) ≤ c := by omega
      have v5 : ¬ c = 14 := by omega
      have v6 : (14 : Int) ≤ ((14 + many : Nat) : Int) := by omega
      have v7 : ((14 + many : Nat) : Int) ≤ c := by omega
      subst hsec
      clear hbw hb0 hr hbx2 hbx3 hbx hrw hrow ef
      go_wp2_with (first
       | (refine wpList_load_row rfl 275 _ rfl gx rfl 275 row (0, 0) _ HBX.out Tryz.underlying275 rfl HI2.out ?_)
       | (refine wpList_store_row rfl 275 _ _ rfl w.heap.size row rfl rfl 275 zero5 HB2.out HI2.out HS2.out H12.out ?_))
      refine bodyPost_ret (v := .tuple #[.agg row, .bool true]) (results_cell_tmp Tryz.results173 _ _ w.heap.size 275 row (0, 0) _ rfl (setRow_blk HB2.out _) Tryz.underlying275 rfl HI2.out) rfl ⟨⟨c - 14, by rw [HROW.out, ← HRW.out], ?_⟩, HBW2.out.trans (grown_below (setRow_gby _ _ _) (by have := HB2.out.lt; omega) (fun k hk => by injection hk with hk; omega))⟩
      show ((s.drop 14).take many).length ≤ c - 14
      rw [hml']; omega
  ·have hr' : r = none := by
    rw [hr]; unfold secOf; rw [if_neg h19, if_pos]
    rw [← HN4.out, ← HGOT.out, ← HCRC.out]; exact hgc
   subst hr'
   have hne : ((got : Int) != (crc : Int)) = true := by simpa using fun h : (got : Int) = crc => hgc (by omega)
   have HW := hZ9 hb1
   have HBL1 := hZ9 hbl1
   have H1 : Hid (zero5.all (·.oneCell') = true) := by show zero5.all (·.oneCell') = true; simp [zero5, Value.oneCell']
   clear hb1 hbl1 hr
   go_wp2_with (first
    | (refine wpList_store_row rfl 275 _ _ rfl w.heap.size zero5 rfl rfl 275 zero5 HBL1.out HI.out rfl H1.out ?_))
   exact bodyPost_ret (v := .tuple #[.agg zero5, .bool false]) (results_cell_tmp Tryz.results173 _ _ w.heap.size 275 zero5 (0, 0) _ rfl (setRow_blk HBL1.out _) Tryz.underlying275 rfl HI.out) rfl ⟨rfl, HW.out.trans (grown_below (setRow_gby _ _ _) (by have := HBL1.out.lt; omega) (fun k hk => by injection hk with hk; omega))⟩
end Go.Proofs.YtmgmfnimaafkdaaGreatDoor
