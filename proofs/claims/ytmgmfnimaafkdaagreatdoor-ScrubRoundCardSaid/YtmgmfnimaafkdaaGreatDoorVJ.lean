/- Sectors taken out of the free ones: take. -/
import Derived.Test.YtmgmfnimaafkdaaGreatDoorVI
import Derived.Test.YtmgmfnimaafkdaaGreatDoorVA
namespace Go.Proofs.YtmgmfnimaafkdaaGreatDoor
section
open Go.RowKit Go.Maps
set_option maxRecDepth 100000

def extC (f : List (Nat × Nat)) : List Value := f.flatMap fun x => [.int .i64 x.1, .int .i64 x.2]
theorem extC_len (f : List (Nat × Nat)) : (extC f).length = f.length * 2 := by
 induction f with
 | nil => rfl
 | cons a f ih => unfold extC at ih ⊢; simp [List.flatMap_cons, ih]; omega
theorem extC_append (f g : List (Nat × Nat)) : extC (f ++ g) = extC f ++ extC g := by unfold extC; rw [List.flatMap_append]
theorem extC_take (f : List (Nat × Nat)) (i : Nat) : (extC f).take (i * 2) = extC (f.take i) := by
 have h : extC f = extC (f.take i) ++ extC (f.drop i) := by rw [← extC_append, List.take_append_drop]
 by_cases hi : i ≤ f.length
 ·rw [h, List.take_append_of_le_length (by rw [extC_len, List.length_take]; omega), List.take_of_length_le (by rw [extC_len, List.length_take]; omega)]
 ·rw [List.take_of_length_le (l := f) (by omega), List.take_of_length_le (by rw [extC_len]; omega)]
theorem extC_drop (f : List (Nat × Nat)) (i : Nat) : (extC f).drop (i * 2) = extC (f.drop i) := by
 have h : extC f = extC (f.take i) ++ extC (f.drop i) := by rw [← extC_append, List.take_append_drop]
 by_cases hi : i ≤ f.length
 ·rw [h, List.drop_append, List.drop_of_length_le (by rw [extC_len, List.length_take]; omega), extC_len, List.length_take, Nat.min_eq_left hi, Nat.sub_self, List.drop_zero, List.nil_append]
 ·rw [List.drop_of_length_le (l := f) (by omega), List.drop_of_length_le (by rw [extC_len]; omega)]; rfl
theorem extC_one : ∀ (f : List (Nat × Nat)), ∀ u ∈ extC f, u.oneCell' = true := by
 intro f u hu
 unfold extC at hu
 obtain ⟨x, _, hx⟩ := List.mem_flatMap.1 hu
 simp at hx
 rcases hx with rfl | rfl <;> rfl
structure MapR (w : World) (base M : Nat) (m : MapV) : Prop where
 low : base ≤ M
 frm : m.frm ≤ 1048576
 sec : m.sectors ≤ 1048576
 inn : ∀ x ∈ m.free, x.1 + x.2 ≤ 4194304
 few : m.free.length ≤ 4194304
 rep : ∃ A c, Blk w M 220 #[.int .i64 m.frm, .int .i64 m.sectors, .slice A m.free.length c] ∧ m.free.length ≤ c ∧ Sl w 140 2 A m.free.length (extC m.free)
theorem MapR.keeps {base base' M : Nat} {ts : List TypeId} {w w' : World} {m : MapV} (h : MapR w base M m) (k : Keeps base' ts w w') (h1 : 220 ∉ ts) (h2 : 140 ∉ ts) : MapR w' base M m := by
 obtain ⟨a1, a2, a3, a4, a5, A, c, h3, h4, h6⟩ := h
 exact ⟨a1, a2, a3, a4, a5, A, c, h3.keeps k h1, h4, h6.keeps k h2⟩
theorem MapR.below {base M : Nat} {w w' : World} {m : MapV} (h : MapR w base M m) (k : Below w.heap.size w w') : MapR w' base M m := h.keeps (ts := []) (Keeps.of_below (base := 0) k (Nat.zero_le _)) (by simp) (by simp)
theorem Sl.at2 {w : World} {A : Option Addr} {n : Nat} {f : List (Nat × Nat)} (h : Sl w 140 2 A n (extC f)) (i : Nat) (hi : i < f.length) (hn : n = f.length) : ∃ b o, A = some ⟨b, o, none⟩ ∧ b < w.heap.size ∧ w.cell? ⟨b, o + i * 2, none⟩ = some (.int .i64 (f[i].1 : Nat)) ∧ w.cell? ⟨b, o + i * 2 + 1, none⟩ = some (.int .i64 (f[i].2 : Nat)) := by
 obtain ⟨b, o, rfl, hb, hc⟩ := h.1.2 (by omega)
 have hp := pair_cells (fun x : Nat × Nat => Value.int .i64 x.1) (fun x => .int .i64 x.2) f i hi
 obtain ⟨p1, p2⟩ := hp
 have l1 : i * 2 < (extC f).length := by rw [extC_len]; omega
 have l2 : i * 2 + 1 < (extC f).length := by rw [extC_len]; omega
 refine ⟨b, o, rfl, hb, ?_, ?_⟩
 ·rw [hc _ l1, ← p1]; exact (List.getElem?_eq_getElem l1).symm
 ·rw [Nat.add_assoc, hc _ l2, ← p2]; exact (List.getElem?_eq_getElem l2).symm
theorem extNew_any (a n : Nat) (ha : a ≤ 1048576) (hn : n ≤ 1048576) (w : World) :
  Calls Tryz.prog 58 #[.int .i64 a, .int .i64 n] w fun e w' => (∃ M, e = .returned (.tuple #[.pointer (some ⟨M, 0, none⟩), .int .i64 0]) ∧ MapR w' w.heap.size M ⟨a, n, if 0 < n then [(a, n)] else []⟩) ∧ Below w.heap.size w w' := by
 by_cases h0 : 0 < n
 ·have hq : (0 : Int) < n := by omega
  go_enter Tryz.func58, Tryz.ntmps58
  go_wp2_with fail
  go_ret2
  have b1 : Blk ((w.alloc (.cells #[.int .i64 a, .int .i64 n, .slice (some ⟨w.heap.size + 1, 0, none⟩) 1 1] 220)).alloc (.cells #[.int .i64 a, .int .i64 n] 140)) w.heap.size 220 #[.int .i64 a, .int .i64 n, .slice (some ⟨w.heap.size + 1, 0, none⟩) 1 1] := (Blk.new w 220 _).alloc _
  have b2 : Blk ((w.alloc (.cells #[.int .i64 a, .int .i64 n, .slice (some ⟨w.heap.size + 1, 0, none⟩) 1 1] 220)).alloc (.cells #[.int .i64 a, .int .i64 n] 140)) (w.heap.size + 1) 140 #[.int .i64 a, .int .i64 n] := Blk.new_eq0 (by simp)
  refine ⟨⟨w.heap.size, rfl, ⟨nR0, ha, hn, by simp; omega, by simp, some ⟨w.heap.size + 1, 0, none⟩, 1, b1, by simp, ?_⟩⟩, (bR0.alloc nR0 _).alloc (by simp) _⟩
  exact Sl.of_blk b2 (by simp [extC])
 ·obtain rfl : n = 0 := by omega
  go_enter Tryz.func58, Tryz.ntmps58
  go_wp2_with fail
  go_ret2
  refine ⟨⟨w.heap.size, rfl, ⟨nR0, ha, by simp, by simp, by simp, none, 0, Blk.new_eq0 rfl, by simp, Sl.nil⟩⟩, bR0.alloc nR0 _⟩
def oursI (m : MapV) (a l : Int) : Bool := decide (1 ≤ l) && (decide (l ≤ m.sectors) && (decide ((m.frm : Int) ≤ a) && decide (a - m.frm ≤ m.sectors - l)))
theorem Sl.part {w : World} {e sz b o n : Nat} {xs : List Value} (h : Sl w e sz (some ⟨b, o, none⟩) n xs) (i k : Nat) (hk : i + k ≤ n) : Sl w e sz (some ⟨b, o + i * sz, none⟩) k ((xs.drop (i * sz)).take (k * sz)) := by
 have hl := h.1.1
 have h1 : (i + k) * sz ≤ n * sz := Nat.mul_le_mul_right _ hk
 rw [Nat.add_mul] at h1
 refine ⟨⟨by rw [List.length_take, List.length_drop]; omega, fun hn => ?_⟩, fun hn a ha => ?_⟩
 ·obtain ⟨b', o', hA, hb, hc⟩ := h.1.2 (by omega)
  injection hA with hA; injection hA with h2 h3
  subst h2; subst h3
  refine ⟨b, o + i * sz, rfl, hb, fun j hj => ?_⟩
  have hj' := hj
  rw [List.length_take, List.length_drop] at hj'
  rw [Nat.add_assoc, hc (i * sz + j) (by omega), List.getElem_take, List.getElem_drop]
 ·injection ha with ha
  subst ha
  exact h.2 (by omega) ⟨b, o, none⟩ rfl
theorem ext_count : ∀ {f : List (Nat × Nat)} {N : Nat}, Srt f → (∀ x ∈ f, x.1 + x.2 ≤ N) → ∀ (_ : f ≠ []), f.length + (f.headD (0, 0)).1 ≤ N
 | [], _, _, _, h => absurd rfl h
 | [a], N, hs, hn, _ => by
  have := hs.2 a (by simp)
  have := hn a (by simp)
  simp; omega
 | a :: b :: l, N, hs, hn, _ => by
  have h1 := List.pairwise_cons.1 hs.1
  have ih := ext_count (f := b :: l) (N := N) ⟨h1.2, fun e he => hs.2 e (by simp [he])⟩ (fun x hx => hn x (by simp [hx])) (by simp)
  have h2 := h1.1 b (by simp)
  have h3 := hs.2 a (by simp)
  simp only [List.length_cons, List.headD_cons] at ih ⊢
  omega
theorem ext_few {f : List (Nat × Nat)} {N : Nat} (hs : Srt f) (hn : ∀ x ∈ f, x.1 + x.2 ≤ N) : f.length ≤ N := by
 by_cases h : f = []
 ·subst h; simp
 ·have := ext_count hs hn h; omega
theorem oursI_nat (m : MapV) (a l : Nat) : oursI m a l = oursM m a l := by
 unfold oursI oursM
 rw [Bool.eq_iff_iff]
 simp
 omega
theorem ours_any {w : World} {base M : Nat} {m : MapV} (h : MapR w base M m) (a l : Int) (hl0 : 0 ≤ l) (hl : l ≤ 1099511627776) (ha : a ≤ 9223372036854775807) :
  Calls Tryz.prog 119 #[.pointer (some ⟨M, 0, none⟩), .agg #[.int .i64 a, .int .i64 l]] w fun e w' => e = .returned (.bool (oursI m a l)) ∧ Below w.heap.size w w' := by
 obtain ⟨_, hf, hs, _, _, A, c, hb, _⟩ := h
 have hlt := hb.lt
 have e0 : w.cell? ⟨M, 0, none⟩ = some (.int .i64 m.frm) := hb.cell 0
 have e1 : w.cell? ⟨M, 1, none⟩ = some (.int .i64 m.sectors) := hb.cell 1
 obtain ⟨r, hr⟩ : ∃ r, r = oursI m a l := ⟨_, rfl⟩
 rw [← hr]
 unfold oursI at hr
 clear hb
 by_cases h1 : 1 ≤ l
 ·have d1 : decide (1 ≤ l) = true := decide_eq_true h1
  by_cases h2 : l ≤ m.sectors
  ·have d2 : decide (l ≤ (m.sectors : Int)) = true := decide_eq_true h2
   by_cases h3 : (m.frm : Int) ≤ a
   ·have d3 : decide ((m.frm : Int) ≤ a) = true := decide_eq_true h3
    have HR := hZ9 hr
    clear hr
    go_enter Tryz.func119, Tryz.ntmps119
    go_upto_region 1 with fail
    go_quiet (fail)
    go_wp2_with fail
    go_ret
    refine ⟨by rw [HR.out]; simp [d1, d2, d3], bl_drewN (bR0.alloc nR0 _) _⟩
   ·have d3 : decide ((m.frm : Int) ≤ a) = false := decide_eq_false h3
    have HR := hZ9 hr
    clear hr
    go_enter Tryz.func119, Tryz.ntmps119
    go_upto_region 1 with fail
    go_quiet (fail)
    go_wp2_with fail
    go_ret
    refine ⟨by rw [HR.out]; simp [d1, d2, d3], bl_drewN (bR0.alloc nR0 _) _⟩
  ·have d2 : decide (l ≤ (m.sectors : Int)) = false := decide_eq_false h2
   have HR := hZ9 hr
   clear hr
   go_enter Tryz.func119, Tryz.ntmps119
   go_upto_region 1 with fail
   go_quiet (fail)
   go_wp2_with fail
   go_ret
   refine ⟨by rw [HR.out]; simp [d1, d2], bl_drewN (bR0.alloc nR0 _) _⟩
 ·have d1 : decide (1 ≤ l) = false := decide_eq_false h1
  have HR := hZ9 hr
  clear hr
  go_enter Tryz.func119, Tryz.ntmps119
  go_upto_region 1 with fail
  go_quiet (fail)
  go_wp2_with fail
  go_ret
  refine ⟨by rw [HR.out]; simp [d1], bl_drewN (bR0.alloc nR0 _) _⟩
theorem meets_unique {m : MapV} {at' k : Nat} (hk : k ≤ m.free.length) (h1 : ∀ i (h : i < m.free.length), i < k → m.free[i].1 + m.free[i].2 ≤ at') (h2 : ∀ i (h : i < m.free.length), k ≤ i → at' < m.free[i].1 + m.free[i].2) : meetsM m at' = k := by
 unfold meetsM
 by_cases hl : k < m.free.length
 ·have : m.free.findIdx? (fun f => decide (at' < f.1 + f.2)) = some k := by
   rw [List.findIdx?_eq_some_iff_getElem]
   exact ⟨hl, by simpa using h2 k hl nR0, fun j hj => by have := h1 j (by omega) hj; simp; omega⟩
  rw [this]; rfl
 ·have : m.free.findIdx? (fun f => decide (at' < f.1 + f.2)) = none := by
   rw [List.findIdx?_eq_none_iff]
   intro x hx
   obtain ⟨i, hi, rfl⟩ := List.mem_iff_getElem.1 hx
   have := h1 i hi (by omega)
   simp; omega
  rw [this]; show m.free.length = k; omega
theorem srt_ends {f : List (Nat × Nat)} (h : Srt f) {i j : Nat} (hi : i < f.length) (hj : j < f.length) (hij : i ≤ j) : f[i].1 + f[i].2 ≤ f[j].1 + f[j].2 := by
 rcases Nat.lt_or_ge i j with hlt | hge
 ·have := (List.pairwise_iff_getElem.1 h.1) i j hi hj hlt
  omega
 ·obtain rfl : i = j := by omega
  exact nR0
theorem meets_any {w : World} {base M : Nat} {m : MapV} (h : MapR w base M m) (hs : Srt m.free) (a : Nat) :
  Calls Tryz.prog 120 #[.pointer (some ⟨M, 0, none⟩), .int .i64 a] w fun e w' => e = .returned (.int .i64 (meetsM m a : Nat)) ∧ Below w.heap.size w w' := by
 obtain ⟨_, _, _, hin, hfew, A, c, hb, _, hsl⟩ := h
 have hlt := hb.lt
 have e2 : w.cell? ⟨M, 2, none⟩ = some (.slice A m.free.length c) := hb.cell 2
 have HB := hZ9 hb
 have HSL := hZ9 hsl
 have HS := hZ9 hs
 have HIN := hZ9 hin
 clear hb hsl hs hin
 go_enter Tryz.func120, Tryz.ntmps120
 go_upto_region 1 with fail
 go_quiet (fail)
 go_wp2_with fail
 go_loopw [5, 6] (fun lo hi wr => ∃ l k : Nat, l ≤ k ∧ k ≤ m.free.length ∧ lo = .int .i64 (l : Nat) ∧ hi = .int .i64 (k : Nat) ∧ (∀ i (h : i < m.free.length), i < l → m.free[i].1 + m.free[i].2 ≤ a) ∧ (∀ i (h : i < m.free.length), k ≤ i → a < m.free[i].1 + m.free[i].2) ∧ Below w.heap.size w wr) (fun lo hi _ => ((intOf hi) - (intOf lo)).toNat)
 case atStart => exact ⟨0, m.free.length, Nat.zero_le _, nR0, rfl, rfl, fun i _ h => absurd h (by omega), fun i h1 h2 => absurd h1 (by omega), below_drewN _ _ _⟩
 case round =>
  obtain ⟨l, k, hlk, hk, rfl, rfl, hl1, hk1, hbw⟩ := hrel
  have HL1 := hZ9 hl1
  have HK1 := hZ9 hk1
  have HBW := hZ9 hbw
  have e2' : wr.cell? ⟨M, 2, none⟩ = some (.slice A m.free.length c) := (hbw.cell hlt).trans e2
  have hlt' : M < wr.heap.size := by have := hbw.size; omega
  have hsl' := HSL.out.below hbw
  have hbs := hbw.size
  clear hl1 hk1 hbw
  by_cases hlt2 : l < k
  ·obtain ⟨md, hmd⟩ : ∃ md, md = l + (k - l) / 2 := ⟨_, rfl⟩
   have hmd1 : l ≤ md := by omega
   have hmd2 : md < k := by omega
   obtain ⟨b, o, hA, hbl, c1, c2⟩ := hsl'.at2 md (by omega) rfl
   have hq2 : (l : Int) + ((k - l : Nat) : Int) / 2 = (md : Int) := by omega
   have hq3 : (l : Int) + ((k : Int) - (l : Int)) / 2 = (md : Int) := by omega
   have hj1 : (md : Int) < m.free.length := by omega
   have hi1 := HIN.out (m.free[md]'(by omega)) (List.getElem_mem _)
   have hmdn : md < m.free.length := by omega
   have HMD := hZ9 hmd
   subst hA
   clear hmd hsl'
   generalize hx : m.free[md] = x at c1 c2 hi1
   have HX := hZ9 hx
   clear hx
   by_cases hgt : a < x.1 + x.2
   ·have hd : decide ((a : Int) < (x.1 : Int) + (x.2 : Int)) = true := decide_eq_true (by omega)
    have HGT := hZ9 hgt
    clear hgt
    go_upto_region 4 with fail
    go_quiet (fail)
    go_wp2_with fail
    go_roundw
    case rel =>
     refine ⟨l, md, hmd1, by omega, rfl, rfl, HL1.out, fun i h1 h2 => ?_, bl_drewN HBW.out _⟩
     have := srt_ends HS.out hmdn h1 h2
     have h3 := HGT.out
     rw [← HX.out] at h3
     omega
    case measure => simp [intOf]; omega
   ·have hd : decide ((a : Int) < (x.1 : Int) + (x.2 : Int)) = false := decide_eq_false (by omega)
    have HGT := hZ9 hgt
    clear hgt
    go_upto_region 4 with fail
    go_quiet (fail)
    go_wp2_with fail
    go_roundw
    case rel =>
     refine ⟨md + 1, k, by omega, hk, by go_num, rfl, fun i h1 h2 => ?_, HK1.out, bl_drewN HBW.out _⟩
     have := srt_ends HS.out h1 hmdn (by omega)
     have h3 := HGT.out
     rw [← HX.out] at h3
     omega
    case measure => simp [intOf]; omega
  ·obtain rfl : l = k := by omega
   have hm := meets_unique hk HL1.out HK1.out
   have HM := hZ9 hm
   clear hm hsl'
   go_wp2_with fail
   go_ret
   exact ⟨by rw [HM.out]; rfl, HBW.out⟩
end
section
open Go.RowKit Go.Maps
set_option maxRecDepth 100000

theorem under218 : Tryz.prog.underlying 218 = some (.slice 140) := by kernel_rfl
theorem info140 : (Tryz.prog.info? 140).map (fun i => (i.zero, i.size, i.bytes)) = some (some (.agg #[.int .i64 0, .int .i64 0]), 2, 16) := by kernel_rfl
theorem step_append_run {P : Program} {ops : Array Oper} {o : Oper} {a : Act} {w w' : World} {K : Act → World → Prop} {Q : Exit → Act → World → Prop} {E : Prop}
  (hg : o.guard = none) (s x : Operand) (t : TypeId) (hop : o.op = Op.call { callee := Callee.builtin Builtin.append, args := #[s, x], argTypes := #[t, t] })
  (vs vx v : Value) (hs : a.eval s = vs) (hx : a.eval x = vx) (hrun : (Builtin.append_ #[t, t] o.type #[vs, vx]).run P w = .ok v w') (hK : K (a.put o.dst v) w') :
  if Region.wanted o (yielded ops a.tmps) = true then Oper.wp P o a w K Q else E := by
 have hw : Region.wanted o (yielded ops a.tmps) = true := by simp [Region.wanted, hg]
 rw [if_pos hw]
 unfold Oper.wp
 simp [execOp, hop, resolve, invoke, builtin, hs, hx, hrun, Result.andThen]
 exact hK
theorem sl_rd {w : World} {e sz n : Nat} {A : Option Addr} {xs : List Value} (h : Sl w e sz A n xs) : Rd w w.heap.size sz A n xs := h.1
theorem run_append_full (w : World) (t ty e : TypeId) (i : TypeInfo) (z : Value) (size bytes : Nat) (ht : Tryz.prog.underlying t = some (.slice e)) (hi : Tryz.prog.info? e = some i) (hz : i.zero = some z)
  (hsize : i.size = size) (hby : i.bytes = bytes) (hzs : z.cells.size = size) (hsz : 0 < size)
  (A : Option Addr) (n : Nat) (xs : List Value) (hx : Sl w e size A n xs) (B : Option Addr) (m c : Nat) (ys : List Value) (hy : Rd w w.heap.size size B m ys) (h1c : ∀ u ∈ ys, u.oneCell' = true)
  (b1 : n + m ≤ maxLen) (b2 : (n + m) * bytes ≤ 140737488355328) :
  ∃ A' c' w', (Builtin.append_ #[t, t] ty #[.slice A n n, .slice B m c]).run Tryz.prog w = .ok (.slice A' (n + m) c') w' ∧ Sl w' e size A' (n + m) (xs ++ ys) ∧ n + m ≤ c' ∧ Below w.heap.size w w' ∧ (∀ a, A' = some a → A = some a ∨ w.heap.size ≤ a.block) := by
 by_cases hm : 0 < m
 ·obtain ⟨bb, bo, rfl, hbb, hbc⟩ := hy.2 hm
  have hnews : ∀ j u, ys[j]? = some u → w.cell? ((⟨bb, bo, none⟩ : Addr).add j) = some u := fun j u hu => by
   obtain ⟨hj, rfl⟩ := List.getElem?_eq_some_iff.1 hu; rw [addr_add]; exact hbc j hj
  have fin : ∀ v' w', w'.ownsRow w.heap.size e size v' (n + m) (xs ++ ys) → w.grownBy w' none → ∃ A' c', v' = .slice A' (n + m) c' ∧ Sl w' e size A' (n + m) (xs ++ ys) ∧ n + m ≤ c' ∧ Below w.heap.size w w' ∧ (∀ a, A' = some a → A = some a ∨ w.heap.size ≤ a.block) := fun v' w' ho hg => by
   obtain ⟨A', c', rfl, hc'⟩ := own_form ho
   refine ⟨A', c', rfl, Sl.of_own ho, hc', grown_below hg nR0 (fun k hk => by cases hk), fun a ha => .inr ?_⟩
   obtain ⟨g, h1, h2, _⟩ := own_at ho (by omega)
   rw [h1] at ha; injection ha with ha; subst ha; exact h2
  by_cases hn : 0 < n
  ·obtain ⟨ab, ao, rfl, hab, hac⟩ := hx.1.2 hn
   have holds : ∀ j u, xs[j]? = some u → w.cell? ((⟨ab, ao, none⟩ : Addr).add j) = some u := fun j u hu => by
    obtain ⟨hj, rfl⟩ := List.getElem?_eq_some_iff.1 hu; rw [addr_add]; exact hac j hj
   obtain ⟨v', w', hrun, r1, r2⟩ := run_append_arg_grows (P := Tryz.prog) w t ty e i z size bytes ht hi hz hsize hby hzs hsz ⟨ab, ao, none⟩ n n xs hx.1.1 holds ⟨bb, bo, none⟩ m c ys hy.1 hnews (by omega) b1 b2
   obtain ⟨A', c', rfl, f1, f2, f3⟩ := fin v' w' r1 r2
   exact ⟨A', c', w', hrun, f1, f2, f3⟩
  ·obtain rfl : n = 0 := by omega
   obtain rfl : xs = [] := List.eq_nil_of_length_eq_zero (by have := hx.1.1; simpa using this)
   cases A with
   | none =>
    obtain ⟨v', w', hrun, r1, r2, _⟩ := run_append_own (P := Tryz.prog) w w.heap.size t ty e i z size bytes ht hi hz hsize hby hzs hsz (.slice none 0 0) 0 [] (World.ownsRow_nil w _ e size) ⟨bb, bo, none⟩ m c ys hy.1 hnews h1c b1 b2 nR0
    obtain ⟨A', c', rfl, f1, f2, f3⟩ := fin v' w' r1 (by simpa [Value.ownBlock] using r2)
    exact ⟨A', c', w', hrun, f1, f2, f3⟩
   | some ab =>
    obtain ⟨v', w', hrun, r1, r2⟩ := run_append_arg_grows (P := Tryz.prog) w t ty e i z size bytes ht hi hz hsize hby hzs hsz ab 0 0 [] (by simp) (fun j u hu => by simp at hu) ⟨bb, bo, none⟩ m c ys hy.1 hnews (by omega) b1 b2
    obtain ⟨A', c', rfl, f1, f2, f3⟩ := fin v' w' r1 r2
    exact ⟨A', c', w', hrun, f1, f2, f3⟩
 ·obtain rfl : m = 0 := by omega
  obtain rfl : ys = [] := List.eq_nil_of_length_eq_zero (by have := hy.1; simpa using this)
  refine ⟨A, n, w, ?_, by simpa using hx, by omega, bR0, fun a ha => .inl ha⟩
  subst hsize
  cases A <;> cases B <;> simp [Builtin.append_, run_underlying ht, sizeOf, typeInfo, hi, Builtin.lenOf, Builtin.firstCells, loadCells, loadCellsFrom, storeCells]

abbrev L1 (x : Nat × Nat) (a : Nat) : List (Nat × Nat) := if x.1 < a then [(x.1, a - x.1)] else []
abbrev L2 (x : Nat × Nat) (a l : Nat) : List (Nat × Nat) := if a + l < x.1 + x.2 then [(a + l, x.1 + x.2 - (a + l))] else []
theorem takeAt_eq (f : List (Nat × Nat)) (i a l : Nat) : takeAt f i a l = f.take i ++ (L1 (f.getD i (0, 0)) a ++ L2 (f.getD i (0, 0)) a l) ++ f.drop (i + 1) := rfl
def FreeIn (w : World) (M : Nat) (P : Nat → Prop) : Prop := ∀ a n c, w.cell? ⟨M, 2, none⟩ = some (.slice (some a) n c) → P a.block
theorem take_done {w w4 : World} {base M : Nat} {m m' : MapV} {x : Nat × Nat} {i i1 a l n1 n2 c4 : Nat} {A4 : Option Addr} {old : Value} (h : MapR w base M m) (hm : MapV.mk m.frm m.sectors (takeAt m.free i a l) = m' ∧ (∀ x ∈ m'.free, x.1 + x.2 ≤ 4194304) ∧ m'.free.length ≤ 4194304)
  (hg : m.free.getD i (0, 0) = x) (hi : i < m.free.length) (hn1 : n1 = (L1 x a).length) (hn2 : n2 = n1 + (L2 x a l).length) (hi1 : i1 = i + 1)
  (hs : Sl w4 140 2 A4 (i + (n2 + (m.free.length - i1))) (extC (m.free.take i) ++ (extC (L1 x a) ++ extC (L2 x a l) ++ extC (m.free.drop i1)))) (hc : i + (n2 + (m.free.length - i1)) ≤ c4) (hb : Below w.heap.size w w4)
  (hM : Blk w4 M 220 #[.int .i64 m.frm, .int .i64 m.sectors, old]) (hbw : base ≤ w.heap.size) {bb : Nat} (hA : ∀ a, A4 = some a → a.block = bb ∨ w.heap.size ≤ a.block) :
  MapR (w4.setCell ⟨M, 2, none⟩ (.slice A4 (i + (n2 + (m.free.length - i1))) c4)) base M m' ∧ Keeps base [220] w (w4.setCell ⟨M, 2, none⟩ (.slice A4 (i + (n2 + (m.free.length - i1))) c4)) ∧ FreeIn (w4.setCell ⟨M, 2, none⟩ (.slice A4 (i + (n2 + (m.free.length - i1))) c4)) M (fun g => g = bb ∨ w.heap.size ≤ g) := by
 obtain ⟨rfl, h1, h2⟩ := hm
 have hk : Keeps base [220] w4 (w4.setCell ⟨M, 2, none⟩ (.slice A4 (i + (n2 + (m.free.length - i1))) c4)) := (Keeps.refl base _ w4).set hM h.low (by simp) _
 have hf : takeAt m.free i a l = m.free.take i ++ (L1 x a ++ L2 x a l) ++ m.free.drop i1 := by rw [takeAt_eq, hg, hi1]
 have hl : (takeAt m.free i a l).length = i + (n2 + (m.free.length - i1)) := by
  rw [hf, List.length_append, List.length_append, List.length_append, List.length_take, List.length_drop, ← hn1, ← hn2]; omega
 have he : extC (takeAt m.free i a l) = extC (m.free.take i) ++ (extC (L1 x a) ++ extC (L2 x a l) ++ extC (m.free.drop i1)) := by
  rw [hf, extC_append, extC_append, extC_append, List.append_assoc, List.append_assoc]
 refine ⟨⟨h.low, h.frm, h.sec, h1, h2, A4, c4, ?_, ?_, ?_⟩, (Keeps.of_below hb hbw).trans hk, fun a n c hcell => ?_⟩
 ·simp only [hl]; exact hM.set 2 _
 ·simp only [hl]; exact hc
 ·simp only [hl, he]; exact hs.keeps hk (by decide)
 ·have := (hM.set 2 (.slice A4 (i + (n2 + (m.free.length - i1))) c4)).cell 2
  rw [this] at hcell
  injection hcell with hcell
  injection hcell with h3 h4 h5
  exact hA a h3
set_option maxHeartbeats 4000000 in
theorem take_any {w : World} {base M : Nat} {m m' : MapV} (h : MapR w base M m) (hbw : base ≤ w.heap.size) (i a l : Nat) (hi : i < m.free.length) (ha : a + l ≤ 4194304) (hok : MapV.mk m.frm m.sectors (takeAt m.free i a l) = m' ∧ (∀ x ∈ m'.free, x.1 + x.2 ≤ 4194304) ∧ m'.free.length ≤ 4194304) :
  Calls Tryz.prog 121 #[.pointer (some ⟨M, 0, none⟩), .int .i64 i, .agg #[.int .i64 a, .int .i64 l]] w fun e w' => e = .returned (.tuple #[]) ∧ MapR w' base M m' ∧ Keeps base [220] w w' ∧ (∀ P, FreeIn w M P → FreeIn w' M fun g => P g ∨ w.heap.size ≤ g) := by
 have hin := h.inn
 have hfew := h.few
 have hlow := h.low
 have HH := hZ9 h
 obtain ⟨A, c, hb, hc, hsl⟩ := h.rep
 obtain ⟨b, o, rfl, hbl, c1, c2⟩ := hsl.at2 i hi rfl
 have hlt := hb.lt
 have e2 : w.cell? ⟨M, 2, none⟩ = some (.slice (some ⟨b, o, none⟩) m.free.length c) := hb.cell 2
 have hx := hin (m.free[i]) (List.getElem_mem _)
 have hgd : m.free.getD i (0, 0) = m.free[i] := getD_at hi
 have HOK := hZ9 hok
 have HB := hZ9 hb
 have HSL := hZ9 hsl
 have HGD := hZ9 hgd
 have E2 := hZ9 e2
 have hi1 : (i : Int) < m.free.length := by omega
 generalize m.free[i] = x at *
 clear h hok hb hsl hgd hin
 go_enter Tryz.func121, Tryz.ntmps121
 go_upto_if 20 with fail
 have k0 : Below w.heap.size w ((w.alloc (.cells #[.int .i64 a, .int .i64 l] 140)).alloc (.cells #[.int .i64 x.1, .int .i64 x.2] 140)) := (bR0.alloc nR0 _).alloc (by simp) _
 have p0 : Blk ((w.alloc (.cells #[.int .i64 a, .int .i64 l] 140)).alloc (.cells #[.int .i64 x.1, .int .i64 x.2] 140)) w.heap.size 140 #[.int .i64 a, .int .i64 l] := (Blk.new w 140 _).alloc _
 have q0 : Blk ((w.alloc (.cells #[.int .i64 a, .int .i64 l] 140)).alloc (.cells #[.int .i64 x.1, .int .i64 x.2] 140)) (w.heap.size + 1) 140 #[.int .i64 x.1, .int .i64 x.2] := Blk.new_eq0 (by simp)
 generalize (w.alloc (.cells #[.int .i64 a, .int .i64 l] 140)).alloc (.cells #[.int .i64 x.1, .int .i64 x.2] 140) = w1 at *
 obtain ⟨PB, hPB⟩ : ∃ PB, PB = w.heap.size := ⟨_, rfl⟩
 obtain ⟨QB, hQB⟩ : ∃ QB, QB = w.heap.size + 1 := ⟨_, rfl⟩
 rw [← hPB] at p0
 rw [← hQB] at q0
 rw [← hQB, ← hPB]
 have HPB := hZ9 hPB
 have HQB := hZ9 hQB
 have K0 := hZ9 k0
 have P0 := hZ9 p0
 have Q0 := hZ9 q0
 obtain ⟨i0, hi0, hz0, hz1, hz2⟩ := info_parts info140
 clear k0 p0 q0 hPB hQB
 -- the part ahead
 go_cut [7] (fun v wx => ∃ A1 c1, v = .slice A1 (L1 x a).length c1 ∧ wx.ownsRow w1.heap.size 140 2 v (L1 x a).length (extC (L1 x a)) ∧ Below w1.heap.size w1 wx)
 case first =>
  have p1 : w1.cell? ⟨PB, 0, none⟩ = some (.int .i64 a) := P0.out.cell 0
  have q1 : w1.cell? ⟨QB, 0, none⟩ = some (.int .i64 x.1) := Q0.out.cell 0
  have lp := P0.out.lt
  have lq := Q0.out.lt
  by_cases h1 : x.1 < a
  ·have e1 : L1 x a = [(x.1, a - x.1)] := if_pos h1
   have HE1 := hZ9 e1
   have HR := hZ9 (sl_rd (Sl.of_blk (sz := 2) (n := 1) (Blk.new w1 140 #[.int .i64 x.1, .int .i64 ((a : Int) - x.1)]) rfl))
   have H1C : Hid (∀ u ∈ ([.int .i64 x.1, .int .i64 ((a : Int) - x.1)] : List Value), u.oneCell' = true) := by
    show ∀ u ∈ ([.int .i64 x.1, .int .i64 ((a : Int) - x.1)] : List Value), u.oneCell' = true
    simp [Value.oneCell']
   clear e1
   go_wp2_with (at_builtin; refine wpList_append_rd _ rfl _ _ 218 rfl w1.heap.size 140 i0 _ 2 16 under218 hi0 hz0 hz1 hz2 rfl (by decide) (.slice none 0 0) 0 [] rfl (own_nil _ _ _ _) (some ⟨w1.heap.size, 0, none⟩) 1 1 _ [.int .i64 x.1, .int .i64 ((a : Int) - x.1)] rfl HR.out H1C.out (by unfold maxLen; omega) (by omega) (by simp) ?_; intro A1 c1' w2 hown hgr hnc _; (have HOWN := hZ9 hown); (have HGR := hZ9 hgr); clear hown hgr)
   go_meet
   have hcast : ((a - x.1 : Nat) : Int) = (a : Int) - x.1 := by omega
   refine ⟨A1, c1', ?_, ?_, ?_⟩
   ·rw [HE1.out]; rfl
   ·rw [HE1.out]
    have := HOWN.out
    simp only [extC, List.flatMap_cons, List.flatMap_nil, hcast]
    exact this
   ·exact (bR0.alloc nR0 _).trans (grown_below HGR.out (by simp) (fun k hk => by cases hk))
  ·have e1 : L1 x a = [] := if_neg h1
   have HE1 := hZ9 e1
   clear e1
   go_wp2_with fail
   go_meet
   exact ⟨none, 0, by rw [HE1.out]; rfl, by rw [HE1.out]; exact own_nil _ _ _ _, bR0⟩
 case rest =>
  obtain ⟨A1, k1, rfl, hown1, hbe1⟩ := hcut
  obtain ⟨n1, hn1⟩ : ∃ n1, n1 = (L1 x a).length := ⟨_, rfl⟩
  rw [← hn1] at hown1 ⊢
  have hn1' : n1 ≤ 1 := by rw [hn1]; unfold L1; split <;> simp
  have P1 := hZ9 (P0.out.below hbe1 P0.out.lt)
  have Q1 := hZ9 (Q0.out.below hbe1 Q0.out.lt)
  have K1 := hZ9 (K0.out.trans (hbe1.mono K0.out.size))
  have O1 := hZ9 (own_base hown1 K0.out.size)
  have HN1 := hZ9 hn1
  have p1 : wc.cell? ⟨PB, 0, none⟩ = some (.int .i64 a) := P1.out.cell 0
  have p2 : wc.cell? ⟨PB, 1, none⟩ = some (.int .i64 l) := P1.out.cell 1
  have q1 : wc.cell? ⟨QB, 0, none⟩ = some (.int .i64 x.1) := Q1.out.cell 0
  have q2 : wc.cell? ⟨QB, 1, none⟩ = some (.int .i64 x.2) := Q1.out.cell 1
  have lp := P1.out.lt
  have lq := Q1.out.lt
  clear hown1 hbe1 hn1
  generalize w1 = w1' at *
  clear K0 P0 Q0 
  go_upto_if 43 with fail
  go_cut [7] (fun v wx => ∃ A2 c2, v = .slice A2 (n1 + (L2 x a l).length) c2 ∧ wx.ownsRow w.heap.size 140 2 v (n1 + (L2 x a l).length) (extC (L1 x a) ++ extC (L2 x a l)) ∧ Below w.heap.size w wx)
  case first =>
   by_cases h1 : a + l < x.1 + x.2
   ·have e1 : L2 x a l = [(a + l, x.1 + x.2 - (a + l))] := if_pos h1
    have HE1 := hZ9 e1
    have HR := hZ9 (sl_rd (Sl.of_blk (sz := 2) (n := 1) (Blk.new wc 140 #[.int .i64 ((a : Int) + l), .int .i64 ((x.1 : Int) + x.2 - ((a : Int) + l))]) rfl))
    have H1C : Hid (∀ u ∈ ([.int .i64 ((a : Int) + l), .int .i64 ((x.1 : Int) + x.2 - ((a : Int) + l))] : List Value), u.oneCell' = true) := by
     show ∀ u ∈ ([.int .i64 ((a : Int) + l), .int .i64 ((x.1 : Int) + x.2 - ((a : Int) + l))] : List Value), u.oneCell' = true
     simp [Value.oneCell']
    clear e1
    go_wp2_with (at_builtin; refine wpList_append_rd _ rfl _ _ 218 rfl w.heap.size 140 i0 _ 2 16 under218 hi0 hz0 hz1 hz2 rfl (by decide) (.slice A1 n1 k1) n1 (extC (L1 x a)) rfl (own_keep_alloc O1.out _) (some ⟨wc.heap.size, 0, none⟩) 1 1 _ [.int .i64 ((a : Int) + l), .int .i64 ((x.1 : Int) + x.2 - ((a : Int) + l))] rfl HR.out H1C.out (by unfold maxLen; omega) (by omega) (by have := K1.out.size; simp; omega) ?_; intro A2 c2' w2 hown hgr hnc _; (have HOWN := hZ9 hown); (have HGR := hZ9 hgr); clear hown hgr)
    go_meet
    have hcast : ((x.1 + x.2 - (a + l) : Nat) : Int) = (x.1 : Int) + x.2 - ((a : Int) + l) := by omega
    refine ⟨A2, c2', ?_, ?_, ?_⟩
    ·rw [HE1.out]; rfl
    ·rw [HE1.out]
     have := HOWN.out
     simp only [extC, List.flatMap_cons, List.flatMap_nil, hcast, Int.natCast_add] at this ⊢
     exact this
    ·exact (K1.out.alloc K1.out.size _).trans (grown_below HGR.out (by have := K1.out.size; simp; omega) (fun k hk => (O1.out.lt k hk).1))
   ·have e1 : L2 x a l = [] := if_neg h1
    have HE1 := hZ9 e1
    clear e1
    go_wp2_with fail
    go_meet
    refine ⟨A1, k1, by rw [HE1.out]; rfl, ?_, K1.out⟩
    rw [HE1.out]
    have := O1.out
    simpa [extC] using this
  case rest =>
   obtain ⟨A2, k2, rfl, hown2, hbe2⟩ := hcut
   obtain ⟨n2, hn2⟩ : ∃ n2, n2 = n1 + (L2 x a l).length := ⟨_, rfl⟩
   rw [← hn2] at hown2 ⊢
   have hn2' : n2 ≤ 2 := by
    have : (L2 x a l).length ≤ 1 := by unfold L2; split <;> simp
    omega
   have B2 := hZ9 (HB.out.below hbe2 hlt)
   have S2 := hZ9 (HSL.out.below hbe2)
   have hlt2 : M < wc.heap.size := by have := hbe2.size; omega
   have hbl2 : b < wc.heap.size := by have := hbe2.size; omega
   have K2 := hZ9 hbe2
   have O2 := hZ9 hown2
   have HN2 := hZ9 hn2
   have e3 := hbe2.cell (p := ⟨M, 2, none⟩) hlt
   rw [e2] at e3
   have z2 := B2.out.free 2
   clear p1 p2 q1 q2 lp lq P1 Q1 K1 O1 hown2 hbe2 hn2 e2 c1 c2
   have r1 : (i : Int) ≤ c := by omega
   obtain ⟨i1, hi1e⟩ : ∃ i1, i1 = i + 1 := ⟨_, rfl⟩
   have w1e : IntKind.i64.wrap ((i : Int) + 1) = (i1 : Int) := by rw [IntKind.wrap_i64]; omega
   have r2 : (i1 : Int) ≤ m.free.length := by omega
   have r3 : (i1 : Int) ≤ c := by omega
   have r4 : (0 : Int) ≤ i := by omega
   have r5 : (0 : Int) ≤ i1 := by omega
   have r6 : i ≤ i1 := by omega
   have r7 : i ≤ c := by omega
   have HI1 := hZ9 hi1e
   clear hi1e
   have O2d := hZ9 (show wc.drew.ownsRow w.heap.size 140 2 (.slice A2 n2 k2) n2 (extC (L1 x a) ++ extC (L2 x a l)) from O2.out)
   have HSZ := hZ9 (show w.heap.size ≤ wc.drew.heap.size from K2.out.size)
   have e3d : wc.drew.cell? ⟨M, 2, none⟩ = some (.slice (some ⟨b, o, none⟩) m.free.length c) := e3
   have hdl : (m.free.drop i1).length = m.free.length - i1 := List.length_drop
   have hfin : ∀ (A3 : Option Addr) (c3 : Nat) (w3 : World), w3.ownsRow w.heap.size 140 2 (.slice A3 (n2 + (m.free.length - i1)) c3) (n2 + (m.free.length - i1)) (extC (L1 x a) ++ extC (L2 x a l) ++ extC (m.free.drop i1)) → wc.drew.grownBy w3 (Value.slice A2 n2 k2).ownBlock →
     w3.cell? ⟨M, 2, none⟩ = some (.slice (some ⟨b, o, none⟩) m.free.length c) ∧ Below w.heap.size w w3 ∧ ∃ A4 c4 w4, (Builtin.append_ #[218, 218] 218 #[.slice (some ⟨b, o, none⟩) i i, .slice A3 (n2 + (m.free.length - i1)) c3]).run Tryz.prog w3 = .ok (.slice A4 (i + (n2 + (m.free.length - i1))) c4) w4 ∧
      Sl w4 140 2 A4 (i + (n2 + (m.free.length - i1))) (extC (m.free.take i) ++ (extC (L1 x a) ++ extC (L2 x a l) ++ extC (m.free.drop i1))) ∧ i + (n2 + (m.free.length - i1)) ≤ c4 ∧ Below w.heap.size w w4 ∧ Blk w4 M 220 #[.int .i64 m.frm, .int .i64 m.sectors, .slice (some ⟨b, o, none⟩) m.free.length c] ∧ (∀ a, A4 = some a → a.block = b ∨ w.heap.size ≤ a.block) := fun A3 c3 w3 hown hgr => by
    have hM3 := (show Blk wc.drew M 220 _ from B2.out).grown hgr (own_ne O2d.out (show Blk wc.drew M 220 _ from B2.out) (by decide))
    have hb3 : Below w.heap.size w w3 := (show Below w.heap.size w wc.drew from K2.out.drew).trans (grown_below hgr HSZ.out (fun k hk => (O2d.out.lt k hk).1))
    have hk : Keeps w.heap.size [] w w3 := Keeps.of_below hb3 nR0
    have hpre : Sl w3 140 2 (some ⟨b, o, none⟩) i (extC (m.free.take i)) := by
     have h := (HSL.out.keeps hk (by simp)).part 0 i (by omega)
     rw [Nat.zero_mul, Nat.add_zero, List.drop_zero, extC_take] at h
     exact h
    obtain ⟨A4, c4, w4, r1, r2, r3, r4, r5⟩ := run_append_full w3 218 218 140 i0 _ 2 16 under218 hi0 hz0 hz1 hz2 rfl (by decide) (some ⟨b, o, none⟩) i _ hpre A3 (n2 + (m.free.length - i1)) c3 _ (own_rd hown) (by
     intro u hu
     rcases List.mem_append.1 hu with hu | hu
     ·rcases List.mem_append.1 hu with hu | hu
      ·exact extC_one _ u hu
      ·exact extC_one _ u hu
     ·exact extC_one _ u hu) (by unfold maxLen; omega) (by omega)
    exact ⟨hM3.cell 2, hb3, A4, c4, w4, r1, r2, r3, hb3.trans (r4.mono hb3.size), hM3.below r4 hM3.lt, fun a ha => (r5 a ha).imp (fun e => by injection e with e; rw [← e]) (fun e => Nat.le_trans hb3.size e)⟩
   have FIN := hZ9 hfin
   clear hfin
   by_cases hc1 : c = i1
   ·have hni : m.free.length - i1 = 0 := by omega
    have RT := hZ9 (show Rd wc.drew wc.drew.heap.size 2 (some ⟨b, o, none⟩) (m.free.length - i1) (extC (m.free.drop i1)) from ⟨by rw [extC_len, hdl], fun h => absurd h (by omega)⟩)
    clear hdl hni
    go_upto_region 8 with fail
    go_region_law (first
     | ((fail_if_success (have hZ := KIN)); refine step_append_rd _ (by rfl) _ _ _ (by rfl) w.heap.size 140 i0 _ 2 16 under218 hi0 hz0 hz1 hz2 rfl (by decide) (.slice A2 n2 k2) n2 (extC (L1 x a) ++ extC (L2 x a l)) (by rfl) O2d.out (some ⟨b, o, none⟩) (m.free.length - i1) 0 _ (extC (m.free.drop i1)) (by rfl) RT.out (extC_one _) (by unfold maxLen; omega) (by omega) HSZ.out ?_; intro A3 c3 w3 hown3 hgr3 hnc3; (have KIN := hZ9 (FIN.out A3 c3 w3 hown3 hgr3)); (have e5 := KIN.out.1); clear hown3 hgr3)
     | (obtain ⟨_, _, A4, c4, w4, hrun4, hs4, hc4, hb4, hM4, hA4⟩ := KIN.out; (have HA4 := hZ9 hA4); (have z4 := hM4.free 2); (have z5 : w4.cell? ⟨M, 2, none⟩ = some (.slice (some ⟨b, o, none⟩) m.free.length c) := hM4.cell 2); (have l4 := hM4.lt); refine step_append_run (by rfl) _ _ _ (by rfl) _ _ _ (by rfl) (by rfl) hrun4 ?_; (have HS4 := hZ9 hs4); (have HB4 := hZ9 hb4); (have HM4 := hZ9 hM4); clear hrun4 hs4 hb4 hM4 hA4))
    all_goals
     go_end0
     have hdone := take_done HH.out HOK.out HGD.out hi HN1.out HN2.out HI1.out HS4.out hc4 HB4.out HM4.out hbw HA4.out
     exact ⟨rfl, hdone.1, hdone.2.1, fun P hP a n c hcell => (hdone.2.2 a n c hcell).imp (fun e => by rw [e]; exact hP _ _ _ E2.out) id⟩
   ·have RT := hZ9 (show Rd wc.drew wc.drew.heap.size 2 (some ⟨b, o + i1 * 2, none⟩) (m.free.length - i1) (extC (m.free.drop i1)) from by
     have h := (S2.out.part i1 (m.free.length - i1) (by omega)).1
     rw [extC_drop, List.take_of_length_le (by rw [extC_len, hdl]; exact nR0)] at h
     exact h)
    clear hdl
    go_upto_region 8 with fail
    go_region_law (first
     | ((fail_if_success (have hZ := KIN)); refine step_append_rd _ (by rfl) _ _ _ (by rfl) w.heap.size 140 i0 _ 2 16 under218 hi0 hz0 hz1 hz2 rfl (by decide) (.slice A2 n2 k2) n2 (extC (L1 x a) ++ extC (L2 x a l)) (by rfl) O2d.out (some ⟨b, o + i1 * 2, none⟩) (m.free.length - i1) (c - i1) _ (extC (m.free.drop i1)) (by rfl) RT.out (extC_one _) (by unfold maxLen; omega) (by omega) HSZ.out ?_; intro A3 c3 w3 hown3 hgr3 hnc3; (have KIN := hZ9 (FIN.out A3 c3 w3 hown3 hgr3)); (have e5 := KIN.out.1); clear hown3 hgr3)
     | (obtain ⟨_, _, A4, c4, w4, hrun4, hs4, hc4, hb4, hM4, hA4⟩ := KIN.out; (have HA4 := hZ9 hA4); (have z4 := hM4.free 2); (have z5 : w4.cell? ⟨M, 2, none⟩ = some (.slice (some ⟨b, o, none⟩) m.free.length c) := hM4.cell 2); (have l4 := hM4.lt); refine step_append_run (by rfl) _ _ _ (by rfl) _ _ _ (by rfl) (by rfl) hrun4 ?_; (have HS4 := hZ9 hs4); (have HB4 := hZ9 hb4); (have HM4 := hZ9 hM4); clear hrun4 hs4 hb4 hM4 hA4))
    all_goals
     go_end0
     have hdone := take_done HH.out HOK.out HGD.out hi HN1.out HN2.out HI1.out HS4.out hc4 HB4.out HM4.out hbw HA4.out
     exact ⟨rfl, hdone.1, hdone.2.1, fun P hP a n c hcell => (hdone.2.2 a n c hcell).imp (fun e => by rw [e]; exact hP _ _ _ E2.out) id⟩
end
end Go.Proofs.YtmgmfnimaafkdaaGreatDoor
