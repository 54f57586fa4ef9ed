/- One element put behind a row. The reference's insert. No condition. The reference's ends and In. No condition. -/
import Derived.Test.YtoaiamgcegnjjaaGreatDoorW3
import Derived.Test.YtoaiamgcegnjjaaGreatDoorMI
import Derived.Test.YtoaiamgcegnjjaaGreatDoorMJ
import Derived.Test.YtoaiamgcegnjjaaGreatDoorMG
import Derived.Deep.RegionLaw
namespace Go.Proofs.YtoaiamgcegnjjaaGreatDoor
open Go.RowKit Go.Maps Go.WideMaps Go.Sort
set_option maxRecDepth 100000

/-- 'append(s, x)': the row of one, then the append. -/
theorem wpList_push {P : Program} {w : World} {ops : Array Oper} {rest : List Oper} {o1 o2 : Oper} {a : Act} {Q : Exit → Act → World → Prop} (g1 : o1.guard = none) (g2 : o2.guard = none) (t e : TypeId) (x s : Operand) (d : Tmp)
    (h1 : o1.op = .buildSlice t 1 #[(0, x)]) (hd : o1.dst = some d) (h2 : o2.op = .call { callee := .builtin .append, args := #[s, .tmp d], argTypes := #[t, t] })
    (base : Nat) (i : TypeInfo) (z : Value) (size bytes : Nat) (ht : P.underlying t = some (.slice e)) (hi : P.info? e = some i) (hz : i.zero = some z) (hsize : i.size = size) (hby : i.bytes = bytes) (hzs : z.cells.size = size) (hsz : 0 < size)
    (v : Value) (n : Nat) (xs : List Value) (hs : (a.put (some d) (.slice (some ⟨w.heap.size, 0, none⟩) 1 1)).eval s = v) (hd2 : (a.put (some d) (.slice (some ⟨w.heap.size, 0, none⟩) 1 1)).eval (.tmp d) = .slice (some ⟨w.heap.size, 0, none⟩) 1 1)
    (hown : w.ownsRow base e size v n xs) (vx : Value) (hx : a.eval x = vx) (cs : Array Value) (hb : P.builtSlice e 1 [(0, vx)] = some cs) (hcs : cs.size = size) (hone : ∀ u ∈ cs.toList, u.oneCell' = true)
    (h63 : n + 1 ≤ maxLen) (hbytes : (n + 1) * bytes ≤ 140737488355328) (hbase : base ≤ w.heap.size)
    (h : ∀ A' c' w', w'.ownsRow base e size (.slice A' (n + 1) c') (n + 1) (xs ++ cs.toList) → w.grownBy w' v.ownBlock → n + 1 ≤ c' → wpList P ops Q rest ((a.put (some d) (.slice (some ⟨w.heap.size, 0, none⟩) 1 1)).put o2.dst (.slice A' (n + 1) c')) w') :
    wpList P ops Q (o1 :: o2 :: rest) a w := by
  refine wpList_one g1 t e x h1 w.heap.size rfl (some d) hd ht vx hx cs hb ?_
  have hr := (Blk.new w e cs).rd
  rw [hcs] at hr
  refine wpList_append_rd _ g2 s (.tmp d) t h2 base e i z size bytes ht hi hz hsize hby hzs hsz v n xs hs (hown.alloc _) (some ⟨w.heap.size, 0, none⟩) 1 1 _ cs.toList hd2 hr hone h63 hbytes (by simp; omega) ?_
  intro A' c' w' h3 h4 h5 _
  exact h A' c' w' h3 ((gby_alloc (gby_refl w _) _).trans h4) h5

theorem built2 (n : Int) : Tryz.prog.builtSlice 2 1 [(0, .int .i64 n)] = some #[.int .i64 n] := by kernel_rfl
theorem under89 : Tryz.prog.underlying 89 = some (.slice 2) := Tryz.underlying89

def istep (n : Int) (s : Bool × List Int) (a : Int) : Bool × List Int := if !s.1 && decide (n ≤ a) then (true, (if n < a then s.2 ++ [n] else s.2) ++ [a]) else (s.1, s.2 ++ [a])
theorem istep_true (n : Int) : ∀ (l out : List Int), l.foldl (istep n) (true, out) = (true, out ++ l)
  | [], out => by simp
  | a :: l, out => by
    rw [List.foldl_cons, show istep n (true, out) a = (true, out ++ [a]) from rfl, istep_true n l]
    simp
def iend (n : Int) (s : Bool × List Int) : List Int := if s.1 then s.2 else s.2 ++ [n]
theorem istep_false (n : Int) : ∀ (l out : List Int), iend n (l.foldl (istep n) (false, out)) = out ++ insR l n
  | [], out => by simp [iend, insR]
  | a :: l, out => by
    rw [List.foldl_cons]
    unfold insR
    by_cases h1 : n ≤ a
    · have e : istep n (false, out) a = (true, (if n < a then out ++ [n] else out) ++ [a]) := by unfold istep; simp [h1]
      rw [e, istep_true, if_pos h1]
      unfold iend
      dsimp only
      rw [if_pos rfl]
      split <;> simp
    · have e : istep n (false, out) a = (false, out ++ [a]) := by unfold istep; simp [h1]
      rw [e, istep_false n l, if_neg h1]
      simp
theorem istep_len (n : Int) : ∀ (l : List Int) (s : Bool × List Int), (l.foldl (istep n) s).2.length ≤ s.2.length + l.length + (if s.1 then 0 else 1)
  | [], s => by simp
  | a :: l, (true, out) => by rw [istep_true]; simp
  | a :: l, (false, out) => by
    rw [List.foldl_cons]
    have := istep_len n l (istep n (false, out) a)
    by_cases h1 : n ≤ a
    · have e : istep n (false, out) a = (true, (if n < a then out ++ [n] else out) ++ [a]) := by unfold istep; simp [h1]
      rw [e] at this ⊢
      simp only [Bool.false_eq_true, if_false, if_true, List.length_append, List.length_cons, List.length_nil] at this ⊢
      by_cases h2 : n < a
      · rw [if_pos h2] at this ⊢
        simp at this ⊢
        omega
      · rw [if_neg h2] at this ⊢
        simp at this ⊢
        omega
    · have e : istep n (false, out) a = (false, out ++ [a]) := by unfold istep; simp [h1]
      rw [e] at this ⊢
      simp only [Bool.false_eq_true, if_false, List.length_append, List.length_cons, List.length_nil] at this ⊢
      omega

theorem Rd.num {w : World} {B n : Nat} {A : Option Addr} {l : List Int} (h : Rd w B 1 A n (l.map (Value.int .i64))) : l.length = n ∧ ∀ k (hk : k < l.length), ∃ b o, A = some ⟨b, o, none⟩ ∧ b < B ∧ w.cell? ⟨b, o + k, none⟩ = some (.int .i64 l[k]) := by
  have hl : l.length = n := by have := h.1; simp at this; omega
  refine ⟨hl, fun k hk => ?_⟩
  obtain ⟨b, o, e, hb, hc⟩ := h.2 (by omega)
  refine ⟨b, o, e, hb, ?_⟩
  rw [hc k (by simpa using hk)]
  simp

structure InW (w wr : World) (out : List Int) (A : Option Addr) (c : Nat) : Prop where
  cap : out.length ≤ c
  own : wr.ownsRow w.heap.size 2 1 (.slice A out.length c) out.length (out.map (Value.int .i64))
  below : Below w.heap.size w wr

theorem InW.push {w wr w2 : World} {out : List Int} {A A2 : Option Addr} {c c2 : Nat} {a : Int} (h : InW w wr out A c) (ho : w2.ownsRow w.heap.size 2 1 (.slice A2 (out.length + 1) c2) (out.length + 1) (out.map (Value.int .i64) ++ (#[Value.int .i64 a] : Array Value).toList)) (hg : wr.grownBy w2 (Value.slice A out.length c).ownBlock) (hc : out.length + 1 ≤ c2) : InW w w2 (out ++ [a]) A2 c2 := by
  have e : (out ++ [a]).length = out.length + 1 := by simp
  refine ⟨by rw [e]; exact hc, ?_, h.below.trans (grown_below hg h.below.size (fun g hg => (h.own.lt g hg).1))⟩
  rw [e]
  simpa using ho

set_option maxHeartbeats 1000000 in
theorem rinsert_any (A : Option Addr) (n c : Nat) (l : List Int) (x : Int) (w : World) (h : Rd w w.heap.size 1 A n (l.map (Value.int .i64))) (hn : n ≤ 10000) :
    Calls Tryz.prog 244 #[.slice A n c, .int .i64 x] w fun e w' => (∃ A' c', e = .returned (.slice A' (insR l x).length c') ∧ w'.ownsRow w.heap.size 2 1 (.slice A' (insR l x).length c') (insR l x).length ((insR l x).map (Value.int .i64)) ∧ (insR l x).length ≤ c') ∧ Below w.heap.size w w' := by
  obtain ⟨i0, hi0, hz0, hz1, hz2⟩ := info_parts info2
  have hl := h.num.1
  have HL := Lib.hid hl
  have HR := Lib.hid h
  have hst : InW w w [] none 0 := ⟨by simp, by simpa using World.ownsRow_nil w _ 2 1, Below.refl _ _⟩
  have HST := Lib.hid hst
  clear hl h hst
  go_enter Tryz.func244, Tryz.ntmps244
  go_wp2_with fail
  go_loopw [5, 6, 7] (fun v p i wr => ∃ (k : Nat) (A' : Option Addr) (c' : Nat), k ≤ n ∧ i = .int .i64 k ∧ p = .bool ((l.take k).foldl (istep x) (false, [])).1 ∧ v = .slice A' ((l.take k).foldl (istep x) (false, [])).2.length c' ∧ InW w wr ((l.take k).foldl (istep x) (false, [])).2 A' c') (fun _ _ i _ => n - (intOf i).toNat)
  case atStart => exact ⟨0, none, 0, Nat.zero_le _, rfl, rfl, rfl, HST.out⟩
  case round =>
    obtain ⟨k, A', c', hk, rfl, rfl, rfl, hg⟩ := hrel
    have HG := Lib.hid hg
    clear hg HST
    have hlen := istep_len x (l.take k) (false, [])
    simp only [List.length_nil, List.length_take, Bool.false_eq_true, if_false] at hlen
    have hszr : w.heap.size ≤ wr.heap.size := HG.out.below.size
    by_cases hlt : k < n
    · have hk' : k < l.length := by have := HL.out; omega
      obtain ⟨b, o, rfl, hb, x0⟩ := (HR.out.below HG.out.below (Nat.le_refl _)).num.2 k hk'
      have hsn : (l.take (k + 1)).foldl (istep x) (false, []) = istep x ((l.take k).foldl (istep x) (false, [])) l[k] := by rw [List.take_succ_eq_append_getElem hk', List.foldl_append]; rfl
      have HSN := Lib.hid hsn
      clear hsn
      generalize (l.take k).foldl (istep x) (false, []) = s at *
      obtain ⟨p, out⟩ := s
      dsimp only at *
      generalize l[k] = a at *
      have hszr : w.heap.size ≤ wr.heap.size := HG.out.below.size
      cases p with
      | true =>
        have HE : Hid (istep x (true, out) a = (true, out ++ [a])) := rfl
        go_wp2_with (refine wpList_push rfl rfl 89 2 _ _ 39 rfl rfl rfl w.heap.size i0 (.int .i64 0) 1 8 under89 hi0 hz0 hz1 hz2 rfl (by decide) (.slice A' out.length c') out.length (out.map (Value.int .i64)) rfl rfl HG.out.own (.int .i64 a) rfl #[.int .i64 a] (built2 a) rfl (by simp [Value.oneCell']) (by unfold maxLen; omega) (by omega) hszr ?_; intro A2 c2 w2 hown hgrow hnc; have HI := Lib.hid (HG.out.push hown hgrow hnc); clear hown hgrow hnc)
        go_roundw
        case rel => exact ⟨k + 1, A2, c2, by omega, by go_num, by rw [HSN.out, HE.out], by rw [HSN.out, HE.out]; simp, by rw [HSN.out, HE.out]; exact HI.out⟩
        case measure => simp [intOf]; omega
      | false =>
        by_cases hle : x ≤ a
        · by_cases hl : x < a
          · have HE : Hid (istep x (false, out) a = (true, (out ++ [x]) ++ [a])) := by
              show istep x (false, out) a = _
              unfold istep
              simp [hle, hl]
            go_wp2_with (first
              | (refine wpList_push rfl rfl 89 2 _ _ 32 rfl rfl rfl w.heap.size i0 (.int .i64 0) 1 8 under89 hi0 hz0 hz1 hz2 rfl (by decide) (.slice A' out.length c') out.length (out.map (Value.int .i64)) rfl rfl HG.out.own (.int .i64 x) rfl #[.int .i64 x] (built2 x) rfl (by simp [Value.oneCell']) (by unfold maxLen; omega) (by omega) hszr ?_; intro A2 c2 w2 hown hgrow hnc; have HI := Lib.hid (HG.out.push hown hgrow hnc); have hx2 : w2.cell? ⟨b, o + k, none⟩ = some (.int .i64 a) := (World.cell?_of_block (hgrow.block b (by omega) (fun e => by have := (HG.out.own.lt b (by first | exact e | exact e.symm)).1; omega))).trans x0; clear hown hgrow hnc)
              | (refine wpList_push rfl rfl 89 2 _ _ 39 rfl rfl rfl w.heap.size i0 (.int .i64 0) 1 8 under89 hi0 hz0 hz1 hz2 rfl (by decide) (.slice A2 (out.length + 1) c2) (out.length + 1) ((out ++ [x]).map (Value.int .i64)) rfl rfl (by have := HI.out.own; simpa using this) (.int .i64 a) rfl #[.int .i64 a] (built2 a) rfl (by simp [Value.oneCell']) (by unfold maxLen; omega) (by omega) HI.out.below.size ?_; intro A3 c3 w3 hown hgrow hnc; have HI3 := Lib.hid (HI.out.push (by simpa using hown) (by simpa using hgrow) (by simpa using hnc)); clear hown hgrow hnc))
            go_roundw
            case rel => exact ⟨k + 1, A3, c3, by omega, by go_num, by rw [HSN.out, HE.out], by rw [HSN.out, HE.out]; simp, by rw [HSN.out, HE.out]; exact HI3.out⟩
            case measure => simp [intOf]; omega
          · have HE : Hid (istep x (false, out) a = (true, out ++ [a])) := by
              show istep x (false, out) a = _
              unfold istep
              simp [hle, hl]
            go_wp2_with (refine wpList_push rfl rfl 89 2 _ _ 39 rfl rfl rfl w.heap.size i0 (.int .i64 0) 1 8 under89 hi0 hz0 hz1 hz2 rfl (by decide) (.slice A' out.length c') out.length (out.map (Value.int .i64)) rfl rfl HG.out.own (.int .i64 a) rfl #[.int .i64 a] (built2 a) rfl (by simp [Value.oneCell']) (by unfold maxLen; omega) (by omega) hszr ?_; intro A2 c2 w2 hown hgrow hnc; have HI := Lib.hid (HG.out.push hown hgrow hnc); clear hown hgrow hnc)
            go_roundw
            case rel => exact ⟨k + 1, A2, c2, by omega, by go_num, by rw [HSN.out, HE.out], by rw [HSN.out, HE.out]; simp, by rw [HSN.out, HE.out]; exact HI.out⟩
            case measure => simp [intOf]; omega
        · have HE : Hid (istep x (false, out) a = (false, out ++ [a])) := by
            show istep x (false, out) a = _
            unfold istep
            simp [hle]
          go_wp2_with (refine wpList_push rfl rfl 89 2 _ _ 39 rfl rfl rfl w.heap.size i0 (.int .i64 0) 1 8 under89 hi0 hz0 hz1 hz2 rfl (by decide) (.slice A' out.length c') out.length (out.map (Value.int .i64)) rfl rfl HG.out.own (.int .i64 a) rfl #[.int .i64 a] (built2 a) rfl (by simp [Value.oneCell']) (by unfold maxLen; omega) (by omega) hszr ?_; intro A2 c2 w2 hown hgrow hnc; have HI := Lib.hid (HG.out.push hown hgrow hnc); clear hown hgrow hnc)
          go_roundw
          case rel => exact ⟨k + 1, A2, c2, by omega, by go_num, by rw [HSN.out, HE.out], by rw [HSN.out, HE.out]; simp, by rw [HSN.out, HE.out]; exact HI.out⟩
          case measure => simp [intOf]; omega
    · obtain rfl : k = n := by omega
      have hta : l.take k = l := List.take_of_length_le (by have := HL.out; omega)
      have hend := istep_false x l []
      rw [List.nil_append] at hend
      rw [hta] at hlen ⊢
      have HG2 : Hid (InW w wr (l.foldl (istep x) (false, [])).2 A' c') := by
        have := HG.out
        rw [hta] at this
        exact this
      have HEND := Lib.hid hend
      clear hend HG hta
      generalize l.foldl (istep x) (false, []) = s at *
      obtain ⟨p, out⟩ := s
      dsimp only at *
      cases p with
      | true =>
        have e : insR l x = out := HEND.out.symm
        go_wp2_with fail
        go_ret
        rw [e]
        exact ⟨⟨A', c', rfl, HG2.out.own, HG2.out.cap⟩, HG2.out.below⟩
      | false =>
        have e : insR l x = out ++ [x] := HEND.out.symm
        go_wp2_with (refine wpList_push rfl rfl 89 2 _ _ 45 rfl rfl rfl w.heap.size i0 (.int .i64 0) 1 8 under89 hi0 hz0 hz1 hz2 rfl (by decide) (.slice A' out.length c') out.length (out.map (Value.int .i64)) rfl rfl HG2.out.own (.int .i64 x) rfl #[.int .i64 x] (built2 x) rfl (by simp [Value.oneCell']) (by unfold maxLen; omega) (by omega) hszr ?_; intro A2 c2 w2 hown hgrow hnc; have HI := Lib.hid (HG2.out.push hown hgrow hnc); clear hown hgrow hnc)
        go_ret
        rw [e]
        have el : (out ++ [x]).length = out.length + 1 := by simp
        exact ⟨⟨A2, c2, by rw [el]; rfl, HI.out.own, HI.out.cap⟩, HI.out.below⟩
end Go.Proofs.YtoaiamgcegnjjaaGreatDoor
namespace Go.Proofs.YtoaiamgcegnjjaaGreatDoor
open Go.RowKit Go.Maps Go.WideMaps Go.Sort
set_option maxRecDepth 100000

theorem size41 : (Tryz.prog.info? 41).map (·.size) = some 2 := by kernel_rfl
theorem insR_len (l : List Int) (n : Int) : (insR l n).length ≤ l.length + 1 := by
  induction l with
  | nil => simp [insR]
  | cons a l ih =>
    unfold insR
    split
    · split <;> simp
    · simp; omega
theorem ends_len : ∀ (l : List (Int × Int)) (out : List Int), (l.foldl estep out).length ≤ out.length + 2 * l.length
  | [], out => by simp
  | p :: l, out => by
    rw [List.foldl_cons]
    have h1 := ends_len l (estep out p)
    have h2 : (estep out p).length ≤ out.length + 2 := by
      unfold estep
      split
      · have := insR_len (insR out p.1) p.2
        have := insR_len out p.1
        omega
      · omega
    rw [List.length_cons]
    omega
theorem in_take {l : List (Int × Int)} {x : Int} {k : Nat} (hk : k < l.length) : inR (l.take (k + 1)) x = (inR (l.take k) x || (rightS l[k] && decide (l[k].1 ≤ x) && decide (x < l[k].2))) := by
  unfold inR
  rw [List.take_succ_eq_append_getElem hk, List.any_append]
  simp

set_option maxHeartbeats 1000000 in
theorem rin_any (A : Option Addr) (n c : Nat) (l : List (Int × Int)) (x : Int) (w : World) (h : Rd w w.heap.size 2 A n (spanCells l)) (hn : n ≤ 10000) :
    Calls Tryz.prog 215 #[.slice A n c, .int .i64 x] w fun e w' => e = .returned (.bool (inR l x)) ∧ Below w.heap.size w w' := by
  have hl := h.span.1
  have HL := Lib.hid hl
  have HR := Lib.hid h
  clear hl h
  go_enter Tryz.func215, Tryz.ntmps215
  go_wp2_with fail
  go_loopw [5] (fun i wr => ∃ k : Nat, k ≤ n ∧ i = .int .i64 k ∧ inR (l.take k) x = false ∧ Below w.heap.size w wr) (fun i _ => n - (intOf i).toNat)
  case atStart => exact ⟨0, Nat.zero_le _, rfl, rfl, Below.refl _ _⟩
  case round =>
    obtain ⟨k, hk, rfl, hno, hb⟩ := hrel
    have HB := Lib.hid hb
    have HNO := Lib.hid hno
    clear hb hno
    by_cases hlt : k < n
    · have hk' : k < l.length := by have := HL.out; omega
      obtain ⟨b, o, rfl, hb, x0, x1⟩ := (HR.out.below HB.out (Nat.le_refl _)).span.2 k hk'
      have htk := in_take (x := x) hk'
      have HTK := Lib.hid htk
      clear htk
      have hmem := List.getElem_mem hk'
      have HME := Lib.hid hmem
      clear hmem
      generalize l[k] = p at *
      have hra : wr.rangeAt b (o + k * 2) [.int .i64 p.1, .int .i64 p.2] := fun j v hj => by
        match j with
        | 0 => simpa [← hj] using x0
        | 1 => simpa [← hj] using x1
        | j + 2 => simp at hj
      have HRA := Lib.hid hra
      clear hra
      go_wp2_with (refine wpList_load_mid rfl 41 _ rfl b (o + k * 2) rfl [.int .i64 p.1, .int .i64 p.2] _ HRA.out Tryz.underlying41 rfl size41 ?_)
      refine (rspan_any p.1 p.2 wr).mono ?_
      rintro en w2 ⟨rfl, hb2⟩
      have hbs := HB.out.size
      have y0 : w2.cell? ⟨b, o + k * 2, none⟩ = some (.int .i64 p.1) := (hb2.cell (p := ⟨b, o + k * 2, none⟩) (by show b < wr.heap.size; omega)).trans x0
      have y1 : w2.cell? ⟨b, o + k * 2 + 1, none⟩ = some (.int .i64 p.2) := (hb2.cell (p := ⟨b, o + k * 2 + 1, none⟩) (by show b < wr.heap.size; omega)).trans x1
      have HB2 := Lib.hid (HB.out.trans (hb2.mono HB.out.size))
      clear hb2 x0 x1
      have next : (rightS p && decide (p.1 ≤ x) && decide (x < p.2)) = false → inR (l.take (k + 1)) x = false := fun h => by rw [HTK.out, HNO.out, h]; rfl
      have NEXT := Lib.hid next
      clear next
      cases hz : spanOK p.1 p.2 with
      | false =>
        have HZ : Hid ((rightS p && decide (p.1 ≤ x) && decide (x < p.2)) = false) := by
          show (spanOK p.1 p.2 && decide (p.1 ≤ x) && decide (x < p.2)) = false
          rw [hz]; rfl
        clear hz
        go_wp2_with fail
        go_roundw
        case rel => exact ⟨k + 1, by omega, by go_num, NEXT.out HZ.out, HB2.out⟩
        case measure => simp [intOf]; omega
      | true =>
        have HZ := Lib.hid hz
        clear hz
        by_cases h1 : p.1 ≤ x
        · by_cases h2 : x < p.2
          · have HE : Hid (inR l x = true) := by
              show inR l x = true
              rw [inR_iff]
              exact ⟨p, HME.out, HZ.out, h1, h2⟩
            go_wp2_with fail
            go_ret
            exact ⟨by rw [HE.out]; rfl, HB2.out⟩
          · have HN : Hid ((rightS p && decide (p.1 ≤ x) && decide (x < p.2)) = false) := by
              show (rightS p && decide (p.1 ≤ x) && decide (x < p.2)) = false
              rw [decide_eq_false h2, Bool.and_false]
            go_wp2_with fail
            go_roundw
            case rel => exact ⟨k + 1, by omega, by go_num, NEXT.out HN.out, HB2.out⟩
            case measure => simp [intOf]; omega
        · have HN : Hid ((rightS p && decide (p.1 ≤ x) && decide (x < p.2)) = false) := by
            show (rightS p && decide (p.1 ≤ x) && decide (x < p.2)) = false
            rw [decide_eq_false h1, Bool.and_false, Bool.false_and]
          go_wp2_with fail
          go_roundw
          case rel => exact ⟨k + 1, by omega, by go_num, NEXT.out HN.out, HB2.out⟩
          case measure => simp [intOf]; omega
    · obtain rfl : k = n := by omega
      have hta : l.take k = l := List.take_of_length_le (by have := HL.out; omega)
      have HE : Hid (inR l x = false) := by
        have := HNO.out
        rw [hta] at this
        exact this
      clear hta
      go_wp2_with fail
      go_ret
      exact ⟨by rw [HE.out]; rfl, HB.out⟩

set_option maxHeartbeats 1000000 in
theorem rends_any (A : Option Addr) (n c : Nat) (l : List (Int × Int)) (A' : Option Addr) (n' c' : Nat) (l' : List (Int × Int)) (w : World) (h : Rd w w.heap.size 2 A n (spanCells l)) (h' : Rd w w.heap.size 2 A' n' (spanCells l')) (hn : n ≤ 2000) (hn' : n' ≤ 2000) :
    Calls Tryz.prog 214 #[.slice A n c, .slice A' n' c'] w fun e w' => (∃ B d, e = .returned (.slice B (endsR (l ++ l')).length d) ∧ w'.ownsRow w.heap.size 2 1 (.slice B (endsR (l ++ l')).length d) (endsR (l ++ l')).length ((endsR (l ++ l')).map (Value.int .i64)) ∧ (endsR (l ++ l')).length ≤ d) ∧ Below w.heap.size w w' := by
  obtain ⟨i0, hi0, hz0, hz1, hz2⟩ := info_parts info41
  have hl := h.span.1
  have hl' := h'.span.1
  have HL := Lib.hid hl
  have HL' := Lib.hid hl'
  have HR := Lib.hid h
  have HR' := Lib.hid h'
  clear hl hl' h h'
  go_enter Tryz.func214, Tryz.ntmps214
  have o0 : (w.alloc (.cells #[] 41)).ownsRow w.heap.size 41 2 (.slice (some ⟨w.heap.size, 0, none⟩) 0 0) 0 [] := by
    have := World.ownsRow_made (base := w.heap.size) (e := 41) (size := 2) w #[] 0 (by simp) (by unfold maxLen; omega) (by simp)
    simpa using this
  have O0 := Lib.hid o0
  have rd0 := Lib.hid (HR.out.below ((Below.refl w.heap.size w).alloc (Nat.le_refl _) (.cells #[] 41)) (Nat.le_refl _))
  clear o0
  go_upto_region 3 with (first
    | (at_builtin; refine wpList_append_rd _ rfl _ _ 52 rfl w.heap.size 41 i0 (.agg #[.int .i64 0, .int .i64 0]) 2 16 under52 hi0 hz0 hz1 hz2 rfl (by decide) (.slice (some ⟨w.heap.size, 0, none⟩) 0 0) 0 [] rfl O0.out A n c _ _ rfl rd0.out (spanCells_one l) (by unfold maxLen; omega) (by omega) (by simp) ?_; intro A2 c2 w2 hown hgrow hnc hat; simp only [Nat.zero_add, List.nil_append] at hown hnc; have HOW := Lib.hid hown; have HB2 := Lib.hid (((Below.refl w.heap.size w).alloc (Nat.le_refl _) (.cells #[] 41)).trans (grown_below hgrow (by simp) (fun k hk => (O0.out.lt k hk).1))); have rd2 := Lib.hid (HR'.out.below HB2.out (Nat.le_refl _)); clear hown hgrow hnc hat)
    | (at_builtin; refine wpList_append_rd _ rfl _ _ 52 rfl w.heap.size 41 i0 (.agg #[.int .i64 0, .int .i64 0]) 2 16 under52 hi0 hz0 hz1 hz2 rfl (by decide) (.slice A2 n c2) n (spanCells l) rfl HOW.out A' n' c' _ _ rfl rd2.out (spanCells_one l') (by unfold maxLen; omega) (by omega) HB2.out.size ?_; intro A6 c6 w6 hown hgrow hnc hat; have HB6 := Lib.hid (HB2.out.trans (grown_below hgrow HB2.out.size (fun k hk => (HOW.out.lt k hk).1))); have HOW6 := Lib.hid hown; clear hown hgrow hnc hat))
  have hlen : (l ++ l').length = n + n' := by have := HL.out; have := HL'.out; simp; omega
  have hrd6 : Rd w6 w6.heap.size 2 A6 (n + n') (spanCells (l ++ l')) := by rw [spanCells_append]; exact own_rd HOW6.out
  have hee : endsR (l ++ l') = (l ++ l').foldl estep [] := rfl
  have HEE := Lib.hid hee
  clear hee
  have HLEN := Lib.hid hlen
  have HRD6 := Lib.hid hrd6
  have hst : InW w6 w6 [] none 0 := ⟨by simp, by simpa using World.ownsRow_nil w6 _ 2 1, Below.refl _ _⟩
  have HST := Lib.hid hst
  have hwb := HB6.out.size
  clear hlen hrd6 hst HOW rd2 HOW6 HB2 rd0 O0
  generalize hall : l ++ l' = all at *
  have HALL := Lib.hid hall
  clear hall
  generalize hN : n + n' = N at *
  have hN4 : N ≤ 4000 := by omega
  clear hN
  go_wp2_with fail
  go_loopw [5, 7] (fun v i wr => ∃ (k : Nat) (B : Option Addr) (d : Nat), k ≤ N ∧ i = .int .i64 k ∧ v = .slice B ((all.take k).foldl estep []).length d ∧ InW w6 wr ((all.take k).foldl estep []) B d) (fun _ i _ => N - (intOf i).toNat)
  case atStart => exact ⟨0, none, 0, Nat.zero_le _, rfl, rfl, HST.out⟩
  case round =>
    obtain ⟨k, B, d, hk, rfl, rfl, hg⟩ := hrel
    have HG := Lib.hid hg
    have hszr : w6.heap.size ≤ wr.heap.size := hg.below.size
    clear hg HST
    by_cases hlt : k < N
    · have hk' : k < all.length := by have := HLEN.out; omega
      obtain ⟨b, o, rfl, hb, x0, x1⟩ := (HRD6.out.below HG.out.below (Nat.le_refl _)).span.2 k hk'
      have hsn : (all.take (k + 1)).foldl estep [] = estep ((all.take k).foldl estep []) all[k] := by rw [List.take_succ_eq_append_getElem hk', List.foldl_append]; rfl
      have hol := ends_len (all.take k) []
      rw [List.length_take, List.length_nil] at hol
      have HSN := Lib.hid hsn
      clear hsn
      generalize all[k] = p at *
      generalize (all.take k).foldl estep [] = out at *
      have hra : wr.rangeAt b (o + k * 2) [.int .i64 p.1, .int .i64 p.2] := fun j v hj => by
        match j with
        | 0 => simpa [← hj] using x0
        | 1 => simpa [← hj] using x1
        | j + 2 => simp at hj
      have HRA := Lib.hid hra
      clear hra
      go_wp2_with (refine wpList_load_mid rfl 41 _ rfl b (o + k * 2) rfl [.int .i64 p.1, .int .i64 p.2] _ HRA.out Tryz.underlying41 rfl size41 ?_)
      refine (rspan_any p.1 p.2 wr).mono ?_
      rintro en w2 ⟨rfl, hb2⟩
      have y0 : w2.cell? ⟨b, o + k * 2, none⟩ = some (.int .i64 p.1) := (hb2.cell (p := ⟨b, o + k * 2, none⟩) (by show b < wr.heap.size; omega)).trans x0
      have y1 : w2.cell? ⟨b, o + k * 2 + 1, none⟩ = some (.int .i64 p.2) := (hb2.cell (p := ⟨b, o + k * 2 + 1, none⟩) (by show b < wr.heap.size; omega)).trans x1
      have HI2 : Hid (InW w6 w2 out B d) := ⟨HG.out.cap, own_kept HG.out.own (gby_of_below hb2) (fun g hg e => by cases e), HG.out.below.trans (hb2.mono hszr)⟩
      have hb2s := hb2.size
      clear hb2 x0 x1
      cases hz : spanOK p.1 p.2 with
      | false =>
        have HE : Hid (estep out p = out) := by
          show estep out p = out
          unfold estep
          rw [show rightS p = false from hz]
          rfl
        clear hz
        go_wp2_with fail
        go_roundw
        case rel => exact ⟨k + 1, B, d, by omega, by go_num, by rw [HSN.out, HE.out], by rw [HSN.out, HE.out]; exact HI2.out⟩
        case measure => simp [intOf]; omega
      | true =>
        have HE : Hid (estep out p = insR (insR out p.1) p.2) := by
          show estep out p = _
          unfold estep
          rw [show rightS p = true from hz]
          rfl
        have hl1 := insR_len out p.1
        clear hz
        have C1 : Hid (Calls Tryz.prog 244 #[.slice B out.length d, .int .i64 p.1] w2.drew fun e w' => (∃ A' c', e = .returned (.slice A' (insR out p.1).length c') ∧ w'.ownsRow w2.heap.size 2 1 (.slice A' (insR out p.1).length c') (insR out p.1).length ((insR out p.1).map (Value.int .i64)) ∧ (insR out p.1).length ≤ c') ∧ Below w2.heap.size w2 w') := by
          refine Calls.mono (rinsert_any B out.length d out p.1 w2.drew (own_rd (w := w2.drew) (show w2.drew.ownsRow w6.heap.size 2 1 (.slice B out.length d) out.length (out.map (Value.int .i64)) from HI2.out.own)) (by omega)) ?_
          rintro en w3 ⟨h1, h2⟩
          exact ⟨h1, (Below.refl w2.heap.size w2).drew.trans h2⟩
        go_upto_region 7 with fail
        go_region_law (first
          | (go_simp; go_at_call 244; refine (rinsert_any A3 (insR out p.1).length c3 (insR out p.1) p.2 w3 (own_rd HO3.out) (by omega)).mono ?_; rintro en w4 ⟨⟨A4, c4, rfl, hown4, hcap4⟩, hb4⟩; (have HI4 : Hid (InW w6 w4 (insR (insR out p.1) p.2) A4 c4) := ⟨hcap4, own_base hown4 (by have := HB3.out.size; omega), HI2.out.below.trans ((HB3.out.trans (hb4.mono HB3.out.size)).mono (by omega))⟩); clear hown4 hb4 hcap4)
          | (go_simp; go_at_call 244; refine (C1.out).mono ?_; rintro en w3 ⟨⟨A3, c3, rfl, hown3, hcap3⟩, hb3⟩; (have HO3 := Lib.hid hown3); (have HB3 := Lib.hid hb3); (have z1 : w3.cell? ⟨b, o + k * 2 + 1, none⟩ = some (.int .i64 p.2) := (hb3.cell (p := ⟨b, o + k * 2 + 1, none⟩) (by show b < w2.heap.size; omega)).trans y1); clear hown3 hb3))
        all_goals
          go_wp2_with fail
          go_roundw
          case rel => exact ⟨k + 1, A4, c4, by omega, by go_num, by rw [HSN.out, HE.out], by rw [HSN.out, HE.out]; exact HI4.out⟩
          case measure => simp [intOf]; omega
    · obtain rfl : k = N := by omega
      have hta : all.take k = all := List.take_of_length_le (by have := HLEN.out; omega)
      rw [hta] at HG ⊢
      clear hta
      go_wp2_with fail
      go_ret
      rw [HALL.out, HEE.out]
      exact ⟨⟨B, d, rfl, own_base HG.out.own hwb, HG.out.cap⟩, HB6.out.trans (HG.out.below.mono hwb)⟩
end Go.Proofs.YtoaiamgcegnjjaaGreatDoor
