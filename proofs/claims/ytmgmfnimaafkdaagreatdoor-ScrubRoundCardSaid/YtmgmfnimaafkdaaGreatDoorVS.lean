/- store.numbers: the numbers that a text of words has. -/
import Derived.Test.YtmgmfnimaafkdaaGreatDoorVP
import Derived.Test.YtmgmfnimaafkdaaGreatDoorVR
import Derived.Test.YtmgmfnimaafkdaaGreatDoorVQ
import Derived.Test.YtmgmfnimaafkdaaGreatDoorVB
import Derived.RangeFuncNested
import Derived.RangeFuncBound
import Derived.RangeFuncCalls
import Derived.RangeFuncLeaves
import Derived.Shelf.Abstract
import Derived.Shelf.RegionOpen
import Derived.WalkKit
import Derived.OwnWalkIn
import Derived.TacticsInMore
import Derived.LoopNIn
import Derived.LoopIn
import Derived.Lib.ConvBytes
import Derived.Laws.MakeOwn
namespace Go.Proofs.YtmgmfnimaafkdaaGreatDoor
section
open Go.RowKit Go.Maps Go.Shelf
set_option maxRecDepth 100000
attribute [local go_sem] Oper.semAt_some

section
variable {F : Fence} {n : Nat} {P : Program}
def onPost (B : Nat) (Kp : World → World → Prop) (I : World → Prop) (W : World) : Exit → Act → World → Prop
 | .normal, _, W' => KeepsFrom B W W' ∧ Kp W W' ∧ I W'
 | _, _, _ => False
theorem rangeFunc_on {α : Type} {g : Operand} {ps : Array Tmp} {assign body : Code} {Q : Exit → Act → World → Prop} {a : Act} {w : World} (hro : F.round = none) (h1 : 1 ≤ n) {gf : Nat} {lb : Array Value}
  (hg : a.eval g = .func (.func gf) #[] lb) (hFg : F.fn gf) (eg : ∀ args w, (callFunc gf args).run P w = .ok (.enter gf args) w) {encs : α → Array Value} (hps : ∀ x, (encs x).size = ps.size)
  (words : List α) (Kp : World → World → Prop) (hKt : ∀ {A B C : World}, Kp A B → Kp B C → Kp A C) (hKb : ∀ (W : World) (l : Nat) (o : Obj), w.heap.size ≤ l → Kp W (W.putObj l o))
  (I : List α → World → Prop) (hI : OwnFrom w.heap.size I) (h0 : I [] w) (a1 : α → Act)
  (hseq : ∀ (l : Nat) (J : List α → World → Prop) (W1 : World), w.heap.size ≤ l → (∀ k, k < w.heap.size → W1.heap[k]? = w.heap[k]?) → (∀ pre W, J pre W → I pre W) → (∀ pre W W', J pre W → I pre W' → KeepsFrom w.heap.size W W' → J pre W') →
   (∀ pre x W, pre ++ [x] <+: words → J pre W → YieldAt F (n - 1 - 1) P l (encs x) W fun e W' => e = .returned (.bool true) ∧ J (pre ++ [x]) W' ∧ Kp W W') → J [] W1 →
   CallsIn F (n - 1) P gf (#[.func (.yield l) #[] #[]] ++ lb) W1 fun e W' => (∃ v, e = .returned v) ∧ J words W')
  (hassign : ∀ (l : Nat) (x : α) (W : World) (K : Act → World → Prop), K (a1 x) W → assign.wpIn (F.inRound l) (n - 1 - 1) P (Exit.then K (fun _ _ _ => False)) { tmps := (ps.zip (encs x)).foldl (fun t (p, v) => t.setIfInBounds p v) a.tmps, defers := [] } W)
  (hbody : ∀ (l : Nat) (pre : List α) (x : α) (W : World), I pre W → pre ++ [x] <+: words → body.wpIn (F.inRound l) (n - 1 - 1) P (onPost w.heap.size Kp (I (pre ++ [x])) W) (a1 x) W)
  (hdone : ∀ (D : Nat) (W : World), w.heap.size ≤ D → I words W → W.heap[D]? = some (.deferred (some [])) → Q .normal { a with defers := { target := .collected D, args := #[] } :: a.defers } W) :
  (Code.rangeFunc g ps assign body).wpIn F n P Q a w := by
 refine wpIn_rangeFunc ?_
 intro fn hfn
 rw [hro]
 obtain ⟨rc, hrc⟩ : ∃ rc : LoopState → Loop, rc = fun st => { state := st, pending := none, fn, tmps := a.tmps, params := ps, assign, body, defers := w.heap.size } := ⟨_, rfl⟩
 obtain ⟨z, hz⟩ : ∃ z, z = w.heap.size := ⟨_, rfl⟩
 have hW : ∃ W1, W1 = (w.alloc (.deferred (some []))).alloc (.loop (rc .ready)) := ⟨_, rfl⟩
 obtain ⟨W1, hW1⟩ := hW
 have eL : W1.heap[z + 1]? = some (.loop (rc .ready)) := by
  have := World.alloc_heap_new (w.alloc (.deferred (some []))) (.loop (rc .ready))
  rw [World.size_alloc, ← hW1, ← hz] at this
  exact this
 have eD : W1.heap[z]? = some (.deferred (some [])) := by
  rw [hW1, hz]
  exact (Below.heap_alloc _ _ _ (by simp)).trans (World.alloc_heap_new w _)
 have eO : ∀ k, k < w.heap.size → W1.heap[k]? = w.heap[k]? := fun k hk => by
  rw [hW1]
  exact (Below.heap_alloc _ _ k (by simp; omega)).trans (Below.heap_alloc _ _ k hk)
 have eI : I [] W1 := by rw [hW1]; exact hI.alloc _ (hI.alloc _ h0)
 refine ⟨z + 1, [{ target := .collected z, args := #[] }], W1, { target := .fn (.func gf) lb, args := #[.func (.yield (z + 1)) #[] #[]] }, W1, gf, #[.func (.yield (z + 1)) #[] #[]] ++ lb, W1, ?_, ?_, ?_, ?_, fun _ => h1, ?_⟩
 ·rw [hW1, hrc, hz]; exact run_enterLoop_outer _ _ _ _ _
 ·simp only [resolve, hg]
  simp [go_sem]
 ·intro f' hf'; simp [Target.leads] at hf'; subst hf'; exact hFg
 ·simp [invoke, go_sem, eg]
 obtain ⟨J, hJ⟩ : ∃ J : List α → World → Prop, J = fun pre W => I pre W ∧ W.heap[z + 1]? = some (.loop (rc .ready)) ∧ W.heap[z]? = some (.deferred (some [])) := ⟨_, rfl⟩
 refine (hseq (z + 1) J W1 (by omega) eO (fun pre W h => by rw [hJ] at h; exact h.1) (fun pre W W' h hi hk => ?_) (fun pre x W hpre h => ?_) (by rw [hJ]; exact ⟨eI, eL, eD⟩)).mono ?_
 ·rw [hJ] at h ⊢
  exact ⟨hi, hk.same _ _ (by omega) h.2.1 rfl, hk.same _ _ (by omega) h.2.2 rfl⟩
 ·rw [hJ] at h
  obtain ⟨hi, hl, hd⟩ := h
  have hlt := (Array.getElem?_eq_some_iff.1 hl).1
  have hy := run_yield (P := P) (args := encs x) hl (by rw [hrc]; exact hps x)
  rw [hrc] at hy
  refine ⟨fn, _, assign, body, hy, roundIn_of_wpIn hfn (hassign _ x W _ ?_)⟩
  clear hy
  refine ⟨_, run_beginRound hl (by rw [hrc]), ?_⟩
  obtain ⟨X, hX⟩ : ∃ X, X = W.putObj (z + 1) (.loop { rc .ready with state := .busy }) := ⟨_, rfl⟩
  rw [← hX]
  have xl : X.heap[z + 1]? = some (.loop { rc .ready with state := .busy }) := by rw [hX]; exact World.putObj_heap_same hlt
  have xd : X.heap[z]? = some (.deferred (some [])) := by rw [hX]; exact (World.putObj_heap_other (by omega)).trans hd
  have xi : I pre X := by rw [hX]; exact hI.putObj _ hi (by omega) hl rfl
  have xk : Kp W X := by rw [hX]; exact hKb _ _ _ (by omega)
  refine wpIn_mono (hbody _ pre x X xi hpre) ?_
  rintro e a3 W3 hp
  cases e with
  | normal =>
   obtain ⟨hk3, hkp3, hi3⟩ := hp
   have l3 := hk3.same _ _ (by omega) xl rfl
   have d3 := hk3.same _ _ (by omega) xd rfl
   have hr := run_endRound (P := P) none l3
   refine ⟨_, _, hr, rfl, ?_, ?_⟩
   ·rw [hJ]
    refine ⟨hI.putObj _ hi3 (by omega) l3 rfl, ?_, (World.putObj_heap_other (by omega)).trans d3⟩
    rw [World.putObj_heap_same (Array.getElem?_eq_some_iff.1 l3).1, hrc]
    rfl
   ·exact hKt xk (hKt hkp3 (hKb _ _ _ (by omega)))
  | ret => exact hp.elim
  | exit id => exact hp.elim
  | goto t => exact hp.elim
  | panic ch => exact hp.elim
  | outgrown => exact hp.elim
 ·rintro e W2 ⟨⟨v, rfl⟩, h2⟩
  rw [hJ] at h2
  obtain ⟨hi, hl, hd⟩ := h2
  have he := run_endLoop (P := P) hl (by rw [hrc]; simp)
  refine ⟨none, _, by rw [hrc] at he; exact he, hdone z _ (by omega) (hI.putObj _ hi (by omega) hl rfl) ((World.putObj_heap_other (by omega)).trans hd)⟩
end
inductive Cuts : List UInt8 → List (List UInt8) → Prop
 | last {s : List UInt8} (h : Lib.indexByte s 32 = -1) : Cuts s [s]
 | more {s : List UInt8} {i : Nat} {r : List (List UInt8)} (h : Lib.indexByte s 32 = (i : Nat)) (hi : i < s.length) (k : Cuts (s.drop (i + 1)) r) : Cuts s (s.take i :: r)
theorem Cuts.ne {s : List UInt8} {l : List (List UInt8)} (h : Cuts s l) : l ≠ [] := by cases h <;> simp
def boxSize (W : World) (sb : Nat) : Nat := match W.cell? ⟨sb, 0, none⟩ with
 | some (.string b) => b.size
 | _ => 0
theorem Boxed.of_cell {W : World} {sb : Nat} {s : List UInt8} (h : Boxed W sb 9 (strV s)) : boxSize W sb = s.length := by
 unfold boxSize
 rw [h.cell]
 simp [strV, ByteArray.size]
theorem str_take (s : List UInt8) (i : Nat) : (⟨s.toArray⟩ : ByteArray).extract 0 i = ⟨(s.take i).toArray⟩ := by
 apply ByteArray.ext; rw [ByteArray.data_extract]; simp
theorem str_to (s : List UInt8) (i : Nat) (hi : i ≤ s.length) (w : World) : (Instr.slice 9 (strV s) none (some (.int .i64 i)) none).run Tryz.prog w = .ok (strV (s.take i)) w := by
 unfold strV
 rw [run_slice_string_to_if _ _ _ _ _ Tryz.underlying9, if_pos (by simp [ByteArray.size]; omega)]
 congr 2
 rw [← str_take]
 simp
theorem str_from (s : List UInt8) (i : Nat) (hi : i ≤ s.length) (w : World) : (Instr.slice 9 (strV s) (some (.int .i64 i)) none none).run Tryz.prog w = .ok (strV (s.drop i)) w := by
 unfold strV
 rw [run_slice_string_from_if _ _ _ _ _ Tryz.underlying9, if_pos (by simp [ByteArray.size]; omega)]
 congr 2
 apply ByteArray.ext; rw [ByteArray.data_extract]; simp [ByteArray.size]; rw [List.take_of_length_le (by simp)]
set_option maxHeartbeats 8000000 in
theorem splitSeq_in (n l B : Nat) (hn : 1 ≤ n) (pb sb kb : Nat) (s : List UInt8) (words : List (List UInt8)) (hcut : Cuts s words) (I J : List (List UInt8) → World → Prop) (hsl : s.length < 4611686018427387904)
  (hIX : ∀ (s : List UInt8) (w : World), Calls Tryz.prog 225 #[strV s, .string ⟨#[32]⟩] w fun e w' => e = .returned (.int .i64 (Lib.indexByte s 32)) ∧ w = w')
  (hbox : ∀ pre W, I pre W → Boxed W pb 9 (.string ⟨#[32]⟩) ∧ Boxed W kb 3 (.int .i64 0) ∧ ∃ v, Boxed W sb 9 v)
  (hset : ∀ pre W u, I pre W → I pre (W.setCell ⟨sb, 0, none⟩ u)) (hJI : ∀ pre W, J pre W → I pre W) (hJ : ∀ pre W W', J pre W → I pre W' → KeepsFrom B W W' → J pre W')
  (hY : ∀ pre x W, pre ++ [x] <+: words → J pre W → YieldAt Fence.wide (n - 1) Tryz.prog l #[strV x] W fun e W' => e = .returned (.bool true) ∧ J (pre ++ [x]) W' ∧ W'.heap[sb]? = W.heap[sb]?)
  (W1 : World) (hs : Boxed W1 sb 9 (strV s)) (h0 : J [] W1) :
  CallsIn Fence.wide n Tryz.prog 223 (#[.func (.yield l) #[] #[]] ++ #[.pointer (some ⟨pb, 0, none⟩), .pointer (some ⟨sb, 0, none⟩), .pointer (some ⟨kb, 0, none⟩)]) W1 fun e W' => (∃ v, e = .returned v) ∧ J words W' := by
 obtain ⟨bp, bk, _⟩ := hbox _ _ (hJI _ _ h0)
 have cp := bp.cell
 have h225 : Fence.wide.fn 225 := trivial
 refine callsIn_of_wp Tryz.func223 rfl trivial ?_ rfl
 simp only [Tryz.ntmps223, List.size_toArray, List.length_cons, List.length_nil, Nat.reduceAdd, Nat.reduceSub, Array.replicate_succ, Array.replicate_zero, List.push_toArray, List.append_toArray, List.nil_append, List.cons_append]
 gi_wp2
 clear cp
 gi_loopw [7] (fun _ wr => ∃ (pre rest : List (List UInt8)) (cur : List UInt8), words = pre ++ rest ∧ Cuts cur rest ∧ Boxed wr sb 9 (strV cur) ∧ J pre wr ∧ cur.length < 4611686018427387904) (fun _ wr => boxSize wr sb)
 case atStart => exact ⟨[], words, s, rfl, hcut, hs, h0, hsl⟩
 case round =>
  obtain ⟨pre, rest, cur, hw, hc, hb, hj, hcl⟩ := hrel
  obtain ⟨bp', bk', _⟩ := hbox _ _ (hJI _ _ hj)
  have cp := bp'.cell
  have ck := bk'.cell
  have cs := hb.cell
  have HIX := hZ9 hIX
  have HSZ := hZ9 (Boxed.of_cell hb)
  cases hc with
  | last h =>
   obtain ⟨fn, tmps, assign, body, hy, hR⟩ := hY pre cur wr ⟨[], by rw [hw]; simp⟩ hj
   have HC := hZ9 (show Calls Tryz.prog 225 #[strV cur, .string ⟨#[32]⟩] wr fun e w' => e = .returned (.int .i64 (-1)) ∧ wr = w' from by have := HIX.out cur wr; rw [h] at this; exact this)
   gi_wp2_with (first
    | (gi_at_call 225; refine (callsIn_wide.2 HC.out).mono ?_; rintro en w' ⟨rfl, rfl⟩))
   refine hR.mono ?_
   rintro e W3 ⟨rfl, hJ3, hk3⟩
   gi_wp2
   go_end0
   exact ⟨⟨_, rfl⟩, by rw [hw]; exact hJ3⟩
  | @more _ i r h hi k =>
   obtain ⟨fn, tmps, assign, body, hy, hR⟩ := hY pre (cur.take i) wr ⟨r, by rw [hw]; simp⟩ hj
   have HC := hZ9 (show Calls Tryz.prog 225 #[strV cur, .string ⟨#[32]⟩] wr fun e w' => e = .returned (.int .i64 (i : Nat)) ∧ wr = w' from by have := HIX.out cur wr; rw [h] at this; exact this)
   have hi0 : ¬ ((i : Int) < 0) := by omega
   have hs1 := fun W => str_to cur i (by omega) W
   have hs2 : ∀ W, (Instr.slice 9 (strV cur) (some (.int .i64 ((i : Int) + 1))) none none).run Tryz.prog W = .ok (.string ⟨(cur.drop (i + 1)).toArray⟩) W := fun W => str_from cur (i + 1) (by omega) W
   have hj1 := hJ pre
   gi_wp2_with (first
    | (gi_at_call 225; refine (callsIn_wide.2 HC.out).mono ?_; rintro en w' ⟨rfl, rfl⟩))
   refine hR.mono ?_
   rintro e W3 ⟨rfl, hJ3, hk3⟩
   have hb3 : Boxed W3 sb 9 (strV cur) := hk3.trans hb
   obtain ⟨bp3, bk3, _⟩ := hbox _ _ (hJI _ _ hJ3)
   have cp3 := bp3.cell
   have cs3 := hb3.cell
   have fs3 := hb3.frozen
   gi_wp2
   have hi4 := hset _ _ (strV (cur.drop (i + 1))) (hJI _ _ hJ3)
   have hb4 : Boxed (W3.setCell ⟨sb, 0, none⟩ (strV (cur.drop (i + 1)))) sb 9 (strV (cur.drop (i + 1))) := by
    have := Blk.set (t := 9) (cs := #[strV cur]) hb3 0 (strV (cur.drop (i + 1)))
    exact this
   have hj4 := hJ _ _ _ hJ3 hi4 ((KeepsOthers.setCell _ _ _).from _)
   go_roundw
   case rel => exact ⟨pre ++ [cur.take i], r, cur.drop (i + 1), by rw [hw]; simp, k, hb4, hj4, by rw [List.length_drop]; omega⟩
   case measure =>
    have e4 := Boxed.of_cell hb4
    unfold strV at e4
    rw [HSZ.out, e4, List.length_drop]; omega
end
section
open Go.RowKit Go.Maps Go.Shelf
set_option maxRecDepth 100000

theorem cuts_one {w : List UInt8} (h : (32 : UInt8) ∉ w) : Cuts w [w] := .last (index_out w h)
theorem cuts_join : ∀ (x : List UInt8) (ws : List (List UInt8)), (∀ w ∈ x :: ws, (32 : UInt8) ∉ w) → Cuts (Lib.join (x :: ws) [32]) (x :: ws)
 | x, [], h => by rw [Lib.join_one]; exact cuts_one (h x (by simp))
 | x, y :: ws, h => by
  have ih := cuts_join y ws (fun w hw => h w (List.mem_cons_of_mem _ hw))
  have hj : Lib.join (x :: y :: ws) [32] = x ++ 32 :: Lib.join (y :: ws) [32] := by
   rw [Lib.join_cons, Lib.join_cons]
   simp [Lib.joinTail]
  rw [hj]
  have hi := index_in x (Lib.join (y :: ws) [32]) (h x (by simp))
  have k := Cuts.more (s := x ++ 32 :: Lib.join (y :: ws) [32]) (i := x.length) (r := y :: ws) hi (by simp) (by
   have e : (x ++ 32 :: Lib.join (y :: ws) [32]).drop (x.length + 1) = Lib.join (y :: ws) [32] := by
    rw [show x ++ 32 :: Lib.join (y :: ws) [32] = (x ++ [32]) ++ Lib.join (y :: ws) [32] by simp, List.drop_append]
    simp
   rw [e]; exact ih)
  simpa using k
theorem cuts_words {ns : List Int} (h : ns ≠ []) : Cuts (wordsS ns) (ns.map Lib.itoa) := by
 cases ns with
 | nil => exact absurd rfl h
 | cons a r =>
  unfold wordsS
  rw [List.map_cons]
  refine cuts_join _ _ fun w hw => ?_
  rcases List.mem_cons.1 hw with rfl | hw
  ·exact itoa_no32 _
  ·obtain ⟨x, _, rfl⟩ := List.mem_map.1 hw
   exact itoa_no32 _
theorem keeps_of_below {w w' : World} (h : Below w.heap.size w w') : KeepsOthers w w' := ⟨h.size, fun k _ hk _ => (h.block k (Array.getElem?_eq_some_iff.1 hk).1).trans hk⟩
theorem parse_any (n : Int) (h0 : -9223372036854775808 ≤ n) (h1 : n ≤ 9223372036854775807) (w : World) :
  Calls Tryz.prog 169 #[strV (Lib.itoa n), .int .i64 10, .int .i64 64] w fun e w' => e = .returned (.tuple #[.int .i64 n, .nilIface]) ∧ Below w.heap.size w w' := by
 have hs : (⟨(Lib.itoa n).toArray⟩ : ByteArray).size = (Lib.itoa n).length := by simp [ByteArray.size]
 have hl := Lib.itoa_length_le n h0 h1
 refine (Tryz.strconv_ParseInt_10_at64_ok ⟨(Lib.itoa n).toArray⟩ (by omega) n (by simpa using parse_itoa h0 h1) w).mono ?_
 rintro e w' ⟨rfl, rfl | ⟨t, rfl⟩⟩
 ·exact ⟨rfl, bR0⟩
 ·exact ⟨rfl, by unfold Lib.bytesWorld World.freeze; rfl, by unfold Lib.bytesWorld World.freeze; rfl, by unfold Lib.bytesWorld World.freeze; rfl, by rw [Lib.bytesWorld_size]; omega, fun k hk => Lib.bytesWorld_at_old _ _ _ _ hk⟩
theorem index_any (s : List UInt8) (w : World) : Calls Tryz.prog 225 #[strV s, .string ⟨#[32]⟩] w fun e w' => e = .returned (.int .i64 (Lib.indexByte s 32)) ∧ w = w' := by
 refine (Tryz.strings_Index_one ⟨s.toArray⟩ 32 w).mono ?_
 rintro e w' ⟨rfl, rfl⟩
 exact ⟨by simp, rfl⟩
theorem splitSeq_any (s : List UInt8) (w : World) : Calls Tryz.prog 168 #[strV s, .string ⟨#[32]⟩] w fun e w' => e = .returned (.func (.func 223) #[] #[.pointer (some ⟨w.heap.size + 1, 0, none⟩), .pointer (some ⟨w.heap.size, 0, none⟩), .pointer (some ⟨w.heap.size + 2, 0, none⟩)]) ∧
  w' = ((w.alloc (.cells #[strV s] 9)).alloc (.cells #[.string ⟨#[32]⟩] 9)).alloc (.cells #[.int .i64 0] 3) := by
 have H : ∀ w, Calls Tryz.prog 192 #[strV s, .string ⟨#[32]⟩, .int .i64 0] w fun e w' => e = .returned (.func (.func 223) #[] #[.pointer (some ⟨w.heap.size + 1, 0, none⟩), .pointer (some ⟨w.heap.size, 0, none⟩), .pointer (some ⟨w.heap.size + 2, 0, none⟩)]) ∧
  w' = ((w.alloc (.cells #[strV s] 9)).alloc (.cells #[.string ⟨#[32]⟩] 9)).alloc (.cells #[.int .i64 0] 3) := by
  intro w
  go_enter Tryz.func192, Tryz.ntmps192
  go_wp2_with fail
  go_ret
  exact ⟨rfl, rfl⟩
 go_enter Tryz.func168, Tryz.ntmps168
 go_wp2_with (go_at_call 192; refine (H _).mono ?_; rintro en w' ⟨rfl, rfl⟩)
 go_ret
 exact ⟨rfl, rfl⟩
end
section
open Go.RowKit Go.Maps Go.Shelf
set_option maxRecDepth 100000
attribute [local go_sem] Oper.semAt_some

theorem under83 : Tryz.prog.underlying 83 = some (.slice 2) := by kernel_rfl
theorem info2 : (Tryz.prog.info? 2).map (fun i => (i.zero, i.size, i.bytes)) = some (some (.int .i64 0), 1, 8) := by kernel_rfl
structure NumI (w : World) (lb : Nat) (ns : List Int) (pre : List (List UInt8)) (W : World) : Prop where
 box : ∃ v, Boxed W lb 83 v ∧ W.ownsRow w.heap.size 2 1 v pre.length (numVs (ns.take pre.length))
 pb : Boxed W (lb + 2) 9 (.string ⟨#[32]⟩)
 kb : Boxed W (lb + 3) 3 (.int .i64 0)
 sb : ∃ u, Boxed W (lb + 1) 9 u
 r0 : Blk W w.heap.size 83 #[.slice none 0 0]
 r1 : Blk W (w.heap.size + 1) 4 #[.bool false]
 below : Below w.heap.size w W
theorem not_cells {W : World} {row : Option Nat} {k : Nat} {cs : Array Value} {t : TypeId} {f : Nat × Nat} (hk : W.heap[k]? = some (.cells cs t f)) (hr : ∀ r, row = some r → ∃ o : Obj, W.heap[r]? = some o ∧ o.isCells = false) : row ≠ some k := fun e => by
 obtain ⟨o, ho, hc⟩ := hr k e
 rw [hk] at ho
 cases ho; cases hc
theorem own_not_cells {W : World} {base e size n : Nat} {v : Value} {xs : List Value} {row : Option Nat} (h : W.ownsRow base e size v n xs) (hr : ∀ r, row = some r → ∃ o : Obj, W.heap[r]? = some o ∧ o.isCells = false) : ∀ g, v.ownBlock = some g → row ≠ some g := fun g hg => by
 rcases h.2 with ⟨rfl, _⟩ | ⟨g', cap, cur, rfl, _, hgb, _⟩
 ·simp [Value.ownBlock] at hg
 ·have : g' = g := by simpa [Value.ownBlock] using hg
  subst this
  exact not_cells hgb hr
theorem NumI.keep {w W W' : World} {lb : Nat} {ns : List Int} {pre : List (List UInt8)} {row : Option Nat} (h : NumI w lb ns pre W) (hg : W.grownBy W' row) (hr : ∀ r, row = some r → ∃ o : Obj, W.heap[r]? = some o ∧ o.isCells = false) (hB : ∀ r, row = some r → w.heap.size ≤ r) : NumI w lb ns pre W' := by
 obtain ⟨⟨v, hv, ho⟩, h1, h2, ⟨u, h3⟩, h4, h5, h6⟩ := h
 exact ⟨⟨v, hv.kept hg (not_cells hv hr).symm, own_kept ho hg (own_not_cells ho hr)⟩, h1.kept hg (not_cells h1 hr).symm, h2.kept hg (not_cells h2 hr).symm, ⟨u, h3.kept hg (not_cells h3 hr).symm⟩, h4.grown hg (not_cells h4 hr), h5.grown hg (not_cells h5 hr), h6.grown hg h6.size hB⟩
theorem NumI.belowW {w W W' : World} {lb : Nat} {ns : List Int} {pre : List (List UInt8)} (h : NumI w lb ns pre W) (hb : Below W.heap.size W W') : NumI w lb ns pre W' :=
 h.keep (row := none) (gby_of_below hb) (fun r e => by cases e) (fun r e => by cases e)
theorem NumI.set {w W : World} {lb : Nat} {ns : List Int} {pre : List (List UInt8)} (h : NumI w lb ns pre W) (hlb : w.heap.size + 2 ≤ lb) (u : Value) : NumI w lb ns pre (W.setCell ⟨lb + 1, 0, none⟩ u) := by
 obtain ⟨⟨v, hv, ho⟩, h1, h2, ⟨u', h3⟩, h4, h5, h6⟩ := h
 exact ⟨⟨v, hv.other (by omega) u, own_kept ho (grownBy_setCell' W (lb + 1) u) (fun g hg e => h3.not_row (by decide) ho (by rw [hg, ← e]))⟩, h1.other (by omega) u, h2.other (by omega) u, ⟨u, h3.set u⟩, h4.far (by omega) u, h5.far (by omega) u, below_set h6 (by omega) u⟩
theorem prefix_at {α : Type} [Inhabited α] {pre : List α} {x : α} {l : List α} (h : pre ++ [x] <+: l) : ∃ hk : pre.length < l.length, l[pre.length] = x := by
 obtain ⟨r, rfl⟩ := h
 exact ⟨by simp, by simp⟩
set_option maxHeartbeats 8000000 in
theorem numbers_any {w : World} (ns : List Int) (hne : ns ≠ []) (hl : ns.length ≤ 1000) (hn : ∀ x ∈ ns, -9223372036854775808 ≤ x ∧ x ≤ 9223372036854775807) (ht : Tb w) :
  Calls Tryz.prog 115 #[strV (wordsS ns), .int .i64 ns.length] w fun e w' => ∃ A c, e = .returned (.tuple #[.slice A ns.length c, .bool true]) ∧ Rd w' w'.heap.size 1 A ns.length (numVs ns) ∧ Below w.heap.size w w' := by
 refine (callsIn_wide (n := 6)).1 ?_
 obtain ⟨i0, hi, hz0, hz1, hz2⟩ := info_parts info2
 have h168 : Fence.wide.fn 168 := trivial
 have h123 : Fence.wide.fn 123 := trivial
 have HB0 : Below w.heap.size w ((w.alloc (.cells #[.slice none 0 0] 83)).alloc (.cells #[.bool false] 4)) := (bR0.alloc nR0 _).alloc (by simp) _
 obtain ⟨w2, hrun, hown, hgr⟩ := run_make_own (P := Tryz.prog) ((w.alloc (.cells #[.slice none 0 0] 83)).alloc (.cells #[.bool false] 4)) w.heap.size 83 2 i0 _ 1 under83 hi hz0 hz1 .i64 .i64 ns.length (by rw [hz2]; omega) (by unfold maxLen; omega) HB0.size
 refine callsIn_of_wp_marks Tryz.func115 rfl trivial ?_ rfl
 simp only [Tryz.ntmps115, List.size_toArray, List.length_cons, List.length_nil, Nat.reduceAdd, Nat.reduceSub, Array.replicate_succ, Array.replicate_zero, List.push_toArray, List.append_toArray, List.nil_append, List.cons_append]
 gi_wp2_with (gi_at_call 168; refine (callsIn_wide.2 (splitSeq_any _ _)).mono ?_; rintro e w' ⟨rfl, rfl⟩)
 have hsz2 : w2.heap.size = w2.heap.size := rfl
 have hB2 : Below w.heap.size w w2 := HB0.grown hgr HB0.size (fun k e => by cases e)
 have hz2' : w.heap.size + 2 ≤ w2.heap.size := by have := hgr.size; simpa using this
 have r0' : Blk w2 w.heap.size 83 #[.slice none 0 0] := ((Blk.new w 83 _).alloc _).grown hgr (by simp)
 have r1' : Blk w2 (w.heap.size + 1) 4 #[.bool false] := Blk.grown (Blk.new_eq0 (by simp)) hgr (by simp)
 have hv : Value.slice (some ⟨w.heap.size + 1 + 1, 0, none⟩) 0 ns.length = .slice (some ⟨((w.alloc (.cells #[.slice none 0 0] 83)).alloc (.cells #[.bool false] 4)).heap.size, 0, none⟩) 0 ns.length := by simp
 obtain ⟨W0, hW0⟩ : ∃ W0, W0 = ((((w2.alloc (.cells #[.slice (some ⟨w.heap.size + 1 + 1, 0, none⟩) 0 ns.length] 83)).alloc (.cells #[strV (wordsS ns)] 9)).alloc (.cells #[.string ⟨#[32]⟩] 9)).alloc (.cells #[.int .i64 0] 3)) := ⟨_, rfl⟩
 have hW0s : W0.heap.size = w2.heap.size + 4 := by rw [hW0]; simp
 have hI0 : NumI w w2.heap.size ns [] W0 := by
  rw [hW0]
  refine ⟨⟨_, (((Boxed.new w2 83 _).alloc _).alloc _).alloc _, ?_⟩, ?_, ?_, ⟨strV (wordsS ns), ?_⟩, (((r0'.alloc _).alloc _).alloc _).alloc _, (((r1'.alloc _).alloc _).alloc _).alloc _, (((hB2.alloc hB2.size _).alloc (by simp; have := hB2.size; omega) _).alloc (by simp; have := hB2.size; omega) _).alloc (by simp; have := hB2.size; omega) _⟩
  ·rw [hv]
   exact (((hown.alloc _).alloc _).alloc _).alloc _
  ·have := Boxed.new ((w2.alloc (.cells #[.slice (some ⟨w.heap.size + 1 + 1, 0, none⟩) 0 ns.length] 83)).alloc (.cells #[strV (wordsS ns)] 9)) 9 (.string ⟨#[32]⟩)
   simp only [World.size_alloc] at this
   exact this.alloc _
  ·have := Boxed.new (((w2.alloc (.cells #[.slice (some ⟨w.heap.size + 1 + 1, 0, none⟩) 0 ns.length] 83)).alloc (.cells #[strV (wordsS ns)] 9)).alloc (.cells #[.string ⟨#[32]⟩] 9)) 3 (.int .i64 0)
   simp only [World.size_alloc] at this
   exact this
  ·have := Boxed.new (w2.alloc (.cells #[.slice (some ⟨w.heap.size + 1 + 1, 0, none⟩) 0 ns.length] 83)) 9 (strV (wordsS ns))
   simp only [World.size_alloc] at this
   exact (this.alloc _).alloc _
 have hsb0 : Boxed W0 (w2.heap.size + 1) 9 (strV (wordsS ns)) := by
  rw [hW0]
  have := Boxed.new (w2.alloc (.cells #[.slice (some ⟨w.heap.size + 1 + 1, 0, none⟩) 0 ns.length] 83)) 9 (strV (wordsS ns))
  simp only [World.size_alloc] at this
  exact (this.alloc _).alloc _
 rw [← hW0]
 clear hW0 hB2 r0' r1' hv hgr hrun hown HB0
 clear hsz2
 generalize w2.heap.size = lb at *
 have hlen : (ns.map Lib.itoa).length = ns.length := List.length_map _
 have hwl := words_len ns hn
 refine rangeFunc_on (α := List UInt8) (encs := fun x => #[strV x]) rfl (by omega) (gf := 223) (lb := #[.pointer (some ⟨lb + 1 + 1, 0, none⟩), .pointer (some ⟨lb + 1, 0, none⟩), .pointer (some ⟨lb + 1 + 2, 0, none⟩)]) rfl trivial (enters_of Tryz.func223 (by kernel_rfl) rfl) (fun _ => rfl)
  (ns.map Lib.itoa) (fun A B => B.heap[lb + 1]? = A.heap[lb + 1]?) (fun h k => k.trans h) (fun W l o hl => World.putObj_heap_other (by omega))
  (NumI w lb ns) (fun pre A B row hs hg hr => hs.keep hg (fun r e => (hr r e).2) (fun r e => by have := (hr r e).1; omega)) hI0
  (fun x => { tmps := #[strV (wordsS ns), .int .i64 ns.length, undef, undef, .pointer (some ⟨w.heap.size, 0, none⟩), .pointer (some ⟨w.heap.size + 1, 0, none⟩), .pointer (some ⟨lb, 0, none⟩), strV x, undef, undef, .int .i64 ns.length, .slice (some ⟨w.heap.size + 1 + 1, 0, none⟩) 0 ns.length, strV (wordsS ns), .func (.func 223) #[] #[.pointer (some ⟨lb + 1 + 1, 0, none⟩), .pointer (some ⟨lb + 1, 0, none⟩), .pointer (some ⟨lb + 1 + 2, 0, none⟩)], strV x, undef, undef, undef, undef, undef, undef, undef, undef, undef, undef, undef, undef, undef, undef, undef, undef, undef, undef, undef, undef, undef, undef], defers := [] })
  (fun l J W1 hl hold hJI hJk hY h0 => splitSeq_in 5 l W0.heap.size (by omega) (lb + 2) (lb + 1) (lb + 3) (wordsS ns) (ns.map Lib.itoa) (cuts_words hne) (NumI w lb ns) J (by omega) index_any (fun pre W h => ⟨h.pb, h.kb, h.sb⟩) (fun pre W u h => h.set (by omega) u) hJI hJk hY W1 ((hold (lb + 1) (by omega)).trans hsb0) h0) ?assign ?body ?done
 case assign =>
  intro l x W K hK
  gi_wp2
  exact hK
 case body =>
  rintro l pre x W hI hpre
  obtain ⟨hk, hx⟩ := prefix_at hpre
  rw [hlen] at hk
  have hxn : x = Lib.itoa ns[pre.length] := by rw [← hx]; simp
  subst hxn
  have hb := hn _ (List.getElem_mem hk)
  have htk : ns.take (pre.length + 1) = ns.take pre.length ++ [ns[pre.length]] := List.take_succ_eq_append_getElem hk
  generalize ns[pre.length] = y at *
  have h169 : Fence.wide.fn 169 := trivial
  clear hx
  gi_wp2_with (first
   | (gi_at_call 169; refine (CallsIn.inRound l (callsIn_wide.2 (parse_any y hb.1 hb.2 W))).mono ?_; rintro e W3 ⟨rfl, hb3⟩; have hI3 := hI.belowW hb3; obtain ⟨v, hv, ho⟩ := hI3.box; have hc3 := hv.cell)
   | (gi_at_builtin; refine wpListIn_append_own _ rfl _ _ 83 rfl w.heap.size 2 i0 _ 1 8 under83 hi hz0 hz1 hz2 rfl (by decide) _ _ _ rfl (ho.alloc _) ⟨W3.heap.size, 0, none⟩ 1 1 [.int .i64 y] rfl rfl (cell_one_new _ _ _) (by simp [Value.oneCell']) (by unfold maxLen; omega) (by omega) (by have := hI3.below.size; simp; omega) ?_; intro v' w1 hown' hgrow _; obtain ⟨g', cap', rfl⟩ := ownsRow_succ hown'; obtain ⟨hv1, hv2, hr2, hk2, hb2⟩ := hv.appended (by decide) ho hI3.below.size (by omega) hown' hgrow; have hc1 := hv1.cell; have hf1 := hv1.frozen))
  have hno : ∀ {b : Nat} {t : TypeId} {u : Value}, Boxed W3 b t u → t ≠ 2 → b ≠ lb → Boxed (w1.setCell ⟨lb, 0, none⟩ (.slice (some ⟨g', 0, none⟩) (pre.length + 1) cap')) b t u := fun h ht hb => ((h.alloc _).kept hgrow (h.not_row ht ho)).other hb _
  have hkp := (keeps_of_below hb3).trans hk2
  obtain ⟨u, hu⟩ := hI3.sb
  have hu' := hno hu (by decide) (by omega)
  refine ⟨hkp.from _, hu'.trans ((hb3.block _ hI.sb.choose_spec.lt).symm.trans hu).symm, ⟨⟨_, hv2, ?_⟩, hno hI3.pb (by decide) (by omega), hno hI3.kb (by decide) (by omega), ⟨u, hu'⟩, hno hI3.r0 (by decide) (by omega), hno hI3.r1 (by decide) (by omega), hI3.below.trans hb2⟩⟩
  rw [List.length_append, List.length_singleton, htk]
  unfold numVs
  rw [List.map_append]
  exact hr2
 case done =>
  intro D W hD hI hD2
  obtain ⟨v, hv, ho⟩ := hI.box
  rw [hlen, List.take_length] at ho
  have hc := hv.cell
  obtain ⟨A, c, rfl, hc0⟩ := own_form ho
  have hrd := own_rd ho
  have hcd : W.drew.cell? ⟨lb, 0, none⟩ = some (.slice A ns.length c) := hc
  have hbx := hv.lt
  have HV := hZ9 hv
  have HI := hZ9 hI
  have HO := hZ9 ho
  have HD := hZ9 hD2
  have hsz := hI.below.size
  have g0 := hI.r0.lt
  have g1 := hI.r1.lt
  have f0 : W.drew.frozen? ⟨w.heap.size, 0, none⟩ = false := hI.r0.free 0
  have f1 : W.drew.frozen? ⟨w.heap.size + 1, 0, none⟩ = false := hI.r1.free 0
  have HW := hZ9 (show Calls Tryz.prog 123 #[.slice A ns.length c] W.drew fun e w' => e = .returned (strV (wordsS ns)) ∧ Below W.heap.size W.drew w' from words_any (w := W.drew) ns A c hrd hl hn ((ht.below (hI.below.mono nR0)).below bR0.drew))
  clear hv hI ho hD2 hrd hi hz0 hz1 hz2
  obtain ⟨bs, hbs⟩ : ∃ bs : ByteArray, strV (wordsS ns) = .string bs := ⟨_, rfl⟩
  rw [hbs] at HW ⊢
  have HBS := hZ9 hbs
  clear hbs
  gi_upto_region 8 with fail
  refine wpIn_wide.2 ?_
  have hne0 : lb ≠ w.heap.size := by omega
  have hne1 : lb ≠ w.heap.size + 1 := by omega
  go_region_held3 (fun wy => wy.cell? ⟨lb, 0, none⟩ = some (.slice A ns.length c))
   (first | exact hcd | exact B4.out.cell | exact (B4.out.other hne0 _).cell | exact (B4.out.other hne1 _).cell | exact ((B4.out.other hne0 _).other hne1 _).cell | exact ((B4.out.other hne1 _).other hne0 _).cell)
   (first
   | (go_at_call 123; refine HW.out.mono ?_; rintro en w4 ⟨rfl, hb4⟩; (have HB4 := hZ9 hb4); (have B4 := hZ9 (show Boxed w4 lb 83 (.slice A ns.length c) from (hb4.block _ hbx).trans HV.out)); (have z4 : w4.frozen? ⟨w.heap.size, 0, none⟩ = false := ((HI.out.r0.drew).below hb4 g0).free 0); (have z5 : w4.frozen? ⟨w.heap.size + 1, 0, none⟩ = false := ((HI.out.r1.drew).below hb4 g1).free 0); (have y4 : w4.cell? ⟨w.heap.size, 0, none⟩ = some (.slice none 0 0) := ((HI.out.r0.drew).below hb4 g0).cell 0); (have y5 : w4.cell? ⟨w.heap.size + 1, 0, none⟩ = some (.bool false) := ((HI.out.r1.drew).below hb4 g1).cell 0); (have x4 : w.heap.size < w4.heap.size := Nat.lt_of_lt_of_le g0 hb4.size); (have x5 : w.heap.size + 1 < w4.heap.size := Nat.lt_of_lt_of_le g1 hb4.size); clear hb4))
  gi_wp2
  refine ⟨by simp, .inl ⟨_, _, rfl, run_takeDeferred (b := D) (ds := []) ?_, ?_⟩⟩
  ·have hDl : D < W.heap.size := (Array.getElem?_eq_some_iff.1 HD.out).1
   have e4 : w4.heap[D]? = some (.deferred (some [])) := (HB4.out.block D hDl).trans HD.out
   exact (Below.heap_setCell _ _ _ D (by simp; omega)).trans ((Below.heap_setCell _ _ _ D (by simp; omega)).trans e4)
  have hDl : D < W.heap.size := (Array.getElem?_eq_some_iff.1 HD.out).1
  have r0' := ((HI.out.r0.drew).below HB4.out g0)
  have r1' := ((HI.out.r1.drew).below HB4.out g1)
  have r05 := (r0'.set 0 (.slice A ns.length c)).far (b := w.heap.size + 1) (o := 0) (by omega) (.bool true)
  have r15 := (r1'.far (b := w.heap.size) (o := 0) (by omega) (.slice A ns.length c)).set 0 (.bool true)
  obtain ⟨X, hX⟩ : ∃ X, X = (w4.setCell ⟨w.heap.size, 0, none⟩ (.slice A ns.length c)).setCell ⟨w.heap.size + 1, 0, none⟩ (.bool true) := ⟨_, rfl⟩
  rw [← hX] at r05 r15 ⊢
  have p0 : Blk (X.putObj D (.deferred none)) w.heap.size 83 #[.slice A ns.length c] := (World.putObj_heap_other (by omega)).trans r05
  have p1 : Blk (X.putObj D (.deferred none)) (w.heap.size + 1) 4 #[.bool true] := (World.putObj_heap_other (by omega)).trans r15
  have q0 : (X.putObj D (.deferred none)).cell? ⟨w.heap.size, 0, none⟩ = some (.slice A ns.length c) := p0.cell 0
  have q1 : (X.putObj D (.deferred none)).cell? ⟨w.heap.size + 1, 0, none⟩ = some (.bool true) := p1.cell 0
  have hbX : Below w.heap.size W (X.putObj D (.deferred none)) := by
   have h1 : Below w.heap.size W w4 := bR0.drew.trans (HB4.out.mono (by omega))
   have h2 : Below w.heap.size W X := by rw [hX]; exact below_set (below_set h1 nR0 _) (by omega) _
   exact h2.trans (grown_below (grownBy_putObj' X D _) (by have := h2.size; omega) (fun k e => by injection e with e; omega))
  have hoX : (X.putObj D (.deferred none)).ownsRow w.heap.size 2 1 (.slice A ns.length c) ns.length (numVs ns) := by
   have h1 : w4.ownsRow w.heap.size 2 1 (.slice A ns.length c) ns.length (numVs ns) := own_keeps (own_kept HO.out (gby_of_below (bR0.drew)) (fun _ _ => by simp)) (ts := []) (Keeps.of_below (base := 0) HB4.out (Nat.zero_le _)) (by simp)
   have h2 : X.ownsRow w.heap.size 2 1 (.slice A ns.length c) ns.length (numVs ns) := by
    rw [hX]
    have n0 := own_ne h1 r0' (by decide)
    have n1 := own_ne h1 r1' (by decide)
    exact own_kept (own_kept h1 (grownBy_setCell' _ _ _) (fun g hg e => n0 (by rw [hg, e]))) (grownBy_setCell' _ _ _) (fun g hg e => n1 (by rw [hg, e]))
   have hDX : X.heap[D]? = some (.deferred (some [])) := by
    rw [hX]
    exact (Below.heap_setCell _ _ _ D (by simp; omega)).trans ((Below.heap_setCell _ _ _ D (by simp; omega)).trans ((HB4.out.block D hDl).trans HD.out))
   exact ownsRow_putObj h2 _ hDX rfl
  refine ⟨.tuple #[.slice A ns.length c, .bool true], ?_, A, c, rfl, own_rd hoX, HI.out.below.trans hbX⟩
  clear hX
  simp only [results, Tryz.results115]
  go_simp
end
end Go.Proofs.YtmgmfnimaafkdaaGreatDoor
