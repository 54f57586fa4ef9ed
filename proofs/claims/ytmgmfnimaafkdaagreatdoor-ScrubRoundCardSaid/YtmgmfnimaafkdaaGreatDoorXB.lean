/- The second example, counted: what it goes through. No program in sight. -/
import Derived.Test.YtmgmfnimaafkdaaGreatDoorVT
import Derived.Test.YtmgmfnimaafkdaaGreatDoorVV
import Derived.Test.YtmgmfnimaafkdaaGreatDoorVC
import Derived.Deep.LoopGhost
import Derived.Deep.Draws
import Derived.Lib.Walk
import Derived.Lib.SlicesSearch
namespace Go.Proofs.YtmgmfnimaafkdaaGreatDoor
section
open Go.RowKit Go.Maps
set_option maxRecDepth 100000

theorem nan182_any (x : Int) (w : World) : Calls Tryz.prog 182 #[.int .i64 x] w fun e w' => e = .returned (.bool false) ∧ w' = w := by
 go_enter Tryz.func182, Tryz.ntmps182
 go_wp2_with fail
 go_ret
 exact ⟨by simp, rfl⟩
theorem nan154_any (x : Int) (w : World) : Calls Tryz.prog 154 #[.int .i64 x] w fun e w' => e = .returned (.bool false) ∧ w' = w := by
 go_enter Tryz.func154, Tryz.ntmps154
 go_wp2_with fail
 go_ret
 exact ⟨by simp, rfl⟩
theorem less153_any (x y : Int) (w : World) : Calls Tryz.prog 153 #[.int .i64 x, .int .i64 y] w fun e w' => e = .returned (.bool (decide (x < y))) ∧ w' = w := by
 go_enter Tryz.func153, Tryz.ntmps153
 go_wp2_with (go_at_call 182; refine (nan182_any _ _).mono ?_; rintro e w' ⟨rfl, rfl⟩)
 go_ret
 exact ⟨rfl, rfl⟩
set_option maxHeartbeats 4000000 in
theorem searchN_any (A : Option Addr) (n c : Nat) (zs : List Int) (x : Int) (w : World) (hlen : zs.length = n) (hbig : n < 1000000) (hsl : Sl w 2 1 A n (zs.map (Value.int .i64))) (hs : zs.Pairwise (· < ·)) :
  Calls Tryz.prog 94 #[.slice A n c, .int .i64 x] w fun e w' => (∃ k : Nat, e = .returned (.tuple #[.int .i64 k, .bool (decide (x ∈ zs))])) ∧ Below w.heap.size w w' := by
 have hc : ∀ j, j < n → ∃ b off, A = some ⟨b, off, none⟩ ∧ w.cell? ⟨b, off + j, none⟩ = some (.int .i64 (zs.getD j 0)) ∧ b < w.heap.size := fun j hj => by
  obtain ⟨b, o, rfl, hb, hcc⟩ := hsl.1.2 (by omega)
  refine ⟨b, o, rfl, ?_, hb⟩
  have hjz : j < zs.length := by omega
  rw [hcc j (by rw [List.length_map]; omega), List.getElem_map, List.getD_eq_getElem?_getD, List.getElem?_eq_getElem hjz]
  rfl
 have S : Hid (∀ a b, a ≤ b → b < n → zs.getD a 0 ≤ zs.getD b 0) := by
  refine hZ9 fun a b hab hb => ?_
  have ha : a < zs.length := by omega
  have hb' : b < zs.length := by omega
  rw [List.getD_eq_getElem?_getD, List.getD_eq_getElem?_getD, List.getElem?_eq_getElem ha, List.getElem?_eq_getElem hb']
  simp only [Option.getD_some]
  rcases Nat.eq_or_lt_of_le hab with e | e
  ·subst e; exact Int.le_refl _
  ·exact Int.le_of_lt (List.pairwise_iff_getElem.1 hs a b ha hb' e)
 have HC := hZ9 hc
 have HL := hZ9 hlen
 clear hc hsl hs
 go_enter Tryz.func94, Tryz.ntmps94
 go_wp2_with fail
 go_loopw [7, 8] (fun s7 s8 wr => ∃ lo hi : Nat, s7 = .int .i64 lo ∧ s8 = .int .i64 hi ∧ lo ≤ hi ∧ hi ≤ n ∧ Below w.heap.size w wr ∧ (∀ t, t < lo → zs.getD t 0 < x) ∧ (∀ t, hi ≤ t → t < n → x ≤ zs.getD t 0)) (fun s7 s8 _ => (intOf s8).toNat - (intOf s7).toNat)
 case atStart => exact ⟨0, n, rfl, rfl, Nat.zero_le _, nR0, bR0, fun t ht => absurd ht (Nat.not_lt_zero _), fun t h1 h2 => by omega⟩
 case round =>
  obtain ⟨lo, hi, rfl, rfl, hlh, hin, hbr, h1, h2⟩ := hrel
  have I := hZ9 (And.intro h1 h2)
  have HB := hZ9 hbr
  clear h1 h2 hbr
  by_cases hlt : lo < hi
  ·obtain ⟨b, off, rfl, cm0, hbl⟩ := HC.out ((lo + hi) / 2) (by omega)
   have cm : wr.cell? ⟨b, off + (lo + hi) / 2, none⟩ = some (.int .i64 (zs.getD ((lo + hi) / 2) 0)) := (HB.out.cell hbl).trans cm0
   clear cm0
   generalize hy : zs.getD ((lo + hi) / 2) 0 = y at cm
   have Y := hZ9 hy
   clear hy
   by_cases hyx : y < x
   ·go_wp2_with (go_at_call 153; refine (less153_any _ _ _).mono ?_; rintro e w' ⟨rfl, rfl⟩)
    go_roundw
    case measure => simp [intOf]; omega
    case rel =>
     refine ⟨(lo + hi) / 2 + 1, hi, by rw [show ((lo : Int) + (hi : Int)) / 2 + 1 = (((lo + hi) / 2 + 1 : Nat) : Int) by omega], rfl, by omega, hin, HB.out, fun t ht => ?_, I.out.2⟩
     have := S.out t ((lo + hi) / 2) (by omega) (by omega)
     rw [Y.out] at this
     omega
   ·go_wp2_with (go_at_call 153; refine (less153_any _ _ _).mono ?_; rintro e w' ⟨rfl, rfl⟩)
    go_roundw
    case measure => simp [intOf]; omega
    case rel =>
     refine ⟨lo, (lo + hi) / 2, rfl, by rw [show ((lo : Int) + (hi : Int)) / 2 = (((lo + hi) / 2 : Nat) : Int) by omega], by omega, by omega, HB.out, I.out.1, fun t ht htn => ?_⟩
     have := S.out ((lo + hi) / 2) t ht htn
     rw [Y.out] at this
     omega
  ·have : hi = lo := by omega
   subst this
   have hmem : (x ∈ zs) ↔ (hi < n ∧ zs.getD hi 0 = x) := by
    constructor
    ·intro hx
     obtain ⟨t, ht, e⟩ := List.mem_iff_getElem.1 hx
     have hg : zs.getD t 0 = x := by rw [List.getD_eq_getElem?_getD, List.getElem?_eq_getElem ht]; exact e
     have htl : hi ≤ t := by
      apply Decidable.byContradiction
      intro hh
      have := I.out.1 t (by omega)
      omega
     have := HL.out
     have h3 := S.out hi t htl (by omega)
     have h4 := I.out.2 hi nR0 (by omega)
     exact ⟨by omega, by omega⟩
    ·rintro ⟨h1, h2⟩
     have := HL.out
     have hh : hi < zs.length := by omega
     rw [List.getD_eq_getElem?_getD, List.getElem?_eq_getElem hh] at h2
     rw [← h2]
     exact List.getElem_mem hh
   have HM := hZ9 hmem
   clear hmem
   by_cases hn : hi < n
   ·obtain ⟨b, off, rfl, cl0, hbl⟩ := HC.out hi hn
    have cl : wr.cell? ⟨b, off + hi, none⟩ = some (.int .i64 (zs.getD hi 0)) := (HB.out.cell hbl).trans cl0
    clear cl0
    generalize hy : zs.getD hi 0 = y at cl
    have Y := hZ9 hy
    clear hy
    by_cases hyx : y = x
    ·go_wp2_with (go_at_call 154; refine (nan154_any _ _).mono ?_; rintro e w' ⟨rfl, rfl⟩)
     go_ret2
     refine ⟨⟨hi, ?_⟩, HB.out⟩
     rw [decide_eq_true (HM.out.2 ⟨hn, by rw [Y.out]; exact hyx⟩)]
     first | rfl | simp [*]
    ·go_wp2_with (go_at_call 154; refine (nan154_any _ _).mono ?_; rintro e w' ⟨rfl, rfl⟩)
     go_ret2
     refine ⟨⟨hi, ?_⟩, HB.out⟩
     rw [decide_eq_false (fun h => hyx (by rw [← Y.out]; exact (HM.out.1 h).2))]
     first | rfl | simp [*]
   ·go_wp2_with (go_at_call 154; refine (nan154_any _ _).mono ?_; rintro e w' ⟨rfl, rfl⟩)
    go_ret2
    refine ⟨⟨hi, ?_⟩, HB.out⟩
    rw [decide_eq_false (fun h => hn (HM.out.1 h).1)]
    first | rfl | simp [*]
end
section
open Go.RowKit Go.Maps
set_option maxRecDepth 100000

def goodN (s : StV) (n : NameV) : Bool := decide ((tellsS s.d ((getL s.slices n).getD ⟨0, 0, 0, 0⟩)).1 = 0)
def namesL (s : StV) : List NameV := s.slices.map (·.1)
def verStep (vs : List Int) (n : NameV) : List Int := if vs.getLast? = some n.1 then vs else vs ++ [n.1]
def versL (l : List NameV) : List Int := l.foldl verStep []
theorem versL_snoc (l : List NameV) (n : NameV) : versL (l ++ [n]) = verStep (versL l) n := by unfold versL; rw [List.foldl_append]; rfl
theorem versL_len (l : List NameV) : (versL l).length ≤ l.length := by
 have : ∀ (l : List NameV) (vs : List Int), (l.foldl verStep vs).length ≤ vs.length + l.length := by
  intro l
  induction l with
  | nil => intro vs; simp
  | cons n l ih =>
   intro vs
   rw [List.foldl_cons]
   have h1 := ih (verStep vs n)
   have h2 : (verStep vs n).length ≤ vs.length + 1 := by unfold verStep; split <;> simp
   simp only [List.length_cons]
   omega
 have h := this l []
 simpa [versL] using h
theorem ltN_le {a b : NameV} (h : ltN a b = true) : a.1 ≤ b.1 := by
 unfold ltN at h
 simp only [Bool.or_eq_true, Bool.and_eq_true, decide_eq_true_eq, beq_iff_eq] at h
 omega
theorem versL_ok (l : List NameV) (h : l.Pairwise fun x y => ltN x y = true) : (versL l).Pairwise (· < ·) ∧ (versL l).getLast? = l.getLast?.map (·.1) ∧ ∀ v, v ∈ versL l ↔ ∃ n ∈ l, n.1 = v := by
 have key : ∀ k : Nat, ∀ l : List NameV, l.length = k → (l.Pairwise fun x y => ltN x y = true) → (versL l).Pairwise (· < ·) ∧ (versL l).getLast? = l.getLast?.map (·.1) ∧ ∀ v, v ∈ versL l ↔ ∃ n ∈ l, n.1 = v := by
  intro k
  induction k with
  | zero =>
   intro l hk _
   obtain rfl := List.eq_nil_of_length_eq_zero hk
   exact ⟨List.Pairwise.nil, rfl, fun v => by simp [versL]⟩
  | succ k ih =>
   intro l hk hs
   have hne : l ≠ [] := by intro e; rw [e] at hk; cases hk
   obtain ⟨q, n, rfl⟩ : ∃ q n, l = q ++ [n] := ⟨l.dropLast, l.getLast hne, (List.dropLast_concat_getLast hne).symm⟩
   rw [List.pairwise_append] at hs
   obtain ⟨h1, _, h3⟩ := hs
   obtain ⟨i1, i2, i3⟩ := ih q (by simpa using hk) h1
   have hle : ∀ v ∈ versL q, v ≤ n.1 := fun v hv => by
    obtain ⟨x, hx, rfl⟩ := (i3 v).1 hv
    exact ltN_le (h3 x hx n (by simp))
   rw [versL_snoc]
   unfold verStep
   by_cases e : (versL q).getLast? = some n.1
   ·rw [if_pos e]
    refine ⟨i1, by rw [e]; simp, fun v => ?_⟩
    rw [i3]
    constructor
    ·rintro ⟨x, hx, rfl⟩; exact ⟨x, by simp [hx], rfl⟩
    ·rintro ⟨x, hx, rfl⟩
     rcases List.mem_append.1 hx with hx | hx
     ·exact ⟨x, hx, rfl⟩
     ·rw [List.mem_singleton] at hx
      subst hx
      exact (i3 _).1 (List.mem_of_getLast? e)
   ·rw [if_neg e]
    refine ⟨?_, by simp, fun v => ?_⟩
    ·rw [List.pairwise_append]
     refine ⟨i1, List.pairwise_singleton _ _, fun v hv u hu => ?_⟩
     rw [List.mem_singleton] at hu
     subst hu
     have h5 := hle v hv
     rcases Int.lt_or_eq_of_le h5 with h6 | h6
     ·exact h6
     ·exfalso
      -- v is the greatest, so it is the last
      apply e
      have hne2 : versL q ≠ [] := fun e2 => by rw [e2] at hv; cases hv
      rw [List.getLast?_eq_some_getLast hne2]
      congr 1
      have h7 := hle _ (List.getLast_mem hne2)
      obtain ⟨i, hi, hiv⟩ := List.mem_iff_getElem.1 hv
      have hlast : (versL q).getLast hne2 = (versL q)[(versL q).length - 1]'(by have := List.length_pos_iff.2 hne2; omega) := List.getLast_eq_getElem hne2
      rcases Nat.lt_or_eq_of_le (show i ≤ (versL q).length - 1 by omega) with h8 | h8
      ·have := List.pairwise_iff_getElem.1 i1 i ((versL q).length - 1) hi (by omega) h8
       rw [hlast] at h7 ⊢
       omega
      ·subst h8
       rw [hlast]
       omega
    ·rw [List.mem_append, i3, List.mem_singleton]
     constructor
     ·rintro (⟨x, hx, rfl⟩ | rfl)
      ·exact ⟨x, by simp [hx], rfl⟩
      ·exact ⟨n, by simp, rfl⟩
     ·rintro ⟨x, hx, rfl⟩
      rcases List.mem_append.1 hx with hx | hx
      ·exact .inl ⟨x, hx, rfl⟩
      ·rw [List.mem_singleton] at hx
       subst hx
       exact .inr rfl
 exact key l.length l rfl h
def goodL (s : StV) : List NameV := (namesL s).filter (goodN s)
def badNs (s : StV) : List NameV := (namesL s).filter fun n => !goodN s n
def notesL (s : StV) : List Int := s.notes.map (·.1)
def lostVs (s : StV) : List Int := (versL (namesL s)).filter fun v => !decide (v ∈ notesL s)
def bareVs (s : StV) : List Int := (notesL s).filter fun v => !decide (v ∈ versL (namesL s))
abbrev nilV : Value := .slice none 0 0
structure LookX (w w1 wr : World) (G : Nat) (g b : List NameV) (vs : List Int) (out v1 v2 : Value) : Prop where
 kp : Keeps w.heap.size [96] w1 wr
 blk : Blk wr G 96 #[v1, v2, nilV, nilV]
 r1 : wr.ownsRow w1.heap.size 73 2 v1 g.length (nameRows g)
 r2 : wr.ownsRow w1.heap.size 73 2 v2 b.length (nameRows b)
 ne : ∀ k, v1.ownBlock = some k → v2.ownBlock ≠ some k
 own : wr.ownsRow w1.heap.size 2 1 out vs.length (numVs vs)
 fr : ∀ k, k < w1.heap.size → k ≠ G → wr.heap[k]? = w1.heap[k]?
def LookR (w w1 wr : World) (G : Nat) (g b : List NameV) (vs : List Int) (out : Value) : Prop := ∃ v1 v2, LookX w w1 wr G g b vs out v1 v2
theorem LookX.sz {w w1 wr : World} {G : Nat} {g b : List NameV} {vs : List Int} {out v1 v2 : Value} (h : LookX w w1 wr G g b vs out v1 v2) : w1.heap.size ≤ wr.heap.size := h.kp.below.size
theorem LookX.below {w w1 wr w' : World} {G : Nat} {g b : List NameV} {vs : List Int} {out v1 v2 : Value} (h : LookX w w1 wr G g b vs out v1 v2) (hb : Below wr.heap.size wr w') (hw : w.heap.size ≤ wr.heap.size) : LookX w w1 w' G g b vs out v1 v2 := by
 have k : Keeps w.heap.size [] wr w' := Keeps.of_below hb hw
 exact ⟨h.kp.trans (k.mono nR0 (by simp)), h.blk.keeps k (by simp), own_keeps h.r1 k (by simp), own_keeps h.r2 k (by simp), h.ne, own_keeps h.own k (by simp), fun q hq hne => (hb.block q (Nat.lt_of_lt_of_le hq h.sz)).trans (h.fr q hq hne)⟩
theorem nameRows_one (n : NameV) : nameRows [n] = [.int .i64 n.1, .int .i64 n.2] := rfl
theorem own_new {w : World} {base e size m : Nat} {v v' : Value} {xs : List Value} (hv : v'.ownBlock = v.ownBlock ∨ v'.ownBlock = some w.heap.size) {u : Value} (hu : w.ownsRow base e size u m xs) (hne : ∀ k, v.ownBlock = some k → u.ownBlock ≠ some k) : ∀ k, v'.ownBlock = some k → u.ownBlock ≠ some k := by
 intro k hk e
 rcases hv with h | h
 ·exact hne k (by rw [← h]; exact hk) e
 ·rw [h] at hk
  injection hk with hk
  have := tyOf_lt (own_ty hu e)
  omega
theorem keeps_row {w1 wr w' : World} {base e size n : Nat} {v : Value} {xs : List Value} (kp : Keeps base [96] w1 wr) (hb : base ≤ w1.heap.size) (hv : wr.ownsRow w1.heap.size e size v n xs) (hg : wr.grownBy w' v.ownBlock) : Keeps base [96] w1 w' := by
 cases ho : v.ownBlock with
 | none => rw [ho] at hg; exact kp.trans (Keeps.of_grown hg (Nat.le_trans hb kp.below.size) (fun g e => by cases e))
 | some q =>
  rw [ho] at hg
  refine kp.grown_new hg hb ?_
  rcases hv.2 with ⟨rfl, _⟩ | ⟨g', cap, cur, rfl, hbg, _, _⟩
  ·simp [Value.ownBlock] at ho
  ·have : g' = q := by simpa [Value.ownBlock] using ho
   omega
theorem row_frame {w1 wr w' : World} {e size n : Nat} {v : Value} {xs : List Value} (hv : wr.ownsRow w1.heap.size e size v n xs) (hg : wr.grownBy w' v.ownBlock) (hs : w1.heap.size ≤ wr.heap.size) {q : Nat} (hq : q < w1.heap.size) : w'.heap[q]? = wr.heap[q]? := by
 refine hg.block q (Nat.lt_of_lt_of_le hq hs) (fun e => ?_)
 rcases hv.2 with ⟨rfl, _⟩ | ⟨g', cap, cur, rfl, hbg, _, _⟩
 ·simp [Value.ownBlock] at e
 ·have : q = g' := by simpa [Value.ownBlock] using e
  omega
theorem LookX.good {w w1 wr w' : World} {G c : Nat} {g b : List NameV} {vs : List Int} {out v1 v2 : Value} {A : Option Addr} (n : NameV) (h : LookX w w1 wr G g b vs out v1 v2) (hw : w.heap.size ≤ w1.heap.size) (hG : w.heap.size ≤ G) (hG1 : G < w1.heap.size)
  (hown : w'.ownsRow w1.heap.size 73 2 (.slice A (g.length + 1) c) (g.length + 1) (nameRows g ++ [.int .i64 n.1, .int .i64 n.2])) (hgr : wr.grownBy w' v1.ownBlock) (hat : (Value.slice A (g.length + 1) c).ownBlock = v1.ownBlock ∨ (Value.slice A (g.length + 1) c).ownBlock = some wr.heap.size) :
  Blk w' G 96 #[v1, v2, nilV, nilV] ∧ LookR w w1 (w'.setCell ⟨G, 0, none⟩ (.slice A (g.length + 1) c)) G (g ++ [n]) b vs out := by
 have hsz := h.sz
 obtain ⟨kp, hb, h1, h2, hne, ho, fr⟩ := h
 have kp' := keeps_row kp hw h1 hgr
 have hb' : Blk w' G 96 #[v1, v2, nilV, nilV] := hb.grown hgr (own_ne h1 hb (by decide))
 refine ⟨hb', .slice A (g.length + 1) c, v2, kp'.set hb' hG (by simp) _, by simpa using hb'.set 0 (.slice A (g.length + 1) c), ?_, ?_, ?_, ?_, fun q hq hn => ?_⟩
 ·rw [nameRows_append, nameRows_one, List.length_append, List.length_singleton]; exact own_set hown hG1 _
 ·exact own_set (own_kept h2 hgr (fun k hk e => hne k e hk)) hG1 _
 ·exact own_new (w := wr) hat h2 hne
 ·exact own_set (own_kept ho hgr (fun k hk e => by have h5 := own_ty h1 e; have h6 := own_ty ho hk; rw [h5] at h6; exact absurd h6 (by decide))) hG1 _
 ·exact (Below.heap_setCell w' ⟨G, 0, none⟩ _ q hn).trans ((row_frame h1 hgr hsz hq).trans (fr q hq hn))
theorem LookX.bad {w w1 wr w' : World} {G c : Nat} {g b : List NameV} {vs : List Int} {out v1 v2 : Value} {A : Option Addr} (n : NameV) (h : LookX w w1 wr G g b vs out v1 v2) (hw : w.heap.size ≤ w1.heap.size) (hG : w.heap.size ≤ G) (hG1 : G < w1.heap.size)
  (hown : w'.ownsRow w1.heap.size 73 2 (.slice A (b.length + 1) c) (b.length + 1) (nameRows b ++ [.int .i64 n.1, .int .i64 n.2])) (hgr : wr.grownBy w' v2.ownBlock) (hat : (Value.slice A (b.length + 1) c).ownBlock = v2.ownBlock ∨ (Value.slice A (b.length + 1) c).ownBlock = some wr.heap.size) :
  Blk w' G 96 #[v1, v2, nilV, nilV] ∧ LookR w w1 (w'.setCell ⟨G, 1, none⟩ (.slice A (b.length + 1) c)) G g (b ++ [n]) vs out := by
 have hsz := h.sz
 obtain ⟨kp, hb, h1, h2, hne, ho, fr⟩ := h
 have kp' := keeps_row kp hw h2 hgr
 have hb' : Blk w' G 96 #[v1, v2, nilV, nilV] := hb.grown hgr (own_ne h2 hb (by decide))
 refine ⟨hb', v1, .slice A (b.length + 1) c, kp'.set hb' hG (by simp) _, by simpa using hb'.set 1 (.slice A (b.length + 1) c), ?_, ?_, ?_, ?_, fun q hq hn => ?_⟩
 ·exact own_set (own_kept h1 hgr (fun k hk e => hne k hk e)) hG1 _
 ·rw [nameRows_append, nameRows_one, List.length_append, List.length_singleton]; exact own_set hown hG1 _
 ·intro k hk e
  have := own_new (w := wr) hat h1 (fun k h5 h6 => hne k h6 h5) k e
  exact this hk
 ·exact own_set (own_kept ho hgr (fun k hk e => by have h5 := own_ty h2 e; have h6 := own_ty ho hk; rw [h5] at h6; exact absurd h6 (by decide))) hG1 _
 ·exact (Below.heap_setCell w' ⟨G, 1, none⟩ _ q hn).trans ((row_frame h2 hgr hsz hq).trans (fr q hq hn))
structure LookY (w w3 wr : World) (G : Nat) (cf : Value → Array Value) (ls : List Int) (v : Value) : Prop where
 kp : Keeps w.heap.size [96] w3 wr
 blk : Blk wr G 96 (cf v)
 own : wr.ownsRow w3.heap.size 2 1 v ls.length (numVs ls)
 fr : ∀ k, k < w3.heap.size → k ≠ G → wr.heap[k]? = w3.heap[k]?
theorem LookY.below {w w3 wr w' : World} {G : Nat} {cf : Value → Array Value} {ls : List Int} {v : Value} (h : LookY w w3 wr G cf ls v) (hb : Below wr.heap.size wr w') (hw : w.heap.size ≤ wr.heap.size) : LookY w w3 w' G cf ls v := by
 have k : Keeps w.heap.size [] wr w' := Keeps.of_below hb hw
 exact ⟨h.kp.trans (k.mono nR0 (by simp)), h.blk.keeps k (by simp), own_keeps h.own k (by simp), fun q hq hne => (hb.block q (Nat.lt_of_lt_of_le hq h.kp.below.size)).trans (h.fr q hq hne)⟩
theorem numVs_snoc (l : List Int) (v : Int) : numVs (l ++ [v]) = numVs l ++ [.int .i64 v] := by unfold numVs; simp
theorem LookY.put {w w3 wr w' : World} {G o c : Nat} {cf : Value → Array Value} {ls : List Int} {v : Value} {A : Option Addr} (x : Int) (h : LookY w w3 wr G cf ls v) (hcf : ∀ v u, (cf v).setIfInBounds o u = cf u) (hw : w.heap.size ≤ w3.heap.size) (hG : w.heap.size ≤ G) (hG3 : G < w3.heap.size)
  (hown : w'.ownsRow w3.heap.size 2 1 (.slice A (ls.length + 1) c) (ls.length + 1) (numVs ls ++ [.int .i64 x])) (hgr : wr.grownBy w' v.ownBlock) :
  Blk w' G 96 (cf v) ∧ LookY w w3 (w'.setCell ⟨G, o, none⟩ (.slice A (ls.length + 1) c)) G cf (ls ++ [x]) (.slice A (ls.length + 1) c) := by
 have hb' : Blk w' G 96 (cf v) := h.blk.grown hgr (own_ne h.own h.blk (by decide))
 have kp' := keeps_row h.kp hw h.own hgr
 refine ⟨hb', kp'.set hb' hG (by simp) _, ?_, ?_, fun q hq hn => ?_⟩
 ·have := hb'.set o (.slice A (ls.length + 1) c)
  rw [hcf] at this
  exact this
 ·rw [numVs_snoc, List.length_append, List.length_singleton]; exact own_set hown hG3 _
 ·exact (Below.heap_setCell w' ⟨G, o, none⟩ _ q hn).trans ((row_frame h.own hgr h.kp.below.size hq).trans (h.fr q hq hn))
end
section
set_option maxRecDepth 100000

def fewB (s : StV) : Bool := decide (s.puts < 1000) && decide (s.d.waits.length ≤ 1000) && decide (s.slices.length ≤ 1000) && decide (s.notes.length ≤ 1000) && decide (s.marks.length ≤ 1000)
def awakeB : Bool :=
 match openS (newD 128 64) with
 | (0, _, some s0) => fewB s0 && match noteStore s0 1 [110] with
  | (0, s1) => fewB s1 && match putStore s1 (1, 0) [97] with
   | (0, s2) => fewB s2 && match putStore s2 (1, 1) [98] with
    | (0, s3) => fewB s3 && match syncS s3 with
     | (0, s4) => fewB s4 && match rotD s4.d 32 200 with
      | (0, d5) => (goodL { s4 with d := d5 } == [(1, 1)]) && (badNs { s4 with d := d5 } == [(1, 0)]) && (lostVs { s4 with d := d5 } == []) && (bareVs { s4 with d := d5 } == [])
      | _ => false
     | _ => false
    | _ => false
   | _ => false
  | _ => false
 | _ => false
theorem awakeB_true : awakeB = true := by kernel_rfl
structure Few (s : StV) : Prop where
 puts : s.puts < 1000
 waits : s.d.waits.length ≤ 1000
 sl : s.slices.length ≤ 1000
 nt : s.notes.length ≤ 1000
 mks : s.marks.length ≤ 1000
theorem few_of {s : StV} (h : fewB s = true) : Few s := by
 unfold fewB at h
 simp only [Bool.and_eq_true, decide_eq_true_eq] at h
 exact ⟨h.1.1.1.1, h.1.1.1.2, h.1.1.2, h.1.2, h.2⟩
theorem Few.ok {s : StV} {lo E : Nat} {ts : List (NameV × List UInt8)} (h : Few s) (ha : StAll s lo E ts) (hE : E ≤ 100) : StOK s :=
 ha.ok (by omega) (by have := h.waits; omega) (by have := h.sl; omega) (by have := h.nt; omega) (by have := h.mks; omega)
structure AwakeGo (s0 s1 s2 s3 s4 : StV) (d5 : DskV) (t2 t3 : List (NameV × List UInt8)) : Prop where
 o : ∃ d, openS (newD 128 64) = (0, d, some s0)
 n : noteStore s0 1 [110] = (0, s1)
 p1 : putStore s1 (1, 0) [97] = (0, s2)
 p2 : putStore s2 (1, 1) [98] = (0, s3)
 y : syncS s3 = (0, s4)
 r : rotD s4.d 32 200 = (0, d5)
 a0 : StAll s0 32 2 []
 a1 : StAll s1 32 4 []
 a2 : StAll s2 32 6 t2
 a5 : StAll { s4 with d := d5 } 32 8 t3
 f0 : Few s0
 f1 : Few s1
 f2 : Few s2
 f4 : Few s4
 g : goodL { s4 with d := d5 } = [(1, 1)]
 b : badNs { s4 with d := d5 } = [(1, 0)]
 l : lostVs { s4 with d := d5 } = []
 e : bareVs { s4 with d := d5 } = []
theorem awake_go : ∃ s0 s1 s2 s3 s4 d5 t2 t3, AwakeGo s0 s1 s2 s3 s4 d5 t2 t3 := by
 obtain ⟨d, s0, ho, hd, ha0, hr0, _, _, _⟩ := fresh_all (n := 128) (k := 64) (by kernel_rfl) (by omega)
 have h := awakeB_true
 unfold awakeB at h
 rw [ho] at h
 simp only [Bool.and_eq_true] at h
 obtain ⟨f0, h⟩ := h
 obtain ⟨e1, s1, hn, r1, ha1, _⟩ := noteStore_all ha0 (by omega) 1 [110]
 rw [hn] at h
 cases e1 with
 | succ e => cases h
 | zero =>
  simp only [Bool.and_eq_true] at h
  obtain ⟨f1, h⟩ := h
  obtain ⟨e2, s2, hp1, r2, hc2⟩ := putStore_all ha1 (by omega) (1, 0) [97]
  rw [hp1] at h
  cases e2 with
  | succ e => cases h
  | zero =>
   simp only [Bool.and_eq_true] at h
   obtain ⟨f2, h⟩ := h
   rcases hc2 with ⟨hh, _⟩ | ⟨_, _, ha2⟩
   ·exact absurd rfl hh
   ·obtain ⟨e3, s3, hp2, r3, hc3⟩ := putStore_all ha2 (by omega) (1, 1) [98]
    rw [hp2] at h
    cases e3 with
    | succ e => cases h
    | zero =>
     simp only [Bool.and_eq_true] at h
     obtain ⟨f3, h⟩ := h
     rcases hc3 with ⟨hh, _⟩ | ⟨_, _, ha3⟩
     ·exact absurd rfl hh
     ·obtain ⟨d4, hf, r4, ha4⟩ := ha3.flushed
      have hy : syncS s3 = (0, { s3 with d := d4 }) := by unfold syncS; rw [hf]
      rw [hy] at h
      simp only [Bool.and_eq_true] at h
      obtain ⟨f4, h⟩ := h
      split at h
      ·rename_i d5 hr
       simp only [Bool.and_eq_true, beq_iff_eq] at h
       obtain ⟨⟨⟨g1, g2⟩, g3⟩, g4⟩ := h
       have hz : ({ s3 with d := d4 } : StV).d.size = 64 := by
        have z0 : s0.d.size = 64 := by rw [hd]; exact hr0.like.1.1
        have z1 := r1.like.1.1
        have z2 := r2.like.1.1
        have z3 := r3.like.1.1
        have z4 := r4.like.1.1
        show d4.size = 64
        omega
       exact ⟨s0, s1, s2, s3, { s3 with d := d4 }, d5, _, _, ⟨d, ho⟩, hn, hp1, hp2, hy, hr, ha0, ha1, ha2, rotStore_all ha4 hr (by rw [hz]; omega), few_of f0, few_of f1, few_of f2, few_of f4, g1, g2, g3, g4⟩
      ·cases h
end
end Go.Proofs.YtmgmfnimaafkdaaGreatDoor
