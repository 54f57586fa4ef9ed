/- A store whose disk has a bit turned. -/
import Derived.Test.YtmgmfnimaafkdaaGreatDoorVF
import Derived.Test.YtmgmfnimaafkdaaGreatDoorVP
import Derived.StillTailTactics
import Derived.BigRegion
namespace Go.Proofs.YtmgmfnimaafkdaaGreatDoor
section
open Go.RowKit Go.Maps
set_option maxRecDepth 100000

def LastAt {α : Type} (n : Nat) (l : List (Nat × α)) (j : Nat) : Prop := ∃ h : j < l.length, l[j].1 = n ∧ ∀ k (hk : k < l.length), j < k → l[k].1 ≠ n
theorem setLast_spec (n : Nat) (v : SecV) : ∀ ws : List (Nat × SecV), (∃ j, LastAt n ws j ∧ setLast n v ws = some (ws.set j (n, v))) ∨ ((∀ x ∈ ws, x.1 ≠ n) ∧ setLast n v ws = none)
 | [] => .inr ⟨(fun x hx => by cases hx), rfl⟩
 | w :: ws => by
  rcases setLast_spec n v ws with ⟨j, ⟨hj, h1, h2⟩, h3⟩ | ⟨h1, h2⟩
  ·refine .inl ⟨j + 1, ⟨by simp; omega, by simpa using h1, fun k hk hjk => ?_⟩, ?_⟩
   ·obtain ⟨k', rfl⟩ : ∃ k', k = k' + 1 := ⟨k - 1, by omega⟩
    have := h2 k' (by simpa using hk) (by omega)
    simpa using this
   ·simp only [setLast, h3, List.set_cons_succ]
  ·by_cases hw : w.1 = n
   ·refine .inl ⟨0, ⟨by simp, by simpa using hw, fun k hk hjk => ?_⟩, ?_⟩
    ·obtain ⟨k', rfl⟩ : ∃ k', k = k' + 1 := ⟨k - 1, by omega⟩
     have hk' : k' < ws.length := by simpa using hk
     have := h1 _ (List.getElem_mem hk')
     simpa using this
    ·simp only [setLast, h2, if_pos hw, List.set_cons_zero]
   ·refine .inr ⟨fun x hx => ?_, ?_⟩
    ·rcases List.mem_cons.1 hx with rfl | hx
     ·exact hw
     ·exact h1 x hx
    ·simp only [setLast, h2, if_neg hw]
theorem find_last {α : Type} {n : Nat} {l : List (Nat × α)} {j : Nat} (h : LastAt n l j) : l.reverse.find? (fun x => x.1 == n) = some (l[j]'(h.1)) := by
 obtain ⟨hj, h1, h2⟩ := h
 rw [List.find?_eq_some_iff_getElem]
 refine ⟨by simpa using h1, l.length - 1 - j, by simp; omega, ?_, fun i hi => ?_⟩
 ·rw [List.getElem_reverse]
  congr 1
  omega
 ·rw [List.getElem_reverse]
  have := h2 (l.length - 1 - i) (by omega) (by omega)
  simpa using this
theorem find_none {α : Type} {n : Nat} {l : List (Nat × α)} (h : ∀ x ∈ l, x.1 ≠ n) : l.reverse.find? (fun x => x.1 == n) = none := by
 rw [List.find?_eq_none]
 intro x hx
 simpa using h x (by simpa using hx)
theorem lastAt_map {α β : Type} {n j : Nat} {a : List (Nat × α)} {b : List (Nat × β)} (h : LastAt n a j) (he : a.map (·.1) = b.map (·.1)) : LastAt n b j := by
 have hl : a.length = b.length := by have := congrArg List.length he; simpa using this
 have hk : ∀ k (h1 : k < a.length) (h2 : k < b.length), a[k].1 = b[k].1 := fun k h1 h2 => by
  have := congrArg (fun l => l[k]?) he
  simpa [h1, h2] using this
 obtain ⟨hj, h1, h2⟩ := h
 exact ⟨by omega, by rw [← hk j hj (by omega)]; exact h1, fun k hkk hjk => by rw [← hk k (by omega) hkk]; exact h2 k (by omega) hjk⟩
theorem Cont.other {w w' : World} {base size g g' c : Nat} {v : SecV} {cs : Array Value} {xs : List Value} {n : Nat} (h : Cont w base size g' v) (hg : Blk w g 169 cs) (ho : w.ownsRow base 5 1 (.slice (some ⟨g - 1, 0, none⟩) n c) n xs) (h0 : 0 < g) (hne : g' ≠ g)
  (hk : ∀ k, k ≠ g → k ≠ g - 1 → w'.heap[k]? = w.heap[k]?) : Cont w' base size g' v := by
 have t1 : tyOf w (g - 1) = some 5 := own_ty ho rfl
 have ng : g' ≠ g - 1 := fun e => by
  cases v with
  | zero => exact h
  | torn => have := h.2.ty; rw [e, t1] at this; cases this
  | data b t => obtain ⟨_, _, c, hb, _⟩ := h; have := hb.ty; rw [e, t1] at this; cases this
 cases v with
 | zero => exact h
 | torn => exact ⟨h.1, (hk g' hne ng).trans h.2⟩
 | data b t =>
  obtain ⟨h1, h2, c', hb, hr⟩ := h
  refine ⟨h1, h2, c', (hk g' hne ng).trans hb, ?_⟩
  have t2 : tyOf w (g' - 1) = some 5 := own_ty hr rfl
  have n1 : g' - 1 ≠ g := fun e => by
   have := hg.ty; rw [← e, t2] at this; cases this
  have n2 : g' - 1 ≠ g - 1 := by omega
  refine ⟨hr.1, ?_⟩
  rcases hr.2 with ⟨hv, _⟩ | ⟨q, cap, cur, hv, hbg, hq, r⟩
  ·cases hv
  ·injection hv with hv e2 e3
   injection hv with hv
   injection hv with hv
   subst hv; subst e3
   exact .inr ⟨_, _, cur, rfl, hbg, (hk _ n1 n2).trans hq, r⟩
theorem DskR.rotted {base B : Nat} {w w' : World} {d : DskV} {m : DskM} (h : DskR w base B d m) {n g c bit : Nat} {b : List UInt8} (hn : n < d.lasts.length) (hb8 : bit < 8 * d.size) (hoff : d.off = false) (ht : m.told n = some g) (hv : d.told n = .data b false)
  (hg : Blk w g 169 #[.slice (some ⟨g - 1, 0, none⟩) d.size c, .bool false, .bool false]) (ho : w.ownsRow base 5 1 (.slice (some ⟨g - 1, 0, none⟩) d.size c) d.size (b.map u8v)) (h0 : base < g) (hbl : b.length = d.size)
  (hg' : Blk w' g 169 #[.slice (some ⟨g - 1, 0, none⟩) d.size c, .bool false, .bool true]) (ho' : w'.ownsRow base 5 1 (.slice (some ⟨g - 1, 0, none⟩) d.size c) d.size ((flipB b bit).map u8v))
  (hk : ∀ k, k ≠ g → k ≠ g - 1 → w'.heap[k]? = w.heap[k]?) : ∃ d', rotD d n bit = (0, d') ∧ DskR w' base B d' m := by
 have tg := hg.ty
 have t1 : tyOf w (g - 1) = some 5 := own_ty ho rfl
 have keepB : ∀ {k : Nat} {t : TypeId} {cs : Array Value}, Blk w k t cs → t ≠ 169 → t ≠ 5 → Blk w' k t cs := fun {k t cs} hb h1 h2 => (hk k (fun e => h1 (by have := hb.ty; rw [e, tg] at this; injection this with this; exact this.symm)) (fun e => h2 (by have := hb.ty; rw [e, t1] at this; injection this with this; exact this.symm))).trans hb
 have keepO : ∀ {v : Value} {k : Nat} {xs : List Value}, w.ownsRow base 167 2 v k xs → w'.ownsRow base 167 2 v k xs := fun {v k xs} hr => by
  refine ⟨hr.1, ?_⟩
  rcases hr.2 with hq | ⟨q, cap, cur, hv, hbg, hq, r⟩
  ·exact .inl hq
  ·have tq : tyOf w q = some 167 := by simp [tyOf, hq]
   exact .inr ⟨q, cap, cur, hv, hbg, (hk q (fun e => by rw [e, tg] at tq; cases tq) (fun e => by rw [e, t1] at tq; cases tq)).trans hq, r⟩
 have hnew : Cont w' base d.size g (.data (flipB b bit) true) := ⟨by unfold flipB; rw [List.length_set]; exact hbl, h0, c, hg', ho'⟩
 have hother : ∀ {g' : Nat} {v : SecV}, Cont w base d.size g' v → g' ≠ g → Cont w' base d.size g' v := fun {g' v} hc hne => hc.other hg ho (by omega) hne hk
 have hrot : rotSec d.size bit (d.told n) = (0, .data (flipB b bit) true) := by rw [hv]; rfl
 have hnd := List.nodup_append.1 h.nd
 have hl : m.wi.length = d.waits.length := by have := congrArg List.length h.wl; simpa using this
 have hlastne : ∀ k, k < d.lasts.length → ∀ g', m.last k = some g' → g' ∈ m.li.filterMap id := fun k hk' g' he => by
  unfold DskM.last at he
  rw [List.mem_filterMap]
  refine ⟨some g', ?_, rfl⟩
  rw [List.getD, List.getElem?_eq_getElem (by rw [h.ll]; exact hk')] at he
  have he : m.li[k]'(by rw [h.ll]; exact hk') = some g' := he
  rw [← he]; exact List.getElem_mem _
 unfold rotD
 rw [if_neg (by omega), hoff, hrot]
 simp only [Bool.false_eq_true, if_false]
 rcases setLast_spec n (.data (flipB b bit) true) d.waits with ⟨j, hj, hs⟩ | ⟨hno, hs⟩
 ·rw [hs]
  refine ⟨_, rfl, ?_⟩
  have hjm : LastAt n m.wi j := lastAt_map hj h.wl.symm
  have hgj : (m.wi[j]'(hjm.1)).2 = g := by
   have := find_last hjm
   unfold DskM.told at ht
   rw [this] at ht
   injection ht
  have hgm : g ∈ m.wi.map (·.2) := by rw [← hgj]; exact List.mem_map.2 ⟨_, List.getElem_mem hjm.1, rfl⟩
  refine { h with blk := by (have := keepB h.blk (by decide) (by decide); unfold dskC at this ⊢; rw [hoff] at this; simpa using this), lb := keepB h.lb (by decide) (by decide), tb := keepB h.tb (by decide) (by decide), own := keepO h.own, wl := ?_, last := fun k hk' => ?_, wait := fun k h1 h2 => ?_ }
  ·rw [h.wl]
   show d.waits.map (·.1) = (d.waits.set j (n, _)).map (·.1)
   rw [List.map_set]
   refine (List.ext_getElem (by simp) fun i h1 h2 => ?_)
   rw [List.getElem_set]
   split
   ·rename_i e; subst e; simpa using hj.2.1
   ·rfl
  ·have := h.last k hk'
   show SecAt w' base d.size (m.last k) (d.lasts.getD k .zero)
   cases he : m.last k with
   | none => rw [he] at this; exact this
   | some g' =>
    rw [he] at this
    exact hother this (fun e => hnd.2.2 g hgm g (e ▸ hlastne k hk' g' he) rfl)
  ·have h2' : k < d.waits.length := by simpa using h2
   have := h.wait k h1 h2'
   show Cont w' base d.size m.wi[k].2 ((d.waits.set j (n, .data (flipB b bit) true))[k]'h2).2
   rw [List.getElem_set]
   by_cases e : j = k
   ·subst e
    rw [if_pos rfl, hgj]
    exact hnew
   ·rw [if_neg e]
    refine hother this (fun e2 => ?_)
    have hnp := List.pairwise_iff_getElem.1 (List.pairwise_map.1 hnd.1)
    rcases Nat.lt_or_gt_of_ne e with hlt | hlt
    ·exact hnp j k hjm.1 h1 hlt (by rw [hgj, e2])
    ·exact hnp k j h1 hjm.1 hlt (by rw [hgj, e2])
 ·rw [hs]
  refine ⟨_, rfl, ?_⟩
  have hnm : ∀ x ∈ m.wi, x.1 ≠ n := fun x hx e => by
   have : x.1 ∈ d.waits.map (·.1) := by rw [← h.wl]; exact List.mem_map.2 ⟨x, hx, rfl⟩
   obtain ⟨y, hy, he⟩ := List.mem_map.1 this
   exact hno y hy (he.trans e)
  have hgn : m.last n = some g := by
   unfold DskM.told at ht
   rw [find_none hnm] at ht
   exact ht
  have hgm : g ∈ m.li.filterMap id := hlastne n hn g hgn
  refine { h with n1 := by show 1 ≤ (d.lasts.set n _).length ∧ _; rw [List.length_set]; exact h.n1, blk := ?_, lb := keepB h.lb (by decide) (by decide), tb := ?_, own := keepO h.own, ll := by show _ = (d.lasts.set n _).length; rw [List.length_set]; exact h.ll, wlt := fun x hx => by show _ < (d.lasts.set n _).length; rw [List.length_set]; exact h.wlt x hx, last := fun k hk' => ?_, wait := fun k h1 h2 => ?_ }
  ·have := keepB h.blk (by decide) (by decide)
   unfold dskC at this ⊢
   rw [hoff] at this
   simpa using this
  ·have := keepB h.tb (by decide) (by decide)
   show Blk w' m.TB 165 ((List.range (d.lasts.set n _).length).map fun k => ptrV (m.told k)).toArray
   rw [List.length_set]; exact this
  ·have hk2 : k < d.lasts.length := by have : k < (d.lasts.set n (.data (flipB b bit) true)).length := hk'; simpa using this
   have := h.last k hk2
   show SecAt w' base d.size (m.last k) ((d.lasts.set n (.data (flipB b bit) true)).getD k .zero)
   by_cases e : n = k
   ·subst e
    rw [hgn]
    have : (d.lasts.set n (.data (flipB b bit) true)).getD n .zero = .data (flipB b bit) true := by
     rw [List.getD, List.getElem?_set_self hn]; rfl
    rw [this]
    exact hnew
   ·have e2 : (d.lasts.set n (.data (flipB b bit) true)).getD k .zero = d.lasts.getD k .zero := by
     rw [List.getD, List.getElem?_set_ne e]; rfl
    rw [e2]
    cases he : m.last k with
    | none => rw [he] at this; exact this
    | some g' =>
     rw [he] at this
     refine hother this (fun e3 => ?_)
     subst e3
     unfold DskM.last at he hgn
     rw [List.getD, List.getElem?_eq_getElem (by rw [h.ll]; exact hk2)] at he
     rw [List.getD, List.getElem?_eq_getElem (by rw [h.ll]; exact hn)] at hgn
     have he : m.li[k]'(by rw [h.ll]; exact hk2) = some g' := he
     have hgn : m.li[n]'(by rw [h.ll]; exact hn) = some g' := hgn
     have hli : m.li.Pairwise fun a b => ∀ x, a = some x → b ≠ some x := by
      refine (List.pairwise_filterMap.1 hnd.2.1).imp fun {a b} hab x ha hb => ?_
      exact hab x ha x hb rfl
     have hnp := List.pairwise_iff_getElem.1 hli
     rcases Nat.lt_or_gt_of_ne e with hlt | hlt
     ·exact hnp n k (by rw [h.ll]; exact hn) (by rw [h.ll]; exact hk2) hlt g' hgn he
     ·exact hnp k n (by rw [h.ll]; exact hk2) (by rw [h.ll]; exact hn) hlt g' he hgn
  ·have := h.wait k h1 h2
   exact hother this (fun e => hnd.2.2 _ (List.mem_map.2 ⟨_, List.getElem_mem h1, rfl⟩) g hgm e)
theorem Cont.old {w w' : World} {base size g' : Nat} {v : SecV} (h : Cont w base size g' v) (hk : ∀ k t, tyOf w k = some t → t ≠ 165 → w'.heap[k]? = w.heap[k]?) : Cont w' base size g' v := by
 cases v with
 | zero => exact h
 | torn => exact ⟨h.1, (hk g' _ h.2.ty (by decide)).trans h.2⟩
 | data b t =>
  obtain ⟨h1, h2, c', hb, hr⟩ := h
  refine ⟨h1, h2, c', (hk g' _ hb.ty (by decide)).trans hb, hr.1, ?_⟩
  rcases hr.2 with ⟨hv, _⟩ | ⟨q, cap, cur, hv, hbg, hq, r⟩
  ·cases hv
  ·exact .inr ⟨q, cap, cur, hv, hbg, (hk q 5 (by simp [tyOf, hq]) (by decide)).trans hq, r⟩
theorem DskR.rotZero {base B : Nat} {w w' : World} {d : DskV} {m : DskM} (h : DskR w base B d m) {n g c bit : Nat} (hn : n < d.lasts.length) (hb8 : bit < 8 * d.size) (hoff : d.off = false) (ht : m.told n = none) (hlo : w.heap.size ≤ g) (h0 : base < g)
  (hg' : Blk w' g 169 #[.slice (some ⟨g - 1, 0, none⟩) d.size c, .bool false, .bool true]) (ho' : w'.ownsRow base 5 1 (.slice (some ⟨g - 1, 0, none⟩) d.size c) d.size ((flipB (List.replicate d.size 0) bit).map u8v))
  (hlb : Blk w' m.LB 165 ((m.li.map ptrV).toArray.setIfInBounds n (ptrV (some g)))) (htb : Blk w' m.TB 165 (((List.range d.lasts.length).map fun k => ptrV (m.told k)).toArray.setIfInBounds n (ptrV (some g))))
  (hk : ∀ k t, tyOf w k = some t → t ≠ 165 → w'.heap[k]? = w.heap[k]?) : ∃ d', rotD d n bit = (0, d') ∧ DskR w' base B d' { m with li := m.li.set n (some g) } := by
 have hz : d.told n = .zero := by
  have := h.told_at n hn
  rw [ht] at this
  exact this
 have hnm : ∀ x ∈ m.wi, x.1 ≠ n := fun x hx e => by
  unfold DskM.told at ht
  cases hf : m.wi.reverse.find? (fun x => x.1 == n) with
  | none =>
   rw [List.find?_eq_none] at hf
   exact hf x (by simpa using hx) (by simpa using e)
  | some y => rw [hf] at ht; cases ht
 have hno : ∀ x ∈ d.waits, x.1 ≠ n := fun x hx e => by
  have : x.1 ∈ m.wi.map (·.1) := by rw [h.wl]; exact List.mem_map.2 ⟨x, hx, rfl⟩
  obtain ⟨y, hy, he⟩ := List.mem_map.1 this
  exact hnm y hy (he.trans e)
 have hln : m.last n = none := by
  unfold DskM.told at ht
  rw [find_none hnm] at ht
  exact ht
 have hnl : n < m.li.length := by rw [h.ll]; exact hn
 have hli : m.li[n] = none := by
  unfold DskM.last at hln
  rw [List.getD, List.getElem?_eq_getElem hnl] at hln
  exact hln
 have hsl : setLast n (.data (flipB (List.replicate d.size 0) bit) true) d.waits = none := by
  rcases setLast_spec n (.data (flipB (List.replicate d.size 0) bit) true) d.waits with ⟨j, ⟨hj, h1, _⟩, _⟩ | ⟨_, hs⟩
  ·exact absurd h1 (hno _ (List.getElem_mem hj))
  ·exact hs
 unfold rotD
 rw [if_neg (by omega), hoff, hz]
 simp only [Bool.false_eq_true, if_false, rotSec, hsl]
 refine ⟨_, rfl, ?_⟩
 have keepB : ∀ {k : Nat} {t : TypeId} {cs : Array Value}, Blk w k t cs → t ≠ 165 → Blk w' k t cs := fun {k t cs} hb h1 => (hk k t hb.ty h1).trans hb
 have htold : ∀ k, ({ m with li := m.li.set n (some g) } : DskM).told k = if n = k then some g else m.told k := fun k => by
  unfold DskM.told DskM.last
  simp only
  by_cases e : n = k
  ·subst e
   rw [find_none hnm, if_pos rfl, List.getD, List.getElem?_set_self hnl]; rfl
  ·rw [if_neg e]
   cases m.wi.reverse.find? (fun x => x.1 == k) with
   | some y => rfl
   | none => simp only; rw [List.getD, List.getElem?_set_ne e]; rfl
 have hsp : m.li = m.li.take n ++ none :: m.li.drop (n + 1) := by
  conv => lhs; rw [← List.take_append_drop n m.li]
  rw [List.drop_eq_getElem_cons hnl, hli]
 refine { low := h.low, ne := h.ne, sz := h.sz, n1 := by show 1 ≤ (d.lasts.set n _).length ∧ _; rw [List.length_set]; exact h.n1, blk := ?_, lb := ?_, tb := ?_, own := ?_, ll := by show (m.li.set n _).length = (d.lasts.set n _).length; rw [List.length_set, List.length_set]; exact h.ll, wl := h.wl, wlt := fun x hx => by show _ < (d.lasts.set n _).length; rw [List.length_set]; exact h.wlt x hx, last := fun k hk' => ?_, wait := fun k h1 h2 => (h.wait k h1 h2).old hk, nd := ?_ }
 ·have := keepB h.blk (by decide)
  unfold dskC at this ⊢
  rw [hoff] at this
  simpa using this
 ·show Blk w' m.LB 165 ((m.li.set n (some g)).map ptrV).toArray
  rw [List.map_set]
  simpa using hlb
 ·show Blk w' m.TB 165 ((List.range (d.lasts.set n _).length).map fun k => ptrV (({ m with li := m.li.set n (some g) } : DskM).told k)).toArray
  rw [List.length_set]
  have e : ((List.range d.lasts.length).map fun k => ptrV (({ m with li := m.li.set n (some g) } : DskM).told k)).toArray = ((List.range d.lasts.length).map fun k => ptrV (m.told k)).toArray.setIfInBounds n (ptrV (some g)) := by
   apply Array.ext
   ·simp
   ·intro i h1 h2
    rw [Array.getElem_setIfInBounds (by simpa using h2)]
    simp only [List.getElem_toArray, List.getElem_map, List.getElem_range, htold]
    split
    ·rfl
    ·simp
  rw [e]; exact htb
 ·have hr := h.own
  refine ⟨hr.1, ?_⟩
  rcases hr.2 with hq | ⟨q, cap, cur, hv, hbg, hq, r⟩
  ·exact .inl hq
  ·exact .inr ⟨q, cap, cur, hv, hbg, (hk q 167 (by simp [tyOf, hq]) (by decide)).trans hq, r⟩
 ·have hk2 : k < d.lasts.length := by have : k < (d.lasts.set n (.data (flipB (List.replicate d.size 0) bit) true)).length := hk'; simpa using this
  show SecAt w' base d.size ((m.li.set n (some g)).getD k none) ((d.lasts.set n (.data (flipB (List.replicate d.size 0) bit) true)).getD k .zero)
  by_cases e : n = k
  ·subst e
   rw [List.getD, List.getElem?_set_self hnl, List.getD, List.getElem?_set_self hn]
   exact ⟨by unfold flipB; simp, h0, c, hg', ho'⟩
  ·rw [List.getD, List.getElem?_set_ne e, List.getD, List.getElem?_set_ne e]
   have := h.last k hk2
   unfold DskM.last at this
   rw [List.getD, List.getD] at this
   cases he : m.li[k]?.getD none with
   | none => rw [he] at this; exact this
   | some g' =>
    rw [he] at this
    exact Cont.old this hk
 ·have hlt := h.ids_lt
  show (m.wi.map (·.2) ++ (m.li.set n (some g)).filterMap id).Nodup
  have e1 : m.li.set n (some g) = m.li.take n ++ some g :: m.li.drop (n + 1) := by
   rw [List.set_eq_take_append_cons_drop, if_pos hnl]
  have hnd := h.nd
  rw [hsp, List.filterMap_append, List.filterMap_cons_none rfl] at hnd hlt
  rw [e1, List.filterMap_append, show (some g :: m.li.drop (n + 1)).filterMap id = g :: (m.li.drop (n + 1)).filterMap id from rfl, ← List.append_assoc]
  rw [← List.append_assoc] at hnd hlt
  refine (List.perm_middle.nodup_iff).2 (List.nodup_cons.2 ⟨fun hm => ?_, hnd⟩)
  have := hlt g hm
  omega
end
section
open Go.RowKit Go.Maps
set_option maxRecDepth 100000

theorem bits_xor_u8_nat (a b : Nat) (ha : a < 256) (hb : b < 256) : bits .xor .u8 (a : Int) (b : Int) = ((a ^^^ b : Nat) : Int) := by
 have hx : a ^^^ b < 2 ^ 8 := Nat.xor_lt_two_pow (by omega) (by omega)
 have h1 : (BitVec.ofInt 8 (a : Int)).toNat = a := by
  rw [BitVec.ofInt_natCast, BitVec.toNat_ofNat]; exact Nat.mod_eq_of_lt (by omega)
 have h2 : (BitVec.ofInt 8 (b : Int)).toNat = b := by
  rw [BitVec.ofInt_natCast, BitVec.toNat_ofNat]; exact Nat.mod_eq_of_lt (by omega)
 show IntKind.u8.wrap ((BitVec.ofInt 8 (a : Int) ^^^ BitVec.ofInt 8 (b : Int)).toNat : Int) = _
 rw [BitVec.toNat_xor, h1, h2, IntKind.wrap_u8]
 omega
theorem bits_flip (x : UInt8) (j : Nat) : (.int .u8 (bits BinOp.xor IntKind.u8 ((x.toNat : Nat) : Int) (2 ^ j % 256)) : Value) = u8v (x ^^^ UInt8.ofNat (2 ^ j)) := by
 have e : ((2 : Int) ^ j % 256) = ((2 ^ j % 256 : Nat) : Int) := by rw [Int.natCast_emod, Int.natCast_pow]; rfl
 rw [e, bits_xor_u8_nat _ _ (UInt8.toNat_lt x) (Nat.mod_lt _ (by omega))]
 unfold u8v
 rw [UInt8.toNat_xor, UInt8.toNat_ofNat']
theorem own_flip {w : World} {base q n c k : Nat} {cur : Array Value} {b : List UInt8} (h : Blk w q 5 cur) (hcz : cur.size = c) (hct : cur.toList.take n = b.map u8v) (hcm : n ≤ c) (hcl : c ≤ maxLen) (hq : base ≤ q) (hb : b.length = n) (x : UInt8) :
  (w.setCell ⟨q, k, none⟩ (u8v x)).ownsRow base 5 1 (.slice (some ⟨q, 0, none⟩) n c) n ((b.set k x).map u8v) := by
 refine ⟨by simp [hb], .inr ⟨q, c, cur.setIfInBounds k (u8v x), rfl, hq, h.set k (u8v x), hcm, hcl, by simp [hcz], ?_⟩⟩
 rw [Nat.mul_one, Array.toList_setIfInBounds, List.take_set, hct, List.map_set]
theorem byt_flip {w : World} {q k : Nat} {cur : Array Value} (hu : Blk w q 5 cur) (x : UInt8) {A : Option Addr} {l : List UInt8} (h : Byt w A l) : ∃ l', l'.length = l.length ∧ Byt (w.setCell ⟨q, k, none⟩ (u8v x)) A l' := by
 by_cases hz : 0 < l.length
 ·obtain ⟨b, o, rfl, hb, ht, hc⟩ := h.at hz
  have hu' := hu.set k (u8v x)
  refine ⟨(List.range l.length).map fun j => if b = q ∧ o + j = k then x else l.getD j 0, by simp, ⟨⟨by simp, fun _ => ⟨b, o, rfl, by simpa using hb, fun j hj => ?_⟩⟩, fun _ a ha => ?_⟩⟩
  ·have hj' : j < l.length := by simpa using hj
   have h0 := hc j hj'
   simp only [List.getElem_map, List.getElem_range]
   by_cases e : b = q
   ·subst e
    rw [hu.cell] at h0
    rw [hu'.cell, Array.getElem?_setIfInBounds]
    by_cases e2 : k = o + j
    ·subst e2
     have : o + j < cur.size := by
      rcases Nat.lt_or_ge (o + j) cur.size with hlt | hge
      ·exact hlt
      ·rw [Array.getElem?_eq_none hge] at h0; cases h0
     simp [this]
    ·rw [if_neg e2, h0, if_neg (by omega)]
     simp [u8v, List.getElem?_eq_getElem hj']
   ·rw [if_neg (by simp [e])]
    have := Below.heap_setCell w ⟨q, k, none⟩ (u8v x) b e
    have e3 : (w.setCell ⟨q, k, none⟩ (u8v x)).cell? ⟨b, o + j, none⟩ = w.cell? ⟨b, o + j, none⟩ := by simp only [World.cell?, this]
    rw [e3, h0]
    simp [u8v, List.getElem?_eq_getElem hj']
  ·injection ha with ha; subst ha
   by_cases e : b = q
   ·subst e; exact hu'.ty
   ·have := Below.heap_setCell w ⟨q, k, none⟩ (u8v x) b e
    show tyOf _ b = _
    unfold tyOf at ht ⊢
    rw [this]; exact ht
 ·obtain rfl : l = [] := List.eq_nil_of_length_eq_zero (by omega)
  exact ⟨[], rfl, ⟨⟨by simp, fun h => absurd h (by simp)⟩, fun h => absurd h (by simp)⟩⟩
theorem ty_of_heap' {w w' : World} {k : Nat} (h : w'.heap[k]? = w.heap[k]?) : tyOf w' k = tyOf w k := by unfold tyOf; rw [h]
def RotOut (w w' : World) (base B : Nat) (r : Nat × DskV) (e : Ending) : Prop :=
 e = .returned (.int .i64 r.1) ∧ Dsk w' base B r.2 ∧ Keeps base [165, 169, 5] w w' ∧ ∀ A l, Byt w A l → ∃ l', l'.length = l.length ∧ Byt w' A l'
theorem RotOut.same {w : World} {base B : Nat} {d : DskV} (h : Dsk w base B d) (c : Nat) : RotOut w w base B (c, d) (.returned (.int .i64 c)) := ⟨rfl, h, Keeps.refl _ _ _, fun _ l hl => ⟨l, rfl, hl⟩⟩
section
attribute [local go_sem ↓] run_make43
set_option maxHeartbeats 4000000 in
theorem diskRot_any {w : World} {base B : Nat} {d : DskV} (h : Dsk w base B d) (n bit : Nat) :
  Calls Tryz.prog 39 #[.pointer (some ⟨B, 0, none⟩), .int .i64 n, .int .i64 bit] w fun e w' => RotOut w w' base B (rotD d n bit) e := by
 have hD := h
 obtain ⟨m, h⟩ := h
 have hb := h.blk
 have hlt := hb.lt
 have e0 : w.cell? ⟨B, 0, none⟩ = some (.int .i64 d.size) := hb.cell 0
 have e1 : w.cell? ⟨B, 1, none⟩ = some (.slice (some ⟨m.LB, 0, none⟩) d.lasts.length d.lasts.length) := hb.cell 1
 have e2 : w.cell? ⟨B, 2, none⟩ = some (.slice (some ⟨m.TB, 0, none⟩) d.lasts.length d.lasts.length) := hb.cell 2
 have e4 : w.cell? ⟨B, 4, none⟩ = some (.bool d.off) := hb.cell 4
 have sz1 := h.sz.1
 have sz2 := h.sz.2
 have z0 : (0 : Int) ≤ d.size := by omega
 have z1 : (d.size : Int) ≤ 65536 := by omega
 have HD := hZ9 hD
 obtain ⟨r, hr⟩ : ∃ r, r = rotD d n bit := ⟨_, rfl⟩
 rw [← hr]
 have q8 : IntKind.i64.wrap (8 * (d.size : Int)) = 8 * (d.size : Int) := by rw [IntKind.wrap_i64]; omega
 have b0 : ¬ ((bit : Int) < 0) := by omega
 by_cases hn : d.lasts.length ≤ n
 ·have hr' : r = (1, d) := by rw [hr]; unfold rotD; rw [if_pos (.inl hn)]
  subst hr'
  clear h hD hb hr
  go_enter Tryz.func39, Tryz.ntmps39
  go_wp2_with (go_at_call 92; refine (diskHas_no HD.out hn).mono ?_; rintro e w' ⟨rfl, rfl⟩)
  all_goals (go_ret; exact RotOut.same HD.out 1)
 ·by_cases hbit : 8 * d.size ≤ bit
  ·have hr' : r = (1, d) := by rw [hr]; unfold rotD; rw [if_pos (.inr hbit)]
   subst hr'
   have q9 : (8 * (d.size : Int) ≤ (bit : Int)) := by omega
   clear h hD hb hr
   go_enter Tryz.func39, Tryz.ntmps39
   go_wp2_with (go_at_call 92; refine (diskHas_ok HD.out (by omega)).mono ?_; rintro e w' ⟨rfl, rfl⟩)
   all_goals (go_ret; exact RotOut.same HD.out 1)
  ·have hno : ¬ (d.lasts.length ≤ n ∨ 8 * d.size ≤ bit) := by omega
   have q9 : ¬ (8 * (d.size : Int) ≤ (bit : Int)) := by omega
   by_cases ho : d.off = true
   ·have hr' : r = (10, d) := by rw [hr]; unfold rotD; rw [if_neg hno, if_pos ho]
    subst hr'
    rw [ho] at e4
    clear h hD hb hr
    go_enter Tryz.func39, Tryz.ntmps39
    go_wp2_with (go_at_call 92; refine (diskHas_ok HD.out (by omega)).mono ?_; rintro e w' ⟨rfl, rfl⟩)
    go_ret
    exact RotOut.same HD.out 10
   ·have ho' : d.off = false := by simpa using ho
    have hn' : n < d.lasts.length := by omega
    have hs := h.told_at n hn'
    have et : w.cell? ⟨m.TB, n, none⟩ = some (ptrV (m.told n)) := by
     rw [h.tb.cell n]; simp [hn']
    have htl := h.tb.lt
    rw [ho'] at e4
    cases hq : m.told n with
    | none =>
     rw [hq] at hs et
     have hz : d.told n = .zero := hs
     simp only [ptrV] at et
     have hll : n < m.li.length := by rw [h.ll]; exact hn'
     have ltl := h.lb.lt
     have HH := hZ9 h
     have HR := hZ9 hr
     have HZ := hZ9 hz
     have HQ := hZ9 hq
     have HN := hZ9 hno
     have HNo := hZ9 ho'
     clear h hD hb hr ho hz hq hno hs
     go_enter Tryz.func39, Tryz.ntmps39
     go_upto_region 10 with (go_at_call 92; refine (diskHas_ok HD.out (by omega)).mono ?_; rintro e w' ⟨rfl, rfl⟩)
     have hB2 : Below w.heap.size w ((w.alloc (.cells (zerosA d.size) 5)).alloc (.cells #[.slice (some ⟨w.heap.size, 0, none⟩) d.size d.size, .bool false, .bool false] 169)) := (bR0.alloc nR0 _).alloc (by simp) _
     have bz : Blk ((w.alloc (.cells (zerosA d.size) 5)).alloc (.cells #[.slice (some ⟨w.heap.size, 0, none⟩) d.size d.size, .bool false, .bool false] 169)) w.heap.size 5 (zerosA d.size) := (Blk.new w 5 _).alloc _
     have bg : Blk ((w.alloc (.cells (zerosA d.size) 5)).alloc (.cells #[.slice (some ⟨w.heap.size, 0, none⟩) d.size d.size, .bool false, .bool false] 169)) (w.heap.size + 1) 169 #[.slice (some ⟨w.heap.size, 0, none⟩) d.size d.size, .bool false, .bool false] := Blk.new_eq0 (by simp)
     have hz2 : ((w.alloc (.cells (zerosA d.size) 5)).alloc (.cells #[.slice (some ⟨w.heap.size, 0, none⟩) d.size d.size, .bool false, .bool false] 169)).heap.size = w.heap.size + 2 := by simp
     generalize (w.alloc (.cells (zerosA d.size) 5)).alloc (.cells #[.slice (some ⟨w.heap.size, 0, none⟩) d.size d.size, .bool false, .bool false] 169) = w2 at *
     have hk2 : Keeps base [] w w2 := Keeps.of_below hB2 (by have := HH.out.low.1; omega)
     have h2 : DskR w2 base B d m := HH.out.keeps hk2 (by simp) (by simp) (by simp) (by simp) (by simp)
     have x1 : w2.cell? ⟨B, 1, none⟩ = some (.slice (some ⟨m.LB, 0, none⟩) d.lasts.length d.lasts.length) := h2.blk.cell 1
     have x2 : w2.cell? ⟨B, 2, none⟩ = some (.slice (some ⟨m.TB, 0, none⟩) d.lasts.length d.lasts.length) := h2.blk.cell 2
     have y1 : ∃ v, w2.cell? ⟨m.LB, n, none⟩ = some v := by rw [h2.lb.cell]; simp [hll]
     obtain ⟨v1, y1⟩ := y1
     have y2 : ∃ v, w2.cell? ⟨m.TB, n, none⟩ = some v := by rw [h2.tb.cell]; simp [hn']
     obtain ⟨v2, y2⟩ := y2
     have f1 := h2.lb.free n
     have f2 := h2.tb.free n
     have n1 : m.LB ≠ B := h2.lb.ne h2.blk (by decide)
     have n2 : m.TB ≠ B := h2.tb.ne h2.blk (by decide)
     have n3 : m.LB ≠ m.TB := h2.ne
     have l1 := h2.blk.lt
     have l2 := h2.lb.lt
     have l3 := h2.tb.lt
     have H2 := hZ9 h2
     have K2 := hZ9 hk2
     have B2 := hZ9 hB2
     have BZ := hZ9 bz
     have BG := hZ9 bg
     obtain ⟨g0, hg0⟩ : ∃ g0, g0 = w.heap.size := ⟨_, rfl⟩
     have HZ2 := hZ9 hz2
     rw [← hg0] at HZ2 BZ BG B2 ⊢
     have HG0 := hZ9 hg0
     clear h2 hk2 hB2 bz bg hz2 hg0 e0 e1 e2 e4 et
     go_region
     have nn1 : m.LB ≠ g0 + 1 := fun e => by have := BG.out.ty; rw [← e, H2.out.lb.ty] at this; cases this
     have nn2 : m.TB ≠ g0 + 1 := fun e => by have := BG.out.ty; rw [← e, H2.out.tb.ty] at this; cases this
     have nn3 : m.LB ≠ g0 := fun e => by have := BZ.out.ty; rw [← e, H2.out.lb.ty] at this; cases this
     have nn4 : m.TB ≠ g0 := fun e => by have := BZ.out.ty; rw [← e, H2.out.tb.ty] at this; cases this
     have bl3 := ((H2.out.lb.far n3 (b := m.TB) (o := n) (.pointer (some ⟨g0 + 1, 0, none⟩))).set n (.pointer (some ⟨g0 + 1, 0, none⟩))).drew
     have bt3 := (((H2.out.tb.set n (.pointer (some ⟨g0 + 1, 0, none⟩))).far (Ne.symm n3) (b := m.LB) (o := n) (.pointer (some ⟨g0 + 1, 0, none⟩)))).drew
     have bg3 := ((BG.out.far (Ne.symm nn2) (b := m.TB) (o := n) (.pointer (some ⟨g0 + 1, 0, none⟩))).far (Ne.symm nn1) (b := m.LB) (o := n) (.pointer (some ⟨g0 + 1, 0, none⟩))).drew
     have bz3 := ((BZ.out.far (Ne.symm nn4) (b := m.TB) (o := n) (.pointer (some ⟨g0 + 1, 0, none⟩))).far (Ne.symm nn3) (b := m.LB) (o := n) (.pointer (some ⟨g0 + 1, 0, none⟩))).drew
     have k3 : Keeps base [165] w2 ((w2.setCell ⟨m.TB, n, none⟩ (.pointer (some ⟨g0 + 1, 0, none⟩))).setCell ⟨m.LB, n, none⟩ (.pointer (some ⟨g0 + 1, 0, none⟩))).drew :=
      (((Keeps.refl base _ w2).set H2.out.tb H2.out.low.2.2 (by simp) _).set (H2.out.lb.far n3 _) H2.out.low.2.1 (by simp) _).trans (Keeps.of_below bR0.drew (by have := H2.out.low.1; simp; omega))
     generalize ((w2.setCell ⟨m.TB, n, none⟩ (.pointer (some ⟨g0 + 1, 0, none⟩))).setCell ⟨m.LB, n, none⟩ (.pointer (some ⟨g0 + 1, 0, none⟩))).drew = w3 at *
     have c0 : w3.cell? ⟨g0 + 1, 0, none⟩ = some (.slice (some ⟨g0, 0, none⟩) d.size d.size) := bg3.cell 0
     have c1 : w3.cell? ⟨g0 + 1, 1, none⟩ = some (.bool false) := bg3.cell 1
     have c2 : w3.cell? ⟨g0 + 1, 2, none⟩ = some (.bool false) := bg3.cell 2
     have f2 := bg3.free 2
     have m1 := bg3.lt
     have BL3 := hZ9 bl3
     have BT3 := hZ9 bt3
     have BG3 := hZ9 bg3
     have BZ3 := hZ9 bz3
     have K3 := hZ9 k3
     clear bl3 bt3 bg3 bz3 k3 x1 x2 y1 y2 f1 n1 n2 n3 l1 l2 l3 nn1 nn2 nn3 nn4
     go_upto_region 16 with fail
     have hgg : g0 + 1 ≠ g0 := by omega
     have b1 : Blk (w3.setCell ⟨g0 + 1, 2, none⟩ (.bool true)) (g0 + 1) 169 #[.slice (some ⟨g0, 0, none⟩) d.size d.size, .bool false, .bool true] := BG3.out.set 2 (.bool true)
     have u1 : Blk (w3.setCell ⟨g0 + 1, 2, none⟩ (.bool true)) g0 5 (zerosA d.size) := BZ3.out.far (Ne.symm hgg) _
     have o1 : ∀ k, k ≠ g0 + 1 → k ≠ g0 → (w3.setCell ⟨g0 + 1, 2, none⟩ (.bool true)).heap[k]? = w3.heap[k]? := fun k h1 _ => Below.heap_setCell w3 ⟨g0 + 1, 2, none⟩ _ k h1
     have k1 : Keeps base [169] w3 (w3.setCell ⟨g0 + 1, 2, none⟩ (.bool true)) := (Keeps.refl base _ w3).set BG3.out (by have := HH.out.low.1; have := HG0.out; omega) (by simp) _
     generalize w3.setCell ⟨g0 + 1, 2, none⟩ (.bool true) = w1 at *
     obtain ⟨k8, hk0⟩ : ∃ k, k = bit / 8 := ⟨_, rfl⟩
     obtain ⟨j8, hj0⟩ : ∃ k, k = bit % 8 := ⟨_, rfl⟩
     have hk8 : k8 < d.size := by omega
     have x0 : w1.drew.cell? ⟨g0 + 1, 0, none⟩ = some (.slice (some ⟨g0, 0, none⟩) d.size d.size) := b1.drew.cell 0
     have xb : w1.drew.cell? ⟨g0, k8, none⟩ = some (.int .u8 0) := by
      rw [u1.drew.cell k8]; simp [zerosA, hk8, u8v]
     have xf := u1.drew.free k8
     have xl : g0 + 1 < w1.drew.heap.size := b1.lt
     have yl : g0 < w1.drew.heap.size := u1.lt
     have q1 : (bit : Int) / 8 = (k8 : Int) := by omega
     have q2 : (bit : Int) % 8 = (j8 : Int) := by omega
     have q1' : (bit : Int).tdiv 8 = (k8 : Int) := by rw [Int.tdiv_eq_ediv_of_nonneg (by omega)]; exact q1
     have q2' : (bit : Int).tmod 8 = (j8 : Int) := by rw [Int.tmod_eq_emod_of_nonneg (by omega)]; exact q2
     have q3 : (k8 : Int) < (d.size : Int) := by omega
     have q4 : (0 : Int) ≤ (k8 : Int) := by omega
     have q5 : (j8 : Int) < 8 := by omega
     have q6 : IntKind.i64.wrap (k8 : Int) = (k8 : Int) := by rw [IntKind.wrap_i64]; omega
     have q7 : IntKind.i64.wrap (j8 : Int) = (j8 : Int) := by rw [IntKind.wrap_i64]; omega
     have HK0 := hZ9 hk0
     have HJ0 := hZ9 hj0
     have B1 := hZ9 b1
     have U1 := hZ9 u1
     have K1 := hZ9 k1
     have O1 := hZ9 o1
     clear hk0 hj0 b1 u1 k1 o1 c0 c1 c2 f2
     go_still_tail 13, (by kernel_rfl)
     go_simp
     go_wp2
     go_ret
     have e0 := bits_flip 0 j8
     rw [show (((0 : UInt8).toNat : Nat) : Int) = 0 from rfl] at e0
     rw [e0]
     have e8 : flipB (List.replicate d.size 0) bit = (List.replicate d.size 0).set k8 (0 ^^^ UInt8.ofNat (2 ^ j8)) := by
      unfold flipB; rw [← HK0.out, ← HJ0.out]
      simp [hk8]
     have hgb : base ≤ g0 := by have := HH.out.low.1; have := HG0.out; omega
     have o2 := own_flip (x := 0 ^^^ UInt8.ofNat (2 ^ j8)) (k := k8) (n := d.size) (c := d.size) (b := List.replicate d.size 0) U1.out (by simp [zerosA]) (by simp [zerosA]) nR0 (by unfold maxLen; omega) hgb (by simp)
     rw [← e8] at o2
     have g2 := B1.out.far hgg (o := k8) (u8v (0 ^^^ UInt8.ofNat (2 ^ j8)))
     have k13 : Keeps base [165, 169, 5] w w1 := ((K2.out.mono (ts' := [165, 169, 5]) nR0 (by simp)).trans (K3.out.mono nR0 (by simp))).trans (K1.out.mono nR0 (by simp))
     have k2 := k13.trans ((Keeps.refl base [165, 169, 5] w1).set U1.out hgb (o := k8) (by simp) (u8v (0 ^^^ UInt8.ofNat (2 ^ j8))))
     have far : ∀ k, k ≠ g0 + 1 → k ≠ g0 → (w1.setCell ⟨g0, k8, none⟩ (u8v (0 ^^^ UInt8.ofNat (2 ^ j8)))).heap[k]? = w3.heap[k]? := fun k h1 h2 => (Below.heap_setCell w1 ⟨g0, k8, none⟩ _ k h2).trans (O1.out k h1 h2)
     have LL := BL3.out.lt
     have nn1 : m.LB ≠ g0 + 1 := fun e => by have := BG3.out.ty; rw [← e, BL3.out.ty] at this; cases this
     have nn2 : m.TB ≠ g0 + 1 := fun e => by have := BG3.out.ty; rw [← e, BT3.out.ty] at this; cases this
     have nn3 : m.LB ≠ g0 := fun e => by have := BZ3.out.ty; rw [← e, BL3.out.ty] at this; cases this
     have nn4 : m.TB ≠ g0 := fun e => by have := BZ3.out.ty; rw [← e, BT3.out.ty] at this; cases this
     obtain ⟨d', hd', hD'⟩ := HH.out.rotZero hn' (by omega) HNo.out HQ.out (g := g0 + 1) (by have := HG0.out; omega) (by have := HH.out.low.1; have := HG0.out; omega) g2 o2 ((far _ nn1 nn3).trans BL3.out) ((far _ nn2 nn4).trans BT3.out) (fun k t ht hne => by
      have hkl := tyOf_lt ht
      have e2 := K2.out.old k t ht (by simp)
      have e3 := K3.out.old k t (by rw [ty_of_heap' e2]; exact ht) (by simpa using hne)
      exact (far k (by have := HG0.out; omega) (by have := HG0.out; omega)).trans (e3.trans e2))
     have hbw : base ≤ (w1.setCell ⟨g0, k8, none⟩ (u8v (0 ^^^ UInt8.ofNat (2 ^ j8)))).heap.size := by have := k2.below.size; have := HH.out.low.1; omega
     have kd : Keeps base [] (w1.setCell ⟨g0, k8, none⟩ (u8v (0 ^^^ UInt8.ofNat (2 ^ j8)))) (w1.setCell ⟨g0, k8, none⟩ (u8v (0 ^^^ UInt8.ofNat (2 ^ j8)))).drew := Keeps.of_below bR0.drew hbw
     rw [HR.out, hd']
     refine ⟨rfl, ⟨_, hD'.keeps kd (by simp) (by simp) (by simp) (by simp) (by simp)⟩, k2.trans (kd.mono nR0 (by simp)), fun A l hl => ?_⟩
     obtain ⟨l', h1, h2⟩ := byt_flip (k := k8) U1.out (0 ^^^ UInt8.ofNat (2 ^ j8)) (((hl.keeps K2.out (by simp)).keeps K3.out (by simp)).keeps K1.out (by simp))
     exact ⟨l', h1, h2.keeps kd (by simp)⟩
    | some g =>
     rw [hq] at hs et
     simp only [ptrV] at et
     cases hv : d.told n with
     | zero => rw [hv] at hs; exact absurd hs (by simp [SecAt, Cont])
     | torn =>
      rw [hv] at hs
      have hr' : r = (9, d) := by rw [hr]; unfold rotD; rw [if_neg hno, if_neg ho, hv]; rfl
      have hc := hs.2
      have hgl := hc.lt
      have c1 : w.cell? ⟨g, 1, none⟩ = some (.bool true) := hc.cell 1
      subst hr'
      clear h hD hb hr ho hs hc
      go_enter Tryz.func39, Tryz.ntmps39
      go_wp2_with (go_at_call 92; refine (diskHas_ok HD.out (by omega)).mono ?_; rintro e w' ⟨rfl, rfl⟩)
      go_ret
      exact RotOut.same HD.out 9
     | data b tu =>
      rw [hv] at hs
      obtain ⟨hlen, hbg, c, hc, hown⟩ := hs
      have hgl := hc.lt
      have c0 : w.cell? ⟨g, 0, none⟩ = some (.slice (some ⟨g - 1, 0, none⟩) d.size c) := hc.cell 0
      have c1 : w.cell? ⟨g, 1, none⟩ = some (.bool false) := hc.cell 1
      have c2 : w.cell? ⟨g, 2, none⟩ = some (.bool tu) := hc.cell 2
      cases tu with
      | true =>
       have hr' : r = (11, d) := by rw [hr]; unfold rotD; rw [if_neg hno, if_neg ho, hv]; rfl
       subst hr'
       clear h hD hb hr ho hc hown hlen
       go_enter Tryz.func39, Tryz.ntmps39
       go_wp2_with (go_at_call 92; refine (diskHas_ok HD.out (by omega)).mono ?_; rintro e w' ⟨rfl, rfl⟩)
       go_ret
       exact RotOut.same HD.out 11
      | false =>
       have f2 := hc.free 2
       obtain ⟨k8, hk0⟩ : ∃ k, k = bit / 8 := ⟨_, rfl⟩
       obtain ⟨j8, hj0⟩ : ∃ k, k = bit % 8 := ⟨_, rfl⟩
       have hk8 : k8 < d.size := by omega
       have hg1 : tyOf w (g - 1) = some 5 := own_ty hown rfl
       have g1l : g - 1 < w.heap.size := tyOf_lt hg1
       obtain ⟨cur, hcur, hcz, hct, hcm, hcl⟩ : ∃ cur, Blk w (g - 1) 5 cur ∧ cur.size = c ∧ cur.toList.take d.size = b.map u8v ∧ d.size ≤ c ∧ c ≤ maxLen := by
        rcases hown.2 with ⟨hx, _⟩ | ⟨gg, cap, cur, hx, _, hx2, hx3, hx4, hx5, hx6⟩
        ·cases hx
        ·injection hx with hx1 hxn hxc
         injection hx1 with hx1
         injection hx1 with hx1
         subst hx1; subst hxc
         exact ⟨cur, hx2, by simpa using hx5, by simpa using hx6, hx3, hx4⟩
       have cb : w.cell? ⟨g - 1, k8, none⟩ = some (.int .u8 (b.getD (k8) 0).toNat) := by
        have := hown.cells (g := g - 1) rfl (k8) (.int .u8 (b.getD (k8) 0).toNat) (by
         rw [List.getElem?_map, List.getElem?_eq_getElem (by omega), List.getD, List.getElem?_eq_getElem (by omega)]; rfl)
        rw [addr_add] at this
        simpa using this
       have fb := hcur.free (k8)
       have HC := hZ9 hc
       have HO := hZ9 hown
       have HL := hZ9 hlen
       have HH := hZ9 h
       have HR := hZ9 hr
       have HV := hZ9 hv
       have HQ := hZ9 hq
       have HU := hZ9 hcur
       have q1 : (bit : Int) / 8 = (k8 : Int) := by omega
       have q2 : (bit : Int) % 8 = (j8 : Int) := by omega
       have q1' : (bit : Int).tdiv 8 = (k8 : Int) := by rw [Int.tdiv_eq_ediv_of_nonneg (by omega)]; exact q1
       have q2' : (bit : Int).tmod 8 = (j8 : Int) := by rw [Int.tmod_eq_emod_of_nonneg (by omega)]; exact q2
       have q3 : (k8 : Int) < (d.size : Int) := by omega
       have q4 : (0 : Int) ≤ (k8 : Int) := by omega
       have q5 : (j8 : Int) < 8 := by omega
       have q6 : IntKind.i64.wrap (k8 : Int) = (k8 : Int) := by rw [IntKind.wrap_i64]; omega
       have q7 : IntKind.i64.wrap (j8 : Int) = (j8 : Int) := by rw [IntKind.wrap_i64]; omega
       have HK0 := hZ9 hk0
       have HJ0 := hZ9 hj0
       clear hk0 hj0
       have HN := hZ9 hno
       have HNo := hZ9 ho'
       clear h hD hb hr ho hc hown hlen hv hq hcur hno
       go_enter Tryz.func39, Tryz.ntmps39
       go_upto_region 16 with (go_at_call 92; refine (diskHas_ok HD.out (by omega)).mono ?_; rintro e w' ⟨rfl, rfl⟩)
       have hgg : g ≠ g - 1 := by omega
       have b1 : Blk (w.setCell ⟨g, 2, none⟩ (.bool true)) g 169 #[.slice (some ⟨g - 1, 0, none⟩) d.size c, .bool false, .bool true] := HC.out.set 2 (.bool true)
       have u1 : Blk (w.setCell ⟨g, 2, none⟩ (.bool true)) (g - 1) 5 cur := HU.out.far (Ne.symm hgg) _
       have k1 : Keeps base [169] w (w.setCell ⟨g, 2, none⟩ (.bool true)) := (Keeps.refl base _ w).set HC.out (by omega) (by simp) _
       have o1 : ∀ k, k ≠ g → k ≠ g - 1 → (w.setCell ⟨g, 2, none⟩ (.bool true)).heap[k]? = w.heap[k]? := fun k h1 _ => Below.heap_setCell w ⟨g, 2, none⟩ _ k h1
       generalize w.setCell ⟨g, 2, none⟩ (.bool true) = w1 at *
       have x0 : w1.drew.cell? ⟨g, 0, none⟩ = some (.slice (some ⟨g - 1, 0, none⟩) d.size c) := b1.drew.cell 0
       have xb : w1.drew.cell? ⟨g - 1, k8, none⟩ = some (.int .u8 (b.getD (k8) 0).toNat) := by
        have e1 := u1.drew.cell (k8)
        have e2 := HU.out.cell (k8)
        rw [e1, ← e2]; exact cb
       have xf := u1.drew.free (k8)
       have xl : g < w1.drew.heap.size := b1.lt
       have yl : g - 1 < w1.drew.heap.size := u1.lt
       have B1 := hZ9 b1
       have U1 := hZ9 u1
       have K1 := hZ9 k1
       have O1 := hZ9 o1
       clear b1 u1 k1 o1 cb fb f2 c0 c1 c2 et e0 e1 e2 e4
       go_still_tail 13, (by kernel_rfl)
       go_simp
       go_wp2
       go_ret
       rw [bits_flip]
       have e8 : flipB b bit = b.set k8 (b.getD k8 0 ^^^ UInt8.ofNat (2 ^ j8)) := by unfold flipB; rw [← HK0.out, ← HJ0.out]
       have hgb : base ≤ g - 1 := by omega
       have o2 := own_flip (x := b.getD k8 0 ^^^ UInt8.ofNat (2 ^ j8)) (k := k8) U1.out hcz hct hcm hcl hgb HL.out
       rw [← e8] at o2
       have g2 := B1.out.far hgg (o := k8) (u8v (b.getD k8 0 ^^^ UInt8.ofNat (2 ^ j8)))
       have k2 := (K1.out.mono (ts' := [165, 169, 5]) nR0 (by simp)).trans ((Keeps.refl base [165, 169, 5] w1).set U1.out hgb (o := k8) (by simp) (u8v (b.getD k8 0 ^^^ UInt8.ofNat (2 ^ j8))))
       obtain ⟨d', hd', hD'⟩ := HH.out.rotted hn' (by omega) HNo.out HQ.out HV.out HC.out HO.out hbg HL.out g2 o2 (fun k h1 h2 => (Below.heap_setCell w1 ⟨g - 1, k8, none⟩ _ k h2).trans (O1.out k h1 h2))
       have hbw : base ≤ (w1.setCell ⟨g - 1, k8, none⟩ (u8v (b.getD k8 0 ^^^ UInt8.ofNat (2 ^ j8)))).heap.size := by have := k2.below.size; have := HH.out.low.1; omega
       have kd : Keeps base [] (w1.setCell ⟨g - 1, k8, none⟩ (u8v (b.getD k8 0 ^^^ UInt8.ofNat (2 ^ j8)))) (w1.setCell ⟨g - 1, k8, none⟩ (u8v (b.getD k8 0 ^^^ UInt8.ofNat (2 ^ j8)))).drew := Keeps.of_below bR0.drew hbw
       rw [HR.out, hd']
       refine ⟨rfl, ⟨m, hD'.keeps kd (by simp) (by simp) (by simp) (by simp) (by simp)⟩, k2.trans (kd.mono nR0 (by simp)), fun A l hl => ?_⟩
       obtain ⟨l', h1, h2⟩ := byt_flip (k := k8) U1.out (b.getD k8 0 ^^^ UInt8.ofNat (2 ^ j8)) (hl.keeps K1.out (by simp))
       exact ⟨l', h1, h2.keeps kd (by simp)⟩
end
end
section
open Go.RowKit Go.Maps
set_option maxRecDepth 100000

theorem bods_found {w w' : World} (hby : ∀ A l, Byt w A l → ∃ l' : List UInt8, l'.length = l.length ∧ Byt w' A l') : ∀ L : List RecM, Bods w L → ∃ L' : List RecM, L'.length = L.length ∧ Bods w' L' ∧ recRows L' = recRows L
 | [], _ => ⟨[], rfl, (fun x hx => by cases hx), rfl⟩
 | x :: L, h => by
  obtain ⟨L', h1, h2, h3⟩ := bods_found hby L (fun y hy => h y (List.mem_cons_of_mem _ hy))
  obtain ⟨⟨⟨kd, t⟩, A, c⟩, rfl⟩ : ∃ y : RecM, y = x := ⟨x, rfl⟩
  obtain ⟨g1, g2, g3, g4⟩ := h _ (List.mem_cons_self ..)
  obtain ⟨t', e1, e2⟩ := hby _ _ g1
  refine ⟨((kd, t'), A, c) :: L', by simp [h1], fun y hy => ?_, ?_⟩
  ·rcases List.mem_cons.1 hy with rfl | hy
   ·exact ⟨e2, by simpa [e1] using g2, g3, by simpa [e1] using g4⟩
   ·exact h2 y hy
  ·unfold recRows at h3 ⊢
   simp only [List.flatMap_cons, h3]
   simp [recRow, e1]
theorem LogW.rotted {w w' : World} {base Lb B : Nat} {l : LogV} (h : LogW w base Lb B l) (k : Keeps base [165, 169, 5] w w') (hby : ∀ A l, Byt w A l → ∃ l' : List UInt8, l'.length = l.length ∧ Byt w' A l') : LogW w' base Lb B l := by
 obtain ⟨rs, hl, L, A, c, h⟩ := h
 obtain ⟨L', h1, h2, h3⟩ := bods_found hby L h.bod
 have e1 : (L'.map (·.1)).length = rs.length := by
  have := congrArg List.length h.rcs
  rw [List.length_map] at this ⊢
  rw [h1]; exact this
 refine ⟨L'.map (·.1), e1.trans hl, L', A, c, ?_⟩
 have hb := h.blk.keeps k (by decide)
 have ho := own_keeps h.own k (by decide)
 refine ⟨h.low, ?_, ?_, rfl, h2, h.b1, h.b2, h.b3, h.b4, h.b5, h.b6, ?_⟩
 ·show Blk w' Lb 216 #[_, _, _, _, _, _, _, .slice A (L'.map (·.1)).length c]
  rw [e1]; exact hb
 ·show w'.ownsRow base 137 2 (.slice A (L'.map (·.1)).length c) (L'.map (·.1)).length (recRows L')
  rw [e1, h3]; exact ho
 ·show (L'.map (·.1)).length ≤ _
  rw [e1]; exact h.b7
theorem StR.rotted {w w' : World} {base Sb : Nat} {s : StV} {m : StM} (h : StR w base Sb s m) (k : Keeps base [165, 169, 5] w w') {d' : DskV} (hd : Dsk w' base m.B d') (hz : d'.size = s.d.size) (hby : ∀ A l, Byt w A l → ∃ l' : List UInt8, l'.length = l.length ∧ Byt w' A l') :
  StR w' base Sb { s with d := d' } m :=
 ⟨h.low, by have := h.blk.keeps k (by decide); unfold stC at *; simp only [hz]; exact this, hd, h.log.rotted k hby, h.map.keeps k (by decide) (by decide), h.nmap.keeps k (by decide), h.nlow, h.pmap.keeps k (by decide), h.plow, h.ne, own_keeps h.mks k (by decide), h.tab.below k.below, h.b2⟩
theorem rotD_size (d : DskV) (n bit : Nat) : (rotD d n bit).2.size = d.size := by
 unfold rotD
 split
 ·rfl
 ·split
  ·rfl
  ·rcases rotSec d.size bit (d.told n) with ⟨e, v⟩
   cases e with
   | zero =>
    simp only
    cases setLast n v d.waits <;> rfl
   | succ e => rfl
end
end Go.Proofs.YtmgmfnimaafkdaaGreatDoor
