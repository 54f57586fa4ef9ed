/- The store and its two maps in memory. -/
import Derived.Test.YtmgmfnimaafkdaaGreatDoorVD
import Derived.Test.YtmgmfnimaafkdaaGreatDoorVN
import Derived.Test.YtmgmfnimaafkdaaGreatDoorVB
import Derived.Maps.OwnSet
import Derived.Maps.RangeWalk
import Derived.DeepKeys4
import Derived.Lib.AppendIntMem
namespace Go.Proofs.YtmgmfnimaafkdaaGreatDoor
section
open Go.RowKit Go.Maps
set_option maxRecDepth 100000

section
open Classical
noncomputable def rOf {α : Type} (ea : α → Value) (da : α → DataW Unit) (v : Value) : Option (DataW Unit × List MemPlace) := if h : ∃ a, v = ea a then some (da h.choose, []) else none
theorem rOf_mk {α : Type} {ea : α → Value} {da : α → DataW Unit} (hi : ∀ a b, ea a = ea b → a = b) (a : α) : rOf ea da (ea a) = some (da a, []) := by
 have h : ∃ b, ea a = ea b := ⟨a, rfl⟩
 unfold rOf
 rw [dif_pos h]
 rw [← hi _ _ h.choose_spec]
theorem rOf_inv {α : Type} {ea : α → Value} {da : α → DataW Unit} {v : Value} {y : DataW Unit × List MemPlace} (h : rOf ea da v = some y) : ∃ a, v = ea a ∧ y = (da a, []) := by
 unfold rOf at h
 split at h
 ·rename_i hx
  injection h with h
  exact ⟨hx.choose, hx.choose_spec, h.symm⟩
 ·cases h
end
structure KV (P : Program) (κ α : Type) where
 k : TypeId
 t : TypeId
 e : TypeId
 ek : κ → Value
 lk : κ → Lit
 ok : κ → Prop
 ea : α → Value
 da : α → DataW Unit
 z : α
 keyed : Keyed P k
 ut : P.underlying t = some (.map k e)
 key : ∀ x, ok x → keyOf P k (ek x) = some (lk x)
 inv : ∀ v l, keyOf P k v = some l → ∃ x, ok x ∧ v = ek x ∧ l = lk x
 inj : ∀ x y, ok x → ok y → lk x = lk y → x = y
 kinj : ∀ x y, ek x = ek y → x = y
 einj : ∀ a b, ea a = ea b → a = b
 dinj : ∀ a b, da a = da b → a = b
 zero : ∀ w, (zeroValue e).run P w = .ok (ea z) w

section
variable {P : Program} {κ α : Type} {m : KV P κ α} {w w' : World} {b n : Nat} {f : κ → Option α}
noncomputable def KV.R (m : KV P κ α) : Value → Option (DataW Unit × List MemPlace) := rOf m.ea m.da
def KV.Says (m : KV P κ α) (D : DataW Unit) (f : κ → Option α) : Prop := ∀ x, m.ok x → has D (m.lk x) = (f x).isSome ∧ ∀ a, f x = some a → ∀ zd, D.atKey (m.lk x) zd = m.da a
def KV.In (m : KV P κ α) (w : World) (b n : Nat) (f : κ → Option α) : Prop := ∃ D, w.ownsMap P m.k m.R b n D ∧ m.Says D f

theorem KV.made (m : KV P κ α) (w : World) : m.In (w.alloc (.map #[] 0)) w.heap.size 0 (fun _ => none) :=
 ⟨.map [], World.ownsMap_made w _ _ _, fun _ _ => ⟨rfl, fun _ h => by cases h⟩⟩
theorem KV.In.lt (h : m.In w b n f) : b < w.heap.size := let ⟨_, h, _⟩ := h; h.lt
theorem KV.In.ty (h : m.In w b n f) : tyOf w b = some 1000000 := by
 obtain ⟨D, ⟨es, cl, hb, _⟩, _⟩ := h
 simp [tyOf, hb]
theorem KV.In.congr {g : κ → Option α} (h : m.In w b n f) (hg : ∀ x, m.ok x → g x = f x) : m.In w b n g := by
 obtain ⟨D, h, hf⟩ := h
 exact ⟨D, h, fun x hx => by rw [hg x hx]; exact hf x hx⟩
theorem KV.In.mono {n' : Nat} (h : m.In w b n f) (hn : n ≤ n') : m.In w b n' f := let ⟨D, h, hf⟩ := h; ⟨D, h.mono hn, hf⟩
theorem KV.In.kept {row : Option Nat} (h : m.In w b n f) (hg : w.grownBy w' row) (hne : some b ≠ row) : m.In w' b n f := let ⟨D, h, hf⟩ := h; ⟨D, h.kept hg hne, hf⟩
theorem KV.In.keeps {base : Nat} {ts : List TypeId} (h : m.In w b n f) (k : Keeps base ts w w') (ht : (1000000 : TypeId) ∉ ts) : m.In w' b n f := by
 have hty := h.ty
 obtain ⟨D, ⟨es, cl, hb, r⟩, hf⟩ := h
 exact ⟨D, ⟨es, cl, (k.old b _ hty ht).trans hb, r⟩, hf⟩
theorem KV.In.below (h : m.In w b n f) (k : Below w.heap.size w w') : m.In w' b n f := h.keeps (ts := []) (Keeps.of_below (base := 0) k (Nat.zero_le _)) (by simp)
theorem KV.In.no_blk {g : Nat} {t : TypeId} {cs : Array Value} (h : m.In w b n f) (hb : Blk w g t cs) : b ≠ g := by
 rintro rfl
 obtain ⟨D, ⟨es, cl, hm, _⟩, _⟩ := h
 unfold Blk at hb
 rw [hm] at hb
 cases hb
theorem KV.turned (h : w.mapTurned w' b) {base : Nat} (hb : base ≤ b) (hw : base ≤ w.heap.size) : Keeps base [1000000] w w' :=
 Keeps.of_grown h.grown hw fun g hg => ⟨by cases hg; exact hb, fun t ht => by
  cases hg
  obtain ⟨es, cl, es', cl', hm, _⟩ := h
  simp [tyOf, hm] at ht
  simp [← ht]⟩
theorem KV.In.val {D : DataW Unit} {x : κ} {v : Value} {ps : List MemPlace} (hf : m.Says D f) (hx : m.ok x) (hv : m.R v = some (D.atKey (m.lk x) (m.da m.z), ps)) : v = m.ea ((f x).getD m.z) := by
 obtain ⟨h1, h2⟩ := hf x hx
 obtain ⟨a, rfl, e⟩ := rOf_inv hv
 injection e with e _
 cases hfx : f x with
 | none =>
  have h3 : D.atKey (m.lk x) (m.da m.z) = m.da m.z := atKey_of_not_has (by rw [h1, hfx]; rfl) _
  rw [h3] at e
  rw [m.dinj _ _ e]; rfl
 | some c =>
  rw [h2 c hfx] at e
  rw [m.dinj _ _ e]; rfl
theorem KV.In.look (h : m.In w b n f) {x : κ} (hx : m.ok x) : (Instr.lookup m.t (.map (some b)) (m.ek x) false).run P w = .ok (m.ea ((f x).getD m.z)) w := by
 obtain ⟨D, h, hf⟩ := h
 obtain ⟨v, ps, hrun, hv⟩ := h.lookup m.keyed m.ut (m.zero w) (zd := m.da m.z) (zp := []) (rOf_mk m.einj m.z) (m.key x hx)
 rw [hrun, KV.In.val hf hx hv]
theorem KV.In.look_ok (h : m.In w b n f) {x : κ} (hx : m.ok x) : (Instr.lookup m.t (.map (some b)) (m.ek x) true).run P w = .ok (.tuple #[m.ea ((f x).getD m.z), .bool (f x).isSome]) w := by
 obtain ⟨D, h, hf⟩ := h
 obtain ⟨v, ps, hrun, hv⟩ := h.look_ok m.keyed m.ut (m.zero w) (zd := m.da m.z) (zp := []) (rOf_mk m.einj m.z) (m.key x hx)
 rw [hrun, KV.In.val hf hx hv, (hf x hx).1]
theorem KV.Says.put [DecidableEq κ] {D : DataW Unit} (hD : IsMap D) (hf : m.Says D f) {x : κ} (hx : m.ok x) (a : α) : m.Says (D.put (m.lk x) (m.da a)) (fun y => if y = x then some a else f y) := by
 intro y hy
 by_cases e : y = x
 ·subst e
  have hk := m.keyed.key (m.key y hx)
  simp only [if_pos]
  refine ⟨by rw [has_put_same hD hk]; rfl, fun c hc zd => ?_⟩
  injection hc with hc
  rw [atKey_put_same hD hk, hc]
 ·have hne : m.lk y ≠ m.lk x := fun he => e (m.inj _ _ hy hx he)
  simp only [if_neg e]
  rw [has_put_other hne]
  exact ⟨(hf y hy).1, fun c hc zd => by rw [atKey_put_other hne]; exact (hf y hy).2 c hc zd⟩
theorem KV.Says.del [DecidableEq κ] {D : DataW Unit} (hf : m.Says D f) {x : κ} (hx : m.ok x) : m.Says (D.del (m.lk x)) (fun y => if y = x then none else f y) := by
 intro y hy
 by_cases e : y = x
 ·subst e
  simp only [if_pos]
  exact ⟨by rw [has_del_same]; rfl, fun c hc => by cases hc⟩
 ·have hne : m.lk y ≠ m.lk x := fun he => e (m.inj _ _ hy hx he)
  simp only [if_neg e]
  rw [has_del_other hne]
  exact ⟨(hf y hy).1, fun c hc zd => by rw [atKey_del_other hne]; exact (hf y hy).2 c hc zd⟩
theorem KV.In.put [DecidableEq κ] (h : m.In w b n f) (hn : n < maxLen) {x : κ} (hx : m.ok x) (a : α) : ∃ w', (Instr.mapUpdate m.t (.map (some b)) (m.ek x) (m.ea a)).run P w = .ok () w' ∧ m.In w' b (n + 1) (fun y => if y = x then some a else f y) ∧ w.mapTurned w' b := by
 obtain ⟨D, h, hf⟩ := h
 have hD := h.isMap
 obtain ⟨w', hrun, h', ht⟩ := h.store m.keyed m.ut hn (m.key x hx) (rOf_mk m.einj a)
 exact ⟨w', hrun, ⟨_, h', hf.put hD hx a⟩, ht⟩
theorem KV.In.drop [DecidableEq κ] (h : m.In w b n f) {x : κ} (hx : m.ok x) (ty : TypeId) : ∃ w', (Builtin.delete_ #[m.t, m.k] ty #[.map (some b), m.ek x]).run P w = .ok (.tuple #[]) w' ∧ m.In w' b n (fun y => if y = x then none else f y) ∧ w.mapTurned w' b := by
 obtain ⟨D, h, hf⟩ := h
 obtain ⟨w', hrun, h', ht⟩ := h.drop m.keyed m.ut (m.key x hx) ty
 exact ⟨w', hrun, ⟨_, h', hf.del hx⟩, ht⟩
def KV.Keys (m : KV P κ α) (f : κ → Option α) (ks : List κ) : Prop := ks.Nodup ∧ (∀ x ∈ ks, m.ok x) ∧ ∀ x, m.ok x → (x ∈ ks ↔ (f x).isSome = true)
theorem KV.Keys.perm {ks ks' : List κ} (h : m.Keys f ks) (h' : m.Keys f ks') : ks.Perm ks' :=
 (List.perm_ext_iff_of_nodup h.1 h'.1).2 fun x => ⟨fun hx => (h'.2.2 x (h.2.1 x hx)).2 ((h.2.2 x (h.2.1 x hx)).1 hx), fun hx => (h.2.2 x (h'.2.1 x hx)).2 ((h'.2.2 x (h'.2.1 x hx)).1 hx)⟩
theorem KV.size {D : DataW Unit} (hown : w.ownsMap P m.k m.R b n D) (hf : m.Says D f) {ks : List κ} (hk : m.Keys f ks) : Maps.size D = ks.length := by
 obtain ⟨es, rfl, hpw, hkl⟩ := hown.entries m.keyed
 obtain ⟨es', hD', hko⟩ : ∃ es', DataW.map es = .map es' ∧ ∀ p ∈ es', KeysOf P m.k p.1 := by
  obtain ⟨es0, clock, _, F, _, hD⟩ := hown
  exact ⟨_, hD, fun p hp => fit_keys F p (mem_sorted.1 hp)⟩
 injection hD' with hD'
 subst hD'
 have hnd : (es.map (·.1)).Nodup := List.pairwise_map.2 hpw
 have hnd2 : (ks.map m.lk).Nodup := by
  refine List.pairwise_map.2 ((List.Pairwise.and_mem.1 hk.1).imp ?_)
  rintro x y ⟨hx, hy, hne⟩ he
  exact hne (m.inj _ _ (hk.2.1 x hx) (hk.2.1 y hy) he)
 have hp : (es.map (·.1)).Perm (ks.map m.lk) := by
  refine (List.perm_ext_iff_of_nodup hnd hnd2).2 fun l => ?_
  constructor
  ·intro hl
   obtain ⟨p, hp, rfl⟩ := List.mem_map.1 hl
   obtain ⟨v, hv⟩ := hko p hp
   obtain ⟨x, hx, _, e⟩ := m.inv v _ hv
   have hh : has (.map es) (m.lk x) = true := by
    rw [has_eq, List.any_eq_true]
    exact ⟨p, hp, by rw [e]; exact WideAt.sameKey_self (m.keyed.key (m.key x hx))⟩
   rw [(hf x hx).1] at hh
   rw [e]
   exact List.mem_map.2 ⟨x, (hk.2.2 x hx).2 hh, rfl⟩
  ·intro hl
   obtain ⟨x, hx, rfl⟩ := List.mem_map.1 hl
   have hox := hk.2.1 x hx
   have hh : has (.map es) (m.lk x) = true := by rw [(hf x hox).1]; exact (hk.2.2 x hox).1 hx
   rw [has_eq, List.any_eq_true] at hh
   obtain ⟨p, hp, he⟩ := hh
   exact List.mem_map.2 ⟨p, hp, WideAt.sameKey_eq he⟩
 have := hp.length_eq
 simpa [Maps.size_eq] using this
theorem KV.In.tight (h : m.In w b n f) {ks : List κ} (hk : m.Keys f ks) : m.In w b ks.length f := by
 obtain ⟨D, hown, hf⟩ := h
 have hs := KV.size hown hf hk
 obtain ⟨es, clock, hb, F, _, hD⟩ := hown
 refine ⟨D, ⟨es, clock, hb, F, ?_, hD⟩, hf⟩
 rw [← hs, hD, Maps.size_eq, length_sorted]
 simp
/-! ### ranged over -/
def KV.Come (m : KV P κ α) (f : κ → Option α) (left : Lit → Bool) (ss : List κ) : Prop := ss.Nodup ∧ (∀ x ∈ ss, m.ok x) ∧ ∀ x, m.ok x → (x ∈ ss ↔ (f x).isSome = true ∧ left (m.lk x) = false)
theorem KV.Come.start {D : DataW Unit} (hf : m.Says D f) : m.Come f (has D) [] :=
 ⟨List.nodup_nil, fun x hx => (by cases hx), fun x hx => by rw [(hf x hx).1]; cases (f x).isSome <;> simp⟩
theorem KV.Come.step {left : Lit → Bool} {ss : List κ} {x : κ} (h : m.Come f left ss) (hx : m.ok x) (hl : left (m.lk x) = true) (hs : (f x).isSome = true) : m.Come f (fun z => left z && !z.sameKey (m.lk x)) (ss ++ [x]) := by
 obtain ⟨h1, h2, h3⟩ := h
 have hns : x ∉ ss := fun hh => by have := ((h3 x hx).1 hh).2; rw [hl] at this; cases this
 refine ⟨?_, fun y hy => ?_, fun y hy => ?_⟩
 ·rw [List.nodup_append]
  refine ⟨h1, by simp, fun a ha c hc => ?_⟩
  rw [List.mem_singleton] at hc
  subst hc
  exact fun e => hns (e ▸ ha)
 ·rcases List.mem_append.1 hy with hy | hy
  ·exact h2 y hy
  ·rw [List.mem_singleton] at hy; subst hy; exact hx
 ·rw [List.mem_append, List.mem_singleton]
  by_cases e : y = x
  ·subst e
   have := WideAt.sameKey_self (m.keyed.key (m.key y hx))
   simp [this, hs]
  ·have hne : m.lk y ≠ m.lk x := fun he => e (m.inj _ _ hy hx he)
   simp [e, sameKey_ne hne, h3 y hy]
theorem KV.Come.done {left : Lit → Bool} {ss : List κ} (h : m.Come f left ss) (hl : ∀ kl, left kl = false) : m.Keys f ss :=
 ⟨h.1, h.2.1, fun x hx => by rw [h.2.2 x hx, hl]; simp⟩
theorem KV.Says.here {D : DataW Unit} (hf : m.Says D f) {x : κ} (hx : m.ok x) {y : DataW Unit} (hat : ∀ zd, D.atKey (m.lk x) zd = y) : ∃ a, f x = some a ∧ y = m.da a := by
 have hh : has D (m.lk x) = true := has_true_of_atKey hat
 rw [(hf x hx).1] at hh
 obtain ⟨a, ha⟩ := Option.isSome_iff_exists.1 hh
 exact ⟨a, ha, by rw [← hat .nil, (hf x hx).2 a ha]⟩
end
end
section
open Go.RowKit Go.Maps
set_option maxRecDepth 100000

def strV (l : List UInt8) : Value := .string ⟨l.toArray⟩
theorem strV_inj {a b : List UInt8} (h : strV a = strV b) : a = b := by
 unfold strV at h
 injection h with h
 injection h with h
 have := congrArg Array.toList h
 simpa using this
def nameV (n : NameV) : Value := .agg #[.int .i64 n.1, .int .i64 n.2]
theorem nameV_inj {a b : NameV} (h : nameV a = nameV b) : a = b := by
 unfold nameV at h
 injection h with h
 have := congrArg Array.toList h
 simp at this
 exact Prod.ext this.1 this.2
def nameL (n : NameV) : Lit := .string (keyBytes [.int .i64 n.1, .int .i64 n.2])
def wfI (x : Int) : Prop := (Lit.int .i64 x).wf = true
def wfN (n : NameV) : Prop := wfI n.1 ∧ wfI n.2
def slotV (x : SlotV) : Value := .agg #[.int .i64 x.at', .int .i64 x.len, .int .i64 x.bytes, .int .i64 x.mark]
def slotD (x : SlotV) : DataW Unit := .agg [.lit (.int .i64 x.at'), .lit (.int .i64 x.len), .lit (.int .i64 x.bytes), .lit (.int .i64 x.mark)]
theorem slotV_inj {a b : SlotV} (h : slotV a = slotV b) : a = b := by
 unfold slotV at h
 injection h with h
 have := congrArg Array.toList h
 simp at this
 obtain ⟨h1, h2, h3, h4⟩ := this
 cases a; cases b
 simp only at h1 h2 h3 h4
 subst h1; subst h4
 have h2 : _ = _ := Int.ofNat.inj h2
 have h3 : _ = _ := Int.ofNat.inj h3
 subst h2; subst h3; rfl
theorem slotD_inj {a b : SlotV} (h : slotD a = slotD b) : a = b := by
 unfold slotD at h
 injection h with h
 simp at h
 obtain ⟨h1, h2, h3, h4⟩ := h
 cases a; cases b
 simp only at h1 h2 h3 h4
 subst h1; subst h4
 have h2 : _ = _ := Int.ofNat.inj h2
 have h3 : _ = _ := Int.ofNat.inj h3
 subst h2; subst h3; rfl
theorem laidOutT : laidOutB Tryz.prog = true := by kernel_rfl
theorem row73 : (73 : TypeId) < Tryz.prog.types.size := of_decide_eq_true (by kernel_rfl)
theorem cells73 : Tryz.prog.cellsOf 73 = 2 := by kernel_rfl
theorem cells2 : Tryz.prog.cellsOf 2 = 1 := by kernel_rfl
theorem deep73 : Tryz.prog.keyType 73 = true := by kernel_rfl
theorem wide73 : (match Tryz.prog.underlying 73 with | some (.array _ _) | some (.struct _) => true | _ => false) = true := by kernel_rfl
theorem tysize : ∃ m, Tryz.prog.types.size = m + 1 := ⟨Tryz.prog.types.size - 1, by kernel_rfl⟩
theorem keyed73 : Keyed Tryz.prog 73 := Keyed.of_law (deep_law_laid laidOutT (m := 3) (by omega) row73 (by kernel_rfl) wide73)
theorem keyed2 : Keyed Tryz.prog 2 := int_keyed Tryz.underlying2
theorem keyLits_i64 {d : Nat} {cs : List Value} {l : List Lit} (h : Tryz.prog.keyLits (d + 1) 2 cs = some l) : ∃ n, cs = [.int .i64 n] ∧ l = [.int .i64 n] ∧ (Lit.int .i64 n).wf = true := by
 unfold Program.keyLits at h
 rw [Tryz.underlying2] at h
 match cs with
 | [] => simp at h
 | c :: d :: r => cases c <;> simp at h
 | [c] =>
  cases c <;> simp at h
  obtain ⟨⟨rfl, hw⟩, rfl⟩ := h
  exact ⟨_, rfl, rfl, hw⟩
theorem keyOf_name {n : NameV} (h : wfN n) : keyOf Tryz.prog 73 (nameV n) = some (nameL n) := by
 obtain ⟨h1, h2⟩ := h
 unfold wfI at h1 h2
 obtain ⟨m, hm⟩ := tysize
 unfold keyOf nameV nameL
 rw [Tryz.underlying73]
 simp only
 rw [if_pos (by simp [deep73, Value.formed, Tryz.underlying73, cells73]), hm]
 unfold Program.keyLits
 rw [Tryz.underlying73]
 simp only [Value.cells]
 simp [cells73, cells2, Program.keyLits, Tryz.underlying2, h1, h2]
theorem keyOf_name_inv {v : Value} {l : Lit} (h : keyOf Tryz.prog 73 v = some l) : ∃ x : NameV, wfN x ∧ v = nameV x ∧ l = nameL x := by
 obtain ⟨m, hm⟩ := tysize
 unfold keyOf at h
 rw [Tryz.underlying73] at h
 simp only at h
 split at h
 ·rename_i hc
  simp only [Bool.and_eq_true] at hc
  have hf := hc.2
  obtain ⟨cs, rfl, hsz⟩ : ∃ cs : Array Value, v = .agg cs ∧ cs.size = 2 := by
   cases v <;> simp [Value.formed, Tryz.underlying73, cells73] at hf
   exact ⟨_, rfl, hf⟩
  obtain ⟨l'⟩ := cs
  match l', hsz with
  | [c0, c1], _ =>
   simp only [Value.cells] at h
   rw [hm] at h
   unfold Program.keyLits at h
   rw [Tryz.underlying73] at h
   simp [cells73, cells2] at h
   cases h0 : Tryz.prog.keyLits (m + 1) 2 [c0] with
   | none => rw [h0] at h; simp at h
   | some l0 =>
   cases h1 : Tryz.prog.keyLits (m + 1) 2 [c1] with
   | none => rw [h0, h1] at h; simp at h
   | some l1 =>
   rw [h0, h1] at h
   simp at h
   subst h
   obtain ⟨n0, e0, rfl, w0⟩ := keyLits_i64 h0
   obtain ⟨n1, e1, rfl, w1⟩ := keyLits_i64 h1
   injection e0 with e0; injection e1 with e1
   subst e0; subst e1
   exact ⟨(n0, n1), ⟨w0, w1⟩, rfl, rfl⟩
 ·cases h
def NK : KV Tryz.prog Int (List UInt8) where
 k := 2
 t := 124
 e := 9
 ek := Value.int .i64
 lk := Lit.int .i64
 ok := wfI
 ea := strV
 da := fun l => .lit (.string l)
 z := []
 keyed := keyed2
 ut := Tryz.underlying124
 key := fun x h => keyOf_int_mk Tryz.underlying2 h
 inv := fun v l h => by
  obtain ⟨x, h1, h2, h3⟩ := Maps.keyOf_int_inv Tryz.underlying2 h
  exact ⟨x, h3, h1, h2⟩
 inj := fun x y _ _ h => by injection h
 kinj := fun x y h => by injection h
 einj := fun _ _ h => strV_inj h
 dinj := fun a b h => by injection h with h; injection h
 zero := fun w => Tryz.zeroValue9 w
def SK : KV Tryz.prog NameV SlotV where
 k := 73
 t := 125
 e := 142
 ek := nameV
 lk := nameL
 ok := wfN
 ea := slotV
 da := slotD
 z := ⟨0, 0, 0, 0⟩
 keyed := keyed73
 ut := Tryz.underlying125
 key := fun x h => keyOf_name h
 inv := fun v l h => keyOf_name_inv h
 inj := fun x y hx hy h => nameV_inj (keyed73.inj (keyOf_name hx) (by rw [h]; exact keyOf_name hy))
 kinj := fun x y h => nameV_inj h
 einj := fun _ _ h => slotV_inj h
 dinj := fun _ _ h => slotD_inj h
 zero := fun w => Tryz.zeroValue142 w
theorem wfI_of {x : Int} (h : -9223372036854775808 ≤ x ∧ x ≤ 9223372036854775807) : wfI x := by
 unfold wfI
 have h1 : IntKind.i64.min = -9223372036854775808 := rfl
 have h2 : IntKind.i64.max = 9223372036854775807 := rfl
 simp [Lit.wf, h1, h2]
 omega
theorem wfI_right {x : Int} (h : rightB x = true) : wfI x := by
 unfold rightB at h
 simp only [Bool.and_eq_true, decide_eq_true_eq] at h
 exact wfI_of (by omega)
theorem keys_of_notes {l : List (Int × List UInt8)} (hs : SrtN l) (hr : ∀ x ∈ l, rightB x.1 = true ∧ x.2.length ≤ 3000) : NK.Keys (getL l) (l.map (·.1)) :=
 ⟨hs.nodup, fun x hx => by obtain ⟨y, hy, rfl⟩ := List.mem_map.1 hx; exact wfI_right (hr y hy).1, fun x _ => getL_some.symm⟩
theorem keys_of_slices {l : List (NameV × SlotV)} (hs : SrtS l) (hr : ∀ x ∈ l, NumOK x ∧ x.2.len ≤ 1048576) : SK.Keys (getL l) (l.map (·.1)) :=
 ⟨hs.nodup, fun x hx => by obtain ⟨y, hy, rfl⟩ := List.mem_map.1 hx; exact ⟨wfI_right (hr y hy).1.1, wfI_right (hr y hy).1.2.1⟩, fun x _ => getL_some.symm⟩
def Tb (w : World) : Prop := Lib.TabIs Tryz.prog w "internal/strconv.uint64pow10" .u64 Lib.pow10Tab
theorem Tb.below {w w' : World} (h : Tb w) (hb : Below w.heap.size w w') : Tb w' := Lib.tabBelow_of_tabIs h w' hb
def TabsB (base : Nat) (w : World) : Prop := ∀ w', Below base w w' → Steps w' ∧ Tb w'
theorem TabsB.below {base : Nat} {w w' : World} (h : TabsB base w) (hb : Below base w w') : TabsB base w' := fun w2 h2 => h w2 (hb.trans h2)
theorem TabsB.steps {base : Nat} {w : World} (h : TabsB base w) : Steps w := (h w bR0).1
theorem TabsB.tb {base : Nat} {w : World} (h : TabsB base w) : Tb w := (h w bR0).2
structure StM where
 Lb : Nat
 B : Nat
 M : Nat
 Nb : Nat
 Pb : Nat
 A : Option Addr
 c : Nat
abbrev stC (s : StV) (m : StM) : Array Value := #[.pointer (some ⟨m.B, 0, none⟩), .int .i64 s.d.size, .pointer (some ⟨m.Lb, 0, none⟩), .pointer (some ⟨m.M, 0, none⟩), .map (some m.Nb), .map (some m.Pb), .slice m.A s.marks.length m.c, .int .i64 s.epoch, .int .i64 s.puts]
structure StR (w : World) (base Sb : Nat) (s : StV) (m : StM) : Prop where
 low : base ≤ Sb
 blk : Blk w Sb 129 (stC s m)
 dsk : Dsk w base m.B s.d
 log : LogW w base m.Lb m.B s.log
 map : MapR w base m.M s.map
 nmap : NK.In w m.Nb s.notes.length (getL s.notes)
 nlow : base ≤ m.Nb
 pmap : SK.In w m.Pb s.slices.length (getL s.slices)
 plow : base ≤ m.Pb
 ne : m.Nb ≠ m.Pb
 mks : w.ownsRow base 9 1 (.slice m.A s.marks.length m.c) s.marks.length (s.marks.map strV)
 tab : TabsB base w
 b2 : 2 < base
theorem StR.lt {w : World} {base Sb : Nat} {s : StV} {m : StM} (h : StR w base Sb s m) : base ≤ w.heap.size := by
 have := h.blk.lt
 have := h.low
 omega
structure KeepS (base : Nat) (m m' : StM) (w w' : World) : Prop where
 below : Below base w w'
 old : ∀ k t, tyOf w k = some t → t ∉ ([121, 165, 167, 216, 137, 220, 129] : List TypeId) → k ≠ m.Nb → k ≠ m.Pb → (∀ a, m.A = some a → k ≠ a.block) → w'.heap[k]? = w.heap[k]?
 lb : m'.Lb = m.Lb
 B : m'.B = m.B
 M : m'.M = m.M
 nb : m'.Nb = m.Nb
 pb : m'.Pb = m.Pb
 mks : ∀ a, m'.A = some a → (∃ b, m.A = some b ∧ a.block = b.block) ∨ w.heap.size ≤ a.block
theorem KeepS.refl (base : Nat) (m : StM) (w : World) : KeepS base m m w w := ⟨bR0, fun _ _ _ _ _ _ _ => rfl, rfl, rfl, rfl, rfl, rfl, fun a h => .inl ⟨a, h, rfl⟩⟩
theorem ty_of_heap {w w' : World} {k : Nat} (h : w'.heap[k]? = w.heap[k]?) : tyOf w' k = tyOf w k := by unfold tyOf; rw [h]
theorem KeepS.trans {base : Nat} {m1 m2 m3 : StM} {a b c : World} (h : KeepS base m1 m2 a b) (k : KeepS base m2 m3 b c) : KeepS base m1 m3 a c := by
 refine ⟨h.below.trans k.below, fun j t ht hn h1 h2 h3 => ?_, k.lb.trans h.lb, k.B.trans h.B, k.M.trans h.M, k.nb.trans h.nb, k.pb.trans h.pb, fun x hx => ?_⟩
 ·have e := h.old j t ht hn h1 h2 h3
  refine (k.old j t (by rw [ty_of_heap e]; exact ht) hn (by rw [h.nb]; exact h1) (by rw [h.pb]; exact h2) (fun x hx => ?_)).trans e
  rcases h.mks x hx with ⟨y, hy, e2⟩ | e2
  ·rw [e2]; exact h3 y hy
  ·have := tyOf_lt ht; omega
 ·rcases k.mks x hx with ⟨y, hy, e2⟩ | e2
  ·rcases h.mks y hy with ⟨z, hz, e3⟩ | e3
   ·exact .inl ⟨z, hz, e2.trans e3⟩
   ·exact .inr (by rw [e2]; exact e3)
  ·exact .inr (Nat.le_trans h.below.size e2)
theorem KeepS.of {base : Nat} {ts : List TypeId} {m : StM} {w w' : World} (h : Keeps base ts w w') (ht : ∀ t ∈ ts, t ∈ ([121, 165, 167, 216, 137, 220, 129] : List TypeId)) : KeepS base m m w w' :=
 ⟨h.below, fun k t hk hn _ _ _ => h.old k t hk (fun hm => hn (ht t hm)), rfl, rfl, rfl, rfl, rfl, fun a h => .inl ⟨a, h, rfl⟩⟩
theorem StR.keeps {w w' : World} {base base' Sb : Nat} {s : StV} {m : StM} {ts : List TypeId} (h : StR w base Sb s m) (k : Keeps base' ts w w') (hb : base ≤ base') (ht : ∀ t ∈ ([121, 165, 167, 216, 137, 220, 129, 140, 169, 5, 9, 1000000] : List TypeId), t ∉ ts) : StR w' base Sb s m :=
 ⟨h.low, h.blk.keeps k (ht _ (by decide)), h.dsk.keeps k (ht _ (by decide)) (ht _ (by decide)) (ht _ (by decide)) (ht _ (by decide)) (ht _ (by decide)), h.log.keeps k (ht _ (by decide)) (ht _ (by decide)) (ht _ (by decide)), h.map.keeps k (ht _ (by decide)) (ht _ (by decide)),
  h.nmap.keeps k (ht _ (by decide)), h.nlow, h.pmap.keeps k (ht _ (by decide)), h.plow, h.ne, own_keeps h.mks k (ht _ (by decide)), h.tab.below (k.below.mono hb), h.b2⟩
theorem StR.below {w w' : World} {base Sb : Nat} {s : StV} {m : StM} (h : StR w base Sb s m) (k : Below w.heap.size w w') : StR w' base Sb s m :=
 h.keeps (ts := []) (Keeps.of_below (base := base) k h.lt) nR0 (by simp)
theorem StR.logged {w w' : World} {base Sb : Nat} {s : StV} {m : StM} (h : StR w base Sb s m) (k : Keeps base [121, 165, 167, 216, 137] w w') {d' : DskV} {l' : LogV} (hd : Dsk w' base m.B d') (hl : LogW w' base m.Lb m.B l') (hz : d'.size = s.d.size) :
  StR w' base Sb { s with d := d', log := l' } m :=
 ⟨h.low, by have := h.blk.keeps k (by decide); unfold stC at *; simp only [hz]; exact this, hd, hl, h.map.keeps k (by decide) (by decide), h.nmap.keeps k (by decide), h.nlow, h.pmap.keeps k (by decide), h.plow, h.ne, own_keeps h.mks k (by decide), h.tab.below k.below, h.b2⟩
theorem StR.mapped {w w' : World} {base Sb : Nat} {s : StV} {m : StM} (h : StR w base Sb s m) (k : Keeps base [220] w w') {m' : MapV} (hm : MapR w' base m.M m') : StR w' base Sb { s with map := m' } m :=
 ⟨h.low, h.blk.keeps k (by decide), h.dsk.keeps k (by decide) (by decide) (by decide) (by decide) (by decide), h.log.keeps k (by decide) (by decide) (by decide), hm, h.nmap.keeps k (by decide), h.nlow, h.pmap.keeps k (by decide), h.plow, h.ne, own_keeps h.mks k (by decide), h.tab.below k.below, h.b2⟩
theorem turned_keepS {w w' : World} {base b : Nat} {m : StM} (ht : w.mapTurned w' b) (hb : base ≤ b) (hw : base ≤ w.heap.size) (hbm : b = m.Nb ∨ b = m.Pb) : KeepS base m m w w' := by
 refine ⟨(KV.turned ht hb hw).below, fun k t hk _ h1 h2 _ => ht.grown.block k (tyOf_lt hk) (fun e => ?_), rfl, rfl, rfl, rfl, rfl, fun a h => .inl ⟨a, h, rfl⟩⟩
 injection e with e
 rcases hbm with h | h
 ·exact h1 (e.trans h)
 ·exact h2 (e.trans h)
theorem StR.noted {w w' : World} {base Sb : Nat} {s : StV} {m : StM} (h : StR w base Sb s m) (ht : w.mapTurned w' m.Nb) {n : Nat} {l' : List (Int × List UInt8)} (hin : NK.In w' m.Nb n (getL l')) (hs : SrtN l') (hr : ∀ x ∈ l', rightB x.1 = true ∧ x.2.length ≤ 3000) :
  StR w' base Sb { s with notes := l' } m ∧ KeepS base m m w w' := by
 have k := KV.turned ht h.nlow h.lt
 have hin' := hin.tight (keys_of_notes hs hr)
 rw [List.length_map] at hin'
 exact ⟨⟨h.low, h.blk.keeps k (by decide), h.dsk.keeps k (by decide) (by decide) (by decide) (by decide) (by decide), h.log.keeps k (by decide) (by decide) (by decide), h.map.keeps k (by decide) (by decide), hin', h.nlow, h.pmap.kept ht.grown (by intro e; injection e with e; exact h.ne e.symm), h.plow, h.ne, own_keeps h.mks k (by decide), h.tab.below k.below, h.b2⟩, turned_keepS ht h.nlow h.lt (.inl rfl)⟩
theorem StR.sliced {w w' : World} {base Sb : Nat} {s : StV} {m : StM} (h : StR w base Sb s m) (ht : w.mapTurned w' m.Pb) {n : Nat} {l' : List (NameV × SlotV)} (hin : SK.In w' m.Pb n (getL l')) (hs : SrtS l') (hr : ∀ x ∈ l', NumOK x ∧ x.2.len ≤ 1048576) :
  StR w' base Sb { s with slices := l' } m ∧ KeepS base m m w w' := by
 have k := KV.turned ht h.plow h.lt
 have hin' := hin.tight (keys_of_slices hs hr)
 rw [List.length_map] at hin'
 exact ⟨⟨h.low, h.blk.keeps k (by decide), h.dsk.keeps k (by decide) (by decide) (by decide) (by decide) (by decide), h.log.keeps k (by decide) (by decide) (by decide), h.map.keeps k (by decide) (by decide), h.nmap.kept ht.grown (by intro e; injection e with e; exact h.ne e), h.nlow, hin', h.plow, h.ne, own_keeps h.mks k (by decide), h.tab.below k.below, h.b2⟩, turned_keepS ht h.plow h.lt (.inr rfl)⟩
theorem StR.counted {w : World} {base Sb : Nat} {s : StV} {m : StM} (h : StR w base Sb s m) (e p : Nat) :
  StR ((w.setCell ⟨Sb, 7, none⟩ (.int .i64 e)).setCell ⟨Sb, 8, none⟩ (.int .i64 p)) base Sb { s with epoch := e, puts := p } m ∧ Keeps base [129] w ((w.setCell ⟨Sb, 7, none⟩ (.int .i64 e)).setCell ⟨Sb, 8, none⟩ (.int .i64 p)) := by
 have s1 := h.blk.set 7 (.int .i64 e)
 have s2 := s1.set 8 (.int .i64 p)
 have k := ((Keeps.refl base [129] w).set (o := 7) h.blk h.low (by simp) (.int .i64 e)).set (o := 8) s1 h.low (by simp) (.int .i64 p)
 exact ⟨⟨h.low, s2, h.dsk.keeps k (by decide) (by decide) (by decide) (by decide) (by decide), h.log.keeps k (by decide) (by decide) (by decide), h.map.keeps k (by decide) (by decide), h.nmap.keeps k (by decide), h.nlow, h.pmap.keeps k (by decide), h.plow, h.ne, own_keeps h.mks k (by decide), h.tab.below k.below, h.b2⟩, k⟩
end
end Go.Proofs.YtmgmfnimaafkdaaGreatDoor
