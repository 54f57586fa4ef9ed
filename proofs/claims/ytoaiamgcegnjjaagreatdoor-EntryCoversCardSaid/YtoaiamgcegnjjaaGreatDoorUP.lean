/- The plain law of Use: the program's way and the reference's way tell the same. No condition. -/
import Derived.Test.YtoaiamgcegnjjaaGreatDoorUC
import Derived.Test.YtoaiamgcegnjjaaGreatDoorVA
namespace Go.Proofs.YtoaiamgcegnjjaaGreatDoor
open Go.RowKit Go.Maps Go.WideMaps Go.Sort
set_option maxRecDepth 100000

def keysR (e : RE) : List ByteArray := e.M.ks ++ [slashB, e.obj]
/-- is a line one that puts an entry under it? -/
def hitR (e : RE) (up : Int) (hard : Bool) (l : LineS) : Bool := !(decide (l.no ≤ e.gen) || decide (up < l.no) || (hard && !l.hard)) && (keysR e).any (inB l.keys)
def underR (fl : Int) (ls : List LineS) (e : RE) (up : Int) (hard : Bool) : Bool := (decide (e.gen < fl) && decide (e.gen < up)) || ls.any (hitR e up hard)
def stP (fl : Int) (ls : List LineS) (ti ge : Int) (e : Ent) : Int :=
  if lastP fl ls (keysOf e) e.gen ge false = 0 then stateOf e.fr e.wh e.er e.said ti else staleR e.fr e.wh e.er (ageOf e.said ti)
def stR (fl : Int) (ls : List LineS) (ti ge : Int) (e : RE) : Int :=
  if underR fl ls e ge false = true then staleR e.M.fr e.M.wh e.M.er (ageOf e.said ti) else stateOf e.M.fr e.M.wh e.M.er e.said ti
def deadP (fl : Int) (ls : List LineS) (ge : Int) (e : Ent) : Bool := decide (0 < lastP fl ls (keysOf e) e.gen ge true)

theorem any_swap (a b : List ByteArray) : a.any (inB b) = b.any (inB a) := by
  rw [Bool.eq_iff_iff, List.any_eq_true, List.any_eq_true]
  constructor
  · rintro ⟨x, hx, h⟩
    unfold inB at h
    rw [List.any_eq_true] at h
    obtain ⟨y, hy, h⟩ := h
    obtain rfl := of_decide_eq_true h
    exact ⟨x, hy, by unfold inB; rw [List.any_eq_true]; exact ⟨x, hx, decide_eq_true rfl⟩⟩
  · rintro ⟨x, hx, h⟩
    unfold inB at h
    rw [List.any_eq_true] at h
    obtain ⟨y, hy, h⟩ := h
    obtain rfl := of_decide_eq_true h
    exact ⟨x, hy, by unfold inB; rw [List.any_eq_true]; exact ⟨x, hx, decide_eq_true rfl⟩⟩

/-- lines rise -/
def Rise (ls : List LineS) : Prop := ls.Pairwise fun a b => a.no < b.no

theorem scan_some {b up : Int} {p : LineS → Bool} : ∀ {l : List LineS} {n : Int}, scanS b up p l = some n → b < n
  | [], n, h => by cases h
  | a :: l, n, h => by
    unfold scanS at h
    split at h
    · cases h
    · split at h
      · injection h with h
        omega
      · exact scan_some h
theorem scan_is (b up : Int) (p : LineS → Bool) : ∀ {l : List LineS}, (l.Pairwise fun a b => b.no < a.no) → (scanS b up p l).isSome = l.any fun l => decide (b < l.no) && decide (l.no ≤ up) && p l
  | [], _ => rfl
  | a :: l, h => by
    rw [List.pairwise_cons] at h
    unfold scanS
    rw [List.any_cons]
    by_cases h1 : a.no ≤ b
    · rw [if_pos h1]
      have h2 : (l.any fun l => decide (b < l.no) && decide (l.no ≤ up) && p l) = false := by
        rw [List.any_eq_false]
        intro y hy
        have := h.1 y hy
        rw [decide_eq_false (by omega)]
        simp
      rw [h2, decide_eq_false (by omega)]
      rfl
    · rw [if_neg h1, decide_eq_true (by omega), Bool.true_and]
      by_cases h2 : a.no ≤ up ∧ p a = true
      · rw [if_pos h2, decide_eq_true h2.1, h2.2]
        rfl
      · rw [if_neg h2, scan_is b up p h.2]
        have : (decide (a.no ≤ up) && p a) = false := by
          cases hp : p a with
          | false => simp
          | true =>
            rw [decide_eq_false (fun h => h2 ⟨h, hp⟩)]
            rfl
        rw [this, Bool.false_or]

theorem last_under {fl : Int} {ls : List LineS} (hr : Rise ls) (e : RE) (hg : 0 ≤ e.gen) (up : Int) (hard : Bool) :
    decide (0 < lastP fl ls (keysOf e.ent) e.gen up hard) = underR fl ls e up hard := by
  have hb : max e.gen 0 = e.gen := by omega
  unfold lastP
  rw [hb]
  have h1 := scan_is e.gen up (meantS (keysOf e.ent) hard) (l := ls.reverse) (by rw [List.pairwise_reverse]; exact hr)
  rw [List.any_reverse] at h1
  have h2 : (ls.any fun l => decide (e.gen < l.no) && decide (l.no ≤ up) && meantS (keysOf e.ent) hard l) = ls.any (hitR e up hard) := by
    congr 1
    funext l
    unfold hitR meantS
    rw [any_swap (keysR e)]
    have e1 : keysR e = keysOf e.ent := rfl
    rw [e1]
    have e2 : decide (l.no ≤ e.gen) = !decide (e.gen < l.no) := by
      by_cases h : e.gen < l.no
      · rw [decide_eq_true h, decide_eq_false (by omega)]; rfl
      · rw [decide_eq_false h, decide_eq_true (by omega)]; rfl
    have e3 : decide (up < l.no) = !decide (l.no ≤ up) := by
      by_cases h : l.no ≤ up
      · rw [decide_eq_true h, decide_eq_false (by omega)]; rfl
      · rw [decide_eq_false h, decide_eq_true (by omega)]; rfl
    rw [e2, e3]
    cases decide (e.gen < l.no) <;> cases decide (l.no ≤ up) <;> cases hard <;> cases l.hard <;> simp
  rw [h2] at h1
  unfold underR
  rw [← h1]
  cases hs : scanS e.gen up (meantS (keysOf e.ent) hard) ls.reverse with
  | some n =>
    have := scan_some hs
    unfold endP
    rw [decide_eq_true (show 0 < n by omega)]
    simp
  | none =>
    unfold endP
    show decide (0 < if e.gen < min up fl then min up fl else 0) = _
    by_cases hq : e.gen < min up fl
    · rw [if_pos hq, decide_eq_true (show 0 < min up fl by omega), decide_eq_true (show e.gen < fl by omega), decide_eq_true (show e.gen < up by omega)]
      rfl
    · rw [if_neg hq]
      have : (decide (e.gen < fl) && decide (e.gen < up)) = false := by
        by_cases h : e.gen < fl
        · rw [decide_eq_false (show ¬ e.gen < up by omega), Bool.and_false]
        · rw [decide_eq_false h]
          rfl
      rw [this]
      simp
theorem last_nonneg {fl : Int} (ls : List LineS) (ks : List ByteArray) (b up : Int) (hard : Bool) : 0 ≤ lastP fl ls ks b up hard := by
  unfold lastP
  cases hs : scanS (max b 0) up (meantS ks hard) ls.reverse with
  | some n =>
    have := scan_some hs
    show 0 ≤ n
    omega
  | none =>
    show 0 ≤ if max b 0 < min up fl then min up fl else 0
    split <;> omega
theorem dead_is {fl : Int} {ls : List LineS} (hr : Rise ls) (e : RE) (hg : 0 ≤ e.gen) (ge : Int) : deadP fl ls ge e.ent = underR fl ls e ge true := last_under hr e hg ge true
theorem st_is {fl : Int} {ls : List LineS} (hr : Rise ls) (e : RE) (hg : 0 ≤ e.gen) (ti ge : Int) : stP fl ls ti ge e.ent = stR fl ls ti ge e := by
  have h := last_under (fl := fl) hr e hg ge false
  have h0 := last_nonneg (fl := fl) ls (keysOf e.ent) e.gen ge false
  unfold stP stR
  rw [← h]
  show (if lastP fl ls (keysOf e.ent) e.gen ge false = 0 then _ else _) = _
  by_cases hz : lastP fl ls (keysOf e.ent) e.gen ge false = 0
  · rw [if_pos hz, hz, if_neg (by decide)]
    rfl
  · rw [if_neg hz, if_pos (decide_eq_true (by omega))]
    rfl

/-- the reference's choice -/
def skipR (obj : ByteArray) (mo : Int) (under : RE → Bool) (e : RE) : Bool := decide (e.obj ≠ obj) || decide (e.mom < mo) || under e
def stepR (obj : ByteArray) (mo : Int) (under : RE → Bool) (b : Option RE) (e : RE) : Option RE :=
  if skipR obj mo under e = true then b else match b with
    | none => some e
    | some x => if x.mom ≤ e.mom then some e else some x
def bestR (obj : ByteArray) (mo : Int) (under : RE → Bool) (L : List RE) : Option RE := L.foldl (stepR obj mo under) none
def skip2R (obj : ByteArray) (under : RE → Bool) (e : RE) : Bool := decide (e.obj ≠ obj) || !e.last || !e.M.kp || under e
def restR (obj : ByteArray) (under : RE → Bool) (st : RE → Int) : List RE → Int × Int
  | [] => (0, 4)
  | e :: L => if skip2R obj under e = true then restR obj under st L else if st e < 4 then (e.id, st e) else restR obj under st L
def useR (L : List RE) (obj : ByteArray) (mo : Int) (under : RE → Bool) (st : RE → Int) : Int × Int := match bestR obj mo under L with
  | some e => (e.id, 1)
  | none => restR obj under st L

theorem better_is {k x : Ent} (h : x.id < k.id) : betterE k x = decide (x.mom ≤ k.mom) := by
  unfold betterE
  have h2 : cmpI k.id x.id = 1 := by unfold cmpI; rw [if_neg (by omega), if_pos h]
  rw [h2]
  unfold cmpI orI
  by_cases h3 : k.mom < x.mom
  · rw [if_pos h3, decide_eq_false (show ¬ x.mom ≤ k.mom by omega)]
    rfl
  · rw [if_neg h3, decide_eq_true (show x.mom ≤ k.mom by omega)]
    by_cases h4 : x.mom < k.mom
    · rw [if_pos h4]
      rfl
    · rw [if_neg h4]
      rfl

theorem best_is {T : TabS} {obj : ByteArray} {mo : Int} {dead : Ent → Bool} {under : RE → Bool} : ∀ (L : List RE) (b : Option RE), (∀ e ∈ L, T.ents e.id = some e.ent) → (∀ e ∈ L, dead e.ent = under e) → (L.map RE.key).Pairwise (fun a b => a.1 < b.1) → (∀ x, b = some x → ∀ e ∈ L, x.id < e.id) →
    (idsOf (L.map RE.key) obj).foldl (fun b id => match T.ents id with | some k => stepU mo dead b k | none => b) (b.map RE.ent) = (L.foldl (stepR obj mo under) b).map RE.ent
  | [], _, _, _, _, _ => rfl
  | a :: L, b, hT, hd, hr, hb => by
    rw [List.map_cons, List.pairwise_cons] at hr
    have hT' : ∀ e ∈ L, T.ents e.id = some e.ent := fun e he => hT e (List.mem_cons_of_mem _ he)
    have hd' : ∀ e ∈ L, dead e.ent = under e := fun e he => hd e (List.mem_cons_of_mem _ he)
    have hal : ∀ e ∈ L, a.id < e.id := fun e he => hr.1 _ (key_mem he)
    rw [List.foldl_cons]
    by_cases ho : a.obj = obj
    · have e1 : idsOf ((a :: L).map RE.key) obj = a.id :: idsOf (L.map RE.key) obj := by
        unfold idsOf
        rw [List.map_cons, List.filter_cons, if_pos (show decide (a.key.2.1 = obj) = true from decide_eq_true ho)]
        rfl
      have e2 : stepU mo dead (b.map RE.ent) a.ent = (stepR obj mo under b a).map RE.ent := by
        unfold stepU stepR
        have e3 : (decide (a.ent.mom < mo) || dead a.ent) = skipR obj mo under a := by
          unfold skipR
          rw [decide_eq_false (show ¬ a.obj ≠ obj from fun h => h ho), Bool.false_or, hd a (List.mem_cons_self ..)]
          rfl
        rw [e3]
        by_cases hs : skipR obj mo under a = true
        · rw [if_pos hs, if_pos hs]
        · rw [if_neg hs, if_neg hs]
          cases b with
          | none => rfl
          | some x =>
            show (if betterE a.ent x.ent = true then some a.ent else some x.ent) = _
            rw [better_is (show x.ent.id < a.ent.id from hb x rfl a (List.mem_cons_self ..))]
            by_cases hm : x.mom ≤ a.mom
            · rw [if_pos (decide_eq_true (show x.ent.mom ≤ a.ent.mom from hm))]
              show _ = (if x.mom ≤ a.mom then some a else some x).map RE.ent
              rw [if_pos hm]
              rfl
            · rw [if_neg (by rw [decide_eq_false (show ¬ x.ent.mom ≤ a.ent.mom from hm)]; decide)]
              show _ = (if x.mom ≤ a.mom then some a else some x).map RE.ent
              rw [if_neg hm]
              rfl
      rw [e1, List.foldl_cons, hT a (List.mem_cons_self ..)]
      show List.foldl _ (stepU mo dead (b.map RE.ent) a.ent) _ = _
      rw [e2]
      refine best_is L _ hT' hd' hr.2 (fun x hx e he => ?_)
      unfold stepR at hx
      split at hx
      · exact hb x hx e (List.mem_cons_of_mem _ he)
      · cases b with
        | none =>
          injection hx with hx
          rw [← hx]
          exact hal e he
        | some y =>
          have hx : (if y.mom ≤ a.mom then some a else some y) = some x := hx
          split at hx
          · injection hx with hx
            rw [← hx]
            exact hal e he
          · injection hx with hx
            rw [← hx]
            exact hb y rfl e (List.mem_cons_of_mem _ he)
    · have e1 : idsOf ((a :: L).map RE.key) obj = idsOf (L.map RE.key) obj := by
        unfold idsOf
        rw [List.map_cons, List.filter_cons, if_neg (by rw [show decide (a.key.2.1 = obj) = false from decide_eq_false ho]; decide)]
      have e2 : stepR obj mo under b a = b := by
        unfold stepR skipR
        rw [decide_eq_true (show a.obj ≠ obj from ho)]
        rfl
      rw [e1, e2]
      exact best_is L b hT' hd' hr.2 (fun x hx e he => hb x hx e (List.mem_cons_of_mem _ he))

theorem rest_none {obj : ByteArray} {under : RE → Bool} {st : RE → Int} : ∀ {L : List RE}, (∀ e ∈ L, (decide (e.obj = obj) && e.last) = false) → restR obj under st L = (0, 4)
  | [], _ => rfl
  | a :: L, h => by
    have : skip2R obj under a = true := by
      have h1 := h a (List.mem_cons_self ..)
      unfold skip2R
      by_cases ho : a.obj = obj
      · rw [decide_eq_true ho, Bool.true_and] at h1
        rw [h1]
        simp
      · rw [decide_eq_true (show a.obj ≠ obj from ho)]
        rfl
    unfold restR
    rw [if_pos this]
    exact rest_none (fun e he => h e (List.mem_cons_of_mem _ he))
theorem rest_one {obj : ByteArray} {under : RE → Bool} {st : RE → Int} : ∀ {L : List RE} {e : RE}, L.find? (fun e => decide (e.obj = obj) && e.last) = some e → (∀ a ∈ L, ∀ b ∈ L, (decide (a.obj = obj) && a.last) = true → (decide (b.obj = obj) && b.last) = true → a.id = b.id) → (L.map RE.key).Pairwise (fun a b => a.1 < b.1) →
    restR obj under st L = if (!e.M.kp || under e) = true then (0, 4) else if st e < 4 then (e.id, st e) else (0, 4)
  | [], _, h, _, _ => by cases h
  | a :: L, e, h, hu, hr => by
    rw [List.map_cons, List.pairwise_cons] at hr
    rw [List.find?_cons] at h
    cases hp : (decide (a.obj = obj) && a.last) with
    | false =>
      rw [hp] at h
      have : skip2R obj under a = true := by
        unfold skip2R
        by_cases ho : a.obj = obj
        · rw [decide_eq_true ho, Bool.true_and] at hp
          rw [hp]
          simp
        · rw [decide_eq_true (show a.obj ≠ obj from ho)]
          rfl
      unfold restR
      rw [if_pos this]
      exact rest_one h (fun x hx y hy => hu x (List.mem_cons_of_mem _ hx) y (List.mem_cons_of_mem _ hy)) hr.2
    | true =>
      rw [hp] at h
      injection h with h
      subst h
      have hno : restR obj under st L = (0, 4) := rest_none fun e he => by
        cases hq : (decide (e.obj = obj) && e.last) with
        | false => rfl
        | true =>
          have h1 := hu a (List.mem_cons_self ..) e (List.mem_cons_of_mem _ he) hp hq
          have h2 := hr.1 _ (key_mem he)
          have e1 : a.key.1 = a.id := rfl
          have e2 : e.key.1 = e.id := rfl
          omega
      rw [Bool.and_eq_true] at hp
      have hs : skip2R obj under a = (!a.M.kp || under a) := by
        unfold skip2R
        rw [decide_eq_false (show ¬ a.obj ≠ obj from fun h => h (of_decide_eq_true hp.1)), hp.2]
        rfl
      unfold restR
      rw [hs, hno]

theorem stR_le (fl : Int) (ls : List LineS) (ti ge : Int) (e : RE) : 1 ≤ stR fl ls ti ge e ∧ stR fl ls ti ge e ≤ 4 := by
  unfold stR staleR stateOf
  (repeat' split) <;> omega

theorem use_is {k : Nat} {T : TabS} {x : RTab} (h : Sim k T x) {obj : ByteArray} {mo : Int} {dead : Ent → Bool} {under : RE → Bool} {stf : Ent → Int} {st : RE → Int} (hd : ∀ e ∈ x.L, dead e.ent = under e) (hs : ∀ e ∈ x.L, stf e.ent = st e) (hs4 : ∀ e ∈ x.L, st e ≤ 4) : useU T obj mo dead stf = useR x.L obj mo under st := by
  have hrest : restU T obj dead stf = restR obj under st x.L := by
    unfold restU
    rw [sim_last h obj]
    unfold lastR
    cases hf : x.L.find? (fun e => decide (e.obj = obj) && e.last) with
    | none =>
      rw [List.find?_eq_none] at hf
      rw [rest_none (fun e he => by simpa using hf e he)]
      rfl
    | some e =>
      have he := List.mem_of_find?_eq_some hf
      show (match T.ents e.id with | none => ((0 : Int), (4 : Int)) | some k => if (!k.kp || dead k) = true then (0, 4) else if stf k = 4 then (0, 4) else (e.id, stf k)) = _
      rw [h.ent_of he]
      show (if (!e.M.kp || dead e.ent) = true then ((0 : Int), (4 : Int)) else if stf e.ent = 4 then (0, 4) else (e.id, stf e.ent)) = _
      rw [hd e he, hs e he, rest_one hf ?_ h.rise]
      · by_cases h1 : (!e.M.kp || under e) = true
        · rw [if_pos h1, if_pos h1]
        · rw [if_neg h1, if_neg h1]
          have := hs4 e he
          by_cases h2 : st e = 4
          · rw [if_pos h2, if_neg (by omega)]
          · rw [if_neg h2, if_pos (by omega)]
      · intro a ha b hb hpa hpb
        rw [Bool.and_eq_true] at hpa hpb
        obtain ⟨o1, g1, g2⟩ := (h.last _ (key_mem ha)).1 hpa.2
        obtain ⟨o2, g3, g4⟩ := (h.last _ (key_mem hb)).1 hpb.2
        rw [show a.key.2.1 = obj from of_decide_eq_true hpa.1] at g1
        rw [show b.key.2.1 = obj from of_decide_eq_true hpb.1, g1] at g3
        injection g3 with g3
        subst g3
        exact g2.symm.trans g4
  unfold useU useR
  cases ho : T.objs obj with
  | none =>
    have hno : ∀ e ∈ x.L, e.obj ≠ obj := fun e he hh => by
      have := h.obj _ (key_mem he)
      rw [show e.key.2.1 = obj from hh, ho] at this
      cases this
    have hb : bestR obj mo under x.L = none := by
      unfold bestR
      have : ∀ L : List RE, (∀ e ∈ L, e.obj ≠ obj) → L.foldl (stepR obj mo under) none = none := fun L => by
        induction L with
        | nil => intro _; rfl
        | cons a L ih =>
          intro hL
          rw [List.foldl_cons]
          have : stepR obj mo under none a = none := by
            unfold stepR skipR
            rw [decide_eq_true (hL a (List.mem_cons_self ..))]
            rfl
          rw [this]
          exact ih (fun e he => hL e (List.mem_cons_of_mem _ he))
      exact this x.L hno
    rw [hb]
    show ((0 : Int), (4 : Int)) = restR obj under st x.L
    rw [rest_none (fun e he => by rw [decide_eq_false (hno e he)]; rfl)]
  | some o =>
    have hb : bestU T mo dead o.ids = (bestR obj mo under x.L).map RE.ent := by
      unfold bestU bestR
      rw [h.ids obj o ho]
      exact best_is x.L none (fun e he => h.ent_of he) hd h.rise (fun x hx => by cases hx)
    dsimp only
    rw [hb]
    cases bestR obj mo under x.L with
    | none => exact hrest
    | some e => rfl

/-- what is told of who may be told -/
theorem best_mem {T : TabS} {mo : Int} {dead : Ent → Bool} {obj : ByteArray} : ∀ (ids : List Int) (b : Option Ent), (∀ i ∈ ids, ∀ e, T.ents i = some e → e.id = i ∧ e.obj = obj) → (∀ k, b = some k → T.ents k.id = some k ∧ k.obj = obj ∧ dead k = false ∧ mo ≤ k.mom) →
    ∀ k, ids.foldl (fun b id => match T.ents id with | some k => stepU mo dead b k | none => b) b = some k → T.ents k.id = some k ∧ k.obj = obj ∧ dead k = false ∧ mo ≤ k.mom
  | [], b, _, hb, k, h => hb k h
  | i :: ids, b, hi, hb, k, h => by
    rw [List.foldl_cons] at h
    refine best_mem ids _ (fun j hj => hi j (List.mem_cons_of_mem _ hj)) ?_ k h
    intro q hq
    cases he : T.ents i with
    | none =>
      rw [he] at hq
      exact hb q hq
    | some e =>
      rw [he] at hq
      have hq : stepU mo dead b e = some q := hq
      obtain ⟨h1, h2⟩ := hi i (List.mem_cons_self ..) e he
      have hyes : ¬ (decide (e.mom < mo) || dead e) = true → T.ents e.id = some e ∧ e.obj = obj ∧ dead e = false ∧ mo ≤ e.mom := fun hn => by
        rw [Bool.or_eq_true, not_or] at hn
        refine ⟨by rw [h1]; exact he, h2, by simpa using hn.2, ?_⟩
        have := hn.1
        rw [decide_eq_true_eq] at this
        omega
      unfold stepU at hq
      split at hq
      · exact hb q hq
      · rename_i hn
        cases b with
        | none =>
          injection hq with hq
          rw [← hq]
          exact hyes hn
        | some y =>
          have hq : (if betterE e y = true then some e else some y) = some q := hq
          split at hq
          · injection hq with hq
            rw [← hq]
            exact hyes hn
          · exact hb q hq
theorem use_told {k : Nat} {T : TabS} {x : RTab} (h : Sim k T x) {obj : ByteArray} {mo : Int} {dead : Ent → Bool} {stf : Ent → Int} :
    useU T obj mo dead stf = (0, 4) ∨ ∃ q, T.ents q.id = some q ∧ q.obj = obj ∧ dead q = false ∧ ((mo ≤ q.mom ∧ useU T obj mo dead stf = (q.id, 1)) ∨ (turnedS T q = false ∧ q.kp = true ∧ stf q ≠ 4 ∧ useU T obj mo dead stf = (q.id, stf q))) := by
  have hent : ∀ i e, T.ents i = some e → e.id = i ∧ T.ents e.id = some e := fun i e he => by
    obtain ⟨r, hr, h1, h2⟩ := (h.ents _ _).1 he
    have : e.id = i := by rw [← h2]; exact h1
    exact ⟨this, by rw [this]; exact he⟩
  unfold useU
  cases ho : T.objs obj with
  | none => exact .inl rfl
  | some o =>
    dsimp only
    cases hb : bestU T mo dead o.ids with
    | some q =>
      right
      have := best_mem (T := T) (mo := mo) (dead := dead) (obj := obj) o.ids none (fun i hi e he => ⟨(hent i e he).1, ?_⟩) (fun k hk => by cases hk) q hb
      · exact ⟨q, this.1, this.2.1, this.2.2.1, .inl ⟨this.2.2.2, rfl⟩⟩
      · rw [h.ids obj o ho] at hi
        unfold idsOf at hi
        obtain ⟨y, hy, rfl⟩ := List.mem_map.1 hi
        obtain ⟨hy1, hy2⟩ := List.mem_filter.1 hy
        obtain ⟨a, ha, rfl⟩ := List.mem_map.1 hy1
        have e1 : T.ents a.id = some a.ent := h.ent_of ha
        have e2 : some a.ent = some e := e1.symm.trans he
        injection e2 with e2
        rw [← e2]
        exact of_decide_eq_true hy2
    | none =>
      dsimp only
      unfold restU
      cases hl : lastS T obj with
      | none => exact .inl rfl
      | some id =>
        dsimp only
        cases he : T.ents id with
        | none => exact .inl rfl
        | some q =>
          dsimp only
          obtain ⟨h1, h2⟩ := hent id q he
          by_cases c1 : (!q.kp || dead q) = true
          · rw [if_pos c1]
            exact .inl rfl
          · rw [if_neg c1]
            by_cases c2 : stf q = 4
            · rw [if_pos c2]
              exact .inl rfl
            · rw [if_neg c2]
              right
              have hob : q.obj = obj := by
                unfold lastS at hl
                rw [ho] at hl
                dsimp only at hl
                obtain ⟨r, hr, g1, g2⟩ := (h.ents _ _).1 he
                have g3 : o.told = id := by
                  split at hl
                  · injection hl
                  · cases hl
                have := h.mine obj o ho _ (key_mem hr) (by rw [g3]; exact g1)
                rw [← g2]
                exact this
              rw [Bool.or_eq_true, not_or] at c1
              refine ⟨q, h2, hob, by simpa using c1.2, .inr ⟨?_, by simpa using c1.1, c2, by rw [h1]⟩⟩
              unfold turnedS
              rw [hob, hl, h1]
              simp
theorem state_mono (fr wh er said : Int) {a b : Int} (h : a ≤ b) : stateOf fr wh er said a ≤ stateOf fr wh er said b := by
  have h1 : ageOf said a ≤ ageOf said b := by unfold ageOf tickOf; omega
  have h2 := tickOf_bd wh
  have h3 := tickOf_bd er
  unfold stateOf
  (repeat' split) <;> omega
theorem state_bd (fr wh er said a : Int) : 1 ≤ stateOf fr wh er said a ∧ stateOf fr wh er said a ≤ 4 := by
  unfold stateOf
  (repeat' split) <;> omega
theorem use_mono {T : TabS} {obj : ByteArray} {mo : Int} {dead : Ent → Bool} {f g : Ent → Int} (h : ∀ k, f k ≤ g k) (h4 : ∀ k, g k ≤ 4) : (useU T obj mo dead f).2 ≤ (useU T obj mo dead g).2 := by
  unfold useU
  cases T.objs obj with
  | none => exact Int.le_refl _
  | some o =>
    dsimp only
    cases bestU T mo dead o.ids with
    | some k => exact Int.le_refl _
    | none =>
      dsimp only
      unfold restU
      cases lastS T obj with
      | none => exact Int.le_refl _
      | some id =>
        dsimp only
        cases T.ents id with
        | none => exact Int.le_refl _
        | some k =>
          dsimp only
          have h1 := h k
          have h2 := h4 k
          split
          · exact Int.le_refl _
          · split
            · rename_i hf
              rw [if_pos (by omega)]
              exact Int.le_refl _
            · split
              · show f k ≤ 4
                omega
              · exact h1
theorem last_empty (ks : List ByteArray) (b up : Int) (hard : Bool) : lastP 0 [] ks b up hard = 0 := by
  unfold lastP
  show (if max b 0 < min up 0 then min up 0 else 0) = (0 : Int)
  rw [if_neg (by omega)]
theorem turned_last {T : TabS} {e : Ent} (h : turnedS T e = false) : lastS T e.obj = some e.id := by
  unfold turnedS at h
  simpa using h
end Go.Proofs.YtoaiamgcegnjjaaGreatDoor
