/- How many slices are bad: no more than sectors of which a bit turned. No program in sight. -/
import Derived.Test.YtmgmfnimaafkdaaGreatDoorVB
namespace Go.Proofs.YtmgmfnimaafkdaaGreatDoor
section
set_option maxRecDepth 100000

theorem getGo_spoilt {d : DskV} {at' kind mark j : Nat} {t x : List UInt8} (h : ∀ i, i < j → d.told (at' + i) = .data (secP d.size kind mark (t.drop (i * (d.size - 18))) (i == 0)) false)
  (hj : j < needP d.size t.length) (hjt : ∃ tu, d.told (at' + j) = .data x tu) (hx : secOf x = none)
  (hs : 19 ≤ d.size) (hs2 : d.size ≤ 4096) (hk : 0 < kind) (hk2 : kind < 256) (hm : mark < 2 ^ 64) (ht : t.length ≤ 2 ^ 30) (h0 : 0 < t.length)
  (ho : d.off = false) (hl : at' + needP d.size t.length ≤ d.lasts.length) : ∀ (k i : Nat) (head : Sec), i + k = d.lasts.length - at' → i ≤ j → (0 < i → head = ⟨kind, mark, t.length, true, t.take (d.size - 18)⟩) →
  (getGo d at' k i head (t.take (i * (d.size - 18)))).1 = 2 ∨ (getGo d at' k i head (t.take (i * (d.size - 18)))).1 = 8
 | 0, i, head, hk', hi, _ => by omega
 | k + 1, i, head, hk', hi, hh => by
  by_cases hij : i = j
  ·subst hij
   obtain ⟨tu, hjt⟩ := hjt
   have hr : readD d (at' + i) = (0, x) := by
    unfold readD
    rw [if_neg (by omega), if_neg (by rw [ho]; simp), hjt]
   unfold getGo
   simp only [hr, hx]
   split
   ·exact .inl rfl
   ·exact .inr rfl
  ·obtain ⟨n1, n2⟩ := need_enough hs hs2 ht
   have n2 := n2 h0
   have hiN : i < needP d.size t.length := by omega
   have hlt : i * (d.size - 18) < t.length := by
    have : i * (d.size - 18) ≤ (needP d.size t.length - 1) * (d.size - 18) := Nat.mul_le_mul_right _ (by omega)
    omega
   have hnext : (i + 1) * (d.size - 18) < t.length := by
    have : (i + 1) * (d.size - 18) ≤ (needP d.size t.length - 1) * (d.size - 18) := Nat.mul_le_mul_right _ (by omega)
    omega
   have hr : readD d (at' + i) = (0, secP d.size kind mark (t.drop (i * (d.size - 18))) (i == 0)) := by
    unfold readD
    rw [if_neg (by omega), if_neg (by rw [ho]; simp), h i (by omega)]
   have hsec : secOf (secP d.size kind mark (t.drop (i * (d.size - 18))) (i == 0)) = some ⟨kind, mark, t.length - i * (d.size - 18), i == 0, (t.drop (i * (d.size - 18))).take (d.size - 18)⟩ := by
    have := secOf_secP (size := d.size) (kind := kind) (mark := mark) (b := t.drop (i * (d.size - 18))) (first := i == 0) hs hk hk2 hm (by rw [List.length_drop]; omega) (.inr (fun e => by have := congrArg List.length e; rw [List.length_drop] at this; simp at this; omega))
    rw [List.length_drop] at this
    exact this
   have hpl := plainB_sec (size := d.size) (mark := mark) (b := t.drop (i * (d.size - 18))) (first := i == 0) hk hk2
   have htake : t.take (i * (d.size - 18)) ++ (t.drop (i * (d.size - 18))).take (d.size - 18) = t.take ((i + 1) * (d.size - 18)) := by
    rw [← List.take_add, Nat.add_mul, Nat.one_mul]
   have hlen1 : (t.take (i * (d.size - 18))).length = i * (d.size - 18) := by rw [List.length_take]; omega
   unfold getGo
   simp only [hr, hpl, hsec]
   by_cases hi0 : i = 0
   ·subst hi0
    simp only [Nat.zero_mul, List.take_zero, List.drop_zero, List.nil_append, Nat.sub_zero, Nat.zero_add, Nat.one_mul] at htake hnext ⊢
    simp only [Bool.false_eq_true, and_false, if_false, Nat.lt_irrefl, false_and, if_true, beq_self_eq_true, Bool.true_eq_false]
    rw [if_neg (by rw [List.length_take]; omega)]
    have := getGo_spoilt h hj hjt hx hs hs2 hk hk2 hm ht h0 ho hl k 1 ⟨kind, mark, t.length, true, t.take (d.size - 18)⟩ (by omega) (by omega) (fun _ => rfl)
    rw [Nat.one_mul] at this
    exact this
   ·have hh' := hh (by omega)
    subst hh'
    have hb : (i == 0) = false := by simpa using hi0
    have hcond : ¬ (0 < i ∧ ((i == 0) = true ∨ kind ≠ kind ∨ mark ≠ mark ∨ t.length - i * (d.size - 18) + (t.take (i * (d.size - 18))).length ≠ t.length)) := by
     rintro ⟨_, h | h | h | h⟩
     ·rw [hb] at h; cases h
     ·exact h rfl
     ·exact h rfl
     ·rw [hlen1] at h; omega
    simp only [hi0, false_and, if_false]
    rw [if_neg hcond, htake]
    rw [if_neg (by rw [List.length_take]; omega)]
    exact getGo_spoilt h hj hjt hx hs hs2 hk hk2 hm ht h0 ho hl k (i + 1) _ (by omega) (by omega) (fun _ => rfl)
theorem getP_spoilt {d : DskV} {at' kind mark j : Nat} {t x : List UInt8} (h : ∀ i, i < j → d.told (at' + i) = .data (secP d.size kind mark (t.drop (i * (d.size - 18))) (i == 0)) false)
  (hj : j < needP d.size t.length) (hjt : ∃ tu, d.told (at' + j) = .data x tu) (hx : secOf x = none)
  (hs : 19 ≤ d.size) (hs2 : d.size ≤ 4096) (hk : 0 < kind) (hk2 : kind < 256) (hm : mark < 2 ^ 64) (ht : t.length ≤ 2 ^ 30) (h0 : 0 < t.length)
  (ho : d.off = false) (hl : at' + needP d.size t.length ≤ d.lasts.length) : (getP d at').1 = 2 ∨ (getP d at').1 = 8 := by
 have hp := needP_pos hs hs2 ht
 unfold getP
 rw [if_neg (by omega)]
 have := getGo_spoilt h hj hjt hx hs hs2 hk hk2 hm ht h0 ho hl (d.lasts.length - at') 0 ⟨0, 0, 0, false, []⟩ (by omega) (by omega) (fun h => absurd h (by omega))
 rw [Nat.zero_mul, List.take_zero] at this
 exact this
theorem least {p : Nat → Prop} : ∀ n, p n → ∃ j, j ≤ n ∧ p j ∧ ∀ i, i < j → ¬ p i := by
 intro n
 induction n using Nat.strongRecOn with
 | _ n ih =>
  intro hn
  by_cases h : ∃ m, m < n ∧ p m
  ·obtain ⟨m, hm, pm⟩ := h
   obtain ⟨j, h1, h2, h3⟩ := ih m hm pm
   exact ⟨j, by omega, h2, h3⟩
  ·exact ⟨n, nR0, hn, fun i hi hp => h ⟨i, hi, hp⟩⟩
def SecAs (d : DskV) (m : Nat) (s : List UInt8) : Prop := d.told m = .data s false ∨ ∃ bit, bit < 8 * d.size ∧ d.told m = .data (flipB s bit) true
def TurnedAt (d : DskV) (m : Nat) : Prop := ∃ b, d.told m = .data b true
theorem SecAs.same {d d' : DskV} {m : Nat} {s : List UInt8} (h : SecAs d m s) (hz : d'.size = d.size) (ht : d'.told m = d.told m) : SecAs d' m s := by
 rcases h with h | ⟨bit, h1, h2⟩
 ·exact .inl (ht.trans h)
 ·exact .inr ⟨bit, by rw [hz]; exact h1, ht.trans h2⟩
structure Stood (d : DskV) (lo : Nat) (x : SlotV) (t : List UInt8) : Prop where
 intro' ::
 wit : ∃ a mark : Nat, x = ⟨a, needP d.size t.length, t.length, mark⟩ ∧ (∀ i, i < needP d.size t.length → SecAs d (a + i) (secP d.size 83 mark (t.drop (i * (d.size - 18))) (i == 0))) ∧ mark < 2 ^ 63 ∧ lo ≤ a ∧ a + needP d.size t.length ≤ d.lasts.length
 some : 0 < t.length
 few : t.length ≤ 1048576
theorem Stood.of {d : DskV} {lo : Nat} {x : SlotV} {t : List UInt8} (h : Stands d lo x t) : Stood d lo x t := by
 obtain ⟨⟨a, mark, h1, h2, h3, h4, h5⟩, h6, h7⟩ := h
 exact ⟨⟨a, mark, h1, fun i hi => .inl (h2 i hi), h3, h4, h5⟩, h6, h7⟩
theorem Stood.sure {d d' : DskV} {lo : Nat} {x : SlotV} {t : List UInt8} (h : Stood d lo x t) (hL : d.Like d') (ht : ∀ k, SecIn x k → d'.told k = d.told k) : Stood d' lo x t := by
 obtain ⟨⟨a, mark, h1, h2, h3, h4, h5⟩, h6, h7⟩ := h
 refine ⟨⟨a, mark, by rw [hL.1]; exact h1, fun i hi => ?_, h3, h4, by rw [hL.1, hL.2.1]; exact h5⟩, h6, h7⟩
 rw [hL.1] at hi ⊢
 refine (h2 i hi).same hL.1 (ht _ ?_)
 unfold SecIn
 rw [h1]
 simp only
 omega
theorem Stood.sec {d : DskV} {lo : Nat} {x : SlotV} {t : List UInt8} (h : Stood d lo x t) {k : Nat} (hk : SecIn x k) : lo ≤ k ∧ k < d.lasts.length := by
 obtain ⟨⟨a, mark, h1, h2, h3, h4, h5⟩, h6, h7⟩ := h
 unfold SecIn at hk
 rw [h1] at hk
 simp only at hk
 omega
theorem Stood.keep {d d' : DskV} {lo : Nat} {x : SlotV} {t : List UInt8} (h : Stood d lo x t) (k : KeptFrom lo d d') : Stood d' lo x t :=
 h.sure k.1 fun m hm => k.2 m (h.sec hm).1 (h.sec hm).2
theorem Stood.rot {d d' : DskV} {lo n bit : Nat} {x : SlotV} {t : List UInt8} (h : Stood d lo x t) (hr : rotD d n bit = (0, d')) (hb : bit < 8 * d.size) : Stood d' lo x t := by
 obtain ⟨L, ⟨v, hv1, hv2⟩, hv3⟩ := told_rot hr
 obtain ⟨⟨a, mark, h1, h2, h3, h4, h5⟩, h6, h7⟩ := h
 refine ⟨⟨a, mark, by rw [L.1]; exact h1, fun i hi => ?_, h3, h4, by rw [L.1, L.2.1]; exact h5⟩, h6, h7⟩
 rw [L.1] at hi ⊢
 by_cases hn : a + i = n
 ·rcases h2 i hi with g | ⟨bit', _, g⟩
  ·rw [hn] at g ⊢
   rw [g] at hv1
   unfold rotSec at hv1
   simp only [Prod.mk.injEq, true_and] at hv1
   exact .inr ⟨bit, by rw [L.1]; exact hb, by rw [hv2, ← hv1]⟩
  ·rw [hn] at g
   rw [g] at hv1
   unfold rotSec at hv1
   simp at hv1
 ·exact (h2 i hi).same L.1 (hv3 _ hn)
theorem Stood.tells {d : DskV} {lo : Nat} {x : SlotV} {t : List UInt8} (h : Stood d lo x t) (hs : 19 ≤ d.size) (hs2 : d.size ≤ 4096) (ho : d.off = false) :
  (tellsS d x = (0, t) ∧ ∀ k, SecIn x k → ¬ TurnedAt d k) ∨ (tellsS d x = (8, []) ∧ ∃ k, SecIn x k ∧ TurnedAt d k) := by
 obtain ⟨⟨a, mark, h1, h2, h3, h4, h5⟩, h6, h7⟩ := h
 by_cases hT : ∃ i, i < needP d.size t.length ∧ TurnedAt d (a + i)
 ·right
  obtain ⟨i0, hi0⟩ := hT
  obtain ⟨j, _, ⟨hj, hjt⟩, hmin⟩ := least (p := fun i => i < needP d.size t.length ∧ TurnedAt d (a + i)) i0 hi0
  have hbefore : ∀ i, i < j → d.told (a + i) = .data (secP d.size 83 mark (t.drop (i * (d.size - 18))) (i == 0)) false := by
   intro i hi
   rcases h2 i (by omega) with g | ⟨bit, _, g⟩
   ·exact g
   ·exact absurd ⟨by omega, _, g⟩ (hmin i hi)
  obtain ⟨bit, hbit, hflip⟩ : ∃ bit, bit < 8 * d.size ∧ d.told (a + j) = .data (flipB (secP d.size 83 mark (t.drop (j * (d.size - 18))) (j == 0)) bit) true := by
   rcases h2 j hj with g | g
   ·obtain ⟨b, hb⟩ := hjt
    rw [g] at hb
    injection hb with _ hb
    cases hb
   ·exact g
  have hsl := secP_len (size := d.size) (kind := 83) (mark := mark) (b := t.drop (j * (d.size - 18))) (first := j == 0) (by omega)
  obtain ⟨p, c, r, c', e1, e2, hne⟩ := flipB_ne (b := secP d.size 83 mark (t.drop (j * (d.size - 18))) (j == 0)) (bit := bit) (by rw [hsl]; omega)
  obtain ⟨n1, n2⟩ := need_enough hs hs2 (bytes := t.length) (by omega)
  have n2 := n2 h6
  have hlt : j * (d.size - 18) < t.length := by
   have : j * (d.size - 18) ≤ (needP d.size t.length - 1) * (d.size - 18) := Nat.mul_le_mul_right _ (by omega)
   omega
  have hsec := secOf_secP (size := d.size) (kind := 83) (mark := mark) (b := t.drop (j * (d.size - 18))) (first := j == 0) hs (by omega) (by omega) (by omega) (by rw [List.length_drop]; omega) (.inr (fun e => by have := congrArg List.length e; rw [List.length_drop] at this; simp at this; omega))
  rw [e1] at hsec
  have hnone := secOf_turned hne hsec
  rw [← e2] at hnone
  have hg := getP_spoilt (d := d) (at' := a) (kind := 83) (mark := mark) (j := j) (t := t) hbefore hj ⟨true, hflip⟩ hnone hs hs2 (by omega) (by omega) (by omega) (by omega) h6 ho h5
  refine ⟨?_, a + j, ?_, hjt⟩
  ·subst h1
   unfold tellsS
   rw [if_neg (by simp)]
   simp only [Int.toNat_natCast]
   cases hgp : getP d a with
   | mk e rr =>
    rw [hgp] at hg
    simp only at hg
    rcases hg with rfl | rfl <;> rfl
  ·unfold SecIn
   rw [h1]
   simp only
   omega
 ·left
  have hH : Holds d a 83 mark t := by
   intro i hi
   rcases h2 i hi with g | ⟨bit, _, g⟩
   ·exact g
   ·exact absurd ⟨i, hi, _, g⟩ hT
  refine ⟨tells_holds hH h1 hs hs2 (by omega) (by omega) h6 ho h5, fun k hk hkt => hT ⟨k - a, ?_, ?_⟩⟩
  ·unfold SecIn at hk
   rw [h1] at hk
   simp only at hk
   omega
  ·have : a + (k - a) = k := by
    unfold SecIn at hk
    rw [h1] at hk
    simp only at hk
    omega
   rw [this]
   exact hkt
theorem flush_kept {d d' : DskV} {lo : Nat} (h : flushD d = (0, d')) : KeptFrom lo d d' := ⟨(flushD_like h).1, fun m _ hm => told_flush h m hm⟩
end
section
set_option maxRecDepth 100000

structure StAll (s : StV) (lo E : Nat) (ts : List (NameV × List UInt8)) : Prop where
 log : LogInv s.d s.log lo
 map : MapInv s.map lo s.d.lasts.length
 recs : s.log.recs.length ≤ 1000000
 puts : s.puts < 1048576
 epoch : s.epoch ≤ s.log.epoch
 ep : s.log.epoch ≤ E
 txt : ∀ x ∈ s.notes, rightB x.1 = true ∧ x.2.length ≤ 3000
 mks : ∀ x ∈ s.marks, x.length ≤ 3000
 srtN : SrtN s.notes
 srtS : SrtS s.slices
 side : Side (fun a b => a.1 = b.1 ∧ Stood s.d lo a.2 b.2) s.slices ts
 right : ∀ x ∈ s.slices, rightB x.1.1 = true ∧ rightB x.1.2 = true
 few : s.d.lasts.length ≤ 65536
 apart : s.slices.Pairwise fun x y => ∀ k, SecIn x.2 k → ¬ SecIn y.2 k
 used : ∀ x ∈ s.slices, ∀ k, SecIn x.2 k → ¬ FreeK s.map.free k
theorem words1_len {v : Int} (h : rightB v = true) : (wordsS [v]).length ≤ 21 := by
 unfold rightB at h
 simp only [Bool.and_eq_true, decide_eq_true_eq] at h
 have := Lib.itoa_length_le v (by omega) (by omega)
 unfold wordsS
 rw [List.map_cons, List.map_nil, Lib.join_one]
 exact this
theorem recs_ok {s : StV} (hN : ∀ x ∈ s.notes, rightB x.1 = true ∧ x.2.length ≤ 3000) (hM : ∀ m ∈ s.marks, m.length ≤ 3000) (hS : ∀ x ∈ s.slices, NumOK x) : ∀ r ∈ recordsS s, r.2.length ≤ 4000 := by
 intro r hr
 unfold recordsS at hr
 rcases List.mem_append.1 hr with hr | hr
 ·rcases List.mem_append.1 hr with hr | hr
  ·obtain ⟨x, hx, rfl⟩ := List.mem_map.1 hr
   obtain ⟨h1, h2⟩ := hN x hx
   have := words1_len h1
   simp only [List.length_append, List.length_cons]
   omega
  ·obtain ⟨x, hx, rfl⟩ := List.mem_map.1 hr
   exact rec_of_num (h := hS x hx)
 ·obtain ⟨x, hx, rfl⟩ := List.mem_map.1 hr
  have := hM x hx
  simp only
  omega
theorem StAll.nums {s : StV} {lo E : Nat} {ts : List (NameV × List UInt8)} (h : StAll s lo E ts) : ∀ x ∈ s.slices, NumOK x := by
 intro x hx
 obtain ⟨y, hy, e, ⟨a, mark, h1, h2, h3, h4, h5⟩, h6, h7⟩ := h.side.mem x hx
 obtain ⟨r1, r2⟩ := h.right x hx
 have := h.few
 refine ⟨r1, r2, ?_⟩
 rw [h1]
 simp only
 omega
theorem StAll.recsOK {s : StV} {lo E : Nat} {ts : List (NameV × List UInt8)} (h : StAll s lo E ts) : ∀ r ∈ recordsS s, r.2.length ≤ 4000 := recs_ok h.txt h.mks h.nums
theorem StAll.next {s s' : StV} {lo E E' : Nat} {ts : List (NameV × List UInt8)} (h : StAll s lo E ts) (hd : s.d.Like s'.d) (hst : ∀ x ∈ s.slices, ∀ t, Stood s.d lo x.2 t → Stood s'.d lo x.2 t) (hlog : LogInv s'.d s'.log lo) (hmap : MapInv s'.map lo s'.d.lasts.length)
  (hr : s'.log.recs.length ≤ 1000000) (hf : ∀ k, FreeK s'.map.free k → FreeK s.map.free k) (hp : s'.puts < 1048576) (he : s'.epoch ≤ s'.log.epoch) (hE : s'.log.epoch ≤ E')
  (ht : ∀ x ∈ s'.notes, rightB x.1 = true ∧ x.2.length ≤ 3000) (hn : SrtN s'.notes) (hs : s'.slices = s.slices) (hm : ∀ x ∈ s'.marks, x.length ≤ 3000) : StAll s' lo E' ts := by
 refine ⟨hlog, hmap, hr, hp, he, hE, ht, hm, hn, by rw [hs]; exact h.srtS, ?_, by rw [hs]; exact h.right, by rw [hd.2.1]; exact h.few, by rw [hs]; exact h.apart, fun x hx k hk hfk => ?_⟩
 ·rw [hs]
  exact h.side.mono fun x hx y hxy => ⟨hxy.1, hst x hx _ hxy.2⟩
 ·rw [hs] at hx
  exact h.used x hx k hk (hf k hfk)
theorem StAll.le {s : StV} {lo E E' : Nat} {ts : List (NameV × List UInt8)} (h : StAll s lo E ts) (hE : E ≤ E') : StAll s lo E' ts :=
 h.next (DskV.Like.refl _) (fun _ _ _ g => g) h.log h.map h.recs (fun _ g => g) h.puts h.epoch (Nat.le_trans h.ep hE) h.txt h.srtN rfl h.mks
theorem putStore_all {s : StV} {lo E : Nat} {ts : List (NameV × List UInt8)} (h : StAll s lo E ts) (hE : E + 2 < 2 ^ 39) (n : NameV) (b : List UInt8) :
  ∃ e s', putStore s n b = (e, s') ∧ RunsB (SecOK (E + 2)) 12884967424 s.d s'.d ∧ ((e ≠ 0 ∧ StAll s' lo (E + 2) ts) ∨ (e = 0 ∧ getL ts n = none ∧ StAll s' lo (E + 2) (putS n b ts))) := by
 have hrs := h.recsOK
 have hlog := h.log
 have hep := h.ep
 have hepo := h.epoch
 have hfew := h.few
 have h2 : StAll s lo (E + 2) ts := h.le (by omega)
 unfold putStore
 split
 ·exact ⟨1, s, rfl, RunsB.refl _, .inl ⟨by decide, h2⟩⟩
 rename_i hc
 split
 ·exact ⟨7, s, rfl, RunsB.refl _, .inl ⟨by decide, h2⟩⟩
 rename_i hg
 have hnew := getS_none (by simpa using hg)
 have hbl : b.length ≤ 1048576 := by omega
 have hb1 : 1 ≤ b.length := by omega
 have hr1 : rightB n.1 = true := by cases hh : rightB n.1 <;> simp_all
 have hr2 : rightB n.2 = true := by cases hh : rightB n.2 <;> simp_all
 rcases takeM_ok (c := needP s.d.size b.length) h.map with ⟨e, he, hne⟩ | ⟨a, m', he, hc1, hm', ha1, ha2, hf1, hf2⟩
 ·rw [he]
  obtain ⟨e', rfl⟩ : ∃ e', e = e' + 1 := ⟨e - 1, by omega⟩
  exact ⟨_, _, rfl, RunsB.refl _, .inl ⟨by omega, h2⟩⟩
 ·rw [he]
  simp only
  rcases nextS_inv (s := { s with map := m' }) (lo := lo) hlog hrs h.puts hepo with ⟨d1, l1, e1, hl1, hk1, hep1, hep2⟩ | ⟨d1, l1, p, mark, e1, hl1, hk1, hep1, hep2, hp, hmk⟩
  ·obtain ⟨r1, n1⟩ := nextS_runs (s := { s with map := m' }) (lo := lo) hlog hfew (by simp only; omega) h.recs e1
   rw [e1]
   obtain ⟨g1, g2⟩ := give_back hm' hf1 hf2
   simp only at hep1 hep2 r1 n1
   exact ⟨_, _, rfl, (r1.mono fun b hb => hb.le (by omega)).le (by omega), .inl ⟨by decide, h.next hk1.1 (fun _ _ _ g => g.keep hk1) hl1 (by rw [hk1.1.2.1]; exact g1) n1 g2 h.puts (by simp only; omega) (by simp only; omega) h.txt h.srtN rfl h.mks⟩⟩
  ·obtain ⟨r1, n1⟩ := nextS_runs (s := { s with map := m' }) (lo := lo) hlog hfew (by simp only; omega) h.recs e1
   rw [e1]
   simp only [Int.toNat_natCast]
   simp only at hep1 hep2 hk1 r1 n1
   have hsz : d1.size = s.d.size := hk1.1.1
   have hln : d1.lasts.length = s.d.lasts.length := hk1.1.2.1
   obtain ⟨d2, hp2, hL2⟩ := putP_ok (d := d1) (at' := a) (kind := 83) (mark := mark) (b := b) hl1.s1 (by decide) hl1.on (by rw [hsz]; exact hc1) (by rw [hsz, hln]; exact ha2)
   obtain ⟨_, hH2, ht2⟩ := putP_told hp2 hL2.1
   have r2 := putP_runs (P := SecOK (E + 2)) (fun i => secOK_put (by decide) (by omega) (fun hh => by cases hh)) (by rw [hln]; exact hfew) hp2
   rw [hp2]
   simp only
   have hnum : ∀ x ∈ putS n (⟨a, needP s.d.size b.length, b.length, mark⟩ : SlotV) s.slices, NumOK x := by
    intro x hx
    rcases mem_putS hx with rfl | hx
    ·exact ⟨hr1, hr2, by simp only; omega, hbl, by simp only; omega, by simp only; omega⟩
    ·exact h.nums x hx
   have hrs2 := recs_ok (s := { s with d := d2, log := l1, map := m', epoch := l1.epoch, puts := p, slices := putS n ⟨a, needP s.d.size b.length, b.length, mark⟩ s.slices }) h.txt h.mks hnum
   have hrl : (slotRec n (⟨a, needP s.d.size b.length, b.length, mark⟩ : SlotV)).2.length ≤ 4000 := rec_of_num (x := (n, ⟨a, needP s.d.size b.length, b.length, mark⟩)) ⟨hr1, hr2, by simp only; omega, hbl, by simp only; omega, by simp only; omega⟩
   obtain ⟨d3, l3, hl3, hk3, ⟨hep3, hep4⟩, hres⟩ := loggedS_inv (s := { s with d := d2, log := l1, map := m', epoch := l1.epoch, puts := p, slices := putS n ⟨a, needP s.d.size b.length, b.length, mark⟩ s.slices }) (was := { s with d := d2, log := l1, map := (giveM m' a (needP s.d.size b.length)).2, epoch := l1.epoch, puts := p }) (lo := lo) (hl1.like hL2) hrl hrs2
   simp only at hk3 hep3 hep4
   have hL3 : s.d.Like d3 := (hk1.1.trans hL2).trans hk3.1
   have hst : ∀ x ∈ s.slices, ∀ t, Stood s.d lo x.2 t → Stood d3 lo x.2 t := by
    intro x hx t hS
    have hu := h.used x hx
    refine Stood.keep ((hS.keep hk1).sure hL2 fun m hm => ht2 m ?_) hk3
    apply Decidable.byContradiction
    intro hcon
    exact hu m hm (hf2 m (by omega) (by rw [hsz] at hcon; omega))
   have hruns : ∀ e3 s3, loggedS { s with d := d2, log := l1, map := m', epoch := l1.epoch, puts := p, slices := putS n ⟨a, needP s.d.size b.length, b.length, mark⟩ s.slices } { s with d := d2, log := l1, map := (giveM m' a (needP s.d.size b.length)).2, epoch := l1.epoch, puts := p } (slotRec n ⟨a, needP s.d.size b.length, b.length, mark⟩) = (e3, s3) →
     RunsB (SecOK (E + 2)) 12884967424 s.d s3.d ∧ s3.log.recs.length ≤ 1000000 := by
    intro e3 s3 hlg
    obtain ⟨r3, n3⟩ := loggedS_runs (lo := lo) (hl1.like hL2) (by simp only; rw [hL2.2.1, hln]; exact hfew) (by simp only; omega) n1 hrl hlg
    simp only at r3
    exact ⟨((r1.mono fun b hb => hb.le (by omega)).trans r2 nR0).trans (r3.mono fun b hb => hb.le (by omega)) (by omega), n3⟩
   have hnone : getL ts n = none := by
    cases hh : getL ts n with
    | none => rfl
    | some t =>
     exfalso
     have hm := getL_mem hh
     obtain ⟨x, hx, hxe, _⟩ := h.side.mem' _ hm
     exact hnew (List.mem_map.2 ⟨x, hx, hxe⟩)
   rcases hres with hres | hres
   ·obtain ⟨hr3, n3⟩ := hruns _ _ hres
    refine ⟨0, _, hres, hr3, .inr ⟨rfl, hnone, ?_⟩⟩
    have hS3 : Stood d3 lo ⟨a, needP s.d.size b.length, b.length, mark⟩ b := by
     refine Stood.of ⟨⟨a, mark, by rw [hL3.1], (hH2.keep hk3.1.1 fun m g1 g2 => hk3.2 m (by omega) (by rw [hL2.2.1, hln]; rw [hL2.1, hsz] at g2; omega)), by omega, ha1, by rw [hL3.1, hL3.2.1]; exact ha2⟩, hb1, hbl⟩
    have hsd : Side (fun a b => a.1 = b.1 ∧ Stood d3 lo a.2 b.2) (putS n ⟨a, needP s.d.size b.length, b.length, mark⟩ s.slices) (putS n b ts) :=
     Side.put (h.side.mono fun x hx y hxy => ⟨hxy.1, hst x hx _ hxy.2⟩) (fun _ _ g => g.1) ⟨rfl, hS3⟩
    refine ⟨hl3, by rw [hL3.2.1]; exact hm', n3, hp, by simp only; omega, by simp only; omega, h.txt, h.mks, h.srtN, putS_srt h.srtS, hsd, fun x hx => ?_, by rw [hL3.2.1]; exact hfew, ?_, ?_⟩
    ·rcases mem_putS hx with rfl | hx
     ·exact ⟨hr1, hr2⟩
     ·exact h.right x hx
    ·refine (List.Perm.pairwise_iff (fun {x y} g k h1 h2 => g k h2 h1) (putS_perm hnew)).2 ?_
     rw [List.pairwise_cons]
     refine ⟨fun y hy k h1 h2 => h.used y hy k h2 (hf2 k ?_ ?_), h.apart⟩
     ·unfold SecIn at h1; simp only at h1; omega
     ·unfold SecIn at h1; simp only at h1; omega
    ·intro x hx k hk hfk
     simp only at hfk
     rw [hf1] at hfk
     rcases mem_putS hx with rfl | hx
     ·unfold SecIn at hk; simp only at hk; exact hfk.2 (by omega)
     ·exact h.used x hx k hk hfk.1
   ·obtain ⟨hr3, n3⟩ := hruns _ _ hres
    refine ⟨5, _, hres, hr3, .inl ⟨by decide, ?_⟩⟩
    obtain ⟨g1, g2⟩ := give_back hm' hf1 hf2
    exact h.next hL3 hst hl3 (by rw [hL3.2.1]; exact g1) n3 g2 hp (by simp only; omega) (by simp only; omega) h.txt h.srtN rfl h.mks
theorem logged_all {s s1 : StV} {lo E : Nat} {ts : List (NameV × List UInt8)} {r : RecL} (h : StAll s lo E ts) (hE : E + 2 < 2 ^ 39) (hd : s1.d = s.d) (hl : s1.log = s.log) (hm : s1.map = s.map) (hs : s1.slices = s.slices) (hp : s1.puts = s.puts) (he : s1.epoch = s.epoch)
  (ht : ∀ x ∈ s1.notes, rightB x.1 = true ∧ x.2.length ≤ 3000) (hn : SrtN s1.notes) (hk : ∀ x ∈ s1.marks, x.length ≤ 3000) (hr : r.2.length ≤ 4000) :
  ∃ d' l', (loggedS s1 s r = (0, { s1 with d := d', log := l' }) ∨ loggedS s1 s r = (5, { s with d := d', log := l' })) ∧ RunsB (SecOK (E + 1)) 8589934592 s.d d' ∧ StAll { s1 with d := d', log := l' } lo (E + 1) ts ∧ StAll { s with d := d', log := l' } lo (E + 1) ts := by
 have hnum : ∀ x ∈ s1.slices, NumOK x := by rw [hs]; exact h.nums
 have hep := h.ep
 have hepo := h.epoch
 have hlog : LogInv s1.d s1.log lo := by rw [hd, hl]; exact h.log
 obtain ⟨d', l', hi, hkf, ⟨e1, e2⟩, hres⟩ := loggedS_inv (s := s1) (was := s) (lo := lo) hlog hr (recs_ok ht hk hnum)
 rw [hl] at e1 e2
 rw [hd] at hkf
 have hrun : RunsB (SecOK (E + 1)) 8589934592 s.d d' ∧ l'.recs.length ≤ 1000000 := by
  rcases hres with hres | hres
  ·obtain ⟨r1, n1⟩ := loggedS_runs (lo := lo) hlog (by rw [hd]; exact h.few) (by rw [hl]; omega) (by rw [hl]; exact h.recs) hr hres
   rw [hd, hl] at r1
   exact ⟨r1.mono fun b hb => hb.le (by omega), n1⟩
  ·obtain ⟨r1, n1⟩ := loggedS_runs (lo := lo) hlog (by rw [hd]; exact h.few) (by rw [hl]; omega) (by rw [hl]; exact h.recs) hr hres
   rw [hd, hl] at r1
   exact ⟨r1.mono fun b hb => hb.le (by omega), n1⟩
 refine ⟨d', l', hres, hrun.1, ?_, ?_⟩
 ·exact h.next hkf.1 (fun _ _ _ g => g.keep hkf) hi (by simp only; rw [hm, hkf.1.2.1]; exact h.map) hrun.2 (fun k g => by simp only at g; rw [hm] at g; exact g) (by simp only; rw [hp]; exact h.puts) (by simp only; rw [he]; omega) (by simp only; omega) ht hn hs hk
 ·exact h.next hkf.1 (fun _ _ _ g => g.keep hkf) hi (by simp only; rw [hkf.1.2.1]; exact h.map) hrun.2 (fun k g => g) h.puts (by simp only; omega) (by simp only; omega) h.txt h.srtN rfl h.mks
theorem StAll.flushed {s : StV} {lo E : Nat} {ts : List (NameV × List UInt8)} (h : StAll s lo E ts) : ∃ d', flushD s.d = (0, d') ∧ RunsB (SecOK E) 1 s.d d' ∧ StAll { s with d := d' } lo E ts := by
 obtain ⟨d', hf, hL⟩ := flushD_ok h.log.on
 have hk := flush_kept (lo := lo) hf
 exact ⟨d', hf, flushD_runs hf, h.next hL (fun _ _ _ g => g.keep hk) (h.log.like hL) (by simp only; rw [hL.2.1]; exact h.map) h.recs (fun k g => g) h.puts h.epoch h.ep h.txt h.srtN rfl h.mks⟩
theorem noteStore_all {s : StV} {lo E : Nat} {ts : List (NameV × List UInt8)} (h : StAll s lo E ts) (hE : E + 2 < 2 ^ 39) (v : Int) (t : List UInt8) :
  ∃ e s', noteStore s v t = (e, s') ∧ RunsB (SecOK (E + 2)) 12884967424 s.d s'.d ∧ StAll s' lo (E + 2) ts ∧ s'.slices = s.slices := by
 unfold noteStore
 split
 ·exact ⟨1, s, rfl, RunsB.refl _, h.le (by omega), rfl⟩
 rename_i hc
 have hv : rightB v = true := by cases hh : rightB v <;> simp_all
 have htl : t.length ≤ 3000 := by omega
 have hw := words1_len hv
 obtain ⟨d', l', hres, hr, h1, h2⟩ := logged_all (s1 := { s with notes := putN v t s.notes }) (r := (78, wordsS [v] ++ 32 :: t)) h hE rfl rfl rfl rfl rfl rfl (fun x hx => by
  rcases mem_putN hx with rfl | hx
  ·exact ⟨hv, htl⟩
  ·exact h.txt x hx) (putN_srt h.srtN) h.mks (by simp only [List.length_append, List.length_cons]; omega)
 rcases hres with hres | hres
 ·rw [hres]
  obtain ⟨d2, hf, r2, h3⟩ := h1.flushed
  simp only at hf
  simp only [syncS, hf]
  exact ⟨_, _, rfl, ((hr.mono fun b hb => hb.le (by omega)).trans (r2.mono fun b hb => hb.le (by omega)) (by omega)), h3.le (by omega), rfl⟩
 ·rw [hres]
  exact ⟨_, _, rfl, (hr.mono fun b hb => hb.le (by omega)).le (by omega), h2.le (by omega), rfl⟩
theorem Side.filter {α β : Type} {R : α → β → Prop} {p : α → Bool} {q : β → Bool} (hpq : ∀ a b, R a b → p a = q b) {l : List α} {m : List β} (h : Side R l m) : Side R (l.filter p) (m.filter q) := by
 induction h with
 | nil => exact .nil
 | cons hr _ ih =>
  rw [List.filter_cons, List.filter_cons, hpq _ _ hr]
  split
  ·exact .cons hr ih
  ·exact ih
theorem pw_mem {α : Type} {R : α → α → Prop} (hs : ∀ x y, R x y → R y x) {l : List α} (h : l.Pairwise R) {x y : α} (hx : x ∈ l) (hy : y ∈ l) (hne : x ≠ y) : R x y := by
 obtain ⟨i, hi, rfl⟩ := List.mem_iff_getElem.1 hx
 obtain ⟨j, hj, rfl⟩ := List.mem_iff_getElem.1 hy
 have hp := List.pairwise_iff_getElem.1 h
 rcases Nat.lt_trichotomy i j with hij | hij | hij
 ·exact hp i j hi hj hij
 ·subst hij; exact absurd rfl hne
 ·exact hs _ _ (hp j i hj hi hij)
theorem giveSlot_ok {m : MapV} {x : SlotV} {lo n : Nat} (h : MapInv m lo n) : MapInv (giveSlot m x) lo n ∧ ∀ k, FreeK (giveSlot m x).free k → FreeK m.free k ∨ SecIn x k := by
 unfold giveSlot
 split
 ·exact ⟨h, fun k g => .inl g⟩
 ·by_cases hg : (giveM m x.at'.toNat x.len).1 = 0
  ·obtain ⟨g1, g2⟩ := giveM_ok h hg
   refine ⟨g1, fun k hk => ?_⟩
   rcases (g2 k).1 hk with g | g
   ·exact .inl g
   ·refine .inr ?_
    unfold SecIn
    omega
  ·rw [giveM_no hg]
   exact ⟨h, fun k g => .inl g⟩
theorem giveAll_ok {lo n : Nat} : ∀ (l : List (NameV × SlotV)) {m : MapV}, MapInv m lo n → MapInv (l.foldl (fun m y => giveSlot m y.2) m) lo n ∧ ∀ k, FreeK (l.foldl (fun m y => giveSlot m y.2) m).free k → FreeK m.free k ∨ ∃ y ∈ l, SecIn y.2 k
 | [], m, h => ⟨h, fun k g => .inl g⟩
 | x :: l, m, h => by
  obtain ⟨h1, h2⟩ := giveSlot_ok (x := x.2) h
  obtain ⟨h3, h4⟩ := giveAll_ok l h1
  refine ⟨h3, fun k hk => ?_⟩
  rcases h4 k hk with g | ⟨y, hy, g⟩
  ·rcases h2 k g with g | g
   ·exact .inl g
   ·exact .inr ⟨x, List.mem_cons_self, g⟩
  ·exact .inr ⟨y, List.mem_cons_of_mem _ hy, g⟩
theorem struck_all {s : StV} {lo E : Nat} {ts : List (NameV × List UInt8)} {r : RecL} (h : StAll s lo E ts) (hE : E + 2 < 2 ^ 39) (p : NameV → Bool) (ns : List (Int × List UInt8)) (ht : ∀ x ∈ ns, rightB x.1 = true ∧ x.2.length ≤ 3000) (hn : SrtN ns) (hr : r.2.length ≤ 4000)
  (gone : List (NameV × SlotV)) (hgone : ∀ y ∈ gone, y ∈ s.slices ∧ p y.1 = false) :
  ∃ d' l', (loggedS { s with notes := ns, slices := s.slices.filter fun y => p y.1 } s r = (0, { s with notes := ns, slices := s.slices.filter fun y => p y.1, d := d', log := l' }) ∨ loggedS { s with notes := ns, slices := s.slices.filter fun y => p y.1 } s r = (5, { s with d := d', log := l' })) ∧
   RunsB (SecOK (E + 1)) 8589934592 s.d d' ∧ StAll { s with notes := ns, slices := s.slices.filter (fun y => p y.1), d := d', log := l', map := gone.foldl (fun m y => giveSlot m y.2) s.map } lo (E + 1) (ts.filter fun y => p y.1) ∧ StAll { s with d := d', log := l' } lo (E + 1) ts := by
 have hsub : ∀ x ∈ s.slices.filter (fun y => p y.1), x ∈ s.slices := fun x hx => (List.mem_filter.1 hx).1
 have hnum : ∀ x ∈ s.slices.filter (fun y => p y.1), NumOK x := fun x hx => h.nums x (hsub x hx)
 have hep := h.ep
 have hepo := h.epoch
 obtain ⟨d', l', hi, hkf, ⟨e1, e2⟩, hres⟩ := loggedS_inv (s := { s with notes := ns, slices := s.slices.filter fun y => p y.1 }) (was := s) (lo := lo) h.log hr (recs_ok ht h.mks hnum)
 simp only at e1 e2 hkf
 have hrun : RunsB (SecOK (E + 1)) 8589934592 s.d d' ∧ l'.recs.length ≤ 1000000 := by
  rcases hres with hres | hres
  ·obtain ⟨r1, n1⟩ := loggedS_runs (s := { s with notes := ns, slices := s.slices.filter fun y => p y.1 }) (was := s) (lo := lo) h.log h.few (by show s.log.epoch + 1 < _; omega) h.recs hr hres
   exact ⟨r1.mono fun b hb => hb.le (by show s.log.epoch + 1 ≤ _; omega), n1⟩
  ·obtain ⟨r1, n1⟩ := loggedS_runs (s := { s with notes := ns, slices := s.slices.filter fun y => p y.1 }) (was := s) (lo := lo) h.log h.few (by show s.log.epoch + 1 < _; omega) h.recs hr hres
   exact ⟨r1.mono fun b hb => hb.le (by show s.log.epoch + 1 ≤ _; omega), n1⟩
 refine ⟨d', l', hres, hrun.1, ?_, ?_⟩
 ·obtain ⟨g1, g2⟩ := giveAll_ok gone h.map
  refine ⟨hi, by simp only; rw [hkf.1.2.1]; exact g1, hrun.2, h.puts, by simp only; omega, by simp only; omega, ht, h.mks, hn, List.Pairwise.filter _ h.srtS, ?_, fun x hx => h.right x (hsub x hx), by simp only; rw [hkf.1.2.1]; exact h.few, List.Pairwise.filter _ h.apart, fun x hx k hk hfk => ?_⟩
  ·exact Side.filter (fun a b g => by rw [g.1]) (h.side.mono fun x hx y hxy => ⟨hxy.1, hxy.2.keep hkf⟩)
  ·have hxp : p x.1 = true := by simpa using (List.mem_filter.1 hx).2
   rcases g2 k hfk with g | ⟨y, hy, g⟩
   ·exact h.used x (hsub x hx) k hk g
   ·obtain ⟨y1, y2⟩ := hgone y hy
    have hne : x ≠ y := fun e => by rw [e, y2] at hxp; cases hxp
    exact pw_mem (R := fun (x y : NameV × SlotV) => ∀ k, SecIn x.2 k → ¬ SecIn y.2 k) (fun a b g k h1 h2 => g k h2 h1) h.apart (hsub x hx) y1 hne k hk g
 ·exact h.next hkf.1 (fun _ _ _ g => g.keep hkf) hi (by simp only; rw [hkf.1.2.1]; exact h.map) hrun.2 (fun k g => g) h.puts (by simp only; omega) (by simp only; omega) h.txt h.srtN rfl h.mks
theorem words2_len {a b : Int} (h1 : rightB a = true) (h2 : rightB b = true) : (wordsS [a, b]).length ≤ 43 := by
 unfold rightB at h1 h2
 simp only [Bool.and_eq_true, decide_eq_true_eq] at h1 h2
 have g1 := Lib.itoa_length_le a (by omega) (by omega)
 have g2 := Lib.itoa_length_le b (by omega) (by omega)
 have e : (Lib.join [Lib.itoa a, Lib.itoa b] [32]).length = (Lib.itoa a).length + (Lib.itoa b).length + 1 := by simp [Lib.join]; omega
 unfold wordsS
 rw [List.map_cons, List.map_cons, List.map_nil, e]
 omega
theorem dropStore_all {s : StV} {lo E : Nat} {ts : List (NameV × List UInt8)} (h : StAll s lo E ts) (hE : E + 2 < 2 ^ 39) (n : NameV) :
  ∃ e s', dropStore s n = (e, s') ∧ RunsB (SecOK (E + 2)) 12884967424 s.d s'.d ∧ ((e ≠ 0 ∧ StAll s' lo (E + 2) ts) ∨ (e = 0 ∧ StAll s' lo (E + 2) (ts.filter fun y => decide (y.1 ≠ n)))) := by
 unfold dropStore
 cases hg : getS s n with
 | none => exact ⟨6, s, rfl, RunsB.refl _, .inl ⟨by decide, h.le (by omega)⟩⟩
 | some x =>
  simp only
  rw [getS_eq] at hg
  have hm := getL_mem hg
  obtain ⟨q1, q2⟩ := h.right _ hm
  have hw := words2_len q1 q2
  obtain ⟨d', l', hres, hr, h1, h2⟩ := struck_all (r := (68, wordsS [n.1, n.2])) h hE (fun y => decide (y ≠ n)) s.notes h.txt h.srtN (by simp only at hw ⊢; omega) [(n, x)] (fun y hy => by
   rw [List.mem_singleton] at hy; subst hy; exact ⟨hm, by simp⟩)
  rcases hres with hres | hres
  ·rw [hres]
   exact ⟨_, _, rfl, (hr.mono fun b hb => hb.le (by omega)).le (by omega), .inr ⟨rfl, h1.le (by omega)⟩⟩
  ·rw [hres]
   exact ⟨_, _, rfl, (hr.mono fun b hb => hb.le (by omega)).le (by omega), .inl ⟨by decide, h2.le (by omega)⟩⟩
theorem rotStore_all {s : StV} {lo E n bit : Nat} {ts : List (NameV × List UInt8)} {d' : DskV} (h : StAll s lo E ts) (hr : rotD s.d n bit = (0, d')) (hb : bit < 8 * s.d.size) : StAll { s with d := d' } lo E ts := by
 obtain ⟨L, _, _⟩ := told_rot hr
 exact h.next L (fun _ _ _ g => g.rot hr hb) (h.log.like L) (by simp only; rw [L.2.1]; exact h.map) h.recs (fun k g => g) h.puts h.epoch h.ep h.txt h.srtN rfl h.mks
theorem StAll.ok {s : StV} {lo E : Nat} {ts : List (NameV × List UInt8)} (h : StAll s lo E ts) (hE : E + 4 < 549755813888) (hK : s.d.waits.length ≤ 824633720832) (hS : s.slices.length ≤ 100000) (hN : s.notes.length ≤ 100000) (hM : s.marks.length ≤ 100000) : StOK s := by
 have hep := h.ep
 have hepo := h.epoch
 have hi := h.log
 have hm := h.map
 refine ⟨hi.at2, hi.sz, hi.s1, by omega, hK, by rw [hm.frm]; exact hm, h.srtS, fun x hx => ?_, h.srtN, h.txt, h.mks, hS, hN, hM, Nat.le_of_lt h.puts, by omega⟩
 refine ⟨h.nums x hx, ?_⟩
 obtain ⟨y, hy, e, ⟨a, mark, h1, h2, h3, h4, h5⟩, h6, h7⟩ := h.side.mem x hx
 have := h.few
 rw [h1]
 simp only
 omega
theorem fresh_all {n k : Nat} (hs : standsB n k = true) (hn : n ≤ 65536) : ∃ d s, openS (newD n k) = (0, d, some s) ∧ s.d = d ∧ StAll s (n / 4) 2 [] ∧ RunsB (SecOK 2) 8589934592 (newD n k) d ∧ s.slices = [] ∧ s.notes = [] ∧ s.marks = [] := by
 obtain ⟨d1, d, e1, e2, L1, L, h⟩ := open_fresh2 hs
 obtain ⟨g1, g2, g3⟩ := stands_some hs
 have hl : (newD n k).lasts.length = n := by simp [newD]
 have hz : (newD n k).size = k := rfl
 have r1 := openL_runs (E := 1) (fine_fresh n k 1) (by rw [hl]; exact hn) (by omega) (by omega) e1
 have hi1 : LogInv d1 ⟨0, n / 4 / 2, k, 0, 1, 1, []⟩ (n / 4) :=
  ⟨by rw [L1.1, hz]; exact g2, by rw [L1.1, hz]; exact g3, L1.2.2, by rw [L1.1, hz], rfl, by simp only; omega, by rw [L1.2.1, hl]; omega, by simp only; omega, by simp [LogV.begin], by simp [LogV.begin]; omega⟩
 have r2 := turnL_runs hi1 (by rw [L1.2.1, hl]; exact hn) (by simp only; omega) e2
 have hi : LogInv d ⟨0, n / 4 / 2, k, 1, 2, n / 4 / 2 + 1, []⟩ (n / 4) :=
  ⟨by rw [L.1, hz]; exact g2, by rw [L.1, hz]; exact g3, L.2.2, by rw [L.1, hz], rfl, by simp only; omega, by rw [L.2.1, hl]; omega, by simp only; omega, by simp [LogV.begin], by simp [LogV.begin]; omega⟩
 refine ⟨d, _, h, rfl, ⟨hi, ?_, by simp, by simp only; omega, by simp only; omega, by simp only; omega, fun x hx => (by cases hx), fun x hx => (by cases hx), List.Pairwise.nil, List.Pairwise.nil, .nil, fun x hx => (by cases hx), by simp only; rw [L.2.1, hl]; exact hn, List.Pairwise.nil, fun x hx => (by cases hx)⟩, r1.trans r2 (by omega), rfl, rfl, rfl⟩
 have h0 : 0 < n - n / 4 := by omega
 simp only [h0, if_true]
 refine ⟨rfl, by rw [L.2.1, hl], by rw [L.2.1, hl]; omega, ⟨List.pairwise_singleton _ _, fun e he => by rw [List.mem_singleton] at he; subst he; simp only; omega⟩, fun e he => by rw [List.mem_singleton] at he; subst he; rw [L.2.1, hl]; simp only; omega⟩
end
section
set_option maxRecDepth 100000

theorem nodup_le {α : Type} [DecidableEq α] : ∀ {l m : List α}, l.Nodup → (∀ x ∈ l, x ∈ m) → l.length ≤ m.length
 | [], m, _, _ => Nat.zero_le _
 | a :: l, m, h, hs => by
  obtain ⟨h1, h2⟩ := List.nodup_cons.1 h
  have ha := hs a List.mem_cons_self
  have ih := nodup_le (l := l) (m := m.erase a) h2 fun x hx => (List.mem_erase_of_ne (fun e => h1 (by rw [← e]; exact hx))).2 (hs x (List.mem_cons_of_mem _ hx))
  rw [List.length_erase_of_mem ha] at ih
  have : 0 < m.length := List.length_pos_of_mem ha
  simp only [List.length_cons]
  omega
def turnedB (d : DskV) (m : Nat) : Bool := match d.told m with
 | .data _ true => true
 | _ => false
theorem turnedB_iff {d : DskV} {m : Nat} : turnedB d m = true ↔ TurnedAt d m := by
 unfold turnedB TurnedAt
 cases h : d.told m with
 | zero => simp
 | torn => simp
 | data b t => cases t <;> simp
def turnedL (d : DskV) : List Nat := (List.range d.lasts.length).filter (turnedB d)
theorem turnedL_mem {d : DskV} {m : Nat} : m ∈ turnedL d ↔ m < d.lasts.length ∧ TurnedAt d m := by
 unfold turnedL
 rw [List.mem_filter, List.mem_range, turnedB_iff]
theorem turnedL_nodup (d : DskV) : (turnedL d).Nodup := List.Pairwise.filter _ List.nodup_range
theorem turned_runs {P : List UInt8 → Prop} {K : Nat} {d d' : DskV} (r : RunsB P K d d') : (turnedL d').length ≤ (turnedL d).length :=
 nodup_le (turnedL_nodup _) fun m hm => by
  obtain ⟨h1, b, h2⟩ := turnedL_mem.1 hm
  rw [r.like.1.2.1] at h1
  refine turnedL_mem.2 ⟨h1, ?_⟩
  rcases r.told h1 with e | ⟨x, _, e⟩
  ·exact ⟨b, by rw [← e]; exact h2⟩
  ·rw [e] at h2
   injection h2 with _ h2
   cases h2
theorem turned_rot {d d' : DskV} {n bit : Nat} (hr : rotD d n bit = (0, d')) : (turnedL d').length ≤ (turnedL d).length + 1 := by
 obtain ⟨L, _, h3⟩ := told_rot hr
 have := nodup_le (l := turnedL d') (m := n :: turnedL d) (turnedL_nodup _) fun m hm => by
  obtain ⟨h1, b, h2⟩ := turnedL_mem.1 hm
  rw [L.2.1] at h1
  by_cases e : m = n
  ·rw [e]; exact List.mem_cons_self
  ·exact List.mem_cons_of_mem _ (turnedL_mem.2 ⟨h1, b, by rw [← h3 m e]; exact h2⟩)
 simpa using this
def badL (s : StV) : List (NameV × SlotV) := s.slices.filter fun x => decide ((tellsS s.d x.2).1 ≠ 0)
theorem bad_le {s : StV} {lo E : Nat} {ts : List (NameV × List UInt8)} (h : StAll s lo E ts) : (badL s).length ≤ (turnedL s.d).length := by
 have hex : ∀ x : NameV × SlotV, ∃ k : Nat, x ∈ badL s → SecIn x.2 k ∧ k ∈ turnedL s.d := by
  intro x
  by_cases hx : x ∈ badL s
  ·obtain ⟨h1, h2⟩ := List.mem_filter.1 hx
   obtain ⟨y, hy, _, hS⟩ := h.side.mem x h1
   rcases hS.tells h.log.s1 h.log.s2 h.log.on with ⟨e, _⟩ | ⟨e, k, hk, hkt⟩
   ·rw [e] at h2; simp at h2
   ·exact ⟨k, fun _ => ⟨hk, turnedL_mem.2 ⟨(hS.sec hk).2, hkt⟩⟩⟩
  ·exact ⟨0, fun hh => absurd hh hx⟩
 obtain ⟨f, hf⟩ : ∃ f : NameV × SlotV → Nat, ∀ x, x ∈ badL s → SecIn x.2 (f x) ∧ f x ∈ turnedL s.d := ⟨fun x => (hex x).choose, fun x => (hex x).choose_spec⟩
 have hap : (badL s).Pairwise fun x y => ∀ k, SecIn x.2 k → ¬ SecIn y.2 k := List.Pairwise.filter _ h.apart
 have hnd : ((badL s).map f).Nodup := by
  refine List.pairwise_map.2 ((List.Pairwise.and_mem.1 hap).imp ?_)
  rintro x y ⟨hx, hy, g⟩ e
  exact g (f x) (hf x hx).1 (by rw [e]; exact (hf y hy).1)
 have := nodup_le hnd (m := turnedL s.d) fun k hk => by
  obtain ⟨x, hx, rfl⟩ := List.mem_map.1 hk
  exact (hf x hx).2
 simpa using this
theorem StAll.told {s : StV} {lo E : Nat} {ts : List (NameV × List UInt8)} (h : StAll s lo E ts) {x : NameV × SlotV} (hx : x ∈ s.slices) : ∃ t, (x.1, t) ∈ ts ∧ (tellsS s.d x.2 = (0, t) ∨ tellsS s.d x.2 = (8, [])) := by
 obtain ⟨y, hy, e, hS⟩ := h.side.mem x hx
 refine ⟨y.2, by rw [e]; exact hy, ?_⟩
 rcases hS.tells h.log.s1 h.log.s2 h.log.on with ⟨g, _⟩ | ⟨g, _⟩
 ·exact .inl g
 ·exact .inr g
end
end Go.Proofs.YtmgmfnimaafkdaaGreatDoor
