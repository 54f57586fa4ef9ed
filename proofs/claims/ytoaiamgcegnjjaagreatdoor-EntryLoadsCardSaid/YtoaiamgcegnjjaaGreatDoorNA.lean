/- An entry's note in plain words: its words, that they are read back from it, and that two entries of one note are one. No program in sight, no condition. -/
import Derived.Test.YtoaiamgcegnjjaaGreatDoorMB
import Derived.Lib.Join
import Derived.Lib.JoinLaws
import Derived.Lib.ItoaNum
import Derived.Lib.ItoaLen
import Derived.Lib.ParseIntB
import Derived.Lib.Split
import Derived.Lib.SplitLaws
namespace Go.Proofs.YtoaiamgcegnjjaaGreatDoor
open Go.RowKit Go.Maps Go.WideMaps
set_option maxRecDepth 100000

theorem ba_ext {a b : ByteArray} (h : a.data.toList = b.data.toList) : a = b := by
  cases a; cases b; simp at h; simp [h]
theorem ba_mk (l : List UInt8) : (⟨l.toArray⟩ : ByteArray).data.toList = l := by simp

/-! ### cutting at blanks -/
theorem index_in {c : UInt8} : ∀ (w r : List UInt8), c ∉ w → Lib.index (w ++ c :: r) [c] = (w.length : Int)
  | [], r, _ => by simp [Lib.index]
  | b :: w, r, h => by
    have hb : c ≠ b := fun e => h (by simp [e])
    have ih := index_in w r (fun hm => h (List.mem_cons_of_mem _ hm))
    have e1 : ([c].isPrefixOf (b :: (w ++ c :: r))) = false := by simp [List.isPrefixOf, hb]
    rw [List.cons_append, Lib.index, e1, ih]
    rw [if_neg (by simp), if_neg (by simp)]
    simp
theorem index_out {c : UInt8} : ∀ (w : List UInt8), c ∉ w → Lib.index w [c] = -1
  | [], _ => by simp [Lib.index]
  | b :: w, h => by
    have hb : c ≠ b := fun e => h (by simp [e])
    have ih := index_out w (fun hm => h (List.mem_cons_of_mem _ hm))
    have e1 : ([c].isPrefixOf (b :: w)) = false := by simp [List.isPrefixOf, hb]
    rw [Lib.index, e1, ih]
    simp
theorem split_join {c : UInt8} : ∀ (x : List UInt8) (ws : List (List UInt8)), (∀ w ∈ x :: ws, c ∉ w) → Lib.split (Lib.join (x :: ws) [c]) [c] = x :: ws
  | x, [], h => by
    have hx := index_out x (h x (by simp))
    rw [Lib.join_one, Lib.split, Lib.count_miss hx]
    rfl
  | x, y :: ws, h => by
    have ih := split_join y ws (fun w hw => h w (List.mem_cons_of_mem _ hw))
    have hj : Lib.join (x :: y :: ws) [c] = x ++ c :: Lib.join (y :: ws) [c] := by
      rw [Lib.join_cons, Lib.join_cons]
      simp [Lib.joinTail]
    have hi := index_in x (Lib.join (y :: ws) [c]) (h x (by simp))
    have hd : (x ++ c :: Lib.join (y :: ws) [c]).drop (x.length + [c].length) = Lib.join (y :: ws) [c] := by
      rw [show x ++ c :: Lib.join (y :: ws) [c] = (x ++ [c]) ++ Lib.join (y :: ws) [c] by simp]
      rw [List.drop_append]
      simp
    have ht : (x ++ c :: Lib.join (y :: ws) [c]).take x.length = x := by simp
    rw [hj, Lib.split, Lib.count_hit (by simp) hi, hd, Nat.add_comm, Lib.splitK]
    have hne : ¬ (Lib.index (x ++ c :: Lib.join (y :: ws) [c]) [c] == -1) = true := by rw [hi]; simp
    rw [if_neg hne, hi, Int.toNat_natCast, Nat.add_zero, ht, hd]
    unfold Lib.split at ih
    rw [ih]

/-! ### numerals -/
theorem parseM_app (M : Nat) : ∀ (l r : List UInt8) (acc : Nat), Lib.parseUintM M acc (l ++ r) = match Lib.parseUintM M acc l with
    | .ok v => Lib.parseUintM M v r
    | e => e
  | [], r, acc => rfl
  | c :: l, r, acc => by
    rw [List.cons_append, Lib.parseUintM, Lib.parseUintM]
    split
    · split
      · rfl
      · split
        · rfl
        · exact parseM_app M l r _
    · rfl
theorem dig_nat {d : Nat} (h : d < 10) : (UInt8.ofNat (48 + d)).toNat = 48 + d := by
  rw [UInt8.toNat_ofNat']
  omega
theorem parseM_dec {M : Nat} (hM : M ≤ 18446744073709551615) (u : Nat) : u ≤ M → Lib.parseUintM M 0 (Lib.decDigits u) = .ok u := by
  induction u using Nat.strongRecOn with
  | _ u ih =>
    intro hu
    have stp : ∀ a d, d < 10 → a < 1844674407370955162 → a * 10 + d ≤ M → Lib.parseUintM M a [UInt8.ofNat (48 + d)] = .ok (a * 10 + d) := fun a d hd ha hle => by
      rw [Lib.parseUintM, dig_nat hd, if_pos (by omega), if_neg (by omega), show 48 + d - 48 = d by omega, if_neg (by omega)]
      rfl
    by_cases h : u < 10
    · rw [Lib.decDigits_one h, stp 0 u h (by omega) (by omega)]
      simp
    · rw [Lib.decDigits, dif_neg h, parseM_app, ih (u / 10) (by omega) (by omega)]
      show Lib.parseUintM M (u / 10) [UInt8.ofNat (48 + u % 10)] = _
      rw [stp (u / 10) (u % 10) (by omega) (by omega) (by omega)]
      congr 1
      omega
theorem dec_digit (u : Nat) : ∀ c ∈ Lib.decDigits u, 48 ≤ c.toNat ∧ c.toNat ≤ 57 := by
  induction u using Nat.strongRecOn with
  | _ u ih =>
    intro c hc
    by_cases h : u < 10
    · rw [Lib.decDigits_one h, List.mem_singleton] at hc
      subst hc
      rw [dig_nat h]; omega
    · rw [Lib.decDigits, dif_neg h, List.mem_append, List.mem_singleton] at hc
      rcases hc with hc | hc
      · exact ih (u / 10) (by omega) c hc
      · subst hc
        rw [dig_nat (by omega)]; omega
theorem dec_ne (u : Nat) : Lib.decDigits u ≠ [] := by
  intro h
  have := Lib.decDigits_length u
  rw [h] at this
  have := Lib.nDigits_pos u
  simp at *; omega
theorem parse_itoa {n : Int} (h0 : -9223372036854775808 ≤ n) (h1 : n ≤ 9223372036854775807) : Lib.parseIntB 64 (Lib.itoa n) = .ok n := by
  have hb : ∀ u : Nat, u ≤ 9223372036854775808 → Lib.parseUintB 64 (Lib.decDigits u) = .ok u := fun u hu => by
    unfold Lib.parseUintB
    rw [if_neg (dec_ne u)]
    exact parseM_dec (by decide) u (by omega)
  by_cases hn : n < 0
  · obtain ⟨u, rfl⟩ : ∃ u : Nat, n = -(u : Int) := ⟨n.natAbs, by omega⟩
    have e : Lib.itoa (-(u : Int)) = 45 :: Lib.decDigits u := by unfold Lib.itoa; rw [if_pos hn]; simp
    rw [e]
    unfold Lib.parseIntB
    have h45 : (45 : UInt8).toNat = 45 := rfl
    simp only [h45, or_true, if_true, hb u (by omega)]
    rw [if_neg (by simp), if_neg (by simp; omega)]
  · obtain ⟨u, rfl⟩ : ∃ u : Nat, n = (u : Int) := ⟨n.toNat, by omega⟩
    have e : Lib.itoa (u : Int) = Lib.decDigits u := by unfold Lib.itoa; rw [if_neg hn]; simp
    rw [e]
    have hb' := hb u (by omega)
    have hdig := dec_digit u
    have hne := dec_ne u
    generalize Lib.decDigits u = l at *
    cases l with
    | nil => exact absurd rfl hne
    | cons c r =>
      have hc := hdig c (by simp)
      unfold Lib.parseIntB
      have c2 : ¬ c.toNat = 45 := by omega
      have c3 : ¬ c.toNat = 43 := by omega
      simp only [c2, c3, or_self, if_false, hb']
      rw [if_neg (by simp; omega), if_neg (by simp)]
theorem itoa_chars {n : Int} : ∀ c ∈ Lib.itoa n, c.toNat = 45 ∨ (48 ≤ c.toNat ∧ c.toNat ≤ 57) := by
  intro c hc
  unfold Lib.itoa at hc
  split at hc
  · rw [List.mem_cons] at hc
    rcases hc with rfl | hc
    · exact .inl rfl
    · exact .inr (dec_digit _ c hc)
  · exact .inr (dec_digit _ c hc)
theorem itoa_ne (n : Int) : Lib.itoa n ≠ [] := by
  unfold Lib.itoa
  split
  · simp
  · exact dec_ne _

/-! ### the note -/
def itoaB (n : Int) : ByteArray := ⟨(Lib.itoa n).toArray⟩
def quoted (t : ByteArray) : ByteArray := ⟨(34 :: (t.data.toList ++ [34])).toArray⟩
def tagText (t : ByteArray) (wk : Bool) : ByteArray := if tagOK t then (if wk then ⟨(87 :: 47 :: (quoted t).data.toList).toArray⟩ else quoted t) else ⟨#[]⟩
def keepB (b : Bool) : ByteArray := if b then ⟨#[107, 101, 101, 112]⟩ else ⟨#[110, 111, 116]⟩
def eqB (t : ByteArray) : ByteArray := ⟨(61 :: t.data.toList).toArray⟩
def noteWords (e : Ent) : List ByteArray :=
  [itoaB e.id, e.obj, itoaB e.said, itoaB e.gen, itoaB e.mo, itoaB e.le, itoaB e.ha, itoaB e.fr, itoaB e.wh, itoaB e.er, keepB e.kp, eqB e.ten, tagText e.t e.wk] ++ e.ks
def noteB (e : Ent) : ByteArray := ⟨(Lib.join ((noteWords e).map (·.data.toList)) [32]).toArray⟩
def noteOK (e : Ent) : Bool := decide (1 ≤ e.id) && decide (e.id ≤ 1099511627776) && objOK e.obj && metaOK e.t e.wk e.mo e.le e.ha e.fr e.wh e.er e.ks e.ten && (tagOK e.t && !e.wk) && tick0 e.said && tick0 e.gen

structure NoteIs (e : Ent) : Prop where
  id : 1 ≤ e.id ∧ e.id ≤ 1099511627776
  obj : objOK e.obj = true
  metaR : metaOK e.t e.wk e.mo e.le e.ha e.fr e.wh e.er e.ks e.ten = true
  tag : tagOK e.t = true
  strong : e.wk = false
  said : 0 ≤ e.said ∧ e.said ≤ 1099511627776
  gen : 0 ≤ e.gen ∧ e.gen ≤ 1099511627776
  mo : -1 ≤ e.mo ∧ e.mo ≤ 253402300799
  le : -1 ≤ e.le ∧ e.le ≤ 1099511627776
  ha : 0 ≤ e.ha ∧ e.ha ≤ 1099511627776
  fr : 0 ≤ e.fr ∧ e.fr ≤ 1099511627776
  wh : 0 ≤ e.wh ∧ e.wh ≤ 1099511627776
  er : 0 ≤ e.er ∧ e.er ≤ 1099511627776
  few : e.ks.length ≤ 32
  keys : keysOK e.ks = true
  ten : tenOK e.ten = true
theorem tick_of {n : Int} (h : tick0 n = true) : 0 ≤ n ∧ n ≤ 1099511627776 := by unfold tick0 at h; simpa using h
theorem noteIs {e : Ent} (h : noteOK e = true) : NoteIs e := by
  unfold noteOK at h
  simp only [Bool.and_eq_true, decide_eq_true_eq, Bool.not_eq_true'] at h
  obtain ⟨⟨⟨⟨⟨⟨h1, h2⟩, h3⟩, h4⟩, h5, h6⟩, h7⟩, h8⟩ := h
  have hm := h4
  unfold metaOK at hm
  simp only [Bool.and_eq_true, decide_eq_true_eq] at hm
  obtain ⟨⟨⟨⟨⟨⟨⟨⟨m1, m2⟩, m3⟩, m4⟩, m5⟩, m6⟩, m7⟩, m8⟩, m9⟩ := hm
  have n2 := of_decide_eq_true m2
  have n3 := of_decide_eq_true m3
  exact ⟨⟨h1, h2⟩, h3, h4, h5, h6, tick_of h7, tick_of h8, ⟨n2.1, n2.2.1⟩, ⟨n2.2.2.1, n2.2.2.2⟩, ⟨n3.1, n3.2.1⟩, tick_of m4, tick_of m5, tick_of m6, m7, m9, m8⟩

theorem allB_mem {p : UInt8 → Bool} {s : ByteArray} (h : allB p s = true) : ∀ c ∈ s.data.toList, p c = true := fun c hc => List.all_eq_true.1 h c hc
theorem seen_of {c : UInt8} (h : seenB c = true) : 33 ≤ c.toNat ∧ c.toNat ≤ 126 := by unfold seenB at h; simpa using h
/-- a word: no blank in it, and not empty -/
def WordB (s : ByteArray) : Prop := s.data.toList ≠ [] ∧ ∀ c ∈ s.data.toList, 33 ≤ c.toNat ∧ c.toNat ≤ 126
theorem size_pos_ne {s : ByteArray} (h : 1 ≤ s.size) : s.data.toList ≠ [] := fun e => by
  have : s.size = s.data.toList.length := by simp
  rw [this, e] at h
  simp at h
theorem key_word {s : ByteArray} (h : keyOK s = true) : WordB s := by
  unfold keyOK at h
  simp only [Bool.and_eq_true, decide_eq_true_eq] at h
  exact ⟨size_pos_ne h.1.1, fun c hc => seen_of (allB_mem h.2 c hc)⟩
theorem obj_word {s : ByteArray} (h : objOK s = true) : WordB s := by
  unfold objOK at h
  simp only [Bool.and_eq_true, decide_eq_true_eq] at h
  exact ⟨size_pos_ne h.1.1.1, fun c hc => seen_of (allB_mem h.2 c hc)⟩
theorem tagc_of {c : UInt8} (h : tagB c = true) : 33 ≤ c.toNat ∧ c.toNat ≤ 126 ∧ c.toNat ≠ 34 := by
  unfold tagB at h
  simp only [Bool.and_eq_true, decide_eq_true_eq, Bool.not_eq_true', beq_eq_false_iff_ne] at h
  exact ⟨h.1.1, h.2, h.1.2⟩
theorem tag_chars {t : ByteArray} (h : tagOK t = true) : ∀ c ∈ t.data.toList, 33 ≤ c.toNat ∧ c.toNat ≤ 126 ∧ c.toNat ≠ 34 := by
  unfold tagOK at h
  simp only [Bool.and_eq_true, decide_eq_true_eq] at h
  exact fun c hc => tagc_of (allB_mem h.2 c hc)
theorem quoted_word {t : ByteArray} (h : tagOK t = true) : WordB (quoted t) := by
  refine ⟨by simp [quoted], fun c hc => ?_⟩
  simp only [quoted, List.mem_cons, List.mem_append, List.not_mem_nil, or_false] at hc
  rcases hc with rfl | hc | rfl
  · exact ⟨by decide, by decide⟩
  · have := tag_chars h c hc; omega
  · exact ⟨by decide, by decide⟩
theorem itoa_word (n : Int) : WordB (itoaB n) := ⟨by simpa [itoaB] using itoa_ne n, fun c hc => by
  have := itoa_chars c (by simpa [itoaB] using hc)
  omega⟩
theorem ten_word {s : ByteArray} (h : tenOK s = true) : WordB (eqB s) := by
  refine ⟨by simp [eqB], fun c hc => ?_⟩
  simp only [eqB, List.mem_cons] at hc
  unfold tenOK at h
  simp only [Bool.and_eq_true] at h
  rcases hc with rfl | hc
  · exact ⟨by decide, by decide⟩
  · have := allB_mem h.2 c hc
    unfold tenB at this
    simp only [Bool.or_eq_true, Bool.and_eq_true, decide_eq_true_eq, beq_iff_eq] at this
    omega
theorem keep_word (b : Bool) : WordB (keepB b) := by
  unfold WordB keepB
  cases b
  · exact ⟨by decide, by decide⟩
  · exact ⟨by decide, by decide⟩
theorem keysUp_at {ks : List ByteArray} : ∀ (m : Nat), keysUp ks m = true → ∀ k (hk : k < ks.length), k < m → keyOK ks[k] = true
  | 0, _, k, _, h => absurd h (by omega)
  | m + 1, h, k, hk, hkm => by
    unfold keysUp at h
    rw [Bool.and_eq_true] at h
    by_cases e : k = m
    · subst e
      have h2 := h.2
      rw [List.getElem?_eq_getElem hk] at h2
      simp only [Bool.and_eq_true] at h2
      exact h2.1
    · exact keysUp_at m h.1 k hk (by omega)
theorem keys_word {ks : List ByteArray} (h : keysOK ks = true) : ∀ s ∈ ks, WordB s := fun s hs => by
  obtain ⟨k, hk, rfl⟩ := List.mem_iff_getElem.1 hs
  exact key_word (keysUp_at _ h k hk hk)
theorem tagText_ok {t : ByteArray} (h : tagOK t = true) : tagText t false = quoted t := by unfold tagText; rw [if_pos h]; rfl
theorem note_words {e : Ent} (h : noteOK e = true) : ∀ s ∈ noteWords e, WordB s := by
  have n := noteIs h
  intro s hs
  unfold noteWords at hs
  rw [List.mem_append] at hs
  rcases hs with hs | hs
  · simp only [List.mem_cons, List.not_mem_nil, or_false] at hs
    rcases hs with rfl | rfl | rfl | rfl | rfl | rfl | rfl | rfl | rfl | rfl | rfl | rfl | rfl
    · exact itoa_word _
    · exact obj_word n.obj
    · exact itoa_word _
    · exact itoa_word _
    · exact itoa_word _
    · exact itoa_word _
    · exact itoa_word _
    · exact itoa_word _
    · exact itoa_word _
    · exact itoa_word _
    · exact keep_word _
    · exact ten_word n.ten
    · rw [n.strong, tagText_ok n.tag]; exact quoted_word n.tag
  · exact keys_word n.keys s hs

/-- what strings.Split gives -/
def wordsP (s : ByteArray) : List ByteArray := Lib.splitB ⟨#[32]⟩ 0 (Lib.countB s ⟨#[32]⟩) s
theorem map_data_inj : ∀ {a b : List ByteArray}, a.map (·.data.toList) = b.map (·.data.toList) → a = b
  | [], [], _ => rfl
  | [], b :: l, h => by simp at h
  | a :: l, [], h => by simp at h
  | a :: l, b :: k, h => by
    rw [List.map_cons, List.map_cons, List.cons.injEq] at h
    rw [ba_ext h.1, map_data_inj h.2]
theorem words_note {e : Ent} (h : noteOK e = true) : wordsP (noteB e) = noteWords e := by
  apply map_data_inj
  unfold wordsP
  rw [Lib.splitB_data]
  show Lib.split (noteB e).data.toList [32] = _
  have hw := note_words h
  have hd : (noteB e).data.toList = Lib.join ((noteWords e).map (·.data.toList)) [32] := by simp [noteB]
  rw [hd]
  have hc : (noteWords e).map (·.data.toList) = (itoaB e.id).data.toList :: ((noteWords e).tail).map (·.data.toList) := by simp [noteWords]
  rw [hc]
  refine split_join _ _ (fun w hm => ?_)
  rw [← hc, List.mem_map] at hm
  obtain ⟨s, hs, rfl⟩ := hm
  intro h32
  have := (hw s hs).2 _ h32
  have h32' : (32 : UInt8).toNat = 32 := rfl
  omega

theorem itoaB_inj {a b : Int} (ha : -9223372036854775808 ≤ a ∧ a ≤ 9223372036854775807) (hb : -9223372036854775808 ≤ b ∧ b ≤ 9223372036854775807) (h : itoaB a = itoaB b) : a = b := by
  have h1 : Lib.itoa a = Lib.itoa b := by have := congrArg (fun x : ByteArray => x.data.toList) h; simpa [itoaB] using this
  have e1 := parse_itoa ha.1 ha.2
  have e2 := parse_itoa hb.1 hb.2
  rw [h1, e2] at e1
  injection e1 with e1
  exact e1.symm
theorem quoted_inj {a b : ByteArray} (h : quoted a = quoted b) : a = b := by
  have h1 := congrArg (fun x : ByteArray => x.data.toList) h
  simp [quoted] at h1
  exact ba_ext (by rw [h1])
theorem eqB_inj {a b : ByteArray} (h : eqB a = eqB b) : a = b := by
  have h1 := congrArg (fun x : ByteArray => x.data.toList) h
  simp [eqB] at h1
  exact ba_ext (by rw [h1])
theorem keepB_inj {a b : Bool} (h : keepB a = keepB b) : a = b := by
  cases a <;> cases b <;> first | rfl | (unfold keepB at h; simp at h)
/-- an entry without what no note says -/
def Ent.bare (e : Ent) : Ent := { e with mom := 0, has := [] }
theorem note_inj {a b : Ent} (ha : noteOK a = true) (hb : noteOK b = true) (h : noteB a = noteB b) : a.bare = b.bare := by
  have hw : noteWords a = noteWords b := by rw [← words_note ha, ← words_note hb, h]
  have na := noteIs ha
  have nb := noteIs hb
  unfold noteWords at hw
  simp only [List.cons_append, List.nil_append, List.cons.injEq] at hw
  obtain ⟨h0, h1, h2, h3, h4, h5, h6, h7, h8, h9, h10, h11, h12, h13⟩ := hw
  rw [na.strong, nb.strong, tagText_ok na.tag, tagText_ok nb.tag] at h12
  have e0 := itoaB_inj (by have := na.id; omega) (by have := nb.id; omega) h0
  have e2 := itoaB_inj (by have := na.said; omega) (by have := nb.said; omega) h2
  have e3 := itoaB_inj (by have := na.gen; omega) (by have := nb.gen; omega) h3
  have e4 := itoaB_inj (by have := na.mo; omega) (by have := nb.mo; omega) h4
  have e5 := itoaB_inj (by have := na.le; omega) (by have := nb.le; omega) h5
  have e6 := itoaB_inj (by have := na.ha; omega) (by have := nb.ha; omega) h6
  have e7 := itoaB_inj (by have := na.fr; omega) (by have := nb.fr; omega) h7
  have e8 := itoaB_inj (by have := na.wh; omega) (by have := nb.wh; omega) h8
  have e9 := itoaB_inj (by have := na.er; omega) (by have := nb.er; omega) h9
  have e10 := keepB_inj h10
  have e11 := eqB_inj h11
  have e12 := quoted_inj h12
  have e13 := na.strong.trans nb.strong.symm
  cases a
  cases b
  simp only at *
  subst e0 h1 e2 e3 e4 e5 e6 e7 e8 e9 e10 e11 e12 h13 e13
  rfl

/-- what a reading of a text comes to: an entry of just that note, or none where there is none -/
def ParseIs (s : ByteArray) (r : Option Ent) : Prop := (∀ e, r = some e → noteOK e = true ∧ noteB e = s ∧ e.bare = e) ∧ (r = none → ∀ e, noteOK e = true → noteB e ≠ s)
theorem ParseIs.uniq {s : ByteArray} {r q : Option Ent} (h : ParseIs s r) (k : ParseIs s q) : r = q := by
  cases r with
  | none =>
    cases q with
    | none => rfl
    | some e =>
      obtain ⟨a, b, _⟩ := k.1 e rfl
      exact absurd b (h.2 rfl e a)
  | some e =>
    obtain ⟨a, b, c⟩ := h.1 e rfl
    cases q with
    | none => exact absurd b (k.2 rfl e a)
    | some f =>
      obtain ⟨a', b', c'⟩ := k.1 f rfl
      have := note_inj a a' (b.trans b'.symm)
      rw [c, c'] at this
      rw [this]
theorem ParseIs.of_note {e : Ent} {r : Option Ent} (h : ParseIs (noteB e) r) (hn : noteOK e = true) : r = some e.bare := by
  refine h.uniq (q := some e.bare) ⟨fun f hf => ?_, fun hf => by cases hf⟩
  injection hf with hf
  subst hf
  exact ⟨hn, rfl, rfl⟩
end Go.Proofs.YtoaiamgcegnjjaaGreatDoor
